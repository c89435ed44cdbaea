/-
  An abstract reading of the model's operations: what each comes to on lists and numbers, and that the model does so. Own work. Nothing here is trusted.
-/
import Derived.Test.YtopegdkhoafajaaCore1
import Derived.WalkKit
import Derived.Laws.Small
import Derived.Laws.Strings
import Derived.Laws.Cells
import Derived.Laws.Slices
import Derived.Laws.Concat
import Derived.Laws.RangeString
namespace Go.Sv
set_option linter.unusedSimpArgs false
set_option linter.unusedVariables false

/-- A type, as an element's. -/
def tyOf (P : Program) : Nat → TypeId → Option Ty
  | 0, _ => none
  | n + 1, t => match P.underlying t with
    | some .bool => some .bool
    | some (.int .u8) => some .u8
    | some (.int k) => some (.int k)
    | some .string => some .str
    | some (.pointer _) => some .ptr
    | some (.slice e) => (tyOf P n e).map .sl
    | some (.struct fs) => fs.toList.foldr (fun f r => (tyOf P n f.type).bind fun a => r.map fun b => .cons a b) (some .nil)
    | _ => none

/-- A slice type's elements are such. -/
def elemOk (P : Program) (t : TypeId) (ty : Ty) : Prop := ∃ e i, P.underlying t = some (.slice e) ∧ P.info? e = some i ∧ i.size = ty.size

def isAggT (P : Program) (t : TypeId) : Bool := match P.underlying t with
  | some (.struct _) | some (.array _ _) => true
  | _ => false
/-- Is a type's value a row of cells; how many? -/
def ldInfo (P : Program) (t : TypeId) : Option (Bool × Nat) := (P.info? t).bind fun i => (P.underlying t).map fun d => (match d with | .struct _ | .array _ _ => true | _ => false, i.size)

def constA (P : Program) (t : TypeId) : Value → Option AVal
  | .bool b => some (.bool b)
  | .int .u8 n => if 0 ≤ n ∧ n < 256 then some (.u8 (UInt8.ofNat n.toNat)) else none
  | .int k n => some (.int k n)
  | .string s => some (.str s.data.toList)
  | .pointer none => some (.ptr none)
  | .nilIface => some .undef
  | .slice none 0 0 => match tyOf P 8 t with
    | some (.sl e) => some (.sl e [] .exact)
    | _ => none
  | _ => none

def ev (P : Program) (σ : Env) (t : TypeId) : Operand → Option AVal
  | .tmp d => σ.get d
  | .const v => constA P t v
  | .func f => some (.fn f [])
  | .global g => some (.ptr (some ⟨g, 0, none⟩))

theorem constA_sound {P : Program} {t : TypeId} {v : Value} {x : AVal} {w : World} {S : Seal} (h : constA P t v = some x) : Rep w S x v := by
  unfold constA at h
  split at h
  · simp at h; subst h; simp only [Rep]
  · split at h
    · rename_i n hn
      simp at h; subst h; simp only [Rep]
      congr 1
      have : n.toNat < 256 := by omega
      simp [Nat.mod_eq_of_lt this]
      omega
    · simp at h
  · simp at h; subst h; simp only [Rep]
  · simp at h; subst h; simp only [Rep, strV]
  · simp at h; subst h; simp only [Rep]
  · simp at h; subst h; simp only [Rep]
  · split at h
    · simp at h; subst h; simp only [Rep]; exact ⟨none, 0, rfl, by simp, .inl rfl, rfl⟩
    · simp at h
  · simp at h

theorem ev_sound {P : Program} {σ : Env} {t : TypeId} {o : Operand} {x : AVal} {w : World} {S : Seal} {a : Act} (h : ev P σ t o = some x) (he : EnvAt w S σ a.tmps) : Rep w S x (a.eval o) := by
  cases o with
  | tmp d => exact (he d x h).2
  | const v => exact constA_sound h
  | func f => simp [ev] at h; subst h; simp only [Rep, Act.eval]; exact ⟨#[], rfl, by simp only [RepL]⟩
  | global g => simp [ev] at h; subst h; simp only [Rep, Act.eval]

/-! ### operations -/
section
variable {P : Program} {B0 : Base} {o : Oper} {a : Act} {w : World} {S : Seal} {H : Hp} {σ : Env} {K : AVal → Hp → Prop} {Q : Exit → Act → World → Prop}

def OpPost (B0 : Base) (o : Oper) (a : Act) (w : World) (S : Seal) (K : AVal → Hp → Prop) (a' : Act) (w' : World) : Prop :=
  ∃ v x S' H', a' = a.put o.dst v ∧ Ext B0 S S' w w' ∧ Inv B0 w' S' H' ∧ Rep w' S' x v ∧ K x H'

/-- An operation that only computes. -/
theorem op_pure {v : Value} {x : AVal} (hr : (execOp a.eval o).run P w = .ok (.value v) w) (hi : Inv B0 w S H) (hv : Rep w S x v) (hk : K x H) :
    o.wp P a w (OpPost B0 o a w S K) Q := by
  unfold Oper.wp
  rw [hr]
  exact ⟨v, x, S, H, rfl, Ext.refl _ _ _, hi, hv, hk⟩

theorem op_value {v : Value} {x : AVal} {w' : World} {S' : Seal} {H' : Hp} (hr : (execOp a.eval o).run P w = .ok (.value v) w') (e : Ext B0 S S' w w') (hi : Inv B0 w' S' H') (hv : Rep w' S' x v) (hk : K x H') :
    o.wp P a w (OpPost B0 o a w S K) Q := by
  unfold Oper.wp
  rw [hr]
  exact ⟨v, x, S', H', rfl, e, hi, hv, hk⟩

theorem op_skip {w' : World} {S' : Seal} {H' : Hp} (hr : (execOp a.eval o).run P w = .ok .skip w') (e : Ext B0 S S' w w') (hi : Inv B0 w' S' H') (hk : K .undef H') :
    o.wp P a w (OpPost B0 o a w S K) Q := by
  unfold Oper.wp
  rw [hr]
  exact ⟨undef, .undef, S', H', rfl, e, hi, by simp only [Rep], hk⟩
end

/-- Whole numbers: what an operator gives. -/
def binInt (op : BinOp) (k : IntKind) (x y : Int) : Option AVal :=
  match op with
  | .add => some (.int k (k.wrap (x + y)))
  | .sub => some (.int k (k.wrap (x - y)))
  | .mul => some (.int k (k.wrap (x * y)))
  | .quo => if y = 0 then none else some (.int k (k.wrap (x.tdiv y)))
  | .rem => if y = 0 then none else some (.int k (x.tmod y))
  | .and => some (.int k (k.wrap ((x % 2 ^ k.bits).toNat &&& (y % 2 ^ k.bits).toNat : Nat)))
  | .or => some (.int k (k.wrap ((x % 2 ^ k.bits).toNat ||| (y % 2 ^ k.bits).toNat : Nat)))
  | .xor => some (.int k (k.wrap ((x % 2 ^ k.bits).toNat ^^^ (y % 2 ^ k.bits).toNat : Nat)))
  | .shl => if y < 0 then none else some (.int k (k.wrap (x * 2 ^ min y.toNat k.bits)))
  | .shr => if y < 0 then none else some (.int k (x.fdiv (2 ^ min y.toNat k.bits)))
  | .eql => some (.bool (x == y))
  | .neq => some (.bool (x != y))
  | .lss => some (.bool (decide (x < y)))
  | .leq => some (.bool (decide (x ≤ y)))
  | .gtr => some (.bool (decide (x > y)))
  | .geq => some (.bool (decide (x ≥ y)))
  | _ => none

def binU8 (op : BinOp) (x y : UInt8) : Option AVal :=
  match op with
  | .add => some (.u8 (x + y))
  | .sub => some (.u8 (x - y))
  | .and => some (.u8 (x &&& y))
  | .or => some (.u8 (x ||| y))
  | .eql => some (.bool (x == y))
  | .neq => some (.bool (x != y))
  | .lss => some (.bool (decide (x < y)))
  | .leq => some (.bool (decide (x ≤ y)))
  | .gtr => some (.bool (decide (x > y)))
  | .geq => some (.bool (decide (x ≥ y)))
  | _ => none

def binStr (op : BinOp) (x y : List UInt8) : Option AVal :=
  match op with
  | .add => if x.length + y.length ≤ 9223372036854775807 then some (.str (x ++ y)) else none
  | .eql => some (.bool (x == y))
  | .neq => some (.bool (x != y))
  | .lss => some (.bool (Op.bytesLess x y))
  | _ => none

def binU8s (op : BinOp) (x : UInt8) (n : Int) : Option AVal :=
  match op with
  | .shl => if n < 0 then none else some (.u8 (UInt8.ofNat (x.toNat * 2 ^ min n.toNat 8)))
  | .shr => if n < 0 then none else some (.u8 (UInt8.ofNat (x.toNat / 2 ^ min n.toNat 8)))
  | _ => none

def binA (op : BinOp) : AVal → AVal → Option AVal
  | .u8 x, .int _ n => binU8s op x n
  | .int k x, .int k' y => if k = k' ∨ op = .shl ∨ op = .shr then binInt op k x y else none
  | .u8 x, .u8 y => binU8 op x y
  | .str x, .str y => binStr op x y
  | .bool x, .bool y => match op with
    | .eql => some (.bool (x == y))
    | .neq => some (.bool (x != y))
    | _ => none
  | _, _ => none

theorem strV_size (s : List UInt8) : (ByteArray.mk s.toArray).size = s.length := by simp [ByteArray.size]

theorem u8_toNat_inj {x y : UInt8} : ((x.toNat : Int) == (y.toNat : Int)) = (x == y) := by
  rw [Bool.eq_iff_iff, beq_iff_eq, beq_iff_eq]
  constructor
  · intro h; exact UInt8.toNat_inj.1 (by omega)
  · intro h; rw [h]

theorem binInt_sound {P : Program} {w : World} {S : Seal} {op : BinOp} {t : TypeId} {k k' : IntKind} {x y : Int} {r : AVal} (hk : k = k' ∨ op = .shl ∨ op = .shr) (h : binInt op k x y = some r) :
    ∃ v, (binOp op t (.int k x) (.int k' y)).run P w = .ok v w ∧ Rep w S r v := by
  cases op <;> simp only [binInt, Option.some.injEq, reduceCtorEq] at h
  case shl =>
    split at h
    · simp at h
    · rename_i hy; simp at h; subst h; exact ⟨_, by simp [binOp, Op.shift, hy]; rfl, by simp only [Rep]⟩
  case shr =>
    split at h
    · simp at h
    · rename_i hy; simp at h; subst h; exact ⟨_, by simp [binOp, Op.shift, hy]; rfl, by simp only [Rep]⟩
  case quo =>
    obtain rfl : k = k' := by simpa using hk
    split at h
    · simp at h
    · rename_i hy; simp at h; subst h; exact ⟨_, by simp [binOp, Op.intDiv, hy]; rfl, by simp only [Rep]⟩
  case rem =>
    obtain rfl : k = k' := by simpa using hk
    split at h
    · simp at h
    · rename_i hy; simp at h; subst h; exact ⟨_, by simp [binOp, Op.intDiv, hy]; rfl, by simp only [Rep]⟩
  all_goals
    obtain rfl : k = k' := by simpa using hk
    subst h
    exact ⟨_, by simp [binOp, Op.intArith, Op.intBits, Op.intCmp]; try rfl, by simp only [Rep]⟩

theorem binU8_sound {P : Program} {w : World} {S : Seal} {op : BinOp} {t : TypeId} {x y : UInt8} {r : AVal} (h : binU8 op x y = some r) :
    ∃ v, (binOp op t (.int .u8 x.toNat) (.int .u8 y.toNat)).run P w = .ok v w ∧ Rep w S r v := by
  have hx := x.toNat_lt
  have hy := y.toNat_lt
  cases op <;> simp only [binU8, Option.some.injEq, reduceCtorEq] at h
  case add =>
    subst h
    refine ⟨_, by simp [binOp, Op.intArith]; rfl, ?_⟩
    simp only [Rep]
    simp [IntKind.wrap, IntKind.bits, IntKind.signed, UInt8.toNat_add]
  case sub =>
    subst h
    refine ⟨_, by simp [binOp, Op.intArith]; rfl, ?_⟩
    simp only [Rep]
    congr 1
    simp [IntKind.wrap, IntKind.bits, IntKind.signed, UInt8.toNat_sub]
    omega
  case and =>
    subst h
    refine ⟨_, by simp [binOp, Op.intBits]; rfl, ?_⟩
    simp only [Rep]
    congr 1
    have h1 := Nat.and_le_left (n := x.toNat) (m := y.toNat)
    have h2 : (x.toNat : Int) % 256 = x.toNat := by omega
    have h3 : (y.toNat : Int) % 256 = y.toNat := by omega
    simp [IntKind.wrap, IntKind.bits, IntKind.signed, h2, h3]
    omega
  case or =>
    subst h
    refine ⟨_, by simp [binOp, Op.intBits]; rfl, ?_⟩
    simp only [Rep]
    congr 1
    have h1 : x.toNat ||| y.toNat < 256 := Nat.or_lt_two_pow (n := 8) hx hy
    have h2 : (x.toNat : Int) % 256 = x.toNat := by omega
    have h3 : (y.toNat : Int) % 256 = y.toNat := by omega
    simp [IntKind.wrap, IntKind.bits, IntKind.signed, h2, h3]
    omega
  case eql => subst h; exact ⟨_, by simp [binOp, Op.intCmp]; rfl, by simp only [Rep, u8_toNat_inj]⟩
  case neq => subst h; exact ⟨_, by simp only [binOp, Op.intCmp, ne_eq, not_true_eq_false, if_false]; rfl, by simp only [Rep, bne, u8_toNat_inj]⟩
  all_goals
    subst h
    refine ⟨_, by simp [binOp, Op.intCmp]; rfl, ?_⟩
    simp only [Rep]
    simp [UInt8.lt_iff_toNat_lt, UInt8.le_iff_toNat_le]

theorem binStr_sound {P : Program} {w : World} {S : Seal} {op : BinOp} {t : TypeId} {x y : List UInt8} {r : AVal} (h : binStr op x y = some r) :
    ∃ v, (binOp op t (strV x) (strV y)).run P w = .ok v w ∧ Rep w S r v := by
  cases op <;> simp only [binStr, Option.some.injEq, reduceCtorEq] at h
  case add =>
    split at h
    · rename_i hl
      simp at h; subst h
      refine ⟨strV (x ++ y), ?_, by simp only [Rep]⟩
      simp only [strV, binOp_string_add]
      rw [run_string_add_sum w _ _ (by simpa [strV_size] using hl), ByteArray.mk_append_mk]
    · simp at h
  all_goals
    subst h
    exact ⟨_, by simp [strV, binOp, Op.stringOp]; try rfl, by simp only [Rep, bne]⟩

theorem binU8s_sound {P : Program} {w : World} {S : Seal} {op : BinOp} {t : TypeId} {k : IntKind} {x : UInt8} {n : Int} {r : AVal} (h : binU8s op x n = some r) :
    ∃ v, (binOp op t (.int .u8 x.toNat) (.int k n)).run P w = .ok v w ∧ Rep w S r v := by
  have hx := x.toNat_lt
  cases op <;> simp only [binU8s, reduceCtorEq] at h
  case shl =>
    split at h
    · simp at h
    · rename_i hy
      simp only [Option.some.injEq] at h; subst h
      refine ⟨_, by simp [binOp, Op.shift, hy]; rfl, ?_⟩
      simp only [Rep]
      congr 1
  case shr =>
    split at h
    · simp at h
    · rename_i hy
      simp only [Option.some.injEq] at h; subst h
      refine ⟨_, by simp [binOp, Op.shift, hy]; rfl, ?_⟩
      simp only [Rep]
      congr 1
      have hle : x.toNat / 2 ^ min n.toNat 8 ≤ x.toNat := Nat.div_le_self _ _
      rw [UInt8.toNat_ofNat', Nat.mod_eq_of_lt (by omega)]
      simp only [IntKind.bits]
      rw [Int.fdiv_eq_ediv_of_nonneg _ (by have : (0 : Int) < 2 ^ min n.toNat 8 := Int.pow_pos (by decide); omega)]
      push_cast
      rfl

theorem binA_sound {P : Program} {w : World} {S : Seal} {op : BinOp} {t : TypeId} {x y r : AVal} {u v : Value} (h : binA op x y = some r) (hb : ∀ b c, x = .bool b → y = .bool c → P.underlying t = some .bool)
    (hu : Rep w S x u) (hv : Rep w S y v) : ∃ z, (binOp op t u v).run P w = .ok z w ∧ Rep w S r z := by
  unfold binA at h
  split at h
  · simp only [Rep] at hu hv
    subst hu; subst hv
    exact binU8s_sound h
  · split at h
    · rename_i hk
      simp only [Rep] at hu hv
      subst hu; subst hv
      exact binInt_sound hk h
    · simp at h
  · simp only [Rep] at hu hv
    subst hu; subst hv
    exact binU8_sound h
  · simp only [Rep] at hu hv
    subst hu; subst hv
    exact binStr_sound h
  · rename_i b c
    have ht := hb b c rfl rfl
    simp only [Rep] at hu hv
    subst hu; subst hv
    split at h
    · simp at h; subst h
      exact ⟨.bool (b == c), by simp only [binOp, Sem.run_bind, run_equal_bool w t b c ht, Result.andThen]; rfl, by simp only [Rep]⟩
    · simp at h; subst h
      exact ⟨.bool (b != c), by simp only [binOp, Sem.run_bind, run_equal_bool w t b c ht, Result.andThen]; rfl, by simp only [Rep]⟩
    · simp at h
  · simp at h

theorem eqGuard_rep {P : Program} {w : World} {S : Seal} {op : BinOp} {t : TypeId} {p q : Operand} {x y r : AVal} {u v : Value} (h : binA op x y = some r)
    (hu : Rep w S x u) (hv : Rep w S y v) : (eqGuard op t p q u v).run P w = .ok () w := by
  unfold binA at h
  split at h <;> simp only [Rep, reduceCtorEq] at hu hv h
  all_goals
    subst hu; subst hv
    unfold eqGuard
    split <;> rfl

/-! ### conversions -/
/-- The bytes of a rune. -/
def runeBytes (n : Int) : List UInt8 := (Utf8.encode n).data.toList

def unA (op : UnOp) : AVal → Option AVal
  | .bool b => match op with | .not => some (.bool !b) | _ => none
  | .int k n => match op with
    | .neg => some (.int k (k.wrap (-n)))
    | _ => none
  | _ => none

theorem unA_sound {P : Program} {w : World} {S : Seal} {op : UnOp} {x r : AVal} {u : Value} (h : unA op x = some r) (hu : Rep w S x u) : ∃ z, (Op.unary op u).run P w = .ok z w ∧ Rep w S r z := by
  unfold unA at h
  split at h
  · split at h
    · simp at h; subst h; simp only [Rep] at hu; subst hu; exact ⟨_, rfl, by simp only [Rep]⟩
    · simp at h
  · split at h
    · simp at h; subst h; simp only [Rep] at hu; subst hu; exact ⟨_, rfl, by simp only [Rep, Int.zero_sub]⟩
    · simp at h
  · simp at h

end Go.Sv
