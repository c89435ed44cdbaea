/-
  An abstract reading of the model's values: slices as lists, strings as lists of bytes; what a walk keeps of memory. Own work. Nothing here is trusted.
-/
import Derived.Below
import Derived.Orders
import Derived.Tactics
namespace Go.Sv

/-- What a slice's element is: one cell, or a row of cells ('nil', 'cons': a struct). -/
inductive Ty where
  | bool | u8 | int (k : IntKind) | str | ptr | sl (t : Ty) | nil | cons (t r : Ty)
  deriving DecidableEq

@[reducible] def Ty.den : Ty → Type
  | .bool => Bool
  | .u8 => UInt8
  | .int _ => Int
  | .str => List UInt8
  | .ptr => Option Addr
  | .sl t => List t.den
  | .nil => Unit
  | .cons t r => t.den × r.den

def Ty.dflt : (t : Ty) → t.den
  | .bool => false
  | .u8 => (0 : UInt8)
  | .int _ => (0 : Int)
  | .str => []
  | .ptr => none
  | .sl _ => []
  | .nil => ()
  | .cons t r => (t.dflt, r.dflt)

def Ty.size : Ty → Nat
  | .nil => 0
  | .cons t r => t.size + r.size
  | _ => 1

def Ty.isAgg : Ty → Bool
  | .nil | .cons _ _ => true
  | _ => false

/-- May a slice's spare places be written? 'exact': there are none; 'tok b': block b's are the holder's; 'lit n': there are none, and it begins a block that isn't below n. -/
inductive Own where
  | no | exact | nil | tok (b : Nat) | lit (n : Nat)
/-- No spare places. -/
def Own.isEx : Own → Bool
  | .exact | .nil | .lit _ => true
  | _ => false

inductive AVal where
  | bool (b : Bool)
  | u8 (c : UInt8)
  | int (k : IntKind) (n : Int)
  | str (s : List UInt8)
  | ptr (a : Option Addr)
  | sl (t : Ty) (l : List t.den) (o : Own)
  | agg (cs : List AVal)
  | ea (t : Ty) (l : List t.den) (i off : Nat)
  | tup (vs : List AVal)
  | fn (f : FuncId) (cs : List AVal)
  | dat (l : List UInt8) (o : Own)
  | rs (b sz n : Nat)
  | ra (b sz i off : Nat)
  | map (b : Nat)
  | rt (b sz i n : Nat)
  | undef

def encs : (t : Ty) → t.den → List AVal
  | .bool, b => [.bool b]
  | .u8, c => [.u8 c]
  | .int k, n => [.int k n]
  | .str, s => [.str s]
  | .ptr, a => [.ptr a]
  | .sl t, l => [.sl t l .no]
  | .nil, _ => []
  | .cons t r, x => encs t x.1 ++ encs r x.2

def enc : (t : Ty) → t.den → AVal
  | .bool, b => .bool b
  | .u8, c => .u8 c
  | .int k, n => .int k n
  | .str, s => .str s
  | .ptr, a => .ptr a
  | .sl t, l => .sl t l .no
  | .nil, _ => .agg []
  | .cons t r, x => .agg (encs (.cons t r) x)

/-! ### What is sealed -/
/-- So many cells of each block stay as they are. -/
abbrev Seal := Nat → Nat

def strV (s : List UInt8) : Value := .string ⟨s.toArray⟩

/-- Elements, one behind the other, as cells. -/
def Flat {α : Type} (R : α → List Value → Prop) : List α → List Value → Prop
  | [], cs => cs = []
  | x :: l, cs => ∃ c r, cs = c ++ r ∧ R x c ∧ Flat R l r

theorem Flat.imp {α : Type} {R R' : α → List Value → Prop} (hR : ∀ x cs, R x cs → R' x cs) : ∀ {l : List α} {cs : List Value}, Flat R l cs → Flat R' l cs
  | [], _, h => h
  | _ :: _, _, ⟨c, r, h0, h1, h2⟩ => ⟨c, r, h0, hR _ _ h1, Flat.imp hR h2⟩

theorem Flat.append {α : Type} {R : α → List Value → Prop} : ∀ {l m : List α} {cs ds : List Value}, Flat R l cs → Flat R m ds → Flat R (l ++ m) (cs ++ ds)
  | [], _, _, _, h, k => by simp only [Flat] at h; subst h; exact k
  | _ :: _, _, _, _, ⟨c, r, h0, h1, h2⟩, k => ⟨c, r ++ _, by rw [h0, List.append_assoc], h1, Flat.append h2 k⟩

theorem Flat.length {α : Type} {R : α → List Value → Prop} {n : Nat} (hR : ∀ x cs, R x cs → cs.length = n) : ∀ {l : List α} {cs : List Value}, Flat R l cs → cs.length = l.length * n
  | [], _, h => by simp only [Flat] at h; subst h; simp
  | _ :: l, _, ⟨c, r, h0, h1, h2⟩ => by
    rw [h0, List.length_append, hR _ _ h1, Flat.length hR h2, List.length_cons, Nat.succ_mul, Nat.add_comm]

/-- One element's cells. -/
theorem Flat.get {α : Type} {R : α → List Value → Prop} {n : Nat} (hR : ∀ x cs, R x cs → cs.length = n) : ∀ {l : List α} {cs : List Value} (i : Nat) (hi : i < l.length), Flat R l cs →
    ∃ c, R l[i] c ∧ ∀ j v, c[j]? = some v → cs[i * n + j]? = some v
  | [], _, _, hi, _ => by simp at hi
  | x :: l, _, 0, _, ⟨c, r, h0, h1, h2⟩ => ⟨c, h1, fun j v hj => by
      rw [h0]
      have : j < c.length := by
        rcases Nat.lt_or_ge j c.length with h | h
        · exact h
        · rw [List.getElem?_eq_none h] at hj; simp at hj
      simp [List.getElem?_append_left this, hj]⟩
  | x :: l, _, i + 1, hi, ⟨c, r, h0, h1, h2⟩ => by
    obtain ⟨c', k1, k2⟩ := Flat.get hR i (by simpa using hi) h2
    refine ⟨c', k1, fun j v hj => ?_⟩
    rw [h0, List.getElem?_append_right (by rw [hR _ _ h1, Nat.succ_mul]; omega), hR _ _ h1]
    rw [show (i + 1) * n + j - n = i * n + j by rw [Nat.succ_mul]; omega]
    exact k2 j v hj

/-- A part of the elements. -/
theorem Flat.drop {α : Type} {R : α → List Value → Prop} {n : Nat} (hR : ∀ x cs, R x cs → cs.length = n) : ∀ {l : List α} {cs : List Value} (i : Nat), Flat R l cs → Flat R (l.drop i) (cs.drop (i * n))
  | _, _, 0, h => by simpa using h
  | [], _, i + 1, h => by simp only [Flat] at h; subst h; simp [Flat]
  | x :: l, _, i + 1, ⟨c, r, h0, h1, h2⟩ => by
    have := Flat.drop hR i h2
    rw [h0, List.drop_succ_cons]
    rw [show (i + 1) * n = c.length + i * n by rw [hR _ _ h1, Nat.succ_mul, Nat.add_comm], ← List.drop_drop, List.drop_left]
    exact this
theorem Flat.take {α : Type} {R : α → List Value → Prop} {n : Nat} (hR : ∀ x cs, R x cs → cs.length = n) : ∀ {l : List α} {cs : List Value} (i : Nat), Flat R l cs → Flat R (l.take i) (cs.take (i * n))
  | _, _, 0, h => by simp [Flat]
  | [], _, i + 1, h => by simp only [Flat] at h; subst h; simp [Flat]
  | x :: l, _, i + 1, ⟨c, r, h0, h1, h2⟩ => by
    refine ⟨c, r.take (i * n), ?_, h1, Flat.take hR i h2⟩
    rw [h0, show (i + 1) * n = c.length + i * n by rw [hR _ _ h1, Nat.succ_mul, Nat.add_comm], List.take_length_add_append]

/-- Elements at an address. -/
def RowAt {α : Type} (w : World) (S : Seal) (R : α → List Value → Prop) (b off : Nat) (l : List α) : Prop :=
  ∃ cells, Flat R l cells ∧ off + cells.length ≤ S b ∧ ∀ j v, cells[j]? = some v → w.cell? ⟨b, off + j, none⟩ = some v

def SlAt {α : Type} (w : World) (S : Seal) (R : α → List Value → Prop) (a : Option Addr) (l : List α) : Prop :=
  l = [] ∨ ∃ b off, a = some ⟨b, off, none⟩ ∧ RowAt w S R b off l

def RepD (w : World) (S : Seal) : (t : Ty) → t.den → List Value → Prop
  | .bool, b, cs => cs = [.bool b]
  | .u8, c, cs => cs = [.int .u8 (UInt8.toNat c)]
  | .int k, n, cs => cs = [.int k n]
  | .str, s, cs => cs = [strV s]
  | .ptr, a, cs => cs = [.pointer a]
  | .sl t, l, cs => ∃ a cap, cs = [.slice a (List.length l) cap] ∧ List.length l ≤ cap ∧ SlAt w S (RepD w S t) a l
  | .nil, _, cs => cs = []
  | .cons t r, x, cs => ∃ c1 c2, cs = c1 ++ c2 ∧ RepD w S t x.1 c1 ∧ RepD w S r x.2 c2

theorem RepD.length {w : World} {S : Seal} : ∀ {t : Ty} {x : t.den} {cs : List Value}, RepD w S t x cs → cs.length = t.size
  | .bool, _, _, h => by simp only [RepD] at h; subst h; rfl
  | .u8, _, _, h => by simp only [RepD] at h; subst h; rfl
  | .int _, _, _, h => by simp only [RepD] at h; subst h; rfl
  | .str, _, _, h => by simp only [RepD] at h; subst h; rfl
  | .ptr, _, _, h => by simp only [RepD] at h; subst h; rfl
  | .sl _, _, _, h => by simp only [RepD] at h; obtain ⟨_, _, h, _⟩ := h; subst h; rfl
  | .nil, _, _, h => by simp only [RepD] at h; subst h; rfl
  | .cons t r, _, _, h => by
    simp only [RepD] at h
    obtain ⟨c1, c2, rfl, h1, h2⟩ := h
    simp [Ty.size, RepD.length h1, RepD.length h2]

/-- Where the holder's spare places are: its slice begins its block; the block has so many cells. -/
def OwnAt (w : World) (n : Nat) (a : Option Addr) (len cap : Nat) : Own → Prop
  | .no => True
  | .exact => cap = len
  | .nil => a = none ∧ cap = 0
  | .tok b => a = some ⟨b, 0, none⟩ ∧ ∃ ty, w.shape? b = some (ty, cap * n)
  | .lit m => cap = len ∧ ∃ b, a = some ⟨b, 0, none⟩ ∧ m ≤ b ∧ ∃ ty, w.shape? b = some (ty, cap * n)

mutual
def Rep (w : World) (S : Seal) : AVal → Value → Prop
  | .bool b, v => v = .bool b
  | .u8 c, v => v = .int .u8 c.toNat
  | .int k n, v => v = .int k n
  | .str s, v => v = strV s
  | .ptr a, v => v = .pointer a
  | .sl t l o, v => ∃ a cap, v = .slice a l.length cap ∧ l.length ≤ cap ∧ SlAt w S (RepD w S t) a l ∧ OwnAt w t.size a l.length cap o
  | .agg cs, v => ∃ vs, v = .agg vs ∧ RepL w S cs vs.toList
  | .ea t l i off, v => ∃ b o, v = .pointer (some ⟨b, o + i * t.size + off, none⟩) ∧ RowAt w S (RepD w S t) b o l ∧ i < l.length
  | .tup cs, v => ∃ vs, v = .tuple vs ∧ RepL w S cs vs.toList
  | .fn f cs, v => ∃ vs, v = .func (.func f) #[] vs ∧ RepL w S cs vs.toList
  | .dat l o, v => ∃ p, v = .pointer p ∧ (l = [] ∨ ∃ b, o = .tok b ∧ p = some ⟨b, 0, none⟩ ∧ RowAt w S (RepD w S .u8) b 0 l)
  | .rs b sz n, v => ∃ cap, v = .slice (some ⟨b, 0, none⟩) n cap ∧ n ≤ cap ∧ ∃ ty, w.shape? b = some (ty, cap * sz)
  | .ra b sz i off, v => v = .pointer (some ⟨b, i * sz + off, none⟩)
  | .map b, v => v = .map (some b)
  | .rt b sz i n, v => ∃ cap, v = .slice (some ⟨b, i * sz, none⟩) n cap
  | .undef, _ => True
def RepL (w : World) (S : Seal) : List AVal → List Value → Prop
  | [], vs => vs = []
  | c :: r, vs => ∃ v vr, vs = v :: vr ∧ Rep w S c v ∧ RepL w S r vr
end

theorem RepL.length {w : World} {S : Seal} : ∀ {cs : List AVal} {vs : List Value}, RepL w S cs vs → cs.length = vs.length
  | [], _, h => by simp only [RepL] at h; subst h; rfl
  | _ :: r, _, h => by
    simp only [RepL] at h
    obtain ⟨v, vr, rfl, _, h⟩ := h
    simp [RepL.length h]

theorem RepL.append {w : World} {S : Seal} : ∀ {cs ds : List AVal} {vs us : List Value}, RepL w S cs vs → RepL w S ds us → RepL w S (cs ++ ds) (vs ++ us)
  | [], _, _, _, h, h' => by simp only [RepL] at h; subst h; exact h'
  | _ :: r, _, _, _, h, h' => by
    simp only [RepL] at h
    obtain ⟨v, vr, rfl, hv, h⟩ := h
    exact ⟨v, _, rfl, hv, RepL.append h h'⟩

theorem RepL.split {w : World} {S : Seal} : ∀ {cs ds : List AVal} {vs : List Value}, RepL w S (cs ++ ds) vs → ∃ v1 v2, vs = v1 ++ v2 ∧ RepL w S cs v1 ∧ RepL w S ds v2
  | [], _, vs, h => ⟨[], vs, rfl, by simp only [RepL], h⟩
  | c :: r, ds, _, h => by
    simp only [List.cons_append, RepL] at h
    obtain ⟨v, vr, rfl, hv, h⟩ := h
    obtain ⟨v1, v2, rfl, h1, h2⟩ := RepL.split h
    exact ⟨v :: v1, v2, rfl, ⟨v, v1, rfl, hv, h1⟩, h2⟩

theorem RepL.get {w : World} {S : Seal} : ∀ {cs : List AVal} {vs : List Value} (i : Nat) {c : AVal}, RepL w S cs vs → cs[i]? = some c → ∃ v, vs[i]? = some v ∧ Rep w S c v
  | [], _, _, _, _, hc => by simp at hc
  | _ :: r, _, i, c, h, hc => by
    simp only [RepL] at h
    obtain ⟨v, vr, rfl, hv, h⟩ := h
    cases i with
    | zero => simp at hc; subst hc; exact ⟨v, rfl, hv⟩
    | succ i => simp at hc; exact RepL.get i h hc

theorem repL_of_repD {w : World} {S : Seal} : ∀ {t : Ty} {x : t.den} {cs : List Value}, RepD w S t x cs → RepL w S (encs t x) cs
  | .bool, _, _, h => by simp only [RepD] at h; subst h; exact ⟨_, _, rfl, by simp only [Rep], by simp only [RepL]⟩
  | .u8, _, _, h => by simp only [RepD] at h; subst h; exact ⟨_, _, rfl, by simp only [Rep], by simp only [RepL]⟩
  | .int _, _, _, h => by simp only [RepD] at h; subst h; exact ⟨_, _, rfl, by simp only [Rep], by simp only [RepL]⟩
  | .str, _, _, h => by simp only [RepD] at h; subst h; exact ⟨_, _, rfl, by simp only [Rep], by simp only [RepL]⟩
  | .ptr, _, _, h => by simp only [RepD] at h; subst h; exact ⟨_, _, rfl, by simp only [Rep], by simp only [RepL]⟩
  | .sl t, _, _, h => by
    simp only [RepD] at h
    obtain ⟨a, cap, rfl, h1, h2⟩ := h
    exact ⟨_, _, rfl, by simp only [Rep]; exact ⟨a, cap, rfl, h1, h2, trivial⟩, by simp only [RepL]⟩
  | .nil, _, _, h => by simp only [RepD] at h; subst h; simp only [encs, RepL]
  | .cons t r, _, _, h => by
    simp only [RepD] at h
    obtain ⟨c1, c2, rfl, h1, h2⟩ := h
    exact (repL_of_repD h1).append (repL_of_repD h2)

theorem repD_of_repL {w : World} {S : Seal} : ∀ {t : Ty} {x : t.den} {cs : List Value}, RepL w S (encs t x) cs → RepD w S t x cs
  | .bool, _, _, h => by simp only [encs, RepL, Rep] at h; obtain ⟨_, _, rfl, rfl, rfl⟩ := h; simp only [RepD]
  | .u8, _, _, h => by simp only [encs, RepL, Rep] at h; obtain ⟨_, _, rfl, rfl, rfl⟩ := h; simp only [RepD]
  | .int _, _, _, h => by simp only [encs, RepL, Rep] at h; obtain ⟨_, _, rfl, rfl, rfl⟩ := h; simp only [RepD]
  | .str, _, _, h => by simp only [encs, RepL, Rep] at h; obtain ⟨_, _, rfl, rfl, rfl⟩ := h; simp only [RepD]
  | .ptr, _, _, h => by simp only [encs, RepL, Rep] at h; obtain ⟨_, _, rfl, rfl, rfl⟩ := h; simp only [RepD]
  | .sl t, _, _, h => by
    simp only [encs, RepL, Rep] at h
    obtain ⟨_, _, rfl, ⟨a, cap, rfl, h1, h2, _⟩, rfl⟩ := h
    simp only [RepD]
    exact ⟨a, cap, rfl, h1, h2⟩
  | .nil, _, _, h => by simp only [encs, RepL] at h; subst h; simp only [RepD]
  | .cons t r, _, _, h => by
    simp only [encs] at h
    obtain ⟨c1, c2, rfl, h1, h2⟩ := RepL.split h
    simp only [RepD]
    exact ⟨c1, c2, rfl, repD_of_repL h1, repD_of_repL h2⟩

/-- The cells of a value that is one of a type's. -/
theorem rep_enc {w : World} {S : Seal} {t : Ty} {x : t.den} {cs : List Value} (h : RepD w S t x cs) :
    if t.isAgg then Rep w S (enc t x) (.agg cs.toArray) else ∃ v, cs = [v] ∧ Rep w S (enc t x) v := by
  have hl := repL_of_repD h
  cases t <;> simp only [Ty.isAgg, enc, Bool.false_eq_true, if_false, if_true]
  case nil => simp only [encs] at hl; simp only [Rep]; exact ⟨_, rfl, by simpa using hl⟩
  case cons t r => simp only [Rep]; exact ⟨_, rfl, by simpa using hl⟩
  all_goals
    simp only [encs, RepL] at hl
    obtain ⟨v, vr, rfl, hv, rfl⟩ := hl
    exact ⟨v, rfl, hv⟩

/-- A value of a type, as cells. -/
theorem repD_of_enc {w : World} {S : Seal} {t : Ty} {x : t.den} {v : Value} (h : Rep w S (enc t x) v) (hp : t ≠ .nil ∨ True) : RepD w S t x v.cells.toList := by
  cases t
  case nil =>
    simp only [enc, Rep] at h
    obtain ⟨vs, rfl, h⟩ := h
    simp only [RepL] at h
    simp only [RepD, Value.cells]
    exact h
  case cons t r =>
    simp only [enc, Rep] at h
    obtain ⟨vs, rfl, h⟩ := h
    exact repD_of_repL h
  case sl t =>
    simp only [enc, Rep] at h
    obtain ⟨a, cap, rfl, h1, h2, _⟩ := h
    simp only [RepD, Value.cells]
    exact ⟨a, cap, rfl, h1, h2⟩
  all_goals
    simp only [enc, Rep] at h
    subst h
    simp [RepD, Value.cells, strV]

/-! ### What a later world keeps -/
/-- Where what the call makes begins; rows of cells that lie ahead of it, and stay. -/
structure Base where
  n : Nat
  tabs : List (Nat × List Value)
instance : CoeOut Base Nat := ⟨Base.n⟩
structure Ext (B0 : Base) (S S' : Seal) (w w' : World) : Prop where
  below : Go.RowKit.Below B0 w w'
  le : ∀ b, S b ≤ S' b
  cell : ∀ b i, i < S b → w'.cell? ⟨b, i, none⟩ = w.cell? ⟨b, i, none⟩
  shape : ∀ b x, w.shape? b = some x → w'.shape? b = some x

theorem Ext.refl (B0 : Base) (S : Seal) (w : World) : Ext B0 S S w w := ⟨.refl _ _, fun _ => Nat.le_refl _, fun _ _ _ => rfl, fun _ _ h => h⟩
theorem Ext.trans {B0 : Base} {S S' S'' : Seal} {w w' w'' : World} (h : Ext B0 S S' w w') (k : Ext B0 S' S'' w' w'') : Ext B0 S S'' w w'' :=
  ⟨h.below.trans k.below, fun b => Nat.le_trans (h.le b) (k.le b), fun b i hi => (k.cell b i (Nat.lt_of_lt_of_le hi (h.le b))).trans (h.cell b i hi), fun b x hx => k.shape b x (h.shape b x hx)⟩

section
variable {B0 : Base} {S S' : Seal} {w w' : World}
theorem RowAt.ext {α : Type} {R R' : α → List Value → Prop} {b off : Nat} {l : List α} (e : Ext B0 S S' w w') (hR : ∀ x cs, R x cs → R' x cs) (h : RowAt w S R b off l) : RowAt w' S' R' b off l := by
  obtain ⟨cells, h1, h2, h3⟩ := h
  refine ⟨cells, h1.imp hR, Nat.le_trans h2 (e.le b), fun j v hj => ?_⟩
  have : j < cells.length := by
    rcases Nat.lt_or_ge j cells.length with h | h
    · exact h
    · rw [List.getElem?_eq_none h] at hj; simp at hj
  rw [e.cell b (off + j) (by omega)]
  exact h3 j v hj

theorem SlAt.ext {α : Type} {R R' : α → List Value → Prop} {a : Option Addr} {l : List α} (e : Ext B0 S S' w w') (hR : ∀ x cs, R x cs → R' x cs) (h : SlAt w S R a l) : SlAt w' S' R' a l := by
  rcases h with h | ⟨b, off, h1, h2⟩
  · exact .inl h
  · exact .inr ⟨b, off, h1, h2.ext e hR⟩

theorem RepD.ext (e : Ext B0 S S' w w') : ∀ {t : Ty} {x : t.den} {cs : List Value}, RepD w S t x cs → RepD w' S' t x cs
  | .bool, _, _, h => h
  | .u8, _, _, h => h
  | .int _, _, _, h => h
  | .str, _, _, h => h
  | .ptr, _, _, h => h
  | .sl t, _, _, h => by
    simp only [RepD] at h ⊢
    obtain ⟨a, cap, h0, h1, h2⟩ := h
    exact ⟨a, cap, h0, h1, h2.ext e fun _ _ h => RepD.ext e h⟩
  | .nil, _, _, h => h
  | .cons t r, _, _, h => by
    simp only [RepD] at h ⊢
    obtain ⟨c1, c2, h0, h1, h2⟩ := h
    exact ⟨c1, c2, h0, RepD.ext e h1, RepD.ext e h2⟩

theorem OwnAt.ext (e : Ext B0 S S' w w') {n : Nat} {a : Option Addr} {len cap : Nat} : ∀ {o : Own}, OwnAt w n a len cap o → OwnAt w' n a len cap o
  | .no, h => h
  | .exact, h => h
  | .nil, h => h
  | .tok _, ⟨h, ty, h'⟩ => ⟨h, ty, e.shape _ _ h'⟩
  | .lit _, ⟨h, b, h1, h2, ty, h'⟩ => ⟨h, b, h1, h2, ty, e.shape _ _ h'⟩

mutual
theorem Rep.ext (e : Ext B0 S S' w w') : ∀ {x : AVal} {v : Value}, Rep w S x v → Rep w' S' x v
  | .bool _, _, h => by simp only [Rep] at h ⊢; exact h
  | .u8 _, _, h => by simp only [Rep] at h ⊢; exact h
  | .int _ _, _, h => by simp only [Rep] at h ⊢; exact h
  | .str _, _, h => by simp only [Rep] at h ⊢; exact h
  | .ptr _, _, h => by simp only [Rep] at h ⊢; exact h
  | .sl _ _ _, _, h => by
    simp only [Rep] at h ⊢
    obtain ⟨a, cap, h0, h1, h2, h3⟩ := h
    exact ⟨a, cap, h0, h1, h2.ext e fun _ _ h => RepD.ext e h, h3.ext e⟩
  | .agg cs, _, h => by
    simp only [Rep] at h ⊢
    obtain ⟨vs, h0, h1⟩ := h
    exact ⟨vs, h0, RepL.ext e h1⟩
  | .ea _ _ _ _, _, h => by
    simp only [Rep] at h ⊢
    obtain ⟨b, o, h0, h1, h2⟩ := h
    exact ⟨b, o, h0, h1.ext e fun _ _ h => RepD.ext e h, h2⟩
  | .tup cs, _, h => by
    simp only [Rep] at h ⊢
    obtain ⟨vs, h0, h1⟩ := h
    exact ⟨vs, h0, RepL.ext e h1⟩
  | .fn _ cs, _, h => by
    simp only [Rep] at h ⊢
    obtain ⟨vs, h0, h1⟩ := h
    exact ⟨vs, h0, RepL.ext e h1⟩
  | .dat _ _, _, h => by
    simp only [Rep] at h ⊢
    obtain ⟨p, h0, h1⟩ := h
    exact ⟨p, h0, h1.imp_right fun ⟨b, k1, k2, k3⟩ => ⟨b, k1, k2, k3.ext e fun _ _ h => RepD.ext e h⟩⟩
  | .rs _ _ _, _, h => by
    simp only [Rep] at h ⊢
    obtain ⟨cap, h0, h1, ty, h2⟩ := h
    exact ⟨cap, h0, h1, ty, e.shape _ _ h2⟩
  | .ra _ _ _ _, _, h => by simp only [Rep] at h ⊢; exact h
  | .map _, _, h => by simp only [Rep] at h ⊢; exact h
  | .rt _ _ _ _, _, h => by simp only [Rep] at h ⊢; exact h
  | .undef, _, _ => by simp only [Rep]
theorem RepL.ext (e : Ext B0 S S' w w') : ∀ {cs : List AVal} {vs : List Value}, RepL w S cs vs → RepL w' S' cs vs
  | [], _, h => by simp only [RepL] at h ⊢; exact h
  | c :: r, _, h => by
    simp only [RepL] at h ⊢
    obtain ⟨v, vr, h0, h1, h2⟩ := h
    exact ⟨v, vr, h0, Rep.ext e h1, RepL.ext e h2⟩
end
end

/-! ### What the call owns -/
inductive AObj where
  | cells (ty : TypeId) (vs : List AVal)
  | grow (ty : TypeId) (t : Ty) (n : Nat)
  | iter (s : List UInt8) (pos : Nat)
  | row (ty : TypeId) (t : Ty) (l : List t.den)
  | smap (es : List (List UInt8 × Int × Nat)) (k : Nat)

abbrev Hp := Nat → Option AObj
def Hp.set (H : Hp) (b : Nat) (o : Option AObj) : Hp := fun c => if c = b then o else H c

/-- An entry of a map of texts and numbers. -/
def mapE (e : List UInt8 × Int × Nat) : MapEntry := { key := strV e.1, val := .int .i64 e.2.1, born := e.2.2 }
def ObjAt (w : World) (S : Seal) (b : Nat) : AObj → Prop
  | .cells ty vs => ∃ arr, w.heap[b]? = some (.cells arr ty (0, 0)) ∧ S b = 0 ∧ RepL w S vs arr.toList
  | .grow ty t n => S b = n * t.size ∧ ∃ arr fz, w.heap[b]? = some (.cells arr ty fz) ∧ n * t.size ≤ arr.size ∧ (fz.1 = fz.2 ∨ fz.2 ≤ n * t.size ∨ arr.size ≤ n * t.size)
  | .iter s pos => S b = 0 ∧ w.heap[b]? = some (.stringIter ⟨s.toArray⟩ pos)
  | .row ty t l => S b = 0 ∧ ∃ arr, w.heap[b]? = some (.cells arr ty (0, 0)) ∧ ∃ cs rest, arr.toList = cs ++ rest ∧ Flat (RepD w S t) l cs
  | .smap es k => S b = 0 ∧ w.heap[b]? = some (.map (es.map mapE).toArray k)

def TabAt (l : List (Nat × List Value)) (w : World) (S : Seal) : Prop := ∀ q ∈ l, q.2.length ≤ S q.1 ∧ ∀ j v, q.2[j]? = some v → w.cell? ⟨q.1, j, none⟩ = some v
theorem TabAt.ext {l : List (Nat × List Value)} {B0 : Base} {S S' : Seal} {w w' : World} (e : Ext B0 S S' w w') (h : TabAt l w S) : TabAt l w' S' := by
  intro q hq
  obtain ⟨h1, h2⟩ := h q hq
  refine ⟨Nat.le_trans h1 (e.le _), fun j v hj => ?_⟩
  have : j < q.2.length := by
    rcases Nat.lt_or_ge j q.2.length with h | h
    · exact h
    · rw [List.getElem?_eq_none h] at hj; simp at hj
  rw [e.cell _ _ (by omega)]
  exact h2 j v hj

structure Inv (B0 : Base) (w : World) (S : Seal) (H : Hp) : Prop where
  base : B0 ≤ w.heap.size
  top : ∀ b, w.heap.size ≤ b → S b = 0 ∧ H b = none
  obj : ∀ b o, H b = some o → B0 ≤ b ∧ ObjAt w S b o
  tab : TabAt B0.tabs w S

def Hp.Le (H' H : Hp) : Prop := ∀ b o, H' b = some o → H b = some o
theorem Hp.Le.refl (H : Hp) : H.Le H := fun _ _ h => h
theorem Hp.Le.trans {H H' H'' : Hp} (h : H.Le H') (k : H'.Le H'') : H.Le H'' := fun b o e => k b o (h b o e)

theorem Inv.le {B0 : Base} {w : World} {S : Seal} {H H' : Hp} (h : Inv B0 w S H) (hl : H'.Le H) : Inv B0 w S H' := by
  refine ⟨h.base, fun b hb => ⟨(h.top b hb).1, ?_⟩, fun b o ho => h.obj b o (hl b o ho), h.tab⟩
  cases e : H' b with
  | none => rfl
  | some o => have := hl b o e; rw [(h.top b hb).2] at this; exact absurd this (by simp)

/-! ### Temporaries -/
abbrev Env := List (Nat × AVal)
def Env.get : Env → Nat → Option AVal
  | [], _ => none
  | (d, v) :: σ, t => if t = d then some v else Env.get σ t

def EnvAt (w : World) (S : Seal) (σ : Env) (tmps : Array Value) : Prop :=
  ∀ t x, σ.get t = some x → t < tmps.size ∧ Rep w S x (tmps.getD t undef)

theorem EnvAt.ext {B0 : Base} {S S' : Seal} {w w' : World} {σ : Env} {tmps : Array Value} (e : Ext B0 S S' w w') (h : EnvAt w S σ tmps) : EnvAt w' S' σ tmps :=
  fun t x hx => ⟨(h t x hx).1, (h t x hx).2.ext e⟩

theorem EnvAt.put {w : World} {S : Seal} {σ : Env} {a : Act} {d : Nat} {x : AVal} {v : Value} (h : EnvAt w S σ a.tmps) (hd : d < a.tmps.size) (hv : Rep w S x v) :
    EnvAt w S ((d, x) :: σ) (a.put (some d) v).tmps := by
  intro t y hy
  simp only [Env.get] at hy
  simp only [Act.put, Array.size_setIfInBounds]
  by_cases ht : t = d
  · subst ht
    simp only [if_true, Option.some.injEq] at hy
    subst hy
    refine ⟨hd, ?_⟩
    simp only [Array.getD_eq_getD_getElem?, Array.getElem?_setIfInBounds_self_of_lt hd, Option.getD_some]
    exact hv
  · rw [if_neg ht] at hy
    obtain ⟨h1, h2⟩ := h t y hy
    refine ⟨h1, ?_⟩
    simp only [Array.getD_eq_getD_getElem?, Array.getElem?_setIfInBounds_ne (Ne.symm ht)] at h2 ⊢
    exact h2

end Go.Sv
