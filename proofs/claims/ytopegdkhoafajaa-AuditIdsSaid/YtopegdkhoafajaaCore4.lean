/-
  What each operation of the model comes to on abstract values ('wop'), and that the model does so. Own work. Nothing here is trusted.
-/
import Derived.Test.YtopegdkhoafajaaCore3
import Derived.Laws.Cover1
namespace Go.Sv
set_option linter.unusedSimpArgs false
set_option linter.unusedVariables false

/-- A contract: what a call comes to, wherever its arguments read as these. -/
structure FnC (P : Program) (B0 : Base) (f : FuncId) (args : List AVal) (H : Hp) (K : AVal → Hp → Prop) : Prop where
  ex : ∃ fn, P.funcs[f]? = some fn ∧ (fn.name == "runtime.NumGoroutine") = false ∧ fn.body.isNone = false
  runs : ∀ (w : World) (S : Seal) (vs : Array Value), Inv B0 w S H → RepL w S args vs.toList →
    Calls P f vs w fun e w' => ∃ v x S' H', e = .returned v ∧ Ext B0 S S' w w' ∧ Inv B0 w' S' H' ∧ Rep w' S' x v ∧ K x H'

theorem FnC.mono {P : Program} {B0 : Base} {f : FuncId} {args : List AVal} {H : Hp} {K K' : AVal → Hp → Prop} (h : FnC P B0 f args H K) (hk : ∀ x H', K x H' → K' x H') : FnC P B0 f args H K' :=
  ⟨h.1, fun w S vs hi ha => (h.2 w S vs hi ha).mono fun e w' ⟨v, x, S', H', h1, h2, h3, h4, h5⟩ => ⟨v, x, S', H', h1, h2, h3, h4, hk _ _ h5⟩⟩

/-- What comes behind: as instances, so that simp leaves them alone till they are at hand. -/
class T0 : Type where
  run : Prop
class T1 : Type where
  run : AVal → Prop
class TI : Type where
  run : Int → Prop
class TE : Type where
  run : Env → Prop
class T2 : Type where
  run : AVal → Hp → Prop

/-- One of two ways. -/
def gate (b : Option Bool) (want : Bool) [A : T0] [B : T0] : Prop := match b with
  | some b => if b = want then A.run else B.run
  | none => False

def wv (x : Option AVal) [k : T1] : Prop := match x with
  | some x => k.run x
  | none => False

def asI : AVal → Option Int
  | .int _ n => some n
  | .u8 c => some c.toNat
  | _ => none
def wI (x : Option AVal) [k : TI] : Prop := match x.bind asI with
  | some n => k.run n
  | none => False

/-- A value out of a row's cells. -/
def loadA (q : Bool × Nat) (cs : List AVal) (off : Nat) : Option AVal :=
  if q.1 then (if off + q.2 ≤ cs.length then some (.agg ((cs.drop off).take q.2)) else none) else cs[off]?

/-- Where a struct's field begins, and its type. -/
def fdInfo (P : Program) (t : TypeId) (f : Nat) : Option (Nat × TypeId) := match P.underlying t with
  | some (.struct fs) => (fs[f]?).bind fun x => match (P.info? x.type).map (·.size) with
    | some 0 => none
    | some _ => some (x.offset, x.type)
    | none => none
  | _ => none

/-- Conversions. -/
def convA (src dst : Option Ty) : AVal → Option AVal
  | .int _ n => match dst with
    | some .u8 => some (.u8 (UInt8.ofInt n))
    | some (.int k) => some (.int k (k.wrap n))
    | some .str => some (.str (runeBytes n))
    | _ => none
  | .u8 c => match dst with
    | some .u8 => some (.u8 c)
    | some (.int k) => some (.int k (k.wrap c.toNat))
    | _ => none
  | .str s => match dst with
    | some .str => some (.str s)
    | _ => none
  | .sl .u8 l _ => match src, dst with
    | some (.sl .u8), some .str => some (.str l)
    | _, _ => none
  | .sl (.int .i32) l _ => match src, dst with
    | some (.sl (.int .i32)), some .str => some (.str (l.flatMap runeBytes))
    | _, _ => none
  | _ => none

/-- A value as an element of a type. -/
def dec1 : (t : Ty) → AVal → Option t.den
  | .bool, .bool b => some b
  | .u8, .u8 c => some c
  | .int k, .int k' n => if k = k' then some n else none
  | .str, .str s => some s
  | .ptr, .ptr a => some a
  | .sl t, .sl t' l _ => if h : t' = t then some (h ▸ l) else none
  | _, _ => none
def decs : (t : Ty) → List AVal → Option (t.den × List AVal)
  | .nil, cs => some ((), cs)
  | .cons t r, cs => (decs t cs).bind fun p => (decs r p.2).map fun q => ((p.1, q.1), q.2)
  | .bool, c :: cs => (dec1 .bool c).map fun x => (x, cs)
  | .u8, c :: cs => (dec1 .u8 c).map fun x => (x, cs)
  | .int k, c :: cs => (dec1 (.int k) c).map fun x => (x, cs)
  | .str, c :: cs => (dec1 .str c).map fun x => (x, cs)
  | .ptr, c :: cs => (dec1 .ptr c).map fun x => (x, cs)
  | .sl t, c :: cs => (dec1 (.sl t) c).map fun x => (x, cs)
  | _, [] => none
def AVal.cellsA : AVal → List AVal
  | .agg cs => cs
  | v => [v]
def dec (t : Ty) (v : AVal) : Option t.den := (decs t v.cellsA).bind fun p => if p.2.isEmpty then some p.1 else none
def decAll (t : Ty) : List AVal → Option (List t.den)
  | [] => some []
  | v :: vs => (dec t v).bind fun x => (decAll t vs).map fun l => x :: l

/-- Parts in their order, none left out. -/
def inOrder : Nat → List (Nat × Operand) → Option (List Operand)
  | _, [] => some []
  | k, (i, x) :: r => if i = k then (inOrder (k + 1) r).map (x :: ·) else none

/-- What is appended. -/
def newsA (ty : Ty) : AVal → Option (List ty.den)
  | .sl t l _ => if h : t = ty then some (h ▸ l) else none
  | .str s => if h : ty = .u8 then some (h ▸ s) else none
  | _ => none

/-- An element's bytes. -/
def elBytes (P : Program) (t : TypeId) : Nat := match P.underlying t with
  | some (.slice e) => ((P.info? e).map (·.bytes)).getD 0
  | _ => 0
def AppE (P : Program) (t : TypeId) (ty : Ty) : Prop := AppElem P t ty (elBytes P t)

/-- What is appended lies in a row of the call's own: to nothing's spare room. -/
def wAppR (P : Program) (t t2 : TypeId) (ty : Ty) (l : List ty.den) (o : Own) (x : AVal) (H : Hp) [K : T2] : Prop :=
  match x with
  | .rs b sz n => match H b with
    | some (.row _ ty' l2) => ∃ h : ty' = ty, sz = ty.size ∧ n = l2.length ∧ o.isEx = true ∧ AppE P t ty ∧ tyOf P 8 t2 = some (.sl ty) ∧ (l.length + l2.length) * elBytes P t ≤ 140737488355328 ∧ l.length + l2.length ≤ 9223372036854775807 ∧
        (if l2 = [] then K.run (.sl ty l o) H else ∀ b', H b' = none → K.run (.rs b' ty.size (l ++ (h ▸ l2 : List ty.den)).length) (H.set b' (some (.row (elTy P t) ty (l ++ (h ▸ l2 : List ty.den))))))
    | _ => False
  | _ => False
def wAppend (P : Program) (t t2 : TypeId) (s x : AVal) (H : Hp) [K : T2] : Prop :=
  match s with
  | .sl ty l o => match newsA ty x with
    | some xs => AppE P t ty ∧ (tyOf P 8 t2 = some (.sl ty) ∨ tyOf P 8 t2 = some .str) ∧ (l.length + xs.length) * elBytes P t ≤ 140737488355328 ∧ l.length + xs.length ≤ 9223372036854775807 ∧
        (if xs = [] then K.run (.sl ty (l ++ xs) o) H else (Apb H o ty l.length ∧ ∀ b e, (H.drop o) b = none → RowTy P H o t ty l.length e → K.run (.sl ty (l ++ xs) (.tok b)) ((H.drop o).set b (some (.grow e ty (l.length + xs.length))))) ∨
          (o.isEx = true ∧ ∀ b, H b = none → K.run (.rs b ty.size (l ++ xs).length) (H.set b (some (.row (elTy P t) ty (l ++ xs))))))
    | none => wAppR P t t2 ty l o x H
  | .rs b sz n => match tyOf P 8 t, H b with
    | some (.sl ty), some (.row e ty' l) => ∃ h : ty' = ty, match newsA ty x with
      | some xs => e = elTy P t ∧ sz = ty.size ∧ n = l.length ∧ AppE P t ty ∧ (tyOf P 8 t2 = some (.sl ty) ∨ tyOf P 8 t2 = some .str) ∧ (l.length + xs.length) * elBytes P t ≤ 140737488355328 ∧ l.length + xs.length ≤ 9223372036854775807 ∧
          ∀ b', (H.set b none) b' = none → K.run (.rs b' ty.size ((h ▸ l : List ty.den) ++ xs).length) ((H.set b none).set b' (some (.row (elTy P t) ty ((h ▸ l : List ty.den) ++ xs))))
      | none => False
    | _, _ => False
  | _ => False

def wLen (P : Program) (t : TypeId) (x : AVal) [k : T1] : Prop :=
  match x with
  | .str s => tyOf P 8 t = some .str ∧ k.run (.int .i64 s.length)
  | .sl ty l _ => tyOf P 8 t = some (.sl ty) ∧ k.run (.int .i64 l.length)
  | .rs _ _ n => (match tyOf P 8 t with | some (.sl _) => True | _ => False) ∧ k.run (.int .i64 n)
  | _ => False

def minA : AVal → AVal → Option AVal
  | .int k x, .int _ y => some (.int k (min x y))
  | _, _ => none
def maxA : AVal → AVal → Option AVal
  | .int k x, .int _ y => some (.int k (max x y))
  | _, _ => none
def foldA (f : AVal → AVal → Option AVal) : Option AVal → List AVal → Option AVal
  | none, _ => none
  | some x, [] => some x
  | some x, y :: r => foldA f (f x y) r

def evArgs (P : Program) (σ : Env) : List TypeId → List Operand → Option (List AVal)
  | _, [] => some []
  | t :: ts, x :: xs => (ev P σ t x).bind fun v => (evArgs P σ ts xs).map (v :: ·)
  | [], x :: xs => (ev P σ 0 x).bind fun v => (evArgs P σ [] xs).map (v :: ·)

/-- Pointers' type, to something of a size. -/
structure PtrOk (P : Program) (t : TypeId) : Prop where
  ex : ∃ te j, P.underlying t = some (.pointer te) ∧ P.info? te = some j ∧ j.size ≠ 0
/-- A function without a body that leaves all as it is. -/
structure FnX (P : Program) (f : FuncId) (args : List AVal) (K : AVal → Prop) : Prop where
  ex : ∃ fn e, P.funcs[f]? = some fn ∧ (fn.name == "runtime.NumGoroutine") = false ∧ fn.body.isNone = true ∧ Extern.findNext fn = none ∧ Extern.find fn = some e ∧
    ∀ (w : World) (S : Seal) (vs : Array Value), RepL w S args vs.toList → ∃ v x, (e vs).run P w = .ok v w ∧ Rep w S x v ∧ K x

/-- A call. -/
def wFn (P : Program) (B0 : Base) (g : FuncId) (xs : List AVal) (H : Hp) [K : T2] : Prop := FnC P B0 g xs H K.run ∨ FnX P g xs (fun x => K.run x H)

/-- May these bytes be frozen? -/
def DatOk (P : Program) (H : Hp) (l : List UInt8) (o : Own) (t : TypeId) : Prop := l = [] ∨ ∃ b e k, o = .tok b ∧ H b = some (.grow e .u8 k) ∧ l.length ≤ k ∧ P.underlying t = some (.pointer e) ∧ P.cellsOf e = 1
def wDat (P : Program) (ts : List TypeId) (xs : List AVal) (H : Hp) [K : T2] : Prop := match ts, xs with
  | [t, t2], [.dat l o, .int .i64 n] => n = l.length ∧ l.length ≤ 9223372036854775807 ∧ DatOk P H l o t ∧ K.run (.str l) H
  | _, _ => False

/-- What a new row's elements are. -/
structure MadeOk (P : Program) (t : TypeId) (ty : Ty) : Prop where
  ex : ∃ e i z v, P.underlying t = some (.slice e) ∧ P.info? e = some i ∧ i.zero = some z ∧ z.cells = #[v] ∧ ∀ (w : World) (S : Seal), RepD w S ty ty.dflt [v]
/-- What a slot holds that is called: a function, what it captured. -/
def wClo (σ : Env) : Callee → Option (FuncId × List AVal)
  | .value (.tmp t) => match σ.get t with
    | some (.fn g cs) => some (g, cs)
    | _ => none
  | _ => none
def wCall (P : Program) (B0 : Base) (c : Call) (tt : TypeId) (σ : Env) (H : Hp) [K : T2] : Prop :=
  match evArgs P σ c.argTypes.toList c.args.toList with
  | none => False
  | some xs => match c.callee with
    | .builtin .len => match c.argTypes.toList, xs with
      | t :: _, [x] => @wLen P t x ⟨fun v => K.run v H⟩
      | _, _ => False
    | .builtin .append => match c.argTypes.toList, xs with
      | [t, t2], [s, x] => wAppend P t t2 s x H
      | _, _ => False
    | .builtin .clear => match c.argTypes.toList, xs with
      | [t], [.rt b sz i n] => match tyOf P 8 t, H b with
        | some (.sl ty), some (.row e ty' l) => ty' = ty ∧ ty'.size = 1 ∧ sz = 1 ∧ MadeOk P t ty' ∧ i + n ≤ l.length ∧ K.run (.tup []) (H.set b (some (.row e ty' (l.take i ++ List.replicate n ty'.dflt ++ l.drop (i + n)))))
        | _, _ => False
      | _, _ => False
    | .builtin .min => match xs with
      | x :: r => @wv (foldA minA (some x) r) ⟨fun v => K.run v H⟩
      | _ => False
    | .builtin .max => match xs with
      | x :: r => @wv (foldA maxA (some x) r) ⟨fun v => K.run v H⟩
      | _ => False
    | .builtin .unsafeSliceData => match xs with
      | [.sl .u8 l (.tok b)] => PtrOk P tt ∧ K.run (.dat l (.tok b)) H
      | [.sl .u8 [] .nil] => K.run (.dat [] .nil) H
      | _ => False
    | .builtin .unsafeString => wDat P c.argTypes.toList xs H
    | .value (.func g) => wFn P B0 g xs H
    | _ => match wClo σ c.callee with
      | some p => wFn P B0 p.1 (xs ++ p.2) H
      | none => False

/-- A cut of a string, or of a slice. -/
def wSlice (P : Program) (t : TypeId) (x : AVal) (lo hi mx : Option Int) [k : T1] : Prop :=
  match x with
  | .str s => tyOf P 8 t = some .str ∧ mx = none ∧ 0 ≤ lo.getD 0 ∧ lo.getD 0 ≤ hi.getD s.length ∧ hi.getD s.length ≤ s.length ∧ k.run (.str ((s.take (hi.getD s.length).toNat).drop (lo.getD 0).toNat))
  | .sl ty l o => elemOk P t ty ∧ (mx = none ∨ mx = some (hi.getD l.length)) ∧ (mx = none ∨ hi ≠ none) ∧ 0 ≤ lo.getD 0 ∧ lo.getD 0 ≤ hi.getD l.length ∧ hi.getD l.length ≤ l.length ∧
      k.run (.sl ty ((l.take (hi.getD l.length).toNat).drop (lo.getD 0).toNat) (if mx.isSome then .exact else if lo = none ∧ hi = none then o else .no))
  | .rs b sz n => match tyOf P 8 t, lo, hi, mx with
    | some (.sl ty), none, some h, none => elemOk P t ty ∧ ty.size = sz ∧ 0 ≤ h ∧ h ≤ n ∧ k.run (.rs b sz h.toNat)
    | some (.sl ty), some i, none, none => elemOk P t ty ∧ ty.size = sz ∧ 0 ≤ i ∧ i < n ∧ k.run (.rt b sz i.toNat (n - i.toNat))
    | _, _, _, _ => False
  | _ => False

def optI (P : Program) (σ : Env) : Option Operand → Option (Option Int)
  | none => some none
  | some x => ((ev P σ 0 x).bind asI).map some

/-- The cells of a type's zero value. -/
def zerosA : Ty → List AVal
  | .bool => [.bool false]
  | .u8 => [.u8 0]
  | .int k => [.int k 0]
  | .str => [.str []]
  | .ptr => [.ptr none]
  | .sl t => [.sl t [] .nil]
  | .nil => []
  | .cons t r => zerosA t ++ zerosA r
def zerosV : Ty → List Value
  | .bool => [.bool false]
  | .u8 => [.int .u8 0]
  | .int k => [.int k 0]
  | .str => [strV []]
  | .ptr => [.pointer none]
  | .sl _ => [.slice none 0 0]
  | .nil => []
  | .cons t r => zerosV t ++ zerosV r

/-- A struct's fields: where each begins, and how many cells it has. -/
structure StructOk (P : Program) (t : TypeId) (ty : Ty) (pl : List (Nat × Nat)) : Prop where
  ex : ∃ fs i z, P.underlying t = some (.struct fs) ∧ P.info? t = some i ∧ i.zero = some z ∧ z.cells.toList = zerosV ty ∧ ∀ w, (fs.mapM fun f => do pure (f.offset, ← sizeOf f.type) : Sem (Array (Nat × Nat))).run P w = .ok pl.toArray w

def AVal.isU : AVal → Bool
  | .undef => true
  | _ => false

/-- Where a struct's fields begin, and how many cells each has. -/
def plOf (P : Program) (t : TypeId) : List (Nat × Nat) := match P.underlying t with
  | some (.struct fs) => fs.toList.map fun f => (f.offset, P.cellsOf f.type)
  | _ => []

def fillA (pl : List (Nat × Nat)) : List AVal → List (Nat × AVal) → Option (List AVal)
  | cs, [] => some cs
  | cs, (i, v) :: r => match pl[i]? with
    | none => none
    | some q => if v.isU = true ∨ v.cellsA.length ≠ q.2 ∨ q.1 + v.cellsA.length > cs.length then none else fillA pl (cs.take q.1 ++ v.cellsA ++ cs.drop (q.1 + v.cellsA.length)) r

def evParts (P : Program) (σ : Env) : List (Nat × Operand) → Option (List (Nat × AVal))
  | [] => some []
  | (i, x) :: r => (ev P σ 0 x).bind fun v => (evParts P σ r).map ((i, v) :: ·)

/-- The cells of memory that the call owns. -/
def ownA (H : Hp) : AVal → Option (Nat × Nat × List AVal × TypeId)
  | .ptr (some ⟨b, off, none⟩) => match H b with
    | some (.cells ty vs) => some (b, off, vs, ty)
    | _ => none
  | _ => none
def AVal.one : AVal → Bool
  | .agg _ | .tup _ | .undef | .dat _ _ => false
  | _ => true
def oneAll : List AVal → Bool
  | [] => true
  | v :: r => if v.one = true then oneAll r else false
def storeA (vs : List AVal) (off : Nat) (cs : List AVal) : Option (List AVal) :=
  if off + cs.length ≤ vs.length then (if oneAll cs = true then some (vs.take off ++ cs ++ vs.drop (off + cs.length)) else none) else none

/-- A type's zero value. -/
structure ZeroOk (P : Program) (t : TypeId) (ty : Ty) : Prop where
  ex : ∃ i z, P.info? t = some i ∧ i.zero = some z ∧ z.cells.toList = zerosV ty

/-- A rune within a string, and how many bytes it has. -/
def decU (s : List UInt8) (pos : Nat) : Nat × Nat := Utf8.decode ⟨s.toArray⟩ pos

/-- '==' of structs: cell by cell. -/
def eqL : List Ty → List AVal → List AVal → Option Bool
  | [], [], [] => some true
  | .int _ :: ts, .int k x :: r, .int k' y :: r' => if k = k' then (eqL ts r r').map fun b => (x == y) && b else none
  | .u8 :: ts, .u8 x :: r, .u8 y :: r' => (eqL ts r r').map fun b => (x == y) && b
  | .str :: ts, .str x :: r, .str y :: r' => (eqL ts r r').map fun b => (x == y) && b
  | .bool :: ts, .bool x :: r, .bool y :: r' => (eqL ts r r').map fun b => (x == y) && b
  | _, _, _ => none
/-- A struct's fields, if each is one cell. -/
def Ty.flat : Ty → List Ty
  | .cons t r => t :: Ty.flat r
  | _ => []
/-- Are a struct's fields one cell each, none an interface, in order? -/
def eqFlat (P : Program) : Nat → List Field → List Ty → Bool
  | _, [], [] => true
  | k, f :: fs, t :: ts => f.name != "_" && f.offset == k && (match P.underlying f.type, t with
    | some (.int _), .int _ | some (.int _), .u8 | some .string, .str | some .bool, .bool => true
    | _, _ => false) && eqFlat P (k + 1) fs ts
  | _, _, _ => false
structure EqOk (P : Program) (t : TypeId) (ts : List Ty) : Prop where
  ex : ∃ fs, P.underlying t = some (.struct fs) ∧ P.stoodInHeld t = false ∧ P.eqGuardType P.depth t = false ∧ eqFlat P 0 fs.toList ts = true

def eqOp (op : BinOp) (b : Bool) : Option AVal :=
  match op with
  | .eql => some (.bool b)
  | .neq => some (.bool (!b))
  | _ => none
/-- Are two pointers the same, as far as may be told? -/
def eqP : Option Addr → Option Addr → Option Bool
  | none, none => some true
  | none, some _ => some false
  | some _, none => some false
  | some a, some b => if a = b then some true else none
/-- A pointer to a row's cell may become an unsafe.Pointer, or come back of one. -/
inductive UnsOk (P : Program) (s d : TypeId) (ty : TypeId) (off n : Nat) : Prop
  | to (t : TypeId) (j : TypeInfo) (hs : P.underlying s = some (.pointer t)) (hd : P.underlying d = some .unsafePointer) (hj : P.info? t = some j) (h0 : j.size ≠ 0) (ho : off < n)
  | from (u : TypeId) (j : TypeInfo) (hs : P.underlying s = some .unsafePointer) (hd : P.underlying d = some (.pointer u)) (hj : P.info? u = some j) (hl : liesAt P P.depth ty (n / P.cellsOf ty) off u 1 = true)
/-- An operator between two structs, or two values of one cell. -/
def binAny (P : Program) (op : BinOp) (t : TypeId) (a b : AVal) [K : T1] : Prop :=
  match a, b with
  | .agg cs, .agg ds => match tyOf P 8 t with
    | some ty => EqOk P t ty.flat ∧ @wv ((eqL ty.flat cs ds).bind (eqOp op)) ⟨K.run⟩
    | none => False
  | .ptr p, .ptr q => PtrOk P t ∧ @wv ((eqP p q).bind (eqOp op)) ⟨K.run⟩
  | _, _ => (match a with | .bool _ => tyOf P 8 t = some .bool | _ => True) ∧ @wv (binA op a b) ⟨K.run⟩

/-- Is it the nil slice's constant? -/
def nilS : Value → Bool
  | .slice none _ _ => true
  | _ => false
def isNilC : Operand → Bool
  | .const v => nilS v
  | .tmp _ => false
  | .func _ => false
  | .global _ => false
/-- A slice held against nil. -/
def nilCmp (P : Program) (op : BinOp) (t : TypeId) (a : AVal) [K : T1] : Prop := match a with
  | .rs _ _ _ => (match tyOf P 8 t with | some (.sl _) => True | _ => False) ∧ @wv (eqOp op false) ⟨K.run⟩
  | .sl ty l o => tyOf P 8 t = some (.sl ty) ∧ ∀ b : Bool, (b = true → l = []) → @wv (eqOp op b) ⟨K.run⟩
  | _ => False

/-- An array's length, and its elements' type. -/
def arrOf (P : Program) (t : TypeId) : Option (Nat × TypeId) := match P.underlying t with
  | some (.array n e) => some (n, e)
  | _ => none
/-- An array of one-cell elements. -/
structure ArrOk (P : Program) (t e : TypeId) (n : Nat) (ty : Ty) : Prop where
  ex : ∃ i z v, P.info? t = some i ∧ i.zero = some z ∧ z.cells.toList = List.replicate n v ∧ ∀ (w : World) (S : Seal), RepD w S ty ty.dflt [v]
/-- How many cells an element has. -/
structure ElSz (P : Program) (e : TypeId) (ty : Ty) : Prop where
  ex : ∃ j, P.info? e = some j ∧ j.size = ty.size

/-- A conversion that makes memory, or marks it; else none. -/
def convM (P : Program) (B0 : Base) (s d : TypeId) (a : AVal) (H : Hp) [K : T2] : Prop :=
  match tyOf P 8 d, a with
  | some (.sl .u8), .str l => tyOf P 8 s = some .str ∧ K.run (.sl .u8 l .no) H
  | some (.sl .u8), .sl .u8 l o => s = d ∧ l ≠ [] ∧ o = .lit B0 ∧ K.run (.sl .u8 l .exact) H
  | some .str, .rs b sz n => match tyOf P 8 s, H b with
    | some (.sl (.int .i32)), some (.row _ (.int .i32) l) => sz = 1 ∧ n = l.length ∧ K.run (.str ((show List Int from l).flatMap runeBytes)) H
    | _, _ => False
  | _, .ptr (some ⟨b, off, none⟩) => match H b with
    | some (.cells ty vs) => UnsOk P s d ty off vs.length ∧ K.run (.ptr (some ⟨b, off, none⟩)) H
    | _ => False
  | _, _ => tyOf P 8 s ≠ none ∧ @wv (convA (tyOf P 8 s) (tyOf P 8 d) a) ⟨fun v => K.run v H⟩

/-! ### maps of texts and numbers -/
structure MapOk (P : Program) (t : TypeId) : Prop where
  ex : ∃ kt et i, P.underlying t = some (.map kt et) ∧ P.underlying kt = some .string ∧ P.info? et = some i ∧ i.zero = some (.int .i64 0)
def findS : List (List UInt8 × Int × Nat) → List UInt8 → Nat → Option (Nat × Int × Nat)
  | [], _, _ => none
  | e :: r, s, i => if s = e.1 then some (i, e.2.1, e.2.2) else findS r s (i + 1)
def lookS (es : List (List UInt8 × Int × Nat)) (s : List UInt8) : Int := ((findS es s 0).map (·.2.1)).getD 0
/-- An entry's place is made, or found. -/
def entS (es : List (List UInt8 × Int × Nat)) (k : Nat) (s : List UInt8) : Int × Nat × List (List UInt8 × Int × Nat) × Nat := match findS es s 0 with
  | some q => (q.2.1, q.2.2, es, k)
  | none => (0, k, es ++ [(s, 0, k)], k + 1)
/-- A text's number is set. -/
def updS : List (List UInt8 × Int × Nat) → Nat → List UInt8 → Int → List (List UInt8 × Int × Nat)
  | [], k, s, v => [(s, v, k)]
  | e :: r, k, s, v => if s = e.1 then (s, v, e.2.2) :: r else e :: updS r k s v
def updK (es : List (List UInt8 × Int × Nat)) (k : Nat) (s : List UInt8) : Nat := match findS es s 0 with
  | some _ => k
  | none => k + 1
/-- An entry's value is set, by its stamp. -/
def storeS : List (List UInt8 × Int × Nat) → Int → Int → Option (List (List UInt8 × Int × Nat))
  | [], _, _ => none
  | e :: r, st, v => if (e.2.2 : Int) = st then some ((e.1, v, e.2.2) :: r) else (storeS r st v).map (e :: ·)

def wop (P : Program) (B0 : Base) (o : Oper) (σ : Env) (H : Hp) [K : T2] : Prop :=
  match o.op with
  | .move x => @wv (ev P σ o.type x) ⟨fun v => K.run v H⟩
  | .assign x => @wv (ev P σ o.type x) ⟨fun v => K.run v H⟩
  | .pick c x y => @wv (ev P σ o.type c) ⟨fun
    | .bool b => if b then @wv (ev P σ o.type x) ⟨fun v => K.run v H⟩ else @wv (ev P σ o.type y) ⟨fun v => K.run v H⟩
    | _ => False⟩
  | .binOp op t x y t' => @wv (ev P σ t x) ⟨fun a => if isNilC y = true then @nilCmp P op t a ⟨fun v => K.run v H⟩ else @wv (ev P σ t' y) ⟨fun b => @binAny P op t a b ⟨fun v => K.run v H⟩⟩⟩
  | .unOp op t x => @wv (ev P σ t x) ⟨fun a => @wv (unA op a) ⟨fun v => K.run v H⟩⟩
  | .convert s d x => @wv (ev P σ s x) ⟨fun a => convM P B0 s d a H⟩
  | .alloc t => match tyOf P 8 t with
    | some ty => ZeroOk P t ty ∧ ∀ b, H b = none → K.run (.ptr (some ⟨b, 0, none⟩)) (H.set b (some (.cells t (zerosA ty))))
    | none => match arrOf P t with
      | some (n, e) => match tyOf P 8 e with
        | some ty => ArrOk P t e n ty ∧ ∀ b, H b = none → K.run (.ptr (some ⟨b, 0, none⟩)) (H.set b (some (.row t ty (List.replicate n ty.dflt))))
        | none => False
      | none => False
  | .box t x => @wv (ev P σ t x) ⟨fun v => v.isU = false ∧ ∀ b, H b = none → K.run (.ptr (some ⟨b, 0, none⟩)) (H.set b (some (.cells t v.cellsA)))⟩
  | .store t x y => @wv (ev P σ t x) ⟨fun p => @wv (ev P σ t y) ⟨fun v => match p with
    | .ra b sz i off => match H b, ldInfo P t with
      | some (.row e ty l), some r => ty.size = sz ∧ i < l.length ∧ v.cellsA.length = r.2 ∧ match (storeA (encs ty (l.getD i ty.dflt)) off v.cellsA).bind (decs ty) with
        | some (x, []) => K.run .undef (H.set b (some (.row e ty (l.set i x))))
        | _ => False
      | _, _ => False
    | p => match ownA H p with
      | some q => match ldInfo P t with
        | some r => v.cellsA.length = r.2 ∧ match storeA q.2.2.1 q.2.1 v.cellsA with
          | some cs => K.run .undef (H.set q.1 (some (.cells q.2.2.2 cs)))
          | none => False
        | none => False
      | none => False⟩⟩
  | .nilCheck x => @wv (ev P σ 0 x) ⟨fun
    | .ptr (some a) => K.run (.ptr (some a)) H
    | .ea t l i o => K.run (.ea t l i o) H
    | _ => False⟩
  | .range t x => @wv (ev P σ t x) ⟨fun
    | .str s => tyOf P 8 t = some .str ∧ ∀ b, H b = none → K.run (.ptr (some ⟨b, 0, none⟩)) (H.set b (some (.iter s 0)))
    | _ => False⟩
  | .next it str => @wv (ev P σ 0 it) ⟨fun
    | .ptr (some ⟨b, 0, none⟩) => match str, H b with
      | true, some (.iter s pos) => @gate (some (decide (pos < s.length))) true ⟨K.run (.tup [.bool true, .int .i64 pos, .int .i32 (decU s pos).1]) (H.set b (some (.iter s (pos + (decU s pos).2))))⟩ ⟨K.run (.tup [.bool false]) H⟩
      | _, _ => False
    | _ => False⟩
  | .makeSlice t l c => match l with
    | .const _ => @wI (ev P σ 0 l) ⟨fun n => @wI (ev P σ 0 c) ⟨fun m => match tyOf P 8 t with
      | some (.sl ty) => AppE P t ty ∧ n = 0 ∧ 0 ≤ m ∧ elBytes P t * m ≤ 140737488355328 ∧ m ≤ 9223372036854775807 ∧ ∀ b, H b = none → K.run (.sl ty [] (.tok b)) (H.set b (some (.grow (elTy P t) ty 0)))
      | _ => False⟩⟩
    | _ => @wI (ev P σ 0 l) ⟨fun n => @wI (ev P σ 0 c) ⟨fun m => match tyOf P 8 t with
      | some (.sl ty) => AppE P t ty ∧ MadeOk P t ty ∧ 0 ≤ n ∧ n ≤ m ∧ elBytes P t * m ≤ 140737488355328 ∧ m ≤ 9223372036854775807 ∧ ∀ b, H b = none → K.run (.rs b ty.size n.toNat) (H.set b (some (.row (elTy P t) ty (List.replicate n.toNat ty.dflt))))
      | _ => False⟩⟩
  | .extract x i => @wv (ev P σ 0 x) ⟨fun
    | .tup vs => @wv vs[i]? ⟨fun v => K.run v H⟩
    | _ => False⟩
  | .index t x i => @wv (ev P σ t x) ⟨fun
    | .str s => @wI (ev P σ 0 i) ⟨fun n => tyOf P 8 t = some .str ∧ 0 ≤ n ∧ n < s.length ∧ K.run (.u8 (s.getD n.toNat 0)) H⟩
    | _ => False⟩
  | .indexAddr t x i => @wv (ev P σ t x) ⟨fun
    | .sl ty l _ => @wI (ev P σ 0 i) ⟨fun n => elemOk P t ty ∧ 0 ≤ n ∧ n < l.length ∧ K.run (.ea ty l n.toNat 0) H⟩
    | .rs b sz m => @wI (ev P σ 0 i) ⟨fun n => match tyOf P 8 t with
      | some (.sl ty) => elemOk P t ty ∧ ty.size = sz ∧ 0 ≤ n ∧ n < m ∧ K.run (.ra b sz n.toNat 0) H
      | _ => False⟩
    | .ptr (some ⟨b, 0, none⟩) => @wI (ev P σ 0 i) ⟨fun n => match arrOf P t, H b with
      | some (m, e), some (.row _ ty l) => ElSz P e ty ∧ l.length = m ∧ 0 ≤ n ∧ n < m ∧ K.run (.ra b ty.size n.toNat 0) H
      | _, _ => False⟩
    | _ => False⟩
  | .load t x => @wv (ev P σ t x) ⟨fun
    | .ea ty l i off => match ldInfo P t with
      | some q => @wv (loadA q (encs ty (l.getD i ty.dflt)) off) ⟨fun v => K.run v H⟩
      | none => False
    | .ra b sz i off => match H b, ldInfo P t with
      | some (.row _ ty l), some q => ty.size = sz ∧ i < l.length ∧ @wv (loadA q (encs ty (l.getD i ty.dflt)) off) ⟨fun v => K.run v H⟩
      | _, _ => False
    | .ptr a => match ownA H (.ptr a), ldInfo P t with
      | some q, some r => @wv (loadA r q.2.2.1 q.2.1) ⟨fun v => K.run v H⟩
      | _, _ => False
    | _ => False⟩
  | .fieldAddr s x f => @wv (ev P σ s x) ⟨fun
    | .ea ty l i off => match fdInfo P s f with
      | some q => K.run (.ea ty l i (off + q.1)) H
      | none => False
    | .ra b sz i off => match fdInfo P s f with
      | some q => K.run (.ra b sz i (off + q.1)) H
      | none => False
    | .ptr (some ⟨b, off, none⟩) => match fdInfo P s f with
      | some q => K.run (.ptr (some ⟨b, off + q.1, none⟩)) H
      | none => False
    | _ => False⟩
  | .field s x f => @wv (ev P σ s x) ⟨fun
    | .agg cs => match fdInfo P s f with
      | some q => match ldInfo P q.2 with
        | some r => @wv (loadA r cs q.1) ⟨fun v => K.run v H⟩
        | none => False
      | none => False
    | _ => False⟩
  | .build t parts => match evParts P σ parts.toList with
    | some ps => match tyOf P 8 t with
      | some ty => StructOk P t ty (plOf P t) ∧ @wv ((fillA (plOf P t) (zerosA ty) ps).map .agg) ⟨fun v => K.run v H⟩
      | none => False
    | none => False
  | .buildSlice t len parts => match inOrder 0 parts.toList with
    | some xs => match tyOf P 8 t with
      | some (.sl ty) => match (evArgs P σ [] xs).bind (decAll ty) with
        | some l => elemOk P t ty ∧ AppE P t ty ∧ len = xs.length ∧ len * ty.size ≤ 16777216 ∧ K.run (.sl ty l (.lit B0)) H
        | none => False
      | _ => False
    | none => False
  | .slice t x lo hi mx => @wv (ev P σ t x) ⟨fun a => match optI P σ lo, optI P σ hi, optI P σ mx with
    | some l, some h, some m => @wSlice P t a l h m ⟨fun v => K.run v H⟩
    | _, _, _ => False⟩
  | .call c => wCall P B0 c o.type σ H
  | .makeMap t r => match r with
    | none => ∀ b, H b = none → K.run (.map b) (H.set b (some (.smap [] 0)))
    | some _ => False
  | .lookup t x y ok => @wv (ev P σ t x) ⟨fun m => @wv (ev P σ 0 y) ⟨fun s => match ok, m, s with
    | false, .map b, .str s => match H b with
      | some (.smap es k) => MapOk P t ∧ K.run (.int .i64 (lookS es s)) H
      | _ => False
    | _, _, _ => False⟩⟩
  | .mapEntry t x y => @wv (ev P σ t x) ⟨fun m => @wv (ev P σ 0 y) ⟨fun s => match m, s with
    | .map b, .str s => match H b with
      | some (.smap es k) => MapOk P t ∧ K.run (.tup [.int .i64 (entS es k s).1, .int .i64 (entS es k s).2.1]) (H.set b (some (.smap (entS es k s).2.2.1 (entS es k s).2.2.2)))
      | _ => False
    | _, _ => False⟩⟩
  | .entryStore t x y z => @wv (ev P σ t x) ⟨fun m => @wv (ev P σ 0 y) ⟨fun s => @wv (ev P σ 0 z) ⟨fun v => match m, s, v with
    | .map b, .int .i64 st, .int .i64 v => match H b with
      | some (.smap es k) => match storeS es st v with
        | some es' => K.run .undef (H.set b (some (.smap es' k)))
        | none => False
      | _ => False
    | _, _, _ => False⟩⟩⟩
  | .mapUpdate t x y z => @wv (ev P σ t x) ⟨fun m => @wv (ev P σ 0 y) ⟨fun s => @wv (ev P σ 0 z) ⟨fun v => match m, s, v with
    | .map b, .str s, .int .i64 v => match H b with
      | some (.smap es k) => MapOk P t ∧ K.run .undef (H.set b (some (.smap (updS es k s v) (updK es k s))))
      | _ => False
    | _, _, _ => False⟩⟩⟩
  | .makeFunc fn first caps => match fn, first.toList, evArgs P σ [] caps.toList with
    | .func f, [], some cs => K.run (.fn f cs) H
    | _, _, _ => False
  | _ => False

attribute [irreducible] newsA wAppend wFn gate wv wI

end Go.Sv
