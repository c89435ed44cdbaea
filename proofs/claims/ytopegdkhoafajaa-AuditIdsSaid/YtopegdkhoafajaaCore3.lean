/-
  Memory: a row that is written in its spare places, or copied; what the world keeps. Own work. Nothing here is trusted.
-/
import Derived.Test.YtopegdkhoafajaaCore2
import Derived.Laws.Append
import Derived.Laws.AppendOwn
import Derived.Lib.AppendStr
namespace Go.Sv
set_option linter.unusedSimpArgs false
set_option linter.unusedVariables false

/-! ### storing a row of cells -/
def wr (arr : Array Value) (off : Nat) : List Value → Array Value
  | [] => arr
  | v :: vs => wr (arr.setIfInBounds off v) (off + 1) vs

theorem wr_size : ∀ (vs : List Value) (arr : Array Value) (off : Nat), (wr arr off vs).size = arr.size
  | [], _, _ => rfl
  | v :: vs, arr, off => by simp [wr, wr_size vs]

theorem wr_get : ∀ (vs : List Value) (arr : Array Value) (off j : Nat), off + vs.length ≤ arr.size →
    (wr arr off vs)[j]? = if off ≤ j ∧ j < off + vs.length then vs[j - off]? else arr[j]?
  | [], arr, off, j, _ => by
    simp only [wr, List.length_nil, Nat.add_zero]
    rw [if_neg (by omega)]
  | v :: vs, arr, off, j, h => by
    simp only [List.length_cons] at h
    simp only [wr]
    rw [wr_get vs _ _ _ (by simp; omega)]
    simp only [List.length_cons]
    by_cases h1 : j = off
    · subst h1
      rw [if_neg (by omega), if_pos (by omega), Array.getElem?_setIfInBounds_self_of_lt (by omega)]
      simp
    · by_cases h2 : off + 1 ≤ j ∧ j < off + 1 + vs.length
      · rw [if_pos h2, if_pos (by omega)]
        rw [show j - off = (j - (off + 1)) + 1 by omega, List.getElem?_cons_succ]
      · rw [if_neg h2, if_neg (by omega), Array.getElem?_setIfInBounds_ne (by omega)]

def World.withRow (w : World) (b : Nat) (arr : Array Value) (ty : TypeId) (fz : Nat × Nat) : World := { w with heap := w.heap.setIfInBounds b (.cells arr ty fz) }

theorem modify_eq_set {α : Type} (xs : Array α) (i : Nat) (f : α → α) (x : α) (h : xs[i]? = some x) : xs.modify i f = xs.setIfInBounds i (f x) := by
  apply Array.ext_getElem?
  intro j
  rw [Array.getElem?_modify, Array.getElem?_setIfInBounds]
  by_cases hj : i = j
  · subst hj
    have : i < xs.size := by
      rcases Nat.lt_or_ge i xs.size with h' | h'
      · exact h'
      · rw [Array.getElem?_eq_none h'] at h; simp at h
    rw [Array.getElem?_eq_getElem this] at h
    simp at h
    simp [h, this]
  · simp [hj]

theorem setCell_withRow {w : World} {b off : Nat} {arr : Array Value} {ty : TypeId} {fz : Nat × Nat} {v : Value} (h : w.heap[b]? = some (.cells arr ty fz)) :
    w.setCell ⟨b, off, none⟩ v = World.withRow w b (arr.setIfInBounds off v) ty fz := by
  unfold World.setCell World.withRow
  congr 1
  rw [modify_eq_set _ _ _ _ h]
  simp

theorem withRow_heap {w : World} {b : Nat} {arr arr' : Array Value} {ty ty' : TypeId} {fz fz' : Nat × Nat} (h : w.heap[b]? = some (.cells arr ty fz)) :
    (World.withRow w b arr' ty' fz').heap[b]? = some (.cells arr' ty' fz') := by
  have : b < w.heap.size := by
    rcases Nat.lt_or_ge b w.heap.size with h' | h'
    · exact h'
    · rw [Array.getElem?_eq_none h'] at h; simp at h
  simp [World.withRow, this]

theorem withRow_other {w : World} {b c : Nat} {arr' : Array Value} {ty' : TypeId} {fz' : Nat × Nat} (h : c ≠ b) : (World.withRow w b arr' ty' fz').heap[c]? = w.heap[c]? := by
  simp [World.withRow, Array.getElem?_setIfInBounds_ne (Ne.symm h)]

theorem withRow_withRow {w : World} {b : Nat} {a1 a2 : Array Value} {t1 t2 : TypeId} {f1 f2 : Nat × Nat} : World.withRow (World.withRow w b a1 t1 f1) b a2 t2 f2 = World.withRow w b a2 t2 f2 := by
  simp [World.withRow, Array.setIfInBounds_setIfInBounds]

theorem frozen_of_heap {w : World} {b off : Nat} {arr : Array Value} {ty : TypeId} {fz : Nat × Nat} (h : w.heap[b]? = some (.cells arr ty fz)) : w.frozen? ⟨b, off, none⟩ = (decide (fz.1 ≤ off) && decide (off < fz.2)) := by
  simp [World.frozen?, h]

theorem cell_of_heap {w : World} {b off : Nat} {arr : Array Value} {ty : TypeId} {fz : Nat × Nat} (h : w.heap[b]? = some (.cells arr ty fz)) : w.cell? ⟨b, off, none⟩ = arr[off]? := by
  simp [World.cell?, h]

theorem add_none (b off i : Nat) : (⟨b, off, none⟩ : Addr).add i = ⟨b, off + i, none⟩ := by
  unfold Addr.add
  split
  · simp_all
  · rfl

theorem run_storeCells_wr (P : Program) (b off : Nat) (ty : TypeId) (fz : Nat × Nat) : ∀ (vs : List Value) (i : Nat) (arr : Array Value) (w : World), w.heap[b]? = some (.cells arr ty fz) → off + i + vs.length ≤ arr.size →
    (∀ v ∈ vs, v.oneCell' = true) → (∀ j, off + i ≤ j → j < off + i + vs.length → w.frozen? ⟨b, j, none⟩ = false) →
    (storeCells ⟨b, off, none⟩ vs i).run P w = .ok () (World.withRow w b (wr arr (off + i) vs) ty fz)
  | [], i, arr, w, hb, _, _, _ => by
    simp only [storeCells, wr]
    have : World.withRow w b arr ty fz = w := by
      unfold World.withRow
      congr 1
      apply Array.ext_getElem?
      intro j
      rw [Array.getElem?_setIfInBounds]
      split
      · rename_i h; subst h; split
        · exact hb.symm
        · rename_i h'; simp at h'; rw [Array.getElem?_eq_none h']
      · rfl
    rw [this]
    rfl
  | v :: vs, i, arr, w, hb, hl, h1, hf => by
    simp only [List.length_cons] at hl hf
    have hc : w.cell? ⟨b, off + i, none⟩ = some arr[off + i] := by rw [cell_of_heap hb]; exact Array.getElem?_eq_getElem (by omega)
    have hst : (store ((⟨b, off, none⟩ : Addr).add i) v).run P w = .ok () (World.withRow w b (arr.setIfInBounds (off + i) v) ty fz) := by
      rw [add_none, run_store P w _ v _ (h1 v (by simp)), hc]
      simp only [hf (off + i) (by omega) (by omega), setCell_withRow hb, Bool.false_eq_true, if_false]
    have hb' : (World.withRow w b (arr.setIfInBounds (off + i) v) ty fz).heap[b]? = some (.cells (arr.setIfInBounds (off + i) v) ty fz) := withRow_heap hb
    have ih := run_storeCells_wr P b off ty fz vs (i + 1) _ _ hb' (by simp; omega) (fun x hx => h1 x (by simp [hx]))
      (fun j h1 h2 => by
        have := hf j (by omega) (by omega)
        rw [frozen_of_heap hb] at this
        rw [frozen_of_heap hb']
        exact this)
    simp only [storeCells, Sem.run_bind, hst, Result.andThen_ok, ih, withRow_withRow, wr, Nat.add_assoc]

/-! ### append, at the model -/
/-- What is appended: so many elements, these cells, in whatever world has the cells. -/
def Gives (P : Program) (w : World) (size : Nat) (t2 : TypeId) (x : Value) (n : Nat) (news : List Value) : Prop :=
  news.length = n * size ∧ (Builtin.lenOf x).run P w = .ok n w ∧ (∃ d, P.underlying t2 = some d ∧ (∀ k, d ≠ .int k)) ∧
  ∀ w' : World, (∀ a, w'.cell? a = w.cell? a) → (Builtin.firstCells size n x).run P w' = .ok news.toArray w'

section
variable {P : Program} {w : World} {t t2 ty e : TypeId} {i : TypeInfo}
theorem run_append_in (ht : P.underlying t = some (.slice e)) (hi : P.info? e = some i) (base : Option Addr) (sLen sCap n : Nat) (x : Value) (news : List Value) (hx : Gives P w i.size t2 x n news) (hn : sLen + n ≤ sCap) :
    (Builtin.append_ #[t, t2] ty #[.slice base sLen sCap, x]).run P w =
      ((match base with | some a => storeCells (a.add (sLen * i.size)) news | none => pure () : Sem Unit).run P w).andThen fun _ w' => .ok (.slice base (sLen + n) sCap) w' := by
  obtain ⟨_, h1, ⟨d, hd, hd'⟩, h3⟩ := hx
  have hm : (match d with | .int _ => true | _ => false) = false := by
    cases d <;> first | rfl | exact absurd rfl (hd' _)
  have h3' := h3 w (fun _ => rfl)
  cases base <;> simp [Builtin.append_, run_underlying ht, run_underlying hd, sizeOf, typeInfo, hi, hm, h1, hn, h3']

theorem run_append_out (ht : P.underlying t = some (.slice e)) (hi : P.info? e = some i) {z : Value} (hz : i.zero = some z) (base : Option Addr) (sLen sCap n : Nat) (x : Value) (news olds : List Value) (hx : Gives P w i.size t2 x n news) (hn : sCap < sLen + n)
    (hold : (Builtin.firstCells i.size sLen (.slice base sLen sCap)).run P w.drew = .ok olds.toArray w.drew)
    (hb : (sLen + n) * i.bytes ≤ 140737488355328) (h63 : sLen + n ≤ 9223372036854775807) :
    (Builtin.append_ #[t, t2] ty #[.slice base sLen sCap, x]).run P w =
      .ok (.slice (some ⟨w.heap.size, 0, none⟩) (sLen + n) (grownCap w (sLen + n) sCap e))
        (w.drew.alloc (.cells (olds.toArray ++ news.toArray ++ Builtin.zeroCells z.cells (grownCap w (sLen + n) sCap e - (sLen + n))) e)) := by
  obtain ⟨_, h1, ⟨d, hd, hd'⟩, h3⟩ := hx
  have hm : (match d with | .int _ => true | _ => false) = false := by
    cases d <;> first | rfl | exact absurd rfl (hd' _)
  have hf := h3 w.drew (fun _ => rfl)
  have hn' : ¬ (sLen + n ≤ sCap) := by omega
  have h63' : ¬ (9223372036854775807 < ((sLen : Int) + (n : Int))) := by omega
  have h48 := growslice_fits (old := sCap) hn hb
  have h48' : ¬ (281474976710656 < Builtin.nextslicecap (sLen + n) sCap * i.bytes) := by omega
  simp [Builtin.append_, run_underlying ht, run_underlying hd, sizeOf, typeInfo, zeroValue, hi, hz, hm, h1, hn', h63', h48', Question.forced, hf, hold, newRow, grownCap]
  congr 2
  apply Array.ext'
  simp [List.append_assoc]
end

/-! ### what stays -/
theorem ObjAt.keep {B0 : Base} {S S' : Seal} {w w' : World} {b : Nat} {o : AObj} (e : Ext B0 S S' w w') (hh : w'.heap[b]? = w.heap[b]?) (hS : S' b = S b) (h : ObjAt w S b o) : ObjAt w' S' b o := by
  cases o with
  | cells ty vs =>
    obtain ⟨arr, h0, h1, h2⟩ := h
    exact ⟨arr, hh.trans h0, hS.trans h1, h2.ext e⟩
  | grow ty t n =>
    obtain ⟨h0, arr, fz, h1, h2, h3⟩ := h
    exact ⟨hS.trans h0, arr, fz, hh.trans h1, h2, h3⟩
  | iter s pos => exact ⟨hS.trans h.1, hh.trans h.2⟩
  | smap es k => exact ⟨hS.trans h.1, hh.trans h.2⟩
  | row ty t l =>
    obtain ⟨h0, arr, h1, cs, rest, h2, h3⟩ := h
    exact ⟨hS.trans h0, arr, hh.trans h1, cs, rest, h2, h3.imp fun _ _ h => RepD.ext e h⟩

theorem lt_of_heap {w : World} {b : Nat} {o : Obj} (h : w.heap[b]? = some o) : b < w.heap.size := by
  rcases Nat.lt_or_ge b w.heap.size with h' | h'
  · exact h'
  · rw [Array.getElem?_eq_none h'] at h; simp at h

def Seal.set (S : Seal) (b n : Nat) : Seal := fun c => if c = b then n else S c

theorem cell_of_other {w w' : World} {b i : Nat} (h : w'.heap[b]? = w.heap[b]?) : w'.cell? ⟨b, i, none⟩ = w.cell? ⟨b, i, none⟩ := by
  simp [World.cell?, h]

theorem shape_of_other {w w' : World} {b : Nat} (h : w'.heap[b]? = w.heap[b]?) : w'.shape? b = w.shape? b := by
  simp [World.shape?, h]

/-- A new block, its first cells sealed; draws ahead of it. -/
theorem Ext.fresh {B0 : Base} {S : Seal} {w w1 : World} {H : Hp} (hi : Inv B0 w S H) (h1 : Ext B0 S S w w1) (hs : w1.heap.size = w.heap.size) (o : Obj) (n : Nat) : Ext B0 S (S.set w.heap.size n) w (w1.alloc o) := by
  have hb : B0 ≤ w1.heap.size := by rw [hs]; exact hi.base
  refine h1.trans ⟨(Go.RowKit.Below.refl _ _).alloc hb o, fun b => ?_, fun b i hb => ?_, fun b x hx => ?_⟩
  · unfold Seal.set
    split
    · rename_i h; subst h; rw [(hi.top _ (Nat.le_refl _)).1]; exact Nat.zero_le _
    · exact Nat.le_refl _
  · have hne : b ≠ w1.heap.size := fun h => by
      subst h
      rw [(hi.top _ (by omega)).1] at hb
      exact absurd hb (by omega)
    apply cell_of_other
    show (w1.heap.push o)[b]? = _
    rw [Array.getElem?_push, if_neg hne]
  · have hlt : b < w1.heap.size := by
      unfold World.shape? at hx
      split at hx
      · rename_i h; exact lt_of_heap h
      · simp at hx
    rw [shape_of_other (w := w1)]
    · exact hx
    · show (w1.heap.push o)[b]? = _
      rw [Array.getElem?_push, if_neg (by omega)]

theorem Inv.fresh {B0 : Base} {S : Seal} {w w1 : World} {H : Hp} (hi : Inv B0 w S H) (h1 : Ext B0 S S w w1) (hs : w1.heap.size = w.heap.size) (hh : ∀ b : Nat, w1.heap[b]? = w.heap[b]?) (o : Obj) (n : Nat) (x : Option AObj)
    (hx : ∀ y, x = some y → ObjAt (w1.alloc o) (S.set w.heap.size n) w.heap.size y) : Inv B0 (w1.alloc o) (S.set w.heap.size n) (H.set w.heap.size x) := by
  have e := Ext.fresh hi h1 hs o n
  refine ⟨by simp; rw [hs]; exact Nat.le_succ_of_le hi.base, fun b hb => ?_, fun b y hy => ?_, hi.tab.ext e⟩
  · simp [hs] at hb
    unfold Seal.set Hp.set
    rw [if_neg (by omega), if_neg (by omega)]
    exact hi.top b (by omega)
  · unfold Hp.set at hy
    split at hy
    · rename_i h; subst h; exact ⟨hi.base, hx y hy⟩
    · rename_i hne
      obtain ⟨k1, k2⟩ := hi.obj b y hy
      refine ⟨k1, k2.keep e ?_ (by unfold Seal.set; rw [if_neg hne])⟩
      rw [← hh b]
      show (w1.heap.push o)[b]? = _
      rw [Array.getElem?_push, if_neg (by rw [hs]; exact hne)]

theorem Ext.drew (B0 : Base) (S : Seal) (w : World) : Ext B0 S S w w.drew := ⟨(Go.RowKit.Below.refl _ _).drew, fun _ => Nat.le_refl _, fun _ _ _ => rfl, fun _ _ h => h⟩

theorem alloc_heap_new (w : World) (o : Obj) : (w.alloc o).heap[w.heap.size]? = some o := by
  show (w.heap.push o)[w.heap.size]? = _
  simp

theorem repD_oneCell {w : World} {S : Seal} : ∀ {t : Ty} {x : t.den} {cs : List Value}, RepD w S t x cs → ∀ v ∈ cs, v.oneCell' = true
  | .bool, _, _, h => by simp only [RepD] at h; subst h; simp [Value.oneCell']
  | .u8, _, _, h => by simp only [RepD] at h; subst h; simp [Value.oneCell']
  | .int _, _, _, h => by simp only [RepD] at h; subst h; simp [Value.oneCell']
  | .str, _, _, h => by simp only [RepD] at h; subst h; simp [Value.oneCell', strV]
  | .ptr, _, _, h => by simp only [RepD] at h; subst h; simp [Value.oneCell']
  | .sl _, _, _, h => by simp only [RepD] at h; obtain ⟨_, _, h, _⟩ := h; subst h; simp [Value.oneCell']
  | .nil, _, _, h => by simp only [RepD] at h; subst h; simp
  | .cons t r, _, _, h => by
    simp only [RepD] at h
    obtain ⟨c1, c2, rfl, h1, h2⟩ := h
    intro v hv
    rcases List.mem_append.1 hv with hv | hv
    · exact repD_oneCell h1 v hv
    · exact repD_oneCell h2 v hv

theorem flat_oneCell {w : World} {S : Seal} {t : Ty} : ∀ {l : List t.den} {cs : List Value}, Flat (RepD w S t) l cs → ∀ v ∈ cs, v.oneCell' = true
  | [], _, h => by simp only [Flat] at h; subst h; simp
  | _ :: _, _, ⟨c, r, h0, h1, h2⟩ => by
    subst h0
    intro v hv
    rcases List.mem_append.1 hv with hv | hv
    · exact repD_oneCell h1 v hv
    · exact flat_oneCell h2 v hv

theorem flat_length {w : World} {S : Seal} {t : Ty} {l : List t.den} {cs : List Value} (h : Flat (RepD w S t) l cs) : cs.length = l.length * t.size := Flat.length (fun _ _ h => h.length) h

/-! ### append -/
def Hp.drop (H : Hp) : Own → Hp
  | .tok b => H.set b none
  | _ => H

/-- May the spare places be written, or are there none? -/
def Apb (H : Hp) (o : Own) (t : Ty) (n : Nat) : Prop := o.isEx = true ∨ ∃ b e, o = .tok b ∧ H b = some (.grow e t n)
/-- A slice type's elements. -/
def elTy (P : Program) (t : TypeId) : TypeId := match P.underlying t with
  | some (.slice e) => e
  | _ => 0
/-- What a row's elements are: as they were, or the slice type's. -/
def RowTy (P : Program) (H : Hp) (o : Own) (t : TypeId) (ty : Ty) (n : Nat) (e : TypeId) : Prop := e = elTy P t ∨ ∃ b, o = .tok b ∧ H b = some (.grow e ty n)

structure AppElem (P : Program) (t : TypeId) (ty : Ty) (bytes : Nat) : Prop where
  ex : ∃ e i z, P.underlying t = some (.slice e) ∧ P.info? e = some i ∧ i.size = ty.size ∧ i.bytes = bytes ∧ i.zero = some z ∧ z.cells.size = ty.size

theorem slAt_first {P : Program} {w w' : World} {S : Seal} {t : Ty} {base : Option Addr} {l : List t.den} {cap : Nat} (h : SlAt w S (RepD w S t) base l) (hc : ∀ a, w'.cell? a = w.cell? a) :
    ∃ olds, Flat (RepD w S t) l olds ∧ (Builtin.firstCells t.size l.length (.slice base l.length cap)).run P w' = .ok olds.toArray w' := by
  rcases h with rfl | ⟨b, off, rfl, cells, h1, h2, h3⟩
  · refine ⟨[], rfl, ?_⟩
    cases base with
    | none => exact run_firstCells_none _ _ _ _ _
    | some a => exact run_firstCells_some w' t.size 0 a _ _ [] (by simp) (by simp)
  · refine ⟨cells, h1, run_firstCells_some w' t.size l.length _ _ _ cells (flat_length h1) (fun j v hj => ?_)⟩
    rw [add_none, hc]
    exact h3 j v hj

theorem append_sound {P : Program} {B0 : Base} {w : World} {S : Seal} {H : Hp} {t t2 tt : TypeId} {ty : Ty} {l xs : List ty.den} {o : Own} {u x : Value} {news : List Value} {bytes : Nat}
    (hi : Inv B0 w S H) (hu : Rep w S (.sl ty l o) u) (he : AppElem P t ty bytes) (hx : Gives P w ty.size t2 x xs.length news) (hn : Flat (RepD w S ty) xs news)
    (ho : xs = [] ∨ Apb H o ty l.length) (hb : (l.length + xs.length) * bytes ≤ 140737488355328) (h63 : l.length + xs.length ≤ 9223372036854775807) :
    ∃ v w' S' H' o', (Builtin.append_ #[t, t2] tt #[u, x]).run P w = .ok v w' ∧ Ext B0 S S' w w' ∧ Inv B0 w' S' H' ∧ Rep w' S' (.sl ty (l ++ xs) o') v ∧
      ((xs = [] ∧ o' = o ∧ H' = H) ∨ (xs ≠ [] ∧ ∃ b e, o' = .tok b ∧ (H.drop o) b = none ∧ RowTy P H o t ty l.length e ∧ H' = (H.drop o).set b (some (.grow e ty (l.length + xs.length))))) := by
  obtain ⟨e, i, z, ht, hie, hsz, hby, hz, hzs⟩ := he.ex
  simp only [Rep] at hu
  obtain ⟨base, cap, rfl, hcap, hsl, hown⟩ := hu
  rw [← hsz] at hx
  by_cases hxs : xs = []
  · subst hxs
    refine ⟨.slice base l.length cap, w, S, H, o, ?_, Ext.refl _ _ _, hi, ?_, .inl ⟨rfl, rfl, rfl⟩⟩
    · rw [run_append_in ht hie base l.length cap _ x news hx (by simpa using hcap)]
      have hnil : news = [] := by simpa [Flat] using hn
      subst hnil
      cases base <;> rfl
    · simp only [Rep, List.append_nil]
      exact ⟨base, cap, rfl, hcap, hsl, hown⟩
  · have hpos : 0 < xs.length := List.length_pos_iff.2 hxs
    have hap : Apb H o ty l.length := ho.resolve_left hxs
    -- a new row
    have out : cap < l.length + xs.length → ∀ H1 : Hp, H1.Le H → H1 = H.drop o → ∃ v w' S' H' o', (Builtin.append_ #[t, t2] tt #[.slice base l.length cap, x]).run P w = .ok v w' ∧ Ext B0 S S' w w' ∧ Inv B0 w' S' H' ∧ Rep w' S' (.sl ty (l ++ xs) o') v ∧
        ((xs = [] ∧ o' = o ∧ H' = H) ∨ (xs ≠ [] ∧ ∃ b e, o' = .tok b ∧ (H.drop o) b = none ∧ RowTy P H o t ty l.length e ∧ H' = (H.drop o).set b (some (.grow e ty (l.length + xs.length))))) := by
      intro hlt H1 hle hH1
      have hi1 := hi.le hle
      obtain ⟨olds, k1, k2⟩ := slAt_first (P := P) (w' := w.drew) (cap := cap) hsl (fun _ => rfl)
      rw [← hsz] at k2
      have hrun := run_append_out (ty := tt) ht hie hz base l.length cap _ x news olds hx hlt k2 (by rw [hby]; exact hb) h63
      have hge := grownCap_ge w (l.length + xs.length) cap e
      have hfl : Flat (RepD w S ty) (l ++ xs) (olds ++ news) := k1.append hn
      have hlen : (olds ++ news).length = (l.length + xs.length) * ty.size := by rw [flat_length hfl, List.length_append]
      generalize hc : grownCap w (l.length + xs.length) cap e = c at hrun hge
      have harr : (olds.toArray ++ news.toArray ++ Builtin.zeroCells z.cells (c - (l.length + xs.length))).size = c * ty.size := by
        simp only [Array.size_append, List.size_toArray, size_zeroCells, hzs]
        rw [← List.length_append, hlen, ← Nat.add_mul]
        congr 1
        omega
      have hnew : (w.drew.alloc (.cells (olds.toArray ++ news.toArray ++ Builtin.zeroCells z.cells (c - (l.length + xs.length))) e)).heap[w.heap.size]? = some (.cells (olds.toArray ++ news.toArray ++ Builtin.zeroCells z.cells (c - (l.length + xs.length))) e (0, 0)) := alloc_heap_new w.drew _
      refine ⟨_, _, S.set w.heap.size ((l.length + xs.length) * ty.size), H1.set w.heap.size (some (.grow e ty (l.length + xs.length))), .tok w.heap.size, hrun,
        Ext.fresh hi (Ext.drew _ _ _) rfl _ _, Inv.fresh hi1 (Ext.drew _ _ _) rfl (fun _ => rfl) _ _ _ ?_, ?_, .inr ⟨hxs, w.heap.size, e, rfl, ?_, .inl (by simp [elTy, ht]), by rw [hH1]⟩⟩
      · intro y hy
        cases hy
        refine ⟨by simp [Seal.set], _, (0, 0), alloc_heap_new w.drew _, ?_, .inl rfl⟩
        rw [harr]; exact Nat.mul_le_mul_right _ hge
      · have ex := Ext.fresh hi (Ext.drew B0 S w) rfl (.cells (olds.toArray ++ news.toArray ++ Builtin.zeroCells z.cells (c - (l.length + xs.length))) e) ((l.length + xs.length) * ty.size)
        simp only [Rep]
        refine ⟨some ⟨w.heap.size, 0, none⟩, c, by rw [List.length_append], by rw [List.length_append]; exact hge, .inr ⟨_, _, rfl, olds ++ news, hfl.imp (fun _ _ h => RepD.ext ex h), ?_, fun j v hj => ?_⟩, rfl, e, ?_⟩
        · rw [hlen]; simp [Seal.set]
        · rw [cell_of_heap hnew]
          have hjl : j < (olds ++ news).length := by
            rcases Nat.lt_or_ge j (olds ++ news).length with h | h
            · exact h
            · rw [List.getElem?_eq_none h] at hj; simp at hj
          rw [Nat.zero_add, Array.getElem?_append_left (by simpa using hjl)]
          simpa using hj
        · unfold World.shape?
          rw [hnew, ← harr]
      · rw [← hH1]; exact (hi1.top _ (Nat.le_refl _)).2
    rcases hap with hex | ⟨b, ty', rfl, hb'⟩
    · have : cap = l.length := by
        cases o with
        | exact => exact hown
        | nil => have := hown.2; omega
        | lit m => exact hown.1
        | _ => simp [Own.isEx] at hex
      refine out (by omega) H (Hp.Le.refl _) ?_
      cases o <;> first | rfl | (simp [Own.isEx] at hex)
    · have hle : (H.drop (.tok b)).Le H := fun c y hy => by
        simp only [Hp.drop, Hp.set] at hy
        split at hy
        · simp at hy
        · exact hy
      by_cases hroom : l.length + xs.length ≤ cap
      · -- in place
        obtain ⟨rfl, tyid, hshape⟩ := hown
        obtain ⟨hB, hS, arr, fz, hh, hlen, hfz⟩ := hi.obj b _ hb'
        have hfro : ∀ i, l.length * ty.size ≤ i → i < arr.size → w.frozen? ⟨b, i, none⟩ = false := fun i i1 i2 => by
          rw [frozen_of_heap hh, Bool.and_eq_false_iff, decide_eq_false_iff_not, decide_eq_false_iff_not]
          omega
        have hsize : arr.size = cap * ty.size := by
          simp only [World.shape?, hh, Option.some.injEq, Prod.mk.injEq] at hshape
          exact hshape.2
        have hnl := flat_length hn
        have hfit : l.length * ty.size + news.length ≤ arr.size := by
          rw [hnl, hsize, ← Nat.add_mul]
          exact Nat.mul_le_mul_right _ hroom
        have hst := run_storeCells_wr P b (l.length * ty.size) ty' fz news 0 arr w hh (by simpa using hfit) (flat_oneCell hn) (fun j h1 h2 => hfro j (by simpa using h1) (by omega))
        have hrun := run_append_in (ty := tt) ht hie (some ⟨b, 0, none⟩) l.length cap _ x news hx hroom
        simp only [add_none, Nat.zero_add, hsz, hst, Nat.add_zero, Result.andThen_ok] at hrun
        have hnew : (World.withRow w b (wr arr (l.length * ty.size) news) ty' fz).heap[b]? = some (.cells (wr arr (l.length * ty.size) news) ty' fz) := withRow_heap hh
        have ex : Ext B0 S (S.set b ((l.length + xs.length) * ty.size)) w (World.withRow w b (wr arr (l.length * ty.size) news) ty' fz) := by
          refine ⟨⟨rfl, rfl, rfl, by simp [World.withRow], fun k hk => withRow_other (by omega)⟩, fun c => ?_, fun c j hj => ?_, fun c y hy => ?_⟩
          · unfold Seal.set
            split
            · rename_i h; subst h; rw [hS]; exact Nat.mul_le_mul_right _ (by omega)
            · exact Nat.le_refl _
          · by_cases hc : c = b
            · subst hc
              rw [cell_of_heap hnew, cell_of_heap hh, wr_get _ _ _ _ hfit, if_neg (by omega)]
            · exact cell_of_other (withRow_other hc)
          · by_cases hc : c = b
            · subst hc
              rw [← hy]
              simp [World.shape?, hnew, hh, wr_size]
            · rw [shape_of_other (withRow_other hc)]; exact hy
        refine ⟨_, _, S.set b ((l.length + xs.length) * ty.size), (H.drop (.tok b)).set b (some (.grow ty' ty (l.length + xs.length))), .tok b, hrun, ex, ?_, ?_, .inr ⟨hxs, b, ty', rfl, by simp [Hp.drop, Hp.set], .inr ⟨b, rfl, hb'⟩, rfl⟩⟩
        · refine ⟨by simp [World.withRow]; exact hi.base, fun c hc => ?_, fun c y hy => ?_, hi.tab.ext ex⟩
          · have hc' : w.heap.size ≤ c := by simpa [World.withRow] using hc
            have hcb : c ≠ b := fun h => by subst h; have := lt_of_heap hh; omega
            simp only [Seal.set, Hp.set, Hp.drop, if_neg hcb]
            exact hi.top c hc'
          · simp only [Hp.set, Hp.drop] at hy
            by_cases hcb : c = b
            · subst hcb
              simp only [if_true, Option.some.injEq] at hy
              subst hy
              refine ⟨hB, by simp [Seal.set], _, fz, hnew, by rw [wr_size, hsize]; exact Nat.mul_le_mul_right _ hroom, ?_⟩
              rw [wr_size, Nat.add_mul]
              omega
            · simp only [if_neg hcb] at hy
              obtain ⟨k1, k2⟩ := hi.obj c y hy
              exact ⟨k1, k2.keep ex (withRow_other hcb) (by simp [Seal.set, hcb])⟩
        · simp only [Rep]
          obtain ⟨olds, k1, k2⟩ : ∃ olds, Flat (RepD w S ty) l olds ∧ ∀ j v, olds[j]? = some v → w.cell? ⟨b, j, none⟩ = some v := by
            rcases hsl with rfl | ⟨b', off, hbb, cells, k1, k2, k3⟩
            · exact ⟨[], rfl, by simp⟩
            · simp only [Option.some.injEq, Addr.mk.injEq] at hbb
              obtain ⟨rfl, rfl, _⟩ := hbb
              exact ⟨cells, k1, fun j v hj => by simpa using k3 j v hj⟩
          have hol := flat_length k1
          refine ⟨some ⟨b, 0, none⟩, cap, by rw [List.length_append], by rw [List.length_append]; exact hroom, .inr ⟨b, 0, rfl, olds ++ news, (k1.append hn).imp (fun _ _ h => RepD.ext ex h), ?_, fun j v hj => ?_⟩, rfl, ?_⟩
          · simp only [List.length_append, hol, hnl, Seal.set, if_true, Nat.zero_add, Nat.add_mul]
            exact Nat.le_refl _
          · rw [Nat.zero_add, cell_of_heap hnew, wr_get _ _ _ _ hfit]
            by_cases hj' : j < olds.length
            · rw [if_neg (by omega)]
              rw [List.getElem?_append_left hj'] at hj
              rw [← cell_of_heap hh]
              exact k2 j v hj
            · rw [List.getElem?_append_right (by omega)] at hj
              have : j - olds.length < news.length := by
                rcases Nat.lt_or_ge (j - olds.length) news.length with h | h
                · exact h
                · rw [List.getElem?_eq_none h] at hj; simp at hj
              rw [if_pos (by omega), ← hol]
              exact hj
          · exact ⟨tyid, ex.shape _ _ hshape⟩
      · exact out (by omega) _ hle rfl

end Go.Sv
