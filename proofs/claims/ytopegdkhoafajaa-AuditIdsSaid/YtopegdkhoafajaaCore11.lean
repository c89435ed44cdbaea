/-
  An argument that the row reads, as a value of its type, and how much it holds. Own work. Nothing here is trusted.
-/
import Derived.Test.YtopegdkhoafajaaCore10
namespace Go.Sv
open Go.ChangeShapes Go.WideShapes Go.ChangeAt Go.RowKit
set_option linter.unusedSimpArgs false
set_option linter.unusedVariables false

/-- Types without structs, and without pointers. -/
def Ty.plain : Ty → Bool
  | .bool | .u8 | .int _ | .str => true
  | .sl t => t.plain
  | _ => false

/-- How many values and letters. -/
def bulkT : (t : Ty) → t.den → Nat
  | .bool, _ => 1
  | .u8, _ => 1
  | .int _, _ => 1
  | .str, s => List.length s + 1
  | .ptr, _ => 1
  | .sl t, l => (List.map (bulkT t) l).sum + 1
  | .nil, _ => 1
  | .cons t r, x => bulkT t x.1 + bulkT r x.2

/-- Numbers are of their kinds. -/
def fitT : (t : Ty) → t.den → Prop
  | .int k, n => (Lit.int k n).wf = true
  | .sl t, l => ∀ x, x ∈ (show List t.den from l) → fitT t x
  | _, _ => True

/-- The element's cells are as many as the type says. -/
def cellsFit (P : Program) : Nat → TypeId → Bool
  | 0, _ => false
  | n + 1, t => P.cellsOf t == 1 && match P.underlying t with
    | some (.slice e) => cellsFit P n e
    | _ => true

section
variable {H : Type} {enc : TypeId × Value → H} {P : Program} {w : World}

theorem cells_one {base : Nat} {a : Addr} {cs : List Value} (h : w.cells? base a 1 = some cs) : ∃ v, cs = [v] ∧ w.cell? (a.add 0) = some v := by
  unfold World.cells? at h
  split at h
  · cases hv : w.cell? (a.add 0) with
    | none => simp [List.range_succ, hv] at h
    | some v =>
      simp [List.range_succ, hv] at h
      exact ⟨v, h.symm, rfl⟩
  · simp at h

theorem cell_none {a : Addr} {v : Value} (h : w.cell? a = some v) : a.spot = none := by
  unfold World.cell? at h
  split at h
  · split at h
    · simp at h
    · rename_i hs; simpa using hs
  · simp at h

theorem cell_seal {b off : Nat} {v : Value} (h : w.cell? ⟨b, off, none⟩ = some v) : off + 1 ≤ sealAll w b := by
  unfold World.cell? at h
  unfold sealAll
  simp only at h
  split at h
  · rename_i c ty fz hc
    rw [hc]
    simp only
    rcases Nat.lt_or_ge off c.size with h' | h'
    · omega
    · rw [Array.getElem?_eq_none h'] at h; simp at h
  · simp at h

/-- A measure of what is read, as 'uptoBulk' is. -/
structure Bulk (B : DataW H → Nat) (BA : List (DataW H) → Nat) : Prop where
  str : ∀ s, B (.lit (.string s)) = s.length + 1
  lit : ∀ l, 1 ≤ B (.lit l)
  nil : B .nil = 1
  sl : ∀ e s, B (.slice e s) = BA e + BA s + 1
  nil' : BA [] = 0
  cons : ∀ d r, BA (d :: r) = B d + BA r

theorem flat_elems {α : Type} {R : α → List Value → Prop} {bT : α → Nat} {Q : α → Prop} {B : DataW H → Nat} {BA : List (DataW H) → Nat} (hB : Bulk B BA) {b off : Nat} : ∀ (elems : List (DataW H × List MemPlace)) (k : Nat),
    (∀ i y, elems[i]? = some y → ∃ x u, w.cell? ⟨b, off + k + i, none⟩ = some u ∧ R x [u] ∧ bT x ≤ B y.1 ∧ Q x) →
    ∃ (l : List α) (cells : List Value), l.length = elems.length ∧ Flat R l cells ∧ cells.length = elems.length ∧ (∀ j u, cells[j]? = some u → w.cell? ⟨b, off + k + j, none⟩ = some u) ∧ (l.map bT).sum ≤ BA (elems.map (·.1)) ∧ ∀ x ∈ l, Q x
  | [], k, _ => ⟨[], [], rfl, rfl, rfl, by simp, by simp, by simp⟩
  | y :: r, k, h => by
    obtain ⟨x, u, h1, h2, h3, h4⟩ := h 0 y rfl
    obtain ⟨l, cells, k1, k2, k3, k4, k5, k6⟩ := flat_elems hB r (k + 1) (fun i z hz => by
      obtain ⟨x', u', m1, m2, m3, m4⟩ := h (i + 1) z hz
      exact ⟨x', u', by rw [show off + (k + 1) + i = off + k + (i + 1) by omega]; exact m1, m2, m3, m4⟩)
    refine ⟨x :: l, u :: cells, by simp [k1], ⟨[u], cells, rfl, h2, k2⟩, by simp [k3], fun j v hj => ?_, ?_, fun z hz => ?_⟩
    · cases j with
      | zero => simp at hj; subst hj; exact h1
      | succ j =>
        simp at hj
        rw [show off + k + (j + 1) = off + (k + 1) + j by omega]
        exact k4 j v hj
    · simp only [List.map_cons, List.sum_cons, hB.cons]
      omega
    · rcases List.mem_cons.1 hz with rfl | hz
      · exact h4
      · exact k6 z hz

theorem open_ty {B : DataW H → Nat} {BA : List (DataW H) → Nat} (hB : Bulk B BA) : ∀ (n : Nat) {t : TypeId} {ty : Ty} {base fuel : Nat} {spare : Nat → Bool} {held : Bool} {cs : List Value} {x : DataW H × List MemPlace}, tyOf P n t = some ty → ty.plain = true → cellsFit P n t = true →
    DataW.trod enc P w base spare held fuel t cs = some x → ∃ v : ty.den, RepD w (sealAll w) ty v cs ∧ bulkT ty v ≤ B x.1 ∧ fitT ty v
  | 0, t, ty, base, fuel, spare, held, cs, x, ht, hp, hc, h => by simp [tyOf] at ht
  | n + 1, t, ty, base, fuel, spare, held, cs, x, ht, hp, hc, h => by
    have hd := tyOf_desc ht
    simp only [cellsFit, Bool.and_eq_true, beq_iff_eq] at hc
    obtain ⟨hc1, hc2⟩ := hc
    cases ty with
    | sl ty =>
      simp only [tyOf] at ht
      obtain ⟨e, m, hu, he⟩ := hd
      rw [hu] at ht hc2
      simp only [Option.map_eq_some_iff, Ty.sl.injEq] at ht
      obtain ⟨ty', ht, rfl⟩ := ht
      have hce : P.cellsOf e = 1 := by
        cases n with
        | zero => simp [cellsFit] at hc2
        | succ n => simp only [cellsFit, Bool.and_eq_true, beq_iff_eq] at hc2; exact hc2.1
      rcases DataW.trod_slice hu h with ⟨rfl, rfl⟩ | ⟨a, len, cap, elems, rest, m', rfl, rfl, rfl, hb, hl, hm, hlen, hel, _, _⟩
      · refine ⟨[], ?_, ?_, by simp [fitT]⟩
        · simp only [RepD]; exact ⟨none, 0, rfl, Nat.le_refl _, .inl rfl⟩
        · simp only [bulkT, hB.nil]; simp
      · have hcell : ∀ i y, elems[i]? = some y → (i = 0 → a.spot = none) ∧ ∃ (v : ty'.den) (u : Value), w.cell? ⟨a.block, a.off + 0 + i, none⟩ = some u ∧ RepD w (sealAll w) ty' v [u] ∧ bulkT ty' v ≤ B y.1 ∧ fitT ty' v := by
          intro i y hy
          have hi : i < len := by
            rcases Nat.lt_or_ge i len with h' | h'
            · exact h'
            · rw [List.getElem?_eq_none (by omega)] at hy; simp at hy
          have := hel i hi
          rw [hy, hce, Option.bind_eq_some_iff] at this
          obtain ⟨ci, g1, g2⟩ := this
          obtain ⟨u, rfl, g3⟩ := cells_one g1
          obtain ⟨v, g4, g5, g6⟩ := open_ty hB n ht (by simpa [Ty.plain] using hp) hc2 g2
          have hs := cell_none g3
          cases i with
          | zero =>
            have hs' : a.spot = none := by simpa [Addr.add] using hs
            refine ⟨fun _ => hs', v, u, ?_, g4, g5, g6⟩
            rw [← g3]
            obtain ⟨ab, ao, as⟩ := a
            simp only at hs'
            subst hs'
            simp [Addr.add]
          | succ i =>
            refine ⟨by simp, v, u, ?_, g4, g5, g6⟩
            rw [← g3]
            simp [Addr.add]
        obtain ⟨l, cells, k1, k2, k3, k4, k5, k6⟩ := flat_elems (b := a.block) (off := a.off) hB elems 0 (fun i y hy => (hcell i y hy).2)
        refine ⟨l, ?_, ?_, by simpa only [fitT] using k6⟩
        · simp only [RepD]
          refine ⟨some a, cap, by rw [k1, hlen], by rw [k1, hlen]; exact hl, ?_⟩
          cases elems with
          | nil => simp at k1; exact .inl k1
          | cons y r =>
            have hs := (hcell 0 y rfl).1 rfl
            refine .inr ⟨a.block, a.off, by obtain ⟨ab, ao, as⟩ := a; simp only at hs; subst hs; rfl, cells, k2, ?_, fun j v hj => by have := k4 j v hj; simpa using this⟩
            have hlast : ∃ u, cells[cells.length - 1]? = some u := by
              rw [List.getElem?_eq_getElem (by rw [k3]; simp)]; exact ⟨_, rfl⟩
            obtain ⟨u, hu'⟩ := hlast
            have := cell_seal (k4 _ u hu')
            have : 0 < cells.length := by rw [k3]; simp
            omega
        · simp only [bulkT, hB.sl]
          omega
    | bool =>
      obtain ⟨b, rfl, rfl⟩ := DataW.trod_bool hd h
      exact ⟨b, by simp only [RepD], by simp only [bulkT]; exact hB.lit _, trivial⟩
    | u8 =>
      obtain ⟨k, rfl, rfl, hw⟩ := DataW.trod_int hd h
      refine ⟨UInt8.ofNat k.toNat, ?_, by simp only [bulkT]; exact hB.lit _, trivial⟩
      simp only [RepD]
      simp only [Lit.wf, Bool.and_eq_true, decide_eq_true_eq, IntKind.min, IntKind.max, IntKind.signed, IntKind.bits] at hw
      simp at hw
      have : (UInt8.ofNat k.toNat).toNat = k.toNat := by
        rw [UInt8.toNat_ofNat']
        omega
      rw [this]
      congr 2
      omega
    | int k =>
      obtain ⟨b, rfl, rfl, hw⟩ := DataW.trod_int hd h
      exact ⟨b, by simp only [RepD], by simp only [bulkT]; exact hB.lit _, hw⟩
    | str =>
      obtain ⟨s, rfl, rfl, hs⟩ := DataW.trod_string hd h
      refine ⟨s.data.toList, by simp only [RepD, strV], ?_, trivial⟩
      simp only [bulkT, hB.str]
      exact Nat.le_refl _
    | ptr => simp [Ty.plain] at hp
    | nil => simp [Ty.plain] at hp
    | cons t r => simp [Ty.plain] at hp

theorem open_arg {B : DataW H → Nat} {BA : List (DataW H) → Nat} (hB : Bulk B BA) {t : TypeId} {ty : Ty} {v : Value} {d : DataW H} {ps : List MemPlace} {r : Reach} {base b0 : Nat} {sp : Nat → Bool} {held : Bool} (ht : tyOf P 8 t = some ty) (hp : ty.plain = true) (hc : cellsFit P 8 t = true)
    (hval : Value.okWide P w r b0 t v) (h : DataW.Trod enc P w base sp held t v d ps) : ∃ x : ty.den, Rep w (sealAll w) (Go.Sv.enc ty x) v ∧ bulkT ty x ≤ B d ∧ fitT ty x := by
  obtain ⟨fuel, hf⟩ := h
  obtain ⟨x, h1, h2, h3⟩ := open_ty hB 8 ht hp hc hf
  refine ⟨x, ?_, h2, h3⟩
  have hd := tyOf_desc ht
  have hna : ty.isAgg = false := by cases ty <;> first | rfl | (simp [Ty.plain] at hp)
  have hv : v.cells = #[v] := by
    cases v <;> first | rfl | skip
    exfalso
    cases ty with
    | bool => have hd : P.underlying t = some .bool := hd; simp [Value.okWide, hd, Cell.okWide, Cell.ok] at hval
    | u8 => have hd : P.underlying t = some (.int .u8) := hd; simp [Value.okWide, hd, Cell.okWide, Cell.ok] at hval
    | int k => have hd : P.underlying t = some (.int k) := hd; simp [Value.okWide, hd, Cell.okWide, Cell.ok] at hval
    | str => have hd : P.underlying t = some .string := hd; simp [Value.okWide, hd, Cell.okWide, Cell.ok] at hval
    | sl ty => obtain ⟨e, m, hd, _⟩ := hd; simp [Value.okWide, hd, Cell.okWide, Cell.ok] at hval
    | ptr => simp [Ty.plain] at hp
    | nil => simp [Ty.plain] at hp
    | cons a b => simp [Ty.plain] at hp
  have hr := rep_enc h1
  rw [hna] at hr
  simp only [Bool.false_eq_true, if_false, hv] at hr
  obtain ⟨u, hu, hr⟩ := hr
  simp only [List.cons.injEq, and_true] at hu
  rw [hu]
  exact hr

/-- ARGS of 'post', all at once. -/
theorem trodAll_below (hl : laidOutB P = true) {W W' : World} (hb : Below W.heap.size W W') {sp : Nat → Bool} : ∀ {ts : List TypeId} {vs : List Value} {ds : List (DataW H)} {ps : List MemPlace}, (∀ t ∈ ts, P.readableRec t = true ∧ t < P.types.size) →
    DataW.TrodAll enc P W 0 (fun _ => true) true ts vs ds ps → (∀ x ∈ ps, x.block < W.heap.size) → (∀ x ∈ ps, sp x.block = true) → DataW.TrodAll enc P W' 0 sp true ts vs ds ps
  | [], vs, ds, ps, _, h, _, _ => by
    obtain ⟨rfl, rfl, rfl⟩ := trodAll_nil h
    exact trodAll_mk0
  | t :: ts, vs, ds, ps, ht, h, h1, h2 => by
    obtain ⟨v, vs', d, ds', p, q, rfl, rfl, rfl, k1, k2⟩ := trodAll_cons h
    exact trodAll_cons_mk (WideElems.Trod_stays hl (ht t (by simp)).1 (ht t (by simp)).2 k1 (fun x hx => hb.same (h1 x (by simp [hx]))) (fun x hx => h2 x (by simp [hx])))
      (trodAll_below hl hb (fun u hu => ht u (by simp [hu])) k2 (fun x hx => h1 x (by simp [hx])) (fun x hx => h2 x (by simp [hx])))
end
theorem bulkT_pos : ∀ (t : Ty) (x : t.den), t.plain = true → 1 ≤ bulkT t x
  | .bool, _, _ => Nat.le_refl _
  | .u8, _, _ => Nat.le_refl _
  | .int _, _, _ => Nat.le_refl _
  | .str, _, _ => by simp only [bulkT]; omega
  | .sl _, _, _ => by simp only [bulkT]; omega
  | .ptr, _, h => by simp [Ty.plain] at h
  | .nil, _, h => by simp [Ty.plain] at h
  | .cons _ _, _, h => by simp [Ty.plain] at h
theorem bulk_length {t : Ty} (ht : t.plain = true) : ∀ (l : List t.den), l.length ≤ (l.map (bulkT t)).sum
  | [] => by simp
  | x :: l => by
    have := bulk_length ht l
    have := bulkT_pos t x ht
    simp only [List.length_cons, List.map_cons, List.sum_cons]
    omega
theorem bulk_sl {t : Ty} (ht : t.plain = true) (l : List t.den) : l.length + 1 ≤ bulkT (.sl t) l := by
  have := bulk_length ht l
  simp only [bulkT]
  omega

end Go.Sv
