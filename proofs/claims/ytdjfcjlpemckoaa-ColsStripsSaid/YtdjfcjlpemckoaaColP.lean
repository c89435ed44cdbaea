/- Columns: as lists alone. Own work; printed from wip/law3/p.in by pre.py. -/
import Derived.Test.YtdjfcjlpemckoaaFacts
namespace Go.Proofs.Ytdjfcjlpemckoaa
open Go.Sv
set_option linter.unusedSimpArgs false
set_option linter.unusedVariables false

def white (c : UInt8) : Bool := c == 32 || c == 9
def stepC (col : Nat) (c : UInt8) : Nat := if c = 9 then col - col % 4 + 4 else col + 1
theorem stepC_le (col : Nat) (c : UInt8) : col + 1 ≤ stepC col c ∧ stepC col c ≤ col + 4 := by
  unfold stepC
  split <;> omega
/-- The columns, and the place, behind the blanks from here on. -/
def indFrom (s : List UInt8) (col n : Nat) : Nat × Nat :=
  if h : n < s.length ∧ white (s.getD n 0) = true then indFrom s (stepC col (s.getD n 0)) (n + 1) else (col, n)
termination_by s.length - n
theorem ind_go {s : List UInt8} {col n : Nat} (h1 : n < s.length) (h2 : white (s.getD n 0) = true) : indFrom s col n = indFrom s (stepC col (s.getD n 0)) (n + 1) := by rw [indFrom, dif_pos ⟨h1, h2⟩]
theorem ind_end {s : List UInt8} {col n : Nat} (h : ¬ (n < s.length ∧ white (s.getD n 0) = true)) : indFrom s col n = (col, n) := by rw [indFrom, dif_neg h]
theorem ind_le (s : List UInt8) (col n : Nat) (h : n ≤ s.length) : n ≤ (indFrom s col n).2 ∧ (indFrom s col n).2 ≤ s.length ∧ col + ((indFrom s col n).2 - n) ≤ (indFrom s col n).1 ∧ (indFrom s col n).1 ≤ col + 4 * ((indFrom s col n).2 - n) := by
  by_cases hg : n < s.length ∧ white (s.getD n 0) = true
  · have h1 := stepC_le col (s.getD n 0)
    have ih := ind_le s (stepC col (s.getD n 0)) (n + 1) hg.1
    rw [ind_go hg.1 hg.2]; omega
  · rw [ind_end hg]; simp only; omega
termination_by s.length - n
/-- .. of so many columns at most. -/
def stripFrom (s : List UInt8) (k : Int) (col n : Nat) : Nat × Nat :=
  if h : (col : Int) < k ∧ n < s.length ∧ white (s.getD n 0) = true then stripFrom s k (stepC col (s.getD n 0)) (n + 1) else (col, n)
termination_by s.length - n
theorem strip_go {s : List UInt8} {k : Int} {col n : Nat} (h0 : (col : Int) < k) (h1 : n < s.length) (h2 : white (s.getD n 0) = true) : stripFrom s k col n = stripFrom s k (stepC col (s.getD n 0)) (n + 1) := by rw [stripFrom, dif_pos ⟨h0, h1, h2⟩]
theorem strip_end {s : List UInt8} {k : Int} {col n : Nat} (h : ¬ ((col : Int) < k ∧ n < s.length ∧ white (s.getD n 0) = true)) : stripFrom s k col n = (col, n) := by rw [stripFrom, dif_neg h]
theorem strip_le (s : List UInt8) (k : Int) (col n : Nat) (h : n ≤ s.length) (hc : (col : Int) ≤ max k 0 + 3) : n ≤ (stripFrom s k col n).2 ∧ (stripFrom s k col n).2 ≤ s.length ∧ ((stripFrom s k col n).1 : Int) ≤ max k 0 + 3 ∧ (stripFrom s k col n).1 ≤ col + 4 * (s.length - n) := by
  by_cases hg : (col : Int) < k ∧ n < s.length ∧ white (s.getD n 0) = true
  · have h1 := stepC_le col (s.getD n 0)
    have ih := strip_le s k (stepC col (s.getD n 0)) (n + 1) hg.2.1 (by omega)
    rw [strip_go hg.1 hg.2.1 hg.2.2]; omega
  · rw [strip_end hg]; simp only; omega
termination_by s.length - n
def widthFrom (s : List UInt8) (col n : Nat) : Nat := if _h : n < s.length then widthFrom s (stepC col (s.getD n 0)) (n + 1) else col
termination_by s.length - n
theorem width_go {s : List UInt8} {col n : Nat} (h : n < s.length) : widthFrom s col n = widthFrom s (stepC col (s.getD n 0)) (n + 1) := by rw [widthFrom, dif_pos h]
theorem width_end {s : List UInt8} {col n : Nat} (h : ¬ n < s.length) : widthFrom s col n = col := by rw [widthFrom, dif_neg h]
def blanks (n : Nat) : List UInt8 := List.replicate n 32
def over (s : List UInt8) (k : Int) : Nat := (((stripFrom s k 0 0).1 : Int) - max 0 k).toNat
def stripL (s : List UInt8) (k : Int) : List UInt8 := blanks (over s k) ++ s.drop (stripFrom s k 0 0).2
theorem over_le (s : List UInt8) (k : Int) : over s k ≤ 3 := by
  have := strip_le s k 0 0 (Nat.zero_le _) (by omega)
  unfold over; omega
def emptyL (s : List UInt8) : Bool := decide ((indFrom s 0 0).2 = s.length)
/-! ### .. as lists -/
def indT : Nat → List UInt8 → Nat × Nat
  | col, [] => (col, 0)
  | col, c :: t => if white c = true then ((indT (stepC col c) t).1, (indT (stepC col c) t).2 + 1) else (col, 0)
theorem drop_cons (s : List UInt8) (n : Nat) (h : n < s.length) : s.drop n = s.getD n 0 :: s.drop (n + 1) := by
  rw [List.getD_eq_getElem?_getD, List.getElem?_eq_getElem h]
  exact List.drop_eq_getElem_cons h
theorem ind_list (s : List UInt8) (col n : Nat) (h : n ≤ s.length) : indFrom s col n = ((indT col (s.drop n)).1, n + (indT col (s.drop n)).2) := by
  by_cases hl : n < s.length
  · have hd := drop_cons s n hl
    by_cases hw : white (s.getD n 0) = true
    · rw [ind_go hl hw, ind_list s _ (n + 1) hl, hd]
      simp only [indT, hw, if_true]
      refine Prod.ext rfl ?_
      simp only; omega
    · rw [ind_end (fun h => hw h.2), hd]
      simp only [indT, if_neg hw, Nat.add_zero]
  · rw [ind_end (fun h => hl h.1), List.drop_eq_nil_of_le (by omega)]
    rfl
termination_by s.length - n
def stripT (k : Int) : Nat → List UInt8 → Nat × Nat
  | col, [] => (col, 0)
  | col, c :: t => if (col : Int) < k ∧ white c = true then ((stripT k (stepC col c) t).1, (stripT k (stepC col c) t).2 + 1) else (col, 0)
theorem strip_list (s : List UInt8) (k : Int) (col n : Nat) (h : n ≤ s.length) : stripFrom s k col n = ((stripT k col (s.drop n)).1, n + (stripT k col (s.drop n)).2) := by
  by_cases hl : n < s.length
  · have hd := drop_cons s n hl
    by_cases hw : (col : Int) < k ∧ white (s.getD n 0) = true
    · rw [strip_go hw.1 hl hw.2, strip_list s k _ (n + 1) hl, hd]
      simp only [stripT, hw, and_self, if_true]
      refine Prod.ext rfl ?_
      simp only; omega
    · rw [strip_end (fun h => hw ⟨h.1, h.2.2⟩), hd]
      simp only [stripT, if_neg hw, Nat.add_zero]
  · rw [strip_end (fun h => hl h.2.1), List.drop_eq_nil_of_le (by omega)]
    rfl
termination_by s.length - n
def widthT : Nat → List UInt8 → Nat
  | col, [] => col
  | col, c :: t => widthT (stepC col c) t
theorem width_list (s : List UInt8) (col n : Nat) (h : n ≤ s.length) : widthFrom s col n = widthT col (s.drop n) := by
  by_cases hl : n < s.length
  · rw [width_go hl, width_list s _ (n + 1) hl, drop_cons s n hl]; rfl
  · rw [width_end hl, List.drop_eq_nil_of_le (by omega)]; rfl
termination_by s.length - n
theorem widthT_ge : ∀ (t : List UInt8) (col : Nat), col ≤ widthT col t
  | [], col => Nat.le_refl _
  | c :: t, col => by
    have h1 := (stepC_le col c).1
    have h2 := widthT_ge t (stepC col c)
    simp only [widthT]; omega
theorem step_blank (col : Nat) : stepC col 32 = col + 1 := by unfold stepC; rw [if_neg (by decide)]
theorem white_blank : white 32 = true := rfl
theorem blanks_succ (m : Nat) : blanks (m + 1) = 32 :: blanks m := rfl
theorem indT_blanks : ∀ (m col : Nat) (r : List UInt8), indT col (blanks m ++ r) = ((indT (col + m) r).1, (indT (col + m) r).2 + m)
  | 0, _, _ => rfl
  | m + 1, col, r => by
    rw [blanks_succ, List.cons_append]
    simp only [indT, white_blank, if_true, step_blank]
    rw [indT_blanks m (col + 1) r, show col + 1 + m = col + (m + 1) by omega]
    rfl
theorem widthT_blanks : ∀ (m col : Nat) (r : List UInt8), widthT col (blanks m ++ r) = widthT (col + m) r
  | 0, _, _ => rfl
  | m + 1, col, r => by
    rw [blanks_succ, List.cons_append]
    simp only [widthT, step_blank]
    rw [widthT_blanks m (col + 1) r, show col + 1 + m = col + (m + 1) by omega]

/-! ### tabs as blanks -/
def flatC (col : Nat) (c : UInt8) : List UInt8 := if c = 9 then blanks (4 - col % 4) else [c]
theorem flatC_len (col : Nat) (c : UInt8) : col + (flatC col c).length = stepC col c := by
  unfold flatC stepC
  split
  · simp only [blanks, List.length_replicate]; omega
  · rfl
def flatT : Nat → List UInt8 → List UInt8
  | _, [] => []
  | col, c :: t => flatC col c ++ flatT (stepC col c) t
theorem flat_width : ∀ (t : List UInt8) (col : Nat), col + (flatT col t).length = widthT col t ∧ widthT col (flatT col t) = widthT col t
  | [], col => ⟨rfl, rfl⟩
  | c :: t, col => by
    obtain ⟨h1, h2⟩ := flat_width t (stepC col c)
    have hc := flatC_len col c
    simp only [flatT, widthT]
    refine ⟨by rw [List.length_append]; omega, ?_⟩
    unfold flatC at hc ⊢
    split
    · rename_i h9
      rw [if_pos h9] at hc
      simp only [blanks, List.length_replicate] at hc
      rw [widthT_blanks, hc]; exact h2
    · rename_i h9
      rw [List.singleton_append]
      simp only [widthT]; exact h2
theorem flat_ind : ∀ (t : List UInt8) (col : Nat), (indT col (flatT col t)).1 = (indT col t).1 ∧ col + (indT col (flatT col t)).2 = (indT col t).1 ∧ ((indT col t).2 = t.length ↔ (indT col (flatT col t)).2 = (flatT col t).length)
  | [], col => ⟨rfl, rfl, by simp [flatT, indT]⟩
  | c :: t, col => by
    obtain ⟨h1, h2, h3⟩ := flat_ind t (stepC col c)
    have hc := flatC_len col c
    simp only [flatT]
    unfold flatC at hc ⊢
    by_cases h9 : c = 9
    · rw [if_pos h9] at hc ⊢
      simp only [blanks, List.length_replicate] at hc
      have hw : white c = true := by rw [h9]; rfl
      rw [indT_blanks, hc]
      simp only [indT, hw, if_true, List.length_append, List.length_cons, blanks, List.length_replicate]
      exact ⟨h1, by omega, by omega⟩
    · rw [if_neg h9]
      rw [List.singleton_append]
      cases hw : white c
      · simp only [indT, hw, Bool.false_eq_true, if_false, List.length_cons]
        exact ⟨trivial, by omega, by omega⟩
      · simp only [indT, hw, if_true, List.length_cons]
        have hs : stepC col c = col + 1 := by unfold stepC; rw [if_neg h9]
        exact ⟨h1, by omega, by omega⟩

/-! ### what is stripped -/
theorem indT_drop : ∀ (t : List UInt8) (col : Nat), t.drop (indT col t).2 = t.dropWhile white
  | [], _ => rfl
  | c :: t, col => by
    cases hw : white c
    · simp [indT, hw, List.dropWhile_cons]
    · simp only [indT, hw, if_true, List.dropWhile_cons, List.drop_succ_cons]
      exact indT_drop t _
theorem indT_stop {t : List UInt8} (h : t.dropWhile white = t) (col : Nat) : indT col t = (col, 0) := by
  cases t with
  | nil => rfl
  | cons c t =>
    cases hw : white c
    · simp [indT, hw]
    · rw [List.dropWhile_cons, if_pos hw] at h
      have := congrArg List.length h
      have h2 := (List.dropWhile_sublist white (l := t)).length_le
      simp only [List.length_cons] at this
      omega
theorem stripT_ind (k : Int) : ∀ (t : List UInt8) (col : Nat), (indT (stripT k col t).1 (t.drop (stripT k col t).2)).1 = (indT col t).1 ∧ (t.drop (stripT k col t).2).dropWhile white = t.dropWhile white ∧ (stripT k col t).2 ≤ t.length ∧
    ((stripT k col t).1 < k → t.drop (stripT k col t).2 = t.dropWhile white) ∧ col + (stripT k col t).2 ≤ (stripT k col t).1 ∧ (stripT k col t).1 ≤ col + 4 * (stripT k col t).2
  | [], col => ⟨rfl, rfl, Nat.le_refl _, fun _ => rfl, Nat.le_refl _, Nat.le_refl _⟩
  | c :: t, col => by
    by_cases hg : (col : Int) < k ∧ white c = true
    · obtain ⟨h1, h2, h3, h4, h5, h6⟩ := stripT_ind k t (stepC col c)
      have hs := stepC_le col c
      simp only [stripT, hg, and_self, if_true, List.drop_succ_cons, List.dropWhile_cons, indT, List.length_cons]
      exact ⟨h1, h2, by omega, h4, by omega, by omega⟩
    · simp only [stripT, if_neg hg, List.drop_zero, List.length_cons]
      refine ⟨trivial, trivial, by omega, fun hlt => ?_, by omega, by omega⟩
      cases hw : white c
      · simp [List.dropWhile_cons, hw]
      · exact absurd ⟨hlt, hw⟩ hg
/-- Two strips of one text: the longer goes on where the shorter ends. -/
theorem stripT_more {k k' : Int} (hk : k ≤ k') : ∀ (t : List UInt8) (col : Nat), (stripT k col t).2 ≤ (stripT k' col t).2 ∧ (stripT k' col t).1 ≤ (stripT k col t).1 + 4 * ((stripT k' col t).2 - (stripT k col t).2)
  | [], _ => ⟨Nat.le_refl _, by simp [stripT]⟩
  | c :: t, col => by
    by_cases hg : (col : Int) < k ∧ white c = true
    · have hg' : (col : Int) < k' ∧ white c = true := ⟨by omega, hg.2⟩
      have ih := stripT_more hk t (stepC col c)
      simp only [stripT, if_pos hg, if_pos hg']
      omega
    · have h6 := (stripT_ind k' (c :: t) col).2.2.2.2.2
      rw [show stripT k col (c :: t) = (col, 0) by simp only [stripT, if_neg hg]]
      simp only [Nat.zero_le, true_and, Nat.sub_zero]
      exact h6
theorem stripT_blanks (k : Nat) {w : List UInt8} (hw : w.dropWhile white = w) : ∀ (m col : Nat), col ≤ k → stripT k col (blanks m ++ w) = (min (col + m) k, min m (k - col))
  | 0, col, h => by
    have : stripT k col w = (col, 0) := by
      cases w with
      | nil => rfl
      | cons c w =>
        cases hc : white c
        · simp [stripT, hc]
        · exfalso
          rw [List.dropWhile_cons, if_pos hc] at hw
          have := congrArg List.length hw
          have h2 := (List.dropWhile_sublist white (l := w)).length_le
          simp only [List.length_cons] at this
          omega
    show stripT k col w = _
    rw [this]
    refine Prod.ext ?_ ?_ <;> simp only <;> omega
  | m + 1, col, h => by
    rw [blanks_succ, List.cons_append]
    by_cases hc : col < k
    · have hg : (col : Int) < (k : Int) ∧ white 32 = true := ⟨by omega, rfl⟩
      simp only [stripT, if_pos hg, step_blank]
      rw [stripT_blanks k hw m (col + 1) hc]
      refine Prod.ext ?_ ?_ <;> simp only <;> omega
    · have hg : ¬ ((col : Int) < (k : Int) ∧ white 32 = true) := fun h' => by omega
      simp only [stripT, if_neg hg]
      refine Prod.ext ?_ ?_ <;> simp only <;> omega
theorem stripL_list (s : List UInt8) (k : Int) : stripL s k = blanks (((stripT k 0 s).1 : Int) - max 0 k).toNat ++ s.drop (stripT k 0 s).2 := by
  unfold stripL over
  rw [strip_list s k 0 0 (Nat.zero_le _), List.drop_zero, Nat.zero_add]
theorem blanks_drop (m n : Nat) (w : List UInt8) (h : n ≤ m) : (blanks m ++ w).drop n = blanks (m - n) ++ w := by
  rw [List.drop_append_of_le_length (by simpa [blanks] using h)]
  simp [blanks]
theorem stripL_blanks (k m : Nat) {w : List UInt8} (hw : w.dropWhile white = w) : stripL (blanks m ++ w) k = blanks (m - k) ++ w := by
  rw [stripL_list, stripT_blanks k hw m 0 (Nat.zero_le _)]
  simp only
  rw [blanks_drop _ _ _ (by omega), show (((min (0 + m) k : Nat) : Int) - max 0 (k : Int)).toNat = 0 by omega, show m - min m (k - 0) = m - k by omega]
  rfl
theorem drop_idem (s : List UInt8) : (s.dropWhile white).dropWhile white = s.dropWhile white := by
  induction s with
  | nil => rfl
  | cons c s ih =>
    cases hw : white c
    · simp [List.dropWhile_cons, hw]
    · simpa [List.dropWhile_cons, hw] using ih
theorem blanks_white (m : Nat) (w : List UInt8) : (blanks m ++ w).dropWhile white = w.dropWhile white := by
  induction m with
  | zero => rfl
  | succ m ih => rw [blanks_succ, List.cons_append, List.dropWhile_cons, if_pos white_blank, ih]
/-- What is no blank stays. -/
theorem strip_stays (s : List UInt8) (k : Int) : (stripL s k).dropWhile white = s.dropWhile white := by
  rw [stripL_list, blanks_white]
  exact (stripT_ind k s 0).2.1
theorem strip_zero (s : List UInt8) : stripL s 0 = s := by
  rw [stripL_list]
  have : stripT 0 0 s = (0, 0) := by
    cases s with
    | nil => rfl
    | cons c s => simp [stripT]
  rw [this]
  rfl
theorem no_white {t : List UInt8} (h : (indT 0 t).1 = 0) : t.dropWhile white = t := by
  cases t with
  | nil => rfl
  | cons c t =>
    cases hw : white c
    · simp [List.dropWhile_cons, hw]
    · exfalso
      simp only [indT, hw, if_true] at h
      have h1 := (stepC_le 0 c).1
      have key : ∀ (t : List UInt8) (col : Nat), col ≤ (indT col t).1 := by
        intro t
        induction t with
        | nil => intro col; exact Nat.le_refl _
        | cons c t ih =>
          intro col
          simp only [indT]
          split
          · have := ih (stepC col c); have := (stepC_le col c).1; simp only; omega
          · exact Nat.le_refl _
      have := key t (stepC 0 c)
      omega
/-- Nothing is left to strip just if stripping more changes nothing. -/
theorem strip_all (s : List UInt8) (k : Int) (h0 : 0 ≤ k) (h1 : k ≤ 31) : (indT 0 (stripL s k)).1 = 0 ↔ stripL s 99 = stripL s k := by
  obtain ⟨a1, a2, a3, a4, a5, a6⟩ := stripT_ind k s 0
  obtain ⟨b1, b2, b3, b4, b5, b6⟩ := stripT_ind 99 s 0
  obtain ⟨c1, c2⟩ := stripT_more (k := k) (k' := 99) (by omega) s 0
  have hov := over_le s k
  have hov9 := over_le s 99
  have hst := strip_stays s k
  unfold over at hov hov9
  rw [strip_list s _ 0 0 (Nat.zero_le _), List.drop_zero] at hov hov9
  simp only at hov hov9
  have le9 : (stripT 99 0 s).1 < (99 : Int) → stripL s 99 = s.dropWhile white := by
    intro h
    rw [stripL_list, b4 h, show (((stripT 99 0 s).1 : Int) - max 0 99).toNat = 0 by omega]
    rfl
  constructor
  · intro h
    have hw := no_white h
    rw [hst] at hw
    -- all is stripped: so it is within so few columns
    have hlen : (stripT k 0 s).1 ≤ (k : Int) := by
      rw [stripL_list] at hw
      rcases Int.lt_or_le (k : Int) (stripT k 0 s).1 with hgt | hle
      · exfalso
        obtain ⟨m, hm⟩ : ∃ m, (((stripT k 0 s).1 : Int) - max 0 k).toNat = m + 1 := ⟨(((stripT k 0 s).1 : Int) - max 0 k).toNat - 1, by omega⟩
        rw [hm, blanks_succ, List.cons_append] at hw
        have := drop_idem s
        rw [hw, List.dropWhile_cons, if_pos white_blank] at this
        have h3 := congrArg List.length this
        have h2 := (List.dropWhile_sublist white (l := blanks m ++ s.drop (stripT k 0 s).2)).length_le
        simp only [List.length_cons] at h3
        omega
      · exact hle
    have ht : stripL s k = s.drop (stripT k 0 s).2 := by
      rw [stripL_list, show (((stripT k 0 s).1 : Int) - max 0 k).toNat = 0 by omega]; rfl
    rw [← hw]
    refine le9 ?_
    -- behind the shorter strip there is no blank: the longer one stops there
    have hstop : (indT (stripT k 0 s).1 (s.drop (stripT k 0 s).2)).1 = (stripT k 0 s).1 := by
      rw [indT_stop (by rw [← ht, ← hw]; exact drop_idem s)]
    rw [a1] at hstop
    have hle : (stripT 99 0 s).1 ≤ (indT 0 s).1 := by
      rw [← b1]
      have key : ∀ (t : List UInt8) (col : Nat), col ≤ (indT col t).1 := by
        intro t
        induction t with
        | nil => intro col; exact Nat.le_refl _
        | cons c t ih =>
          intro col
          simp only [indT]
          split
          · have := ih (stepC col c); have := (stepC_le col c).1; simp only; omega
          · exact Nat.le_refl _
      exact key _ _
    omega
  · intro h
    have hl := congrArg List.length h
    rw [stripL_list, stripL_list] at hl
    simp only [List.length_append, blanks, List.length_replicate, List.length_drop] at hl
    have hlt : (stripT 99 0 s).1 < (99 : Int) := by omega
    rw [← h, le9 hlt, indT_stop (drop_idem s)]
end Go.Proofs.Ytdjfcjlpemckoaa
