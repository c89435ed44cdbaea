/- Lines: bytes parted into texts and their ends, as lists alone; and what the functions compute is that. Own work; printed from wip/law1/p.in by pre.py. -/
import Derived.Test.YtognfedcnciafaaLineE
namespace Go.Proofs.Ytognfedcnciafaa
open Go.Sv
set_option linter.unusedSimpArgs false
set_option linter.unusedVariables false

def noEnd (c : UInt8) : Bool := c != 10 && c != 13
/-- An end, at the beginning of these bytes. -/
def endOf : List UInt8 → List UInt8
  | [] => []
  | c :: r => if c = 13 ∧ r.head? = some 10 then [13, 10] else [c]
def lines (s : List UInt8) : List (List UInt8 × List UInt8) :=
  if h : s = [] then [] else (s.takeWhile noEnd, endOf (s.dropWhile noEnd)) :: lines ((s.dropWhile noEnd).drop (endOf (s.dropWhile noEnd)).length)
termination_by s.length
decreasing_by
  have h1 := congrArg List.length (List.takeWhile_append_dropWhile (p := noEnd) (l := s))
  rw [List.length_append] at h1
  have hp : 0 < s.length := List.length_pos_iff.2 h
  cases hd : s.dropWhile noEnd with
  | nil => rw [hd] at h1; simp; exact hp
  | cons c r =>
    rw [hd] at h1
    have : 1 ≤ (endOf (c :: r)).length := by rw [endOf]; split <;> first | exact Nat.le_refl 1 | exact Nat.le_succ 1
    rw [List.length_drop]
    simp only [List.length_cons] at h1 ⊢
    omega

theorem lines_nil : lines [] = [] := by rw [lines, dif_pos rfl]
theorem lines_ne {s : List UInt8} (h : s ≠ []) : lines s = (s.takeWhile noEnd, endOf (s.dropWhile noEnd)) :: lines ((s.dropWhile noEnd).drop (endOf (s.dropWhile noEnd)).length) := by rw [lines, dif_neg h]

theorem getD_drop (b : List UInt8) (i : Nat) (h : i < b.length) : b.drop i = b.getD i 0 :: b.drop (i + 1) := by
  rw [List.getD_eq_getElem?_getD, List.getElem?_eq_getElem h]
  exact List.drop_eq_getElem_cons h

theorem eol_take (b : List UInt8) (i : Nat) (hi : i ≤ b.length) : eol b i = i + ((b.drop i).takeWhile noEnd).length ∧ b.drop (eol b i) = (b.drop i).dropWhile noEnd ∧ (b.take (eol b i)).drop i = (b.drop i).takeWhile noEnd := by
  by_cases h : i < b.length
  · by_cases hc : b.getD i 0 = 10 ∨ b.getD i 0 = 13
    · have he : eol b i = i := eol_at (by rintro ⟨_, h1, h2⟩; rcases hc with h | h <;> contradiction)
      have hn : noEnd (b.getD i 0) = false := by unfold noEnd; rcases hc with h | h <;> rw [h] <;> rfl
      rw [he, getD_drop b i h]
      simp only [List.takeWhile_cons, List.dropWhile_cons, hn, Bool.false_eq_true, if_false, List.length_nil, Nat.add_zero, true_and]
      rw [List.drop_eq_nil_of_le (by rw [List.length_take]; omega)]
    · have h1 : ¬ b.getD i 0 = 10 := fun e => hc (.inl e)
      have h2 : ¬ b.getD i 0 = 13 := fun e => hc (.inr e)
      have hn : noEnd (b.getD i 0) = true := by unfold noEnd; rw [bne_iff_ne.2 h1, bne_iff_ne.2 h2]; rfl
      have ih := eol_take b (i + 1) h
      rw [eol_next h h1 h2]
      have hle := eol_le b (i + 1) h
      rw [getD_drop b i h]
      simp only [List.takeWhile_cons, List.dropWhile_cons, hn, if_true, List.length_cons]
      refine ⟨by omega, ih.2.1, ?_⟩
      rw [← ih.2.2]
      have : i < (b.take (eol b (i + 1))).length := by rw [List.length_take]; omega
      rw [List.drop_eq_getElem_cons this]
      congr 1
      rw [List.getElem_take, List.getD_eq_getElem?_getD, List.getElem?_eq_getElem h]
      rfl
  · have : i = b.length := by omega
    subst this
    have he : eol b b.length = b.length := eol_at (by omega)
    rw [he]
    simp
termination_by b.length - i

theorem nxt_end (b : List UInt8) (e : Nat) (h : e ≤ b.length) : nxt b e = e + (endOf (b.drop e)).length ∧ (b.take (nxt b e)).drop e = endOf (b.drop e) := by
  by_cases hl : e < b.length
  · have hd := getD_drop b e hl
    have hcond : (b.getD e 0 = 13 ∧ (e : Int) + 1 < b.length ∧ b.getD ((e : Int) + 1).toNat 0 = 10) ↔ (b.getD e 0 = 13 ∧ (b.drop (e + 1)).head? = some 10) := by
      have ht : ((e : Int) + 1).toNat = e + 1 := by omega
      rw [ht]
      refine and_congr_right fun _ => ?_
      rw [List.head?_drop]
      constructor
      · rintro ⟨h1, h2⟩
        rw [List.getD_eq_getElem?_getD] at h2
        rw [List.getElem?_eq_getElem (by omega)] at h2 ⊢
        simpa using h2
      · intro h2
        have hlt : e + 1 < b.length := by
          rcases Nat.lt_or_ge (e + 1) b.length with h' | h'
          · exact h'
          · rw [List.getElem?_eq_none h'] at h2; simp at h2
        exact ⟨by omega, by rw [List.getD_eq_getElem?_getD, h2]; rfl⟩
    rw [nxt_ref hl, hd, endOf]
    by_cases hc : b.getD e 0 = 13 ∧ (b.drop (e + 1)).head? = some 10
    · rw [if_pos (hcond.2 hc), if_pos hc]
      refine ⟨rfl, ?_⟩
      rw [List.drop_take, hd, show e + 2 - e = 2 by omega, List.take_succ_cons, hc.1]
      obtain ⟨x, r, hx⟩ : ∃ x r, b.drop (e + 1) = x :: r := by
        cases hdd : b.drop (e + 1) with
        | nil => rw [hdd] at hc; simp at hc
        | cons x r => exact ⟨x, r, rfl⟩
      rw [hx] at hc ⊢
      simp at hc
      simp [hc.2]
    · rw [if_neg (fun h' => hc (hcond.1 h')), if_neg hc]
      refine ⟨rfl, ?_⟩
      rw [List.drop_take, hd, show e + 1 - e = 1 by omega]
      rfl
  · have he : e = b.length := by omega
    subst he
    have hn : nxt b b.length = b.length := by unfold nxt; rw [if_neg (by omega)]; omega
    rw [hn]
    simp [endOf]

def lineEnd (b : List UInt8) (l : Int × Int × Int × Unit) : List UInt8 := (b.take l.2.2.1.toNat).drop l.2.1.toNat
theorem split_lines (b : List UInt8) (i : Nat) (hi : i ≤ b.length) : (splitFrom b i).map (fun l => (lineText b l, lineEnd b l)) = lines (b.drop i) := by
  by_cases h : i < b.length
  · have h1 := eol_take b i hi
    have hle := eol_le b i hi
    have h2 := nxt_end b (eol b i) hle.2
    have h3 := nxt_le b (eol b i) hle.2
    have h4 := nxt_gt b i h
    rw [splitFrom_pos h, lines_ne (by rw [getD_drop b i h]; simp), List.map_cons, split_lines b _ h3]
    congr 1
    · unfold lineText lineEnd
      simp only [Int.toNat_natCast]
      rw [h1.2.2, h2.2, h1.2.1]
    · rw [← h1.2.1, List.drop_drop, ← h2.1]
  · rw [splitFrom_neg h, List.drop_eq_nil_of_le (by omega), lines_nil]; rfl
termination_by b.length - i
decreasing_by omega

theorem texts_lines (b : List UInt8) : textsOf b = (lines b).map (·.1) := by
  have h := split_lines b 0 (Nat.zero_le _)
  rw [List.drop_zero] at h
  rw [textsOf, ← h, List.map_map]
  rfl
theorem count_lines (b : List UInt8) : (splitFrom b 0).length = (lines b).length := by
  have h := split_lines b 0 (Nat.zero_le _)
  rw [List.drop_zero] at h
  rw [← h, List.length_map]
theorem last_lines (b : List UInt8) : lastOf b = match lines b with
    | [] => []
    | x :: _ => x.2 := by
  have h := split_lines b 0 (Nat.zero_le _)
  rw [List.drop_zero] at h
  rw [← h, lastOf]
  cases splitFrom b 0 with
  | nil => rfl
  | cons x r => rfl
end Go.Proofs.Ytognfedcnciafaa
