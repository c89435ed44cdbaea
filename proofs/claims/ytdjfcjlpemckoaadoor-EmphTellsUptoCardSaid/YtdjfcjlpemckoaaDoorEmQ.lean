/- Runes: the last one read backwards is the last one read forwards. Own work; printed from wip/law10/q.in by pre.py. -/
import Derived.Test.YtdjfcjlpemckoaaDoorEmSh
namespace Go.Proofs.YtdjfcjlpemckoaaDoor
open Go.Sv
set_option linter.unusedSimpArgs false
set_option linter.unusedVariables false

theorem decL_cont (s : List UInt8) : (2 ≤ (decL s).2 → (s.getD 0 0).toNat / 64 = 3) ∧ ∀ j, 0 < j → j < (decL s).2 → (s.getD j 0).toNat / 64 = 2 := by
  unfold decL
  dsimp only
  split
  · exact ⟨fun h => by simp at h, fun j h1 h2 => by simp at h2; omega⟩
  split
  · rename_i h1 h2
    rw [Bool.and_eq_true, Bool.and_eq_true, beq_iff_eq, beq_iff_eq] at h2
    split
    · refine ⟨fun _ => by omega, fun j k1 k2 => ?_⟩
      have : j = 1 := by simp only at k2; omega
      subst this; exact h2.2.2
    · exact ⟨fun h => by simp at h, fun j h1 h2 => by simp at h2; omega⟩
  split
  · rename_i h1 h2 h3
    simp only [Bool.and_eq_true, beq_iff_eq] at h3
    split
    · refine ⟨fun _ => by omega, fun j k1 k2 => ?_⟩
      have : j = 1 ∨ j = 2 := by simp only at k2; omega
      rcases this with rfl | rfl
      · exact h3.1.2.2
      · exact h3.2.2
    · exact ⟨fun h => by simp at h, fun j h1 h2 => by simp at h2; omega⟩
  split
  · rename_i h1 h2 h3 h4
    simp only [Bool.and_eq_true, beq_iff_eq] at h4
    split
    · refine ⟨fun _ => by omega, fun j k1 k2 => ?_⟩
      have : j = 1 ∨ j = 2 ∨ j = 3 := by simp only at k2; omega
      rcases this with rfl | rfl | rfl
      · exact h4.1.1.2.2
      · exact h4.1.2.2
      · exact h4.2.2
    · exact ⟨fun h => by simp at h, fun j h1 h2 => by simp at h2; omega⟩
  · exact ⟨fun h => by simp at h, fun j h1 h2 => by simp at h2; omega⟩
theorem decL_le4 (s : List UInt8) : (decL s).2 ≤ 4 := by
  unfold decL
  dsimp only
  repeat' split
  all_goals simp
/-- A byte that begins a rune is where one begins. -/
theorem vr_at (s : List UInt8) (j : Nat) (hj : j < s.length) (hst : (s.getD j 0).toNat / 64 ≠ 2) : ∃ l, vr s = l ++ vr (s.drop j) := by
  by_cases h0 : j = 0
  · subst h0; exact ⟨[], by simp⟩
  · have hne : s ≠ [] := by rintro rfl; simp at hj
    have hp := decL_pos s
    have hd : (decL s).2 ≤ j := by
      rcases Nat.lt_or_ge j (decL s).2 with h | h
      · exact absurd ((decL_cont s).2 j (by omega) h) hst
      · exact h
    obtain ⟨l, hl⟩ := vr_at (s.drop (decL s).2) (j - (decL s).2) (by rw [List.length_drop]; omega) (by rw [getD_drop']; rw [show (decL s).2 + (j - (decL s).2) = j by omega]; exact hst)
    rw [List.drop_drop, show (decL s).2 + (j - (decL s).2) = j by omega] at hl
    exact ⟨((decL s).1 : Int) :: l, by rw [vr_ne hne, hl]; rfl⟩
termination_by s.length
decreasing_by rw [List.length_drop]; omega
theorem vr_last (s : List UInt8) (h : s ≠ []) : ∃ i, i < s.length ∧ i + (decL (s.drop i)).2 = s.length ∧ (vr s).getLast? = some (((decL (s.drop i)).1 : Nat) : Int) := by
  have hp := decL_pos s
  have hle := decL_le s h
  have hlen : 0 < s.length := List.length_pos_iff.2 h
  by_cases he : (decL s).2 = s.length
  · refine ⟨0, hlen, by rw [List.drop_zero]; omega, ?_⟩
    rw [vr_ne h, he, List.drop_length, vr_nil, List.drop_zero]
    rfl
  · have hne : s.drop (decL s).2 ≠ [] := by rw [Ne, List.drop_eq_nil_iff]; omega
    obtain ⟨i, h1, h2, h3⟩ := vr_last (s.drop (decL s).2) hne
    rw [List.length_drop] at h1 h2
    rw [List.drop_drop] at h2 h3
    refine ⟨(decL s).2 + i, by omega, by omega, ?_⟩
    rw [vr_ne h, List.getLast?_cons, h3]
    rfl
termination_by s.length
decreasing_by rw [List.length_drop]; omega
theorem lib_decodeL (l : List UInt8) : Lib.decodeL l = decL l := by
  have := decU_list l 0
  rw [List.drop_zero] at this
  exact this
theorem drop_last {s : List UInt8} (h : 0 < s.length) : s.drop (s.length - 1) = [s.getD (s.length - 1) 0] := by
  rw [List.drop_eq_getElem_cons (by omega), List.drop_eq_nil_of_le (by omega), List.getD_eq_getElem?_getD, List.getElem?_eq_getElem (by omega)]
  rfl
theorem decL_one {b : UInt8} (h : ¬ b.toNat < 128) : decL [b] = (65533, 1) := by
  unfold decL
  simp [h]
theorem start_of {b : UInt8} (h : b.toNat / 64 = 3) : Lib.runeStartB b = true := by
  unfold Lib.runeStartB
  rw [h]; rfl
theorem start_not {b : UInt8} (h : b.toNat / 64 = 2) : Lib.runeStartB b = false := by
  unfold Lib.runeStartB
  rw [h]; rfl
theorem lastStart_le (s : List UInt8) (h : 2 ≤ s.length) : Lib.lastStart s ≤ s.length - 2 := by
  unfold Lib.lastStart
  dsimp only
  repeat' split
  all_goals omega
theorem last_vr (s : List UInt8) (h : s ≠ []) : (vr s).getLast? = some (((Lib.decodeLastL s).1 : Nat) : Int) := by
  have hlen : 0 < s.length := List.length_pos_iff.2 h
  unfold Lib.decodeLastL
  rw [if_neg h]
  by_cases hb : (s.getD (s.length - 1) 0).toNat < 128
  · rw [if_pos hb]
    obtain ⟨l, hl⟩ := vr_at s (s.length - 1) (by omega) (by omega)
    rw [hl, drop_last hlen, vr_cons, decL_small hb]
    simp [vr_nil]
  · rw [if_neg hb]
    dsimp only
    rw [lib_decodeL]
    by_cases hm : Lib.lastStart s + (decL (s.drop (Lib.lastStart s))).2 = s.length
    · rw [if_pos hm]
      have hd1 := decL_pos (s.drop (Lib.lastStart s))
      have hlt : Lib.lastStart s < s.length := by omega
      by_cases h2 : 2 ≤ (decL (s.drop (Lib.lastStart s))).2
      · have hs := (decL_cont (s.drop (Lib.lastStart s))).1 h2
        rw [getD_drop', Nat.add_zero] at hs
        obtain ⟨l, hl⟩ := vr_at s (Lib.lastStart s) hlt (by omega)
        have hne : s.drop (Lib.lastStart s) ≠ [] := by rw [Ne, List.drop_eq_nil_iff]; omega
        rw [hl, vr_ne hne, List.drop_drop, hm, List.drop_length, vr_nil]
        simp
      · have hone : s.length = 1 := by
          rcases Nat.lt_or_ge s.length 2 with k | k
          · omega
          · have := lastStart_le s k
            omega
        have hst : Lib.lastStart s = 0 := by omega
        rw [hst, List.drop_zero]
        rw [vr_ne h]
        have : s.drop (decL s).2 = [] := by
          have := decL_pos s
          rw [List.drop_eq_nil_iff]; omega
        rw [this, vr_nil]
        rfl
    · rw [if_neg hm]
      obtain ⟨i, h1, h2, h3⟩ := vr_last s h
      have hp := decL_pos (s.drop i)
      have h4 := decL_le4 (s.drop i)
      obtain ⟨c1, c2⟩ := decL_cont (s.drop i)
      by_cases hk : 2 ≤ (decL (s.drop i)).2
      · exfalso
        have hs := c1 hk
        rw [getD_drop', Nat.add_zero] at hs
        have hst : Lib.lastStart s = i := by
          have hk3 : (decL (s.drop i)).2 = 2 ∨ (decL (s.drop i)).2 = 3 ∨ (decL (s.drop i)).2 = 4 := by omega
          rcases hk3 with k | k | k
          · exact Lib.lastStart_at2 s i (by omega) (start_of hs)
          · have q1 := c2 1 (by omega) (by omega)
            rw [getD_drop'] at q1
            exact Lib.lastStart_at3 s i (by omega) (start_not q1) (start_of hs)
          · have q1 := c2 1 (by omega) (by omega)
            have q2 := c2 2 (by omega) (by omega)
            rw [getD_drop'] at q1 q2
            exact Lib.lastStart_at4 s i (by omega) (start_not q2) (start_not q1) (start_of hs)
        rw [hst] at hm
        exact hm h2
      · have hi : i = s.length - 1 := by omega
        rw [h3, hi, drop_last hlen, decL_one hb]
        rfl
end Go.Proofs.YtdjfcjlpemckoaaDoor
