/- Links: which links may be followed: step by step. Own work; printed from wip/law11/s.in by pre2.py. -/
import Derived.Test.YtfnhhkpnfficaaaDoorLkP
import Derived.Test.YtfnhhkpnfficaaaDoorCoSh
namespace Go.Proofs.YtfnhhkpnfficaaaDoor
open Go.Sv
set_option linter.unusedSimpArgs false
set_option linter.unusedVariables false
set_option maxRecDepth 100000

theorem ib_colon : ∀ s : List UInt8, ((58 : UInt8) ∈ s → Lib.indexByte s 58 = ((aheadL s).length : Nat)) ∧ (¬ (58 : UInt8) ∈ s → Lib.indexByte s 58 = -1)
  | [] => ⟨fun h => by simp at h, fun _ => rfl⟩
  | c :: t => by
    have ih := ib_colon t
    rw [indexByte_cons]
    unfold aheadL at ih ⊢
    by_cases hc : c = 58
    · subst hc
      refine ⟨fun _ => ?_, fun h => absurd (List.mem_cons_self) h⟩
      rw [if_pos (by decide)]
      rfl
    · have hb : (c == 58) = false := beq_eq_false_iff_ne.2 hc
      rw [hb, if_neg (by simp)]
      have hw : (c :: t).takeWhile (fun c => !(c == 58)) = c :: t.takeWhile (fun c => !(c == 58)) := by rw [List.takeWhile_cons, hb]; rfl
      refine ⟨fun h => ?_, fun h => ?_⟩
      · rcases List.mem_cons.1 h with h | h
        · exact absurd h.symm hc
        · rw [ih.1 h, hw, List.length_cons]
          rw [if_neg (by simp only [beq_iff_eq]; omega)]
          omega
      · rw [ih.2 (fun g => h (List.mem_cons_of_mem _ g)), if_pos (by decide)]
theorem take_ahead : ∀ s : List UInt8, s.take (aheadL s).length = aheadL s
  | [] => rfl
  | c :: t => by
    have ih := take_ahead t
    unfold aheadL at ih ⊢
    rw [List.takeWhile_cons]
    split
    · rw [List.length_cons, List.take_succ_cons, ih]
    · rfl
theorem cut_yes {s : List UInt8} (h : (58 : UInt8) ∈ s) : (Lib.cut s [58]).1 = aheadL s ∧ (Lib.cut s [58]).2.2 = true := by
  have hi : Lib.index s [58] = ((aheadL s).length : Nat) := by rw [Lib.index_one]; exact (ib_colon s).1 h
  unfold Lib.cut
  rw [hi, if_pos (by omega), Int.toNat_natCast]
  exact ⟨take_ahead s, rfl⟩
theorem cut_no {s : List UInt8} (h : ¬ (58 : UInt8) ∈ s) : Lib.cut s [58] = (s, [], false) := by
  have hi : Lib.index s [58] = -1 := by rw [Lib.index_one]; exact (ib_colon s).2 h
  unfold Lib.cut
  rw [hi]
  rfl
theorem prefix_one (s : List UInt8) : Lib.hasPrefix s [35] = (s.getD 0 0 == 35) := by
  unfold Lib.hasPrefix
  cases s with
  | nil => rfl
  | cons c t =>
    rw [List.getD_cons_zero]
    show (35 == c && List.isPrefixOf [] t) = (c == 35)
    rw [show List.isPrefixOf [] t = true by cases t <;> rfl, Bool.and_true]
    exact BEq.comm
theorem safe_hash {s : List UInt8} (h : s.getD 0 0 = 35) : safeL s = false := if_pos h
theorem safe_no {s : List UInt8} (h : ¬ s.getD 0 0 = 35) (h1 : ¬ (58 : UInt8) ∈ s) : safeL s = true := by unfold safeL; rw [if_neg h, if_neg h1]
theorem safe_yes {s : List UInt8} (h : ¬ s.getD 0 0 = 35) (h1 : (58 : UInt8) ∈ s) : safeL s = (!(schemeL (aheadL s) == javaL) && !(schemeL (aheadL s) == dataL)) := by unfold safeL; rw [if_neg h, if_pos h1]
theorem scheme_next {s : List UInt8} {i : Nat} (h : i < s.length) : schemeL (s.take (i + 1)) = schemeL (s.take i) ++ (if lowB (lowC (s.getD i 0)) = true then [lowC (s.getD i 0)] else []) := by
  unfold schemeL
  rw [List.take_add_one, List.getElem?_eq_getElem h, List.map_append, List.filter_append, List.getD_eq_getElem?_getD, List.getElem?_eq_getElem h]
  congr 1
  show List.filter lowB [lowC s[i]] = if lowB (lowC s[i]) = true then [lowC s[i]] else []
  rw [List.filter_cons]
  rfl
theorem scheme_len (s : List UInt8) : (schemeL s).length ≤ s.length := by
  unfold schemeL
  have := List.length_filter_le lowB (s.map lowC)
  rwa [List.length_map] at this
theorem up_yes {c : UInt8} (h : 65 ≤ c.toNat ∧ c.toNat ≤ 90) : decide (c ≥ 65) = true ∧ decide (c ≤ 90) = true :=
  ⟨decide_eq_true (UInt8.le_iff_toNat_le.2 h.1), decide_eq_true (UInt8.le_iff_toNat_le.2 h.2)⟩
theorem up_not {c : UInt8} (h : ¬ (65 ≤ c.toNat ∧ c.toNat ≤ 90)) : decide (c ≥ 65) = false ∨ (decide (c ≥ 65) = true ∧ decide (c ≤ 90) = false) := by
  by_cases h1 : 65 ≤ c.toNat
  · exact .inr ⟨decide_eq_true (UInt8.le_iff_toNat_le.2 h1), decide_eq_false (fun g => h ⟨h1, UInt8.le_iff_toNat_le.1 g⟩)⟩
  · exact .inl (decide_eq_false (fun g => h1 (UInt8.le_iff_toNat_le.1 g)))
theorem low_up : ∀ c : UInt8, 65 ≤ c.toNat ∧ c.toNat ≤ 90 → lowB (c + 32) = true := by
  intro c h
  unfold lowB
  rw [decide_eq_true_eq, UInt8.toNat_add]
  have : (32 : UInt8).toNat = 32 := rfl
  omega
theorem ahead_at {s : List UInt8} : ∀ i, i < s.length → s.getD i 0 = 58 → (∀ j, j < i → s.getD j 0 ≠ 58) → aheadL s = s.take i ∧ (58 : UInt8) ∈ s := by
  induction s with
  | nil => intro i h; simp at h
  | cons c t ih =>
    intro i hi h hj
    unfold aheadL at ih ⊢
    cases i with
    | zero =>
      rw [List.getD_cons_zero] at h
      subst h
      exact ⟨rfl, List.mem_cons_self⟩
    | succ i =>
      have hc : (c == 58) = false := beq_eq_false_iff_ne.2 (by have := hj 0 (by omega); rwa [List.getD_cons_zero] at this)
      have := ih i (by simpa using hi) (by simpa using h) (fun j hj' => by have := hj (j + 1) (by omega); simpa using this)
      rw [List.takeWhile_cons, hc]
      exact ⟨by rw [List.take_succ_cons, ← this.1]; rfl, List.mem_cons_of_mem _ this.2⟩
theorem no_colon {s : List UInt8} (h : ∀ j, j < s.length → s.getD j 0 ≠ 58) : ¬ (58 : UInt8) ∈ s := by
  intro hm
  obtain ⟨i, hi, he⟩ := List.mem_iff_getElem.1 hm
  have := h i hi
  rw [List.getD_eq_getElem?_getD, List.getElem?_eq_getElem hi] at this
  exact this he
end Go.Proofs.YtfnhhkpnfficaaaDoor
