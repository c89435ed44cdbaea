/- Links: what the next rune is, and small letters: step by step. Own work; printed from wip/law11/v.in by pre2.py. -/
import Derived.Test.YtfnhhkpnfficaaaDoorLkP
namespace Go.Proofs.YtfnhhkpnfficaaaDoor
open Go.Sv
set_option linter.unusedSimpArgs false
set_option linter.unusedVariables false
set_option maxRecDepth 100000

theorem low_yes {c : UInt8} (h : lowB c = true) : decide (c ≥ 97) = true ∧ decide (c ≤ 122) = true := by
  unfold lowB at h
  rw [decide_eq_true_eq] at h
  exact ⟨decide_eq_true (UInt8.le_iff_toNat_le.2 h.1), decide_eq_true (UInt8.le_iff_toNat_le.2 h.2)⟩
theorem low_not {c : UInt8} (h : ¬ lowB c = true) : decide (c ≥ 97) = false ∨ (decide (c ≥ 97) = true ∧ decide (c ≤ 122) = false) := by
  unfold lowB at h
  rw [decide_eq_true_eq] at h
  by_cases h1 : 97 ≤ c.toNat
  · exact .inr ⟨decide_eq_true (UInt8.le_iff_toNat_le.2 h1), decide_eq_false (fun g => h ⟨h1, UInt8.le_iff_toNat_le.1 g⟩)⟩
  · exact .inl (decide_eq_false (fun g => h1 (UInt8.le_iff_toNat_le.1 g)))
def autoV (s : List UInt8) (a : Int) : AVal := .tup [.str (autoL s a).1, .int .i64 (autoL s a).2.1, .bool (autoL s a).2.2]
theorem toNat_k1 (k : Nat) : ((k : Int) + 1).toNat = k + 1 := by omega
theorem toNat_k1x (k x : Nat) : ((k : Int) + 1 + x).toNat = k + 1 + x := by omega
theorem drop_low {s : List UInt8} {i n : Nat} (h : lowN (s.drop i) = n) : n + i ≤ s.length ∨ n = 0 := by
  have := low_le (s.drop i)
  rw [List.length_drop] at this
  omega
theorem next_V {s : List UInt8} {i r m : Nat} {own : Bool} (h : nextA s i = (r, m, own)) : nextV s (i : Int) = .tup [.int .i32 r, .int .i64 m, .bool own] := by
  unfold nextV; rw [Int.toNat_natCast, h]
end Go.Proofs.YtfnhhkpnfficaaaDoor
