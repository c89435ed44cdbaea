/- Links: what judges of runes, and of bytes, come to; the rune at a place: step by step. Own work; printed from wip/law11/n.in by pre2.py. -/
import Derived.Test.YtfnhhkpnfficaaaDoorCoB
namespace Go.Proofs.YtfnhhkpnfficaaaDoor
open Go.Sv
set_option linter.unusedSimpArgs false
set_option linter.unusedVariables false
set_option maxRecDepth 100000

def asciiP (n : Int) : Bool := decide ((33 ≤ n ∧ n ≤ 47) ∨ (58 ≤ n ∧ n ≤ 64) ∨ (91 ≤ n ∧ n ≤ 96) ∨ (123 ≤ n ∧ n ≤ 126))
def punctR (n : Int) : Bool := decide ((33 ≤ n ∧ n ≤ 47) ∨ (58 ≤ n ∧ n ≤ 64) ∨ (91 ≤ n ∧ n ≤ 96) ∨ (123 ≤ n ∧ n ≤ 126) ∨ n = 161 ∨ n = 167 ∨ n = 12289 ∨ n = 12290 ∨ (8208 ≤ n ∧ n ≤ 8231))

theorem ntmps26 : Tryd.f26.ntmps = 33 := rfl
set_option maxHeartbeats 4000000 in
theorem ascii26 {B0 : Base} {n : Int} {H : Hp} {K : AVal → Hp → Prop} (h : K (.bool (asciiP n)) H) : FnC Tryd.prog B0 26 [.int .i32 n] H K := by
  refine fn_of_tr Tryd.func26 rfl (by decide) (by simp) ?_
  repeat' (first | (refine kw (by assumption) ?_) | (refine tr_seqk ?_; intro K_ hK_) | (refine tr_block ?_) | (refine inBlock_normal ?_) | (refine andThen_normal ?_) | (refine And.intro (by omega) ?_) | (refine tr_return rfl rfl (Hp.Le.refl _) ?_) | (refine ends_normal rfl (Hp.Le.refl _) ?_) | (refine fun (b_ : Nat) hb_ => ?_) | (refine tr_regk 3 ?_; intro K_ hK_) | (refine tr_if ?_) | (refine tr_rege 3 ?_; intro K_ hK_) | (refine tr_skip ?_) | (refine tr_exit ?_) | (refine tr_drawk 3 followsF (by decide +kernel) ?_; intro K_ hK_) | (refine tr_drawe 3 followsF (by decide +kernel) ?_; intro K_ hK_) | (simp (maxSteps := 2000000) (disch := omega) only [go_sem, F, Nat.reduceLT, Nat.reduceLeDiff, Nat.reduceAdd, Nat.reduceEqDiff, ↓reduceIte, reduceCtorEq, Int.reduceLE, Int.reduceLT, Int.reduceToNat, UInt8.reduceOfNat, Nat.reduceSub, Int.reduceNeg, Nat.reduceMul, Int.reduceEq, Int.reduceBEq, Int.reduceBNe, ntmps26]) | (refine gate_split (fun hc => ?_) (fun hc => ?_) <;> (try simp only [SB] at hc) <;> simp (disch := omega) only [hc, go_sem, F, Nat.reduceLT, Nat.reduceLeDiff, Nat.reduceAdd, Nat.reduceEqDiff, ↓reduceIte, reduceCtorEq, Int.reduceLE, Int.reduceLT, Int.reduceToNat, UInt8.reduceOfNat, Nat.reduceSub, Int.reduceNeg, Nat.reduceMul, Int.reduceEq, Int.reduceBEq, Int.reduceBNe, ntmps26] <;> (try simp only [SC] at hc) <;> try (first | exact absurd (by assumption) hc | exact absurd hc (by assumption) | exact False.elim hc | (refine False.elim ?_; omega))))
  all_goals first
    | (have e : asciiP n = true := decide_eq_true (by omega)
       rw [e] at h; exact h)
    | (have e : asciiP n = false := decide_eq_false (by omega)
       rw [e] at h; exact h)
    | (have e : asciiP n = decide (n ≤ 126) := by (unfold asciiP; rw [decide_eq_decide]; omega)
       rw [e] at h; exact h)
    | skip

theorem ntmps77 : Tryd.f77.ntmps = 43 := rfl
set_option maxHeartbeats 4000000 in
theorem punct77 {B0 : Base} {n : Int} {H : Hp} {K : AVal → Hp → Prop} (h : K (.bool (punctR n)) H) : FnC Tryd.prog B0 77 [.int .i32 n] H K := by
  refine fn_of_tr Tryd.func77 rfl (by decide) (by simp) ?_
  repeat' (first | (refine kw (by assumption) ?_) | (refine tr_seqk ?_; intro K_ hK_) | (refine tr_block ?_) | (refine inBlock_normal ?_) | (refine andThen_normal ?_) | (refine And.intro (by omega) ?_) | (refine tr_return rfl rfl (Hp.Le.refl _) ?_) | (refine ends_normal rfl (Hp.Le.refl _) ?_) | (refine fun (b_ : Nat) hb_ => ?_) | (refine tr_regk 3 ?_; intro K_ hK_) | (refine tr_if ?_) | (refine tr_rege 3 ?_; intro K_ hK_) | (refine tr_skip ?_) | (refine tr_exit ?_) | (refine tr_drawk 3 followsF (by decide +kernel) ?_; intro K_ hK_) | (refine tr_drawe 3 followsF (by decide +kernel) ?_; intro K_ hK_) | (simp (maxSteps := 2000000) (disch := omega) only [go_sem, F, Nat.reduceLT, Nat.reduceLeDiff, Nat.reduceAdd, Nat.reduceEqDiff, ↓reduceIte, reduceCtorEq, Int.reduceLE, Int.reduceLT, Int.reduceToNat, UInt8.reduceOfNat, Nat.reduceSub, Int.reduceNeg, Nat.reduceMul, Int.reduceEq, Int.reduceBEq, Int.reduceBNe, ntmps77]) | (refine gate_split (fun hc => ?_) (fun hc => ?_) <;> (try simp only [SB] at hc) <;> simp (disch := omega) only [hc, go_sem, F, Nat.reduceLT, Nat.reduceLeDiff, Nat.reduceAdd, Nat.reduceEqDiff, ↓reduceIte, reduceCtorEq, Int.reduceLE, Int.reduceLT, Int.reduceToNat, UInt8.reduceOfNat, Nat.reduceSub, Int.reduceNeg, Nat.reduceMul, Int.reduceEq, Int.reduceBEq, Int.reduceBNe, ntmps77] <;> (try simp only [SC] at hc) <;> try (first | exact absurd (by assumption) hc | exact absurd hc (by assumption) | exact False.elim hc | (refine False.elim ?_; omega))))
  all_goals first
    | (have e : punctR n = true := decide_eq_true (by omega)
       rw [e] at h; exact h)
    | (have e : punctR n = false := decide_eq_false (by omega)
       rw [e] at h; exact h)
    | (have e : punctR n = decide (n ≤ 8231) := by (unfold punctR; rw [decide_eq_decide]; omega)
       rw [e] at h; exact h)
    | skip

theorem punct_small {c : UInt8} (h : c < 128) : punctR c.toNat = asciiP c.toNat := by
  rw [UInt8.lt_iff_toNat_lt] at h
  unfold punctR asciiP
  rw [decide_eq_decide]
  have : (128 : UInt8).toNat = 128 := rfl
  omega
theorem ascii_big {c : UInt8} (h : ¬ c < 128) : asciiP c.toNat = false := by
  rw [UInt8.lt_iff_toNat_lt] at h
  have : (128 : UInt8).toNat = 128 := rfl
  exact decide_eq_false (by omega)
theorem ntmps60 : Tryd.f60.ntmps = 10 := rfl
set_option maxHeartbeats 4000000 in
theorem punct60 {B0 : Base} {c : UInt8} {H : Hp} {K : AVal → Hp → Prop} (h : K (.bool (asciiP c.toNat)) H) : FnC Tryd.prog B0 60 [.u8 c] H K := by
  refine fn_of_tr Tryd.func60 rfl (by decide) (by simp) ?_
  have h8 := c.toNat_lt
  repeat' (first | (refine kw (by assumption) ?_) | (refine tr_seqk ?_; intro K_ hK_) | (refine tr_block ?_) | (refine inBlock_normal ?_) | (refine andThen_normal ?_) | (refine And.intro (by omega) ?_) | (refine tr_return rfl rfl (Hp.Le.refl _) ?_) | (refine ends_normal rfl (Hp.Le.refl _) ?_) | (refine fun (b_ : Nat) hb_ => ?_) | (refine tr_regk 3 ?_; intro K_ hK_) | (refine tr_if ?_) | (refine tr_rege 3 ?_; intro K_ hK_) | (refine tr_skip ?_) | (refine tr_exit ?_) | (refine tr_drawk 3 followsF (by decide +kernel) ?_; intro K_ hK_) | (refine tr_drawe 3 followsF (by decide +kernel) ?_; intro K_ hK_) | (simp (maxSteps := 2000000) (disch := omega) only [go_sem, F, Nat.reduceLT, Nat.reduceLeDiff, Nat.reduceAdd, Nat.reduceEqDiff, ↓reduceIte, reduceCtorEq, Int.reduceLE, Int.reduceLT, Int.reduceToNat, UInt8.reduceOfNat, Nat.reduceSub, Int.reduceNeg, Nat.reduceMul, Int.reduceEq, Int.reduceBEq, Int.reduceBNe, ntmps60]) | (refine wFn_intro (punct77 ?_)) | (refine ⟨_, wFn_intro (punct77 ⟨rfl, rfl⟩), ?_⟩) | (refine gate_split (fun hc => ?_) (fun hc => ?_) <;> (try simp only [SB] at hc) <;> simp (disch := omega) only [hc, go_sem, F, Nat.reduceLT, Nat.reduceLeDiff, Nat.reduceAdd, Nat.reduceEqDiff, ↓reduceIte, reduceCtorEq, Int.reduceLE, Int.reduceLT, Int.reduceToNat, UInt8.reduceOfNat, Nat.reduceSub, Int.reduceNeg, Nat.reduceMul, Int.reduceEq, Int.reduceBEq, Int.reduceBNe, ntmps60] <;> (try simp only [SC] at hc) <;> try (first | exact absurd (by assumption) hc | exact absurd hc (by assumption) | exact False.elim hc | (refine False.elim ?_; omega))))
  · rw [← punct_small hc] at h; exact h
  · rw [ascii_big hc] at h; exact h

/-- The rune at a place, where the next one is, and whether it means itself. -/
def nextA (s : List UInt8) (a : Nat) : Nat × Nat × Bool :=
  if a < s.length then (if s.getD a 0 = 92 ∧ a + 1 < s.length ∧ asciiP (s.getD (a + 1) 0).toNat = true then ((s.getD (a + 1) 0).toNat, a + 2, true) else ((decL (s.drop a)).1, a + (decL (s.drop a)).2, false)) else (0, s.length, false)
theorem nextA_out {s : List UInt8} {a : Nat} (h : ¬ a < s.length) : nextA s a = (0, s.length, false) := if_neg h
theorem nextA_sign {s : List UInt8} {a : Nat} (h : a < s.length) (h' : s.getD a 0 = 92 ∧ a + 1 < s.length ∧ asciiP (s.getD (a + 1) 0).toNat = true) : nextA s a = ((s.getD (a + 1) 0).toNat, a + 2, true) := by unfold nextA; rw [if_pos h, if_pos h']
theorem nextA_rune {s : List UInt8} {a : Nat} (h : a < s.length) (h' : ¬ (s.getD a 0 = 92 ∧ a + 1 < s.length ∧ asciiP (s.getD (a + 1) 0).toNat = true)) : nextA s a = ((decL (s.drop a)).1, a + (decL (s.drop a)).2, false) := by unfold nextA; rw [if_pos h, if_neg h']
def blankR (n : Int) : Bool := decide ((9 ≤ n ∧ n ≤ 13) ∨ n = 32 ∨ n = 160 ∨ n = 8195 ∨ n = 12288)
theorem ntmps48 : Tryd.f48.ntmps = 14 := rfl
set_option maxHeartbeats 4000000 in
theorem blank48 {B0 : Base} {n : Int} {H : Hp} {K : AVal → Hp → Prop} (h : K (.bool (blankR n)) H) : FnC Tryd.prog B0 48 [.int .i32 n] H K := by
  refine fn_of_tr Tryd.func48 rfl (by decide) (by simp) ?_
  repeat' (first | (refine kw (by assumption) ?_) | (refine tr_seqk ?_; intro K_ hK_) | (refine tr_block ?_) | (refine inBlock_normal ?_) | (refine andThen_normal ?_) | (refine And.intro (by omega) ?_) | (refine tr_return rfl rfl (Hp.Le.refl _) ?_) | (refine ends_normal rfl (Hp.Le.refl _) ?_) | (refine fun (b_ : Nat) hb_ => ?_) | (refine tr_regk 5 ?_; intro K_ hK_) | (refine tr_if ?_) | (refine tr_rege 5 ?_; intro K_ hK_) | (refine tr_skip ?_) | (refine tr_exit ?_) | (refine tr_drawk 5 followsF (by decide +kernel) ?_; intro K_ hK_) | (refine tr_drawe 5 followsF (by decide +kernel) ?_; intro K_ hK_) | (simp (maxSteps := 2000000) (disch := omega) only [go_sem, F, Nat.reduceLT, Nat.reduceLeDiff, Nat.reduceAdd, Nat.reduceEqDiff, ↓reduceIte, reduceCtorEq, Int.reduceLE, Int.reduceLT, Int.reduceToNat, UInt8.reduceOfNat, Nat.reduceSub, Int.reduceNeg, Nat.reduceMul, Int.reduceEq, Int.reduceBEq, Int.reduceBNe, ntmps48]) | (refine gate_split (fun hc => ?_) (fun hc => ?_) <;> (try simp only [SB] at hc) <;> simp (disch := omega) only [hc, go_sem, F, Nat.reduceLT, Nat.reduceLeDiff, Nat.reduceAdd, Nat.reduceEqDiff, ↓reduceIte, reduceCtorEq, Int.reduceLE, Int.reduceLT, Int.reduceToNat, UInt8.reduceOfNat, Nat.reduceSub, Int.reduceNeg, Nat.reduceMul, Int.reduceEq, Int.reduceBEq, Int.reduceBNe, ntmps48] <;> (try simp only [SC] at hc) <;> try (first | exact absurd (by assumption) hc | exact absurd hc (by assumption) | exact False.elim hc | (refine False.elim ?_; omega))))
  all_goals first
    | (have e : blankR n = true := decide_eq_true (by omega)
       rw [e] at h; exact h)
    | (have e : blankR n = false := decide_eq_false (by omega)
       rw [e] at h; exact h)
    | skip
theorem ntmps25 : Tryd.f25.ntmps = 25 := rfl
set_option maxHeartbeats 4000000 in
theorem rblank25 {B0 : Base} {n : Int} {H : Hp} {K : AVal → Hp → Prop} (h : K (.bool (blankR n)) H) : FnC Tryd.prog B0 25 [.int .i32 n] H K := by
  refine fn_of_tr Tryd.func25 rfl (by decide) (by simp) ?_
  repeat' (first | (refine kw (by assumption) ?_) | (refine tr_seqk ?_; intro K_ hK_) | (refine tr_block ?_) | (refine inBlock_normal ?_) | (refine andThen_normal ?_) | (refine And.intro (by omega) ?_) | (refine tr_return rfl rfl (Hp.Le.refl _) ?_) | (refine ends_normal rfl (Hp.Le.refl _) ?_) | (refine fun (b_ : Nat) hb_ => ?_) | (refine tr_regk 3 ?_; intro K_ hK_) | (refine tr_if ?_) | (refine tr_rege 3 ?_; intro K_ hK_) | (refine tr_skip ?_) | (refine tr_exit ?_) | (refine tr_drawk 3 followsF (by decide +kernel) ?_; intro K_ hK_) | (refine tr_drawe 3 followsF (by decide +kernel) ?_; intro K_ hK_) | (simp (maxSteps := 2000000) (disch := omega) only [go_sem, F, Nat.reduceLT, Nat.reduceLeDiff, Nat.reduceAdd, Nat.reduceEqDiff, ↓reduceIte, reduceCtorEq, Int.reduceLE, Int.reduceLT, Int.reduceToNat, UInt8.reduceOfNat, Nat.reduceSub, Int.reduceNeg, Nat.reduceMul, Int.reduceEq, Int.reduceBEq, Int.reduceBNe, ntmps25]) | (refine gate_split (fun hc => ?_) (fun hc => ?_) <;> (try simp only [SB] at hc) <;> simp (disch := omega) only [hc, go_sem, F, Nat.reduceLT, Nat.reduceLeDiff, Nat.reduceAdd, Nat.reduceEqDiff, ↓reduceIte, reduceCtorEq, Int.reduceLE, Int.reduceLT, Int.reduceToNat, UInt8.reduceOfNat, Nat.reduceSub, Int.reduceNeg, Nat.reduceMul, Int.reduceEq, Int.reduceBEq, Int.reduceBNe, ntmps25] <;> (try simp only [SC] at hc) <;> try (first | exact absurd (by assumption) hc | exact absurd hc (by assumption) | exact False.elim hc | (refine False.elim ?_; omega))))
  all_goals first
    | (have e : blankR n = true := decide_eq_true (by omega)
       rw [e] at h; exact h)
    | (have e : blankR n = false := decide_eq_false (by omega)
       rw [e] at h; exact h)
    | (have e : blankR n = decide (n = 12288) := by (unfold blankR; rw [decide_eq_decide]; omega)
       rw [e] at h; exact h)
    | (have e : blankR n = (n == 12288) := by (rw [Bool.eq_iff_iff, beq_iff_eq]; unfold blankR; rw [decide_eq_true_eq]; omega)
       rw [e] at h; exact h)
    | skip
end Go.Proofs.YtfnhhkpnfficaaaDoor
