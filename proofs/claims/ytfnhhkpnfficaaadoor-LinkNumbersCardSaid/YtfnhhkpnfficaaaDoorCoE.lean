/- Code: what Clean and Span compute, step by step. Own work; printed from wip/law9/e.in by pre2.py. -/
import Derived.Test.YtfnhhkpnfficaaaDoorCoSh
import Derived.Test.YtfnhhkpnfficaaaDoorCoD
namespace Go.Proofs.YtfnhhkpnfficaaaDoor
open Go.Sv
set_option linter.unusedSimpArgs false
set_option linter.unusedVariables false
set_option maxRecDepth 100000

theorem trim_ne {s : List UInt8} (h : s.all isB = false) : (Lib.trimB s 32 = []) = False := by
  refine eq_false fun g => ?_
  rw [← trim_isE, g] at h
  cases h
theorem trim_eq {s : List UInt8} (h : s.all isB = true) : (Lib.trimB s 32 = []) = True := by
  rw [← trim_isE, List.isEmpty_iff] at h
  exact eq_true h
theorem clean_short {s : List UInt8} (h : ¬ 1 < s.length) : cleanL s = s.map nl := by
  unfold cleanL
  refine if_neg (fun g => ?_)
  have := clean_two g.1 g.2.1
  rw [List.length_map] at this
  exact h this
theorem ntmps35 : Tryd.f35.ntmps = 32 := rfl
set_option maxHeartbeats 4000000 in
theorem clean35 {n : Nat} {m : Int} {s : List UInt8} {H : Hp} {K : AVal → Hp → Prop} (hs : s.length ≤ 1000000000) (h : K (.str (cleanL s)) H) : FnC Tryd.prog ⟨n, T9 m⟩ 35 [.str s] H K := by
  refine fn_of_tr Tryd.func35 rfl (by decide) (by simp) ?_
  have hL : (s.map nl).length = s.length := List.length_map ..
  by_cases hl : 1 < s.length
  · have ht : ((s.length : Int) - 1).toNat = s.length - 1 := by omega
    by_cases h0 : (s.map nl).getD 0 0 = 32
    · have hx0 : ((s.map nl).getD 0 0 == 32) = true := by rw [h0]; rfl
      by_cases h1 : (s.map nl).getD (s.length - 1) 0 = 32
      · have hx1 : ((s.map nl).getD (s.length - 1) 0 == 32) = true := by rw [h1]; rfl
        cases ha : (s.map nl).all isB
        · have htr := trim_ne ha
          rw [clean_yes ha h0 h1] at h
          generalize hm : s.map nl = t at *
          repeat' (first | (refine kw (by assumption) ?_) | (refine tr_seqk ?_; intro K_ hK_) | (refine tr_block ?_) | (refine inBlock_normal ?_) | (refine andThen_normal ?_) | (refine And.intro (by omega) ?_) | (refine tr_return rfl rfl (Hp.Le.refl _) ?_) | (refine ends_normal rfl (Hp.Le.refl _) ?_) | (refine fun (b_ : Nat) hb_ => ?_) | (refine tr_regk 4 ?_; intro K_ hK_) | (refine tr_if ?_) | (refine tr_rege 4 ?_; intro K_ hK_) | (refine tr_skip ?_) | (refine tr_exit ?_) | (refine tr_drawk 4 followsF (by decide +kernel) ?_; intro K_ hK_) | (refine tr_drawe 4 followsF (by decide +kernel) ?_; intro K_ hK_) | (simp (maxSteps := 2000000) (disch := omega) only [go_sem, F, Nat.reduceLT, Nat.reduceLeDiff, Nat.reduceAdd, Nat.reduceEqDiff, ↓reduceIte, reduceCtorEq, Int.reduceLE, Int.reduceLT, Int.reduceToNat, UInt8.reduceOfNat, Nat.reduceSub, Int.reduceNeg, Nat.reduceMul, Int.reduceEq, Int.reduceBEq, Int.reduceBNe, ntmps35, hm, hL, hx0, hx1, ht]) | (refine wFn_intro (replace52 hs ?_)) | (refine wFn_intro (trim53 (by omega) ?_)) | (refine ⟨_, wFn_intro (replace52 hs ⟨rfl, rfl⟩), ?_⟩) | (refine ⟨_, wFn_intro (trim53 (by omega) ⟨rfl, rfl⟩), ?_⟩) | (refine gate_split (fun hc => ?_) (fun hc => ?_) <;> (try simp only [SB] at hc) <;> simp (disch := omega) only [hc, go_sem, F, Nat.reduceLT, Nat.reduceLeDiff, Nat.reduceAdd, Nat.reduceEqDiff, ↓reduceIte, reduceCtorEq, Int.reduceLE, Int.reduceLT, Int.reduceToNat, UInt8.reduceOfNat, Nat.reduceSub, Int.reduceNeg, Nat.reduceMul, Int.reduceEq, Int.reduceBEq, Int.reduceBNe, ntmps35, hm, hL, hx0, hx1, ht] <;> (try simp only [SC] at hc) <;> try (first | exact absurd (by assumption) hc | exact absurd hc (by assumption) | exact False.elim hc | (refine False.elim ?_; omega))))
          all_goals first
            | exact h
            | exact absurd (by assumption : Lib.trimB t 32 = []) (of_eq_false htr)
            | exact absurd (of_eq_true htr) (by assumption)
        · have htr := trim_eq ha
          rw [clean_all ha] at h
          generalize hm : s.map nl = t at *
          repeat' (first | (refine kw (by assumption) ?_) | (refine tr_seqk ?_; intro K_ hK_) | (refine tr_block ?_) | (refine inBlock_normal ?_) | (refine andThen_normal ?_) | (refine And.intro (by omega) ?_) | (refine tr_return rfl rfl (Hp.Le.refl _) ?_) | (refine ends_normal rfl (Hp.Le.refl _) ?_) | (refine fun (b_ : Nat) hb_ => ?_) | (refine tr_regk 4 ?_; intro K_ hK_) | (refine tr_if ?_) | (refine tr_rege 4 ?_; intro K_ hK_) | (refine tr_skip ?_) | (refine tr_exit ?_) | (refine tr_drawk 4 followsF (by decide +kernel) ?_; intro K_ hK_) | (refine tr_drawe 4 followsF (by decide +kernel) ?_; intro K_ hK_) | (simp (maxSteps := 2000000) (disch := omega) only [go_sem, F, Nat.reduceLT, Nat.reduceLeDiff, Nat.reduceAdd, Nat.reduceEqDiff, ↓reduceIte, reduceCtorEq, Int.reduceLE, Int.reduceLT, Int.reduceToNat, UInt8.reduceOfNat, Nat.reduceSub, Int.reduceNeg, Nat.reduceMul, Int.reduceEq, Int.reduceBEq, Int.reduceBNe, ntmps35, hm, hL, hx0, hx1, ht]) | (refine wFn_intro (replace52 hs ?_)) | (refine wFn_intro (trim53 (by omega) ?_)) | (refine ⟨_, wFn_intro (replace52 hs ⟨rfl, rfl⟩), ?_⟩) | (refine ⟨_, wFn_intro (trim53 (by omega) ⟨rfl, rfl⟩), ?_⟩) | (refine gate_split (fun hc => ?_) (fun hc => ?_) <;> (try simp only [SB] at hc) <;> simp (disch := omega) only [hc, go_sem, F, Nat.reduceLT, Nat.reduceLeDiff, Nat.reduceAdd, Nat.reduceEqDiff, ↓reduceIte, reduceCtorEq, Int.reduceLE, Int.reduceLT, Int.reduceToNat, UInt8.reduceOfNat, Nat.reduceSub, Int.reduceNeg, Nat.reduceMul, Int.reduceEq, Int.reduceBEq, Int.reduceBNe, ntmps35, hm, hL, hx0, hx1, ht] <;> (try simp only [SC] at hc) <;> try (first | exact absurd (by assumption) hc | exact absurd hc (by assumption) | exact False.elim hc | (refine False.elim ?_; omega))))
          all_goals first
            | exact h
            | exact absurd (by assumption : Lib.trimB t 32 = []) (of_eq_false htr)
            | exact absurd (of_eq_true htr) (by assumption)
      · have hx1 := beq32 h1
        rw [clean_no1 h1] at h
        generalize hm : s.map nl = t at *
        repeat' (first | (refine kw (by assumption) ?_) | (refine tr_seqk ?_; intro K_ hK_) | (refine tr_block ?_) | (refine inBlock_normal ?_) | (refine andThen_normal ?_) | (refine And.intro (by omega) ?_) | (refine tr_return rfl rfl (Hp.Le.refl _) ?_) | (refine ends_normal rfl (Hp.Le.refl _) ?_) | (refine fun (b_ : Nat) hb_ => ?_) | (refine tr_regk 4 ?_; intro K_ hK_) | (refine tr_if ?_) | (refine tr_rege 4 ?_; intro K_ hK_) | (refine tr_skip ?_) | (refine tr_exit ?_) | (refine tr_drawk 4 followsF (by decide +kernel) ?_; intro K_ hK_) | (refine tr_drawe 4 followsF (by decide +kernel) ?_; intro K_ hK_) | (simp (maxSteps := 2000000) (disch := omega) only [go_sem, F, Nat.reduceLT, Nat.reduceLeDiff, Nat.reduceAdd, Nat.reduceEqDiff, ↓reduceIte, reduceCtorEq, Int.reduceLE, Int.reduceLT, Int.reduceToNat, UInt8.reduceOfNat, Nat.reduceSub, Int.reduceNeg, Nat.reduceMul, Int.reduceEq, Int.reduceBEq, Int.reduceBNe, ntmps35, hm, hL, hx0, hx1, ht]) | (refine wFn_intro (replace52 hs ?_)) | (refine wFn_intro (trim53 (by omega) ?_)) | (refine ⟨_, wFn_intro (replace52 hs ⟨rfl, rfl⟩), ?_⟩) | (refine ⟨_, wFn_intro (trim53 (by omega) ⟨rfl, rfl⟩), ?_⟩) | (refine gate_split (fun hc => ?_) (fun hc => ?_) <;> (try simp only [SB] at hc) <;> simp (disch := omega) only [hc, go_sem, F, Nat.reduceLT, Nat.reduceLeDiff, Nat.reduceAdd, Nat.reduceEqDiff, ↓reduceIte, reduceCtorEq, Int.reduceLE, Int.reduceLT, Int.reduceToNat, UInt8.reduceOfNat, Nat.reduceSub, Int.reduceNeg, Nat.reduceMul, Int.reduceEq, Int.reduceBEq, Int.reduceBNe, ntmps35, hm, hL, hx0, hx1, ht] <;> (try simp only [SC] at hc) <;> try (first | exact absurd (by assumption) hc | exact absurd hc (by assumption) | exact False.elim hc | (refine False.elim ?_; omega))))
        exact h
    · have hx0 := beq32 h0
      rw [clean_no0 h0] at h
      generalize hm : s.map nl = t at *
      repeat' (first | (refine kw (by assumption) ?_) | (refine tr_seqk ?_; intro K_ hK_) | (refine tr_block ?_) | (refine inBlock_normal ?_) | (refine andThen_normal ?_) | (refine And.intro (by omega) ?_) | (refine tr_return rfl rfl (Hp.Le.refl _) ?_) | (refine ends_normal rfl (Hp.Le.refl _) ?_) | (refine fun (b_ : Nat) hb_ => ?_) | (refine tr_regk 4 ?_; intro K_ hK_) | (refine tr_if ?_) | (refine tr_rege 4 ?_; intro K_ hK_) | (refine tr_skip ?_) | (refine tr_exit ?_) | (refine tr_drawk 4 followsF (by decide +kernel) ?_; intro K_ hK_) | (refine tr_drawe 4 followsF (by decide +kernel) ?_; intro K_ hK_) | (simp (maxSteps := 2000000) (disch := omega) only [go_sem, F, Nat.reduceLT, Nat.reduceLeDiff, Nat.reduceAdd, Nat.reduceEqDiff, ↓reduceIte, reduceCtorEq, Int.reduceLE, Int.reduceLT, Int.reduceToNat, UInt8.reduceOfNat, Nat.reduceSub, Int.reduceNeg, Nat.reduceMul, Int.reduceEq, Int.reduceBEq, Int.reduceBNe, ntmps35, hm, hL, hx0]) | (refine wFn_intro (replace52 hs ?_)) | (refine wFn_intro (trim53 (by omega) ?_)) | (refine ⟨_, wFn_intro (replace52 hs ⟨rfl, rfl⟩), ?_⟩) | (refine ⟨_, wFn_intro (trim53 (by omega) ⟨rfl, rfl⟩), ?_⟩) | (refine gate_split (fun hc => ?_) (fun hc => ?_) <;> (try simp only [SB] at hc) <;> simp (disch := omega) only [hc, go_sem, F, Nat.reduceLT, Nat.reduceLeDiff, Nat.reduceAdd, Nat.reduceEqDiff, ↓reduceIte, reduceCtorEq, Int.reduceLE, Int.reduceLT, Int.reduceToNat, UInt8.reduceOfNat, Nat.reduceSub, Int.reduceNeg, Nat.reduceMul, Int.reduceEq, Int.reduceBEq, Int.reduceBNe, ntmps35, hm, hL, hx0] <;> (try simp only [SC] at hc) <;> try (first | exact absurd (by assumption) hc | exact absurd hc (by assumption) | exact False.elim hc | (refine False.elim ?_; omega))))
      exact h
  · rw [clean_short hl] at h
    have e1 : decide ((s.length : Int) > 1) = false := decide_eq_false (by omega)
    generalize hm : s.map nl = t at *
    repeat' (first | (refine kw (by assumption) ?_) | (refine tr_seqk ?_; intro K_ hK_) | (refine tr_block ?_) | (refine inBlock_normal ?_) | (refine andThen_normal ?_) | (refine And.intro (by omega) ?_) | (refine tr_return rfl rfl (Hp.Le.refl _) ?_) | (refine ends_normal rfl (Hp.Le.refl _) ?_) | (refine fun (b_ : Nat) hb_ => ?_) | (refine tr_regk 4 ?_; intro K_ hK_) | (refine tr_if ?_) | (refine tr_rege 4 ?_; intro K_ hK_) | (refine tr_skip ?_) | (refine tr_exit ?_) | (refine tr_drawk 4 followsF (by decide +kernel) ?_; intro K_ hK_) | (refine tr_drawe 4 followsF (by decide +kernel) ?_; intro K_ hK_) | (simp (maxSteps := 2000000) (disch := omega) only [go_sem, F, Nat.reduceLT, Nat.reduceLeDiff, Nat.reduceAdd, Nat.reduceEqDiff, ↓reduceIte, reduceCtorEq, Int.reduceLE, Int.reduceLT, Int.reduceToNat, UInt8.reduceOfNat, Nat.reduceSub, Int.reduceNeg, Nat.reduceMul, Int.reduceEq, Int.reduceBEq, Int.reduceBNe, ntmps35, hm, hL, e1]) | (refine wFn_intro (replace52 hs ?_)) | (refine wFn_intro (trim53 (by omega) ?_)) | (refine ⟨_, wFn_intro (replace52 hs ⟨rfl, rfl⟩), ?_⟩) | (refine ⟨_, wFn_intro (trim53 (by omega) ⟨rfl, rfl⟩), ?_⟩) | (refine gate_split (fun hc => ?_) (fun hc => ?_) <;> (try simp only [SB] at hc) <;> simp (disch := omega) only [hc, go_sem, F, Nat.reduceLT, Nat.reduceLeDiff, Nat.reduceAdd, Nat.reduceEqDiff, ↓reduceIte, reduceCtorEq, Int.reduceLE, Int.reduceLT, Int.reduceToNat, UInt8.reduceOfNat, Nat.reduceSub, Int.reduceNeg, Nat.reduceMul, Int.reduceEq, Int.reduceBEq, Int.reduceBNe, ntmps35, hm, hL, e1] <;> (try simp only [SC] at hc) <;> try (first | exact absurd (by assumption) hc | exact absurd hc (by assumption) | exact False.elim hc | (refine False.elim ?_; omega))))
    exact h

def spanV (s : List UInt8) (a : Int) : AVal := .tup [.str (spanL s a).1, .int .i64 (spanL s a).2.1, .bool (spanL s a).2.2]
theorem span_no {s : List UInt8} {a : Int} (h : ¬ spanOk s a) : spanL s a = ([], 0, false) := if_neg h
theorem span_none {s : List UInt8} {k : Nat} (h : spanOk s k) (h1 : spanI s (runL 96 (s.drop k)) (k + runL 96 (s.drop k)) = none) : spanL s k = ([], 0, false) := by
  unfold spanL; rw [if_pos h]; simp only [Int.toNat_natCast, h1]
theorem span_some {s : List UInt8} {k i : Nat} (h : spanOk s k) (h1 : spanI s (runL 96 (s.drop k)) (k + runL 96 (s.drop k)) = some i) : spanL s k = (cleanL ((s.take i).drop (k + runL 96 (s.drop k))), (i : Int) + runL 96 (s.drop k), true) := by
  unfold spanL; rw [if_pos h]; simp only [Int.toNat_natCast, h1]
theorem run_fit (s : List UInt8) (i : Nat) (h : i ≤ s.length) : i + runL 96 (s.drop i) ≤ s.length := by
  have := runL_le 96 (s.drop i); rw [List.length_drop] at this; omega
theorem toNat_addN (a b : Nat) : ((a : Int) + (b : Int)).toNat = a + b := by omega
theorem ok_nat {s : List UInt8} {k : Nat} (hk : k < s.length) (h3 : s.getD k 0 = 96) (h4 : ¬ (0 < k ∧ s.getD (k - 1) 0 = 96)) : spanOk s k :=
  ⟨by omega, by omega, by rw [Int.toNat_natCast]; exact h3, fun g => h4 ⟨by omega, by have := g.2; rwa [show ((k : Int) - 1).toNat = k - 1 by omega] at this⟩⟩
theorem max_one (m : Nat) (h : 0 < m) : max m 1 = m := by omega
end Go.Proofs.YtfnhhkpnfficaaaDoor
