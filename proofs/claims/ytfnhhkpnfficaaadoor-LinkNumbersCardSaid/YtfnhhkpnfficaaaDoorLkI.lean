/- Links: what the statements share: step by step. Own work; printed from wip/law11/i.in by pre2.py. -/
import Derived.Test.YtfnhhkpnfficaaaDoorLkD
import Derived.Test.YtfnhhkpnfficaaaDoorLkF
import Derived.Test.YtfnhhkpnfficaaaDoorLkG
import Derived.Test.YtfnhhkpnfficaaaDoorLkH
namespace Go.Proofs.YtfnhhkpnfficaaaDoor
open Go.Sv
set_option linter.unusedSimpArgs false
set_option linter.unusedVariables false
set_option maxRecDepth 100000

theorem ntmps21 : Tryd.f21.ntmps = 106 := rfl
set_option maxHeartbeats 8000000 in
theorem same21 {q0 : Nat} {m0 : Int} {s : List UInt8} {a : Int} {H : Hp} {K : AVal → Hp → Prop} (hs : s.length ≤ 1000000000) (h : K (.bool true) H) : FnC Tryd.prog ⟨q0, T9 m0⟩ 21 [.str s, .int .i64 a] H K := by
  refine fn_of_tr Tryd.func21 rfl (by decide) (by simp) ?_
  generalize h1 : autoL s a = q
  obtain ⟨q1, q2, q3⟩ := q
  have v1 : autoV s a = .tup [.str q1, .int .i64 q2, .bool q3] := by unfold autoV; rw [h1]
  generalize h2 : closeL s a = p
  obtain ⟨p1, p2⟩ := p
  have v2 : closeV s a = .tup [.int .i64 p1, .bool p2] := by unfold closeV; rw [h2]
  generalize h3 : destL s a = r
  obtain ⟨r1, r2, r3⟩ := r
  have v3 : destV s a = .tup [.str r1, .int .i64 r2, .bool r3] := by unfold destV; rw [h3]
  repeat' (first | (refine kw (by assumption) ?_) | (refine tr_seqk ?_; intro K_ hK_) | (refine tr_block ?_) | (refine inBlock_normal ?_) | (refine andThen_normal ?_) | (refine And.intro (by omega) ?_) | (refine tr_return rfl rfl (Hp.Le.refl _) ?_) | (refine ends_normal rfl (Hp.Le.refl _) ?_) | (refine fun (b_ : Nat) hb_ => ?_) | (refine tr_regk 21 ?_; intro K_ hK_) | (refine tr_if ?_) | (refine tr_rege 21 ?_; intro K_ hK_) | (refine tr_skip ?_) | (refine tr_exit ?_) | (refine tr_drawk 21 followsF (by decide +kernel) ?_; intro K_ hK_) | (refine tr_drawe 21 followsF (by decide +kernel) ?_; intro K_ hK_) | (simp (maxSteps := 2000000) (disch := omega) only [go_sem, F, Nat.reduceLT, Nat.reduceLeDiff, Nat.reduceAdd, Nat.reduceEqDiff, ↓reduceIte, reduceCtorEq, Int.reduceLE, Int.reduceLT, Int.reduceToNat, UInt8.reduceOfNat, Nat.reduceSub, Int.reduceNeg, Nat.reduceMul, Int.reduceEq, Int.reduceBEq, Int.reduceBNe, ntmps21, v1, v2, v3, List.append_eq]) | (refine wFn_intro (auto39 hs ?_)) | (refine wFn_intro (rauto40 hs ?_)) | (refine wFn_intro (close23 hs ?_)) | (refine wFn_intro (rclose41 hs ?_)) | (refine wFn_intro (dest27 hs ?_)) | (refine wFn_intro (rdest42 hs ?_)) | (refine wFn_intro (safe43 hs ?_)) | (refine wFn_intro (rsafe44 hs ?_)) | (refine ⟨_, wFn_intro (auto39 hs ⟨rfl, rfl⟩), ?_⟩) | (refine ⟨_, wFn_intro (rauto40 hs ⟨rfl, rfl⟩), ?_⟩) | (refine ⟨_, wFn_intro (close23 hs ⟨rfl, rfl⟩), ?_⟩) | (refine ⟨_, wFn_intro (rclose41 hs ⟨rfl, rfl⟩), ?_⟩) | (refine ⟨_, wFn_intro (dest27 hs ⟨rfl, rfl⟩), ?_⟩) | (refine ⟨_, wFn_intro (rdest42 hs ⟨rfl, rfl⟩), ?_⟩) | (refine ⟨_, wFn_intro (safe43 hs ⟨rfl, rfl⟩), ?_⟩) | (refine ⟨_, wFn_intro (rsafe44 hs ⟨rfl, rfl⟩), ?_⟩) | (refine gate_split (fun hc => ?_) (fun hc => ?_) <;> (try simp only [SB] at hc) <;> simp (disch := omega) only [hc, go_sem, F, Nat.reduceLT, Nat.reduceLeDiff, Nat.reduceAdd, Nat.reduceEqDiff, ↓reduceIte, reduceCtorEq, Int.reduceLE, Int.reduceLT, Int.reduceToNat, UInt8.reduceOfNat, Nat.reduceSub, Int.reduceNeg, Nat.reduceMul, Int.reduceEq, Int.reduceBEq, Int.reduceBNe, ntmps21, v1, v2, v3, List.append_eq] <;> (try simp only [SC] at hc) <;> try (first | exact absurd (by assumption) hc | exact absurd hc (by assumption) | exact False.elim hc | (refine False.elim ?_; omega))))
  exact h
theorem lk1 : autoV [60, 104, 116, 116, 112, 58, 47, 47, 120, 62] 0 = .tup [.str [104, 116, 116, 112, 58, 47, 47, 120], .int .i64 10, .bool true] := by
  have : autoL [60, 104, 116, 116, 112, 58, 47, 47, 120, 62] 0 = ([104, 116, 116, 112, 58, 47, 47, 120], 10, true) := by decide +kernel
  unfold autoV; rw [this]
theorem lk2 : autoV [60, 97, 62] 0 = .tup [.str [], .int .i64 0, .bool false] := by
  have : autoL [60, 97, 62] 0 = ([], 0, false) := by decide +kernel
  unfold autoV; rw [this]
theorem lk3 : closeV [91, 97, 91, 98, 93, 92, 93, 96, 93, 96, 93] 0 = .tup [.int .i64 10, .bool true] := by
  have : closeL [91, 97, 91, 98, 93, 92, 93, 96, 93, 96, 93] 0 = (10, true) := by decide +kernel
  unfold closeV; rw [this]
theorem lk4 : closeV [91, 97] 0 = .tup [.int .i64 0, .bool false] := by
  have : closeL [91, 97] 0 = (0, false) := by decide +kernel
  unfold closeV; rw [this]
theorem lk5 : destV [40, 97, 92, 41, 98, 41, 32, 99] 0 = .tup [.str [97, 41, 98], .int .i64 6, .bool true] := by
  have hi : destI [40, 97, 92, 41, 98, 41, 32, 99] 1 = some 5 := by decide +kernel
  have hp : plainL [97, 92, 41, 98] = [97, 41, 98] := by
    unfold plainL
    rw [runesFrom_pos (by decide), show nextA [97, 92, 41, 98] 0 = (97, 1, false) by decide, runesFrom_pos (by decide), show nextA [97, 92, 41, 98] 1 = (41, 3, true) by decide,
      runesFrom_pos (by decide), show nextA [97, 92, 41, 98] 3 = (98, 4, false) by decide, runesFrom_neg (by decide)]
    rfl
  have : destL [40, 97, 92, 41, 98, 41, 32, 99] 0 = ([97, 41, 98], 6, true) := by
    rw [dest_some (i := 5) (by decide) hi]
    show (plainL [97, 92, 41, 98], _, _) = _
    rw [hp]
    rfl
  unfold destV; rw [this]
theorem lk6 : destV [40, 97, 32, 98, 41] 0 = .tup [.str [], .int .i64 0, .bool false] := by
  have : destL [40, 97, 32, 98, 41] 0 = ([], 0, false) := dest_none (by decide) (by decide +kernel)
  unfold destV; rw [this]
theorem lk7 : safeL [104, 116, 116, 112, 58, 47, 47, 120] = true := by decide +kernel
theorem lk8 : safeL [74, 97, 118, 97, 83, 99, 114, 105, 112, 116, 58, 120] = false := by decide +kernel
theorem lk9 : safeL [35, 97] = false := by decide +kernel
theorem lk10 : safeL [106, 97, 118, 97, 115, 99, 114, 105, 112, 116] = true := by decide +kernel
theorem lk11 : safeL [32, 100, 97, 9, 116, 97, 58, 120] = false := by decide +kernel
theorem ntmps22 : Tryd.f22.ntmps = 102 := rfl
set_option maxHeartbeats 8000000 in
theorem known22 {q0 : Nat} {m0 : Int} {H : Hp} {K : AVal → Hp → Prop} (h : K (.bool true) H) : FnC Tryd.prog ⟨q0, T9 m0⟩ 22 [] H K := by
  refine fn_of_tr Tryd.func22 rfl (by decide) (by simp) ?_
  repeat' (first | (refine kw (by assumption) ?_) | (refine tr_seqk ?_; intro K_ hK_) | (refine tr_block ?_) | (refine inBlock_normal ?_) | (refine andThen_normal ?_) | (refine And.intro (by omega) ?_) | (refine tr_return rfl rfl (Hp.Le.refl _) ?_) | (refine ends_normal rfl (Hp.Le.refl _) ?_) | (refine fun (b_ : Nat) hb_ => ?_) | (refine tr_regk 17 ?_; intro K_ hK_) | (refine tr_if ?_) | (refine tr_rege 17 ?_; intro K_ hK_) | (refine tr_skip ?_) | (refine tr_exit ?_) | (refine tr_drawk 17 followsF (by decide +kernel) ?_; intro K_ hK_) | (refine tr_drawe 17 followsF (by decide +kernel) ?_; intro K_ hK_) | (simp (maxSteps := 2000000) (disch := omega) only [go_sem, F, Nat.reduceLT, Nat.reduceLeDiff, Nat.reduceAdd, Nat.reduceEqDiff, ↓reduceIte, reduceCtorEq, Int.reduceLE, Int.reduceLT, Int.reduceToNat, UInt8.reduceOfNat, Nat.reduceSub, Int.reduceNeg, Nat.reduceMul, Int.reduceEq, Int.reduceBEq, Int.reduceBNe, ntmps22, lk1, lk2, lk3, lk4, lk5, lk6, lk7, lk8, lk9, lk10, lk11]) | (refine wFn_intro (auto39 (by decide) ?_)) | (refine wFn_intro (close23 (by decide) ?_)) | (refine wFn_intro (dest27 (by decide) ?_)) | (refine wFn_intro (safe43 (by decide) ?_)) | (refine ⟨_, wFn_intro (auto39 (by decide) ⟨rfl, rfl⟩), ?_⟩) | (refine ⟨_, wFn_intro (close23 (by decide) ⟨rfl, rfl⟩), ?_⟩) | (refine ⟨_, wFn_intro (dest27 (by decide) ⟨rfl, rfl⟩), ?_⟩) | (refine ⟨_, wFn_intro (safe43 (by decide) ⟨rfl, rfl⟩), ?_⟩) | (refine gate_split (fun hc => ?_) (fun hc => ?_) <;> (try simp only [SB] at hc) <;> simp (disch := omega) only [hc, go_sem, F, Nat.reduceLT, Nat.reduceLeDiff, Nat.reduceAdd, Nat.reduceEqDiff, ↓reduceIte, reduceCtorEq, Int.reduceLE, Int.reduceLT, Int.reduceToNat, UInt8.reduceOfNat, Nat.reduceSub, Int.reduceNeg, Nat.reduceMul, Int.reduceEq, Int.reduceBEq, Int.reduceBNe, ntmps22, lk1, lk2, lk3, lk4, lk5, lk6, lk7, lk8, lk9, lk10, lk11] <;> (try simp only [SC] at hc) <;> try (first | exact absurd (by assumption) hc | exact absurd hc (by assumption) | exact False.elim hc | (refine False.elim ?_; omega))))
  exact h
end Go.Proofs.YtfnhhkpnfficaaaDoor
