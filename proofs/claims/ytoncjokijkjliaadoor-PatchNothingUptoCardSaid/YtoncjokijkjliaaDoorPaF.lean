/- Fences: the document's own ends, the longest row: step by step. Own work; printed from wip/law4/f.in by pre.py. -/
import Derived.Test.YtoncjokijkjliaaDoorPaB
namespace Go.Proofs.YtoncjokijkjliaaDoor
open Go.Sv
set_option linter.unusedSimpArgs false
set_option linter.unusedVariables false
set_option maxRecDepth 100000

theorem ntmps25 : Tryd.f25.ntmps = 39 := rfl
set_option maxHeartbeats 8000000 in
theorem rends25 {B0 : Base} {c : UInt8} {n k : Int} {i s : List UInt8} {H : Hp} {K : AVal → Hp → Prop} (hs : s.length ≤ 10000000000000000) (h : K (.bool (endsL c n s)) H) : FnC Tryd.prog B0 25 [.agg [.u8 c, .int .i64 n, .int .i64 k, .str i], .str s] H K := by
  refine fn_of_tr Tryd.func25 rfl (by decide) (by simp) ?_
  unfold endsL at h
  have hz := ind_zero s
  obtain ⟨hi1, hi2, hi3⟩ := indT_le s
  have hr := runL_le c (s.drop (indT 0 s).2)
  rw [List.length_drop] at hr
  generalize hx : indT 0 s = p at *
  obtain ⟨col, at'⟩ := p
  simp only at *
  generalize hy : runL c (s.drop at') = m at *
  by_cases h1 : col ≤ 3
  · by_cases h2 : 0 < n
    · by_cases h3 : n ≤ m
      · rw [decide_eq_true h1, decide_eq_true h2, decide_eq_true h3, Bool.true_and, Bool.true_and, Bool.true_and] at h
        have ht := toNat_add2 at' m
        repeat' (first | (refine kw (by assumption) ?_) | (refine tr_seqk ?_; intro K_ hK_) | (refine tr_block ?_) | (refine inBlock_normal ?_) | (refine andThen_normal ?_) | (refine And.intro (by omega) ?_) | (refine tr_return rfl rfl (Hp.le_set hb_) ?_) | (refine ends_normal rfl (Hp.le_set hb_) ?_) | (refine fun (b_ : Nat) hb_ => ?_) | (refine tr_regk 9 ?_; intro K_ hK_) | (refine tr_if ?_) | (refine tr_rege 9 ?_; intro K_ hK_) | (refine tr_skip ?_) | (refine tr_exit ?_) | (refine tr_drawk 9 followsF (by decide +kernel) ?_; intro K_ hK_) | (refine tr_drawe 9 followsF (by decide +kernel) ?_; intro K_ hK_) | (simp (maxSteps := 2000000) (disch := omega) only [go_sem, F, Nat.reduceLT, Nat.reduceLeDiff, Nat.reduceAdd, Nat.reduceEqDiff, ↓reduceIte, reduceCtorEq, Int.reduceLE, Int.reduceLT, Int.reduceToNat, UInt8.reduceOfNat, Nat.reduceSub, Int.reduceNeg, Nat.reduceMul, Int.reduceEq, Int.reduceBEq, Int.reduceBNe, ntmps25, hz, hy, ht]) | (refine wFn_intro (rindent33 (by omega) ?_)) | (refine wFn_intro (rrun34 (by omega) (by omega) ?_)) | (refine wFn_intro (rempty35 (by rw [List.length_drop]; omega) ?_)) | (refine ⟨_, wFn_intro (rindent33 (by omega) ⟨rfl, rfl⟩), ?_⟩) | (refine ⟨_, wFn_intro (rrun34 (by omega) (by omega) ⟨rfl, rfl⟩), ?_⟩) | (refine ⟨_, wFn_intro (rempty35 (by rw [List.length_drop]; omega) ⟨rfl, rfl⟩), ?_⟩) | (refine gate_split (fun hc => ?_) (fun hc => ?_) <;> (try simp only [SB] at hc) <;> simp (disch := omega) only [hc, go_sem, F, Nat.reduceLT, Nat.reduceLeDiff, Nat.reduceAdd, Nat.reduceEqDiff, ↓reduceIte, reduceCtorEq, Int.reduceLE, Int.reduceLT, Int.reduceToNat, UInt8.reduceOfNat, Nat.reduceSub, Int.reduceNeg, Nat.reduceMul, Int.reduceEq, Int.reduceBEq, Int.reduceBNe, ntmps25, hz, hy, ht] <;> (try simp only [SC] at hc) <;> try (first | exact absurd (by assumption) hc | exact absurd hc (by assumption) | exact False.elim hc | (refine False.elim ?_; omega))))
        all_goals first
          | exact h
          | (exfalso; omega)
      · rw [decide_eq_false h3, Bool.false_and, Bool.and_false, Bool.and_false] at h
        repeat' (first | (refine kw (by assumption) ?_) | (refine tr_seqk ?_; intro K_ hK_) | (refine tr_block ?_) | (refine inBlock_normal ?_) | (refine andThen_normal ?_) | (refine And.intro (by omega) ?_) | (refine tr_return rfl rfl (Hp.le_set hb_) ?_) | (refine ends_normal rfl (Hp.le_set hb_) ?_) | (refine fun (b_ : Nat) hb_ => ?_) | (refine tr_regk 9 ?_; intro K_ hK_) | (refine tr_if ?_) | (refine tr_rege 9 ?_; intro K_ hK_) | (refine tr_skip ?_) | (refine tr_exit ?_) | (refine tr_drawk 9 followsF (by decide +kernel) ?_; intro K_ hK_) | (refine tr_drawe 9 followsF (by decide +kernel) ?_; intro K_ hK_) | (simp (maxSteps := 2000000) (disch := omega) only [go_sem, F, Nat.reduceLT, Nat.reduceLeDiff, Nat.reduceAdd, Nat.reduceEqDiff, ↓reduceIte, reduceCtorEq, Int.reduceLE, Int.reduceLT, Int.reduceToNat, UInt8.reduceOfNat, Nat.reduceSub, Int.reduceNeg, Nat.reduceMul, Int.reduceEq, Int.reduceBEq, Int.reduceBNe, ntmps25, hz, hy]) | (refine wFn_intro (rindent33 (by omega) ?_)) | (refine wFn_intro (rrun34 (by omega) (by omega) ?_)) | (refine wFn_intro (rempty35 (by rw [List.length_drop]; omega) ?_)) | (refine ⟨_, wFn_intro (rindent33 (by omega) ⟨rfl, rfl⟩), ?_⟩) | (refine ⟨_, wFn_intro (rrun34 (by omega) (by omega) ⟨rfl, rfl⟩), ?_⟩) | (refine ⟨_, wFn_intro (rempty35 (by rw [List.length_drop]; omega) ⟨rfl, rfl⟩), ?_⟩) | (refine gate_split (fun hc => ?_) (fun hc => ?_) <;> (try simp only [SB] at hc) <;> simp (disch := omega) only [hc, go_sem, F, Nat.reduceLT, Nat.reduceLeDiff, Nat.reduceAdd, Nat.reduceEqDiff, ↓reduceIte, reduceCtorEq, Int.reduceLE, Int.reduceLT, Int.reduceToNat, UInt8.reduceOfNat, Nat.reduceSub, Int.reduceNeg, Nat.reduceMul, Int.reduceEq, Int.reduceBEq, Int.reduceBNe, ntmps25, hz, hy] <;> (try simp only [SC] at hc) <;> try (first | exact absurd (by assumption) hc | exact absurd hc (by assumption) | exact False.elim hc | (refine False.elim ?_; omega))))
        all_goals first
          | exact h
          | (exfalso; omega)
    · rw [decide_eq_false h2, Bool.false_and, Bool.and_false] at h
      repeat' (first | (refine kw (by assumption) ?_) | (refine tr_seqk ?_; intro K_ hK_) | (refine tr_block ?_) | (refine inBlock_normal ?_) | (refine andThen_normal ?_) | (refine And.intro (by omega) ?_) | (refine tr_return rfl rfl (Hp.le_set hb_) ?_) | (refine ends_normal rfl (Hp.le_set hb_) ?_) | (refine fun (b_ : Nat) hb_ => ?_) | (refine tr_regk 9 ?_; intro K_ hK_) | (refine tr_if ?_) | (refine tr_rege 9 ?_; intro K_ hK_) | (refine tr_skip ?_) | (refine tr_exit ?_) | (refine tr_drawk 9 followsF (by decide +kernel) ?_; intro K_ hK_) | (refine tr_drawe 9 followsF (by decide +kernel) ?_; intro K_ hK_) | (simp (maxSteps := 2000000) (disch := omega) only [go_sem, F, Nat.reduceLT, Nat.reduceLeDiff, Nat.reduceAdd, Nat.reduceEqDiff, ↓reduceIte, reduceCtorEq, Int.reduceLE, Int.reduceLT, Int.reduceToNat, UInt8.reduceOfNat, Nat.reduceSub, Int.reduceNeg, Nat.reduceMul, Int.reduceEq, Int.reduceBEq, Int.reduceBNe, ntmps25, hz, hy]) | (refine wFn_intro (rindent33 (by omega) ?_)) | (refine wFn_intro (rrun34 (by omega) (by omega) ?_)) | (refine wFn_intro (rempty35 (by rw [List.length_drop]; omega) ?_)) | (refine ⟨_, wFn_intro (rindent33 (by omega) ⟨rfl, rfl⟩), ?_⟩) | (refine ⟨_, wFn_intro (rrun34 (by omega) (by omega) ⟨rfl, rfl⟩), ?_⟩) | (refine ⟨_, wFn_intro (rempty35 (by rw [List.length_drop]; omega) ⟨rfl, rfl⟩), ?_⟩) | (refine gate_split (fun hc => ?_) (fun hc => ?_) <;> (try simp only [SB] at hc) <;> simp (disch := omega) only [hc, go_sem, F, Nat.reduceLT, Nat.reduceLeDiff, Nat.reduceAdd, Nat.reduceEqDiff, ↓reduceIte, reduceCtorEq, Int.reduceLE, Int.reduceLT, Int.reduceToNat, UInt8.reduceOfNat, Nat.reduceSub, Int.reduceNeg, Nat.reduceMul, Int.reduceEq, Int.reduceBEq, Int.reduceBNe, ntmps25, hz, hy] <;> (try simp only [SC] at hc) <;> try (first | exact absurd (by assumption) hc | exact absurd hc (by assumption) | exact False.elim hc | (refine False.elim ?_; omega))))
      all_goals first
        | exact h
        | (exfalso; omega)
  · rw [decide_eq_false h1, Bool.false_and] at h
    repeat' (first | (refine kw (by assumption) ?_) | (refine tr_seqk ?_; intro K_ hK_) | (refine tr_block ?_) | (refine inBlock_normal ?_) | (refine andThen_normal ?_) | (refine And.intro (by omega) ?_) | (refine tr_return rfl rfl (Hp.le_set hb_) ?_) | (refine ends_normal rfl (Hp.le_set hb_) ?_) | (refine fun (b_ : Nat) hb_ => ?_) | (refine tr_regk 9 ?_; intro K_ hK_) | (refine tr_if ?_) | (refine tr_rege 9 ?_; intro K_ hK_) | (refine tr_skip ?_) | (refine tr_exit ?_) | (refine tr_drawk 9 followsF (by decide +kernel) ?_; intro K_ hK_) | (refine tr_drawe 9 followsF (by decide +kernel) ?_; intro K_ hK_) | (simp (maxSteps := 2000000) (disch := omega) only [go_sem, F, Nat.reduceLT, Nat.reduceLeDiff, Nat.reduceAdd, Nat.reduceEqDiff, ↓reduceIte, reduceCtorEq, Int.reduceLE, Int.reduceLT, Int.reduceToNat, UInt8.reduceOfNat, Nat.reduceSub, Int.reduceNeg, Nat.reduceMul, Int.reduceEq, Int.reduceBEq, Int.reduceBNe, ntmps25, hz, hy]) | (refine wFn_intro (rindent33 (by omega) ?_)) | (refine wFn_intro (rrun34 (by omega) (by omega) ?_)) | (refine wFn_intro (rempty35 (by rw [List.length_drop]; omega) ?_)) | (refine ⟨_, wFn_intro (rindent33 (by omega) ⟨rfl, rfl⟩), ?_⟩) | (refine ⟨_, wFn_intro (rrun34 (by omega) (by omega) ⟨rfl, rfl⟩), ?_⟩) | (refine ⟨_, wFn_intro (rempty35 (by rw [List.length_drop]; omega) ⟨rfl, rfl⟩), ?_⟩) | (refine gate_split (fun hc => ?_) (fun hc => ?_) <;> (try simp only [SB] at hc) <;> simp (disch := omega) only [hc, go_sem, F, Nat.reduceLT, Nat.reduceLeDiff, Nat.reduceAdd, Nat.reduceEqDiff, ↓reduceIte, reduceCtorEq, Int.reduceLE, Int.reduceLT, Int.reduceToNat, UInt8.reduceOfNat, Nat.reduceSub, Int.reduceNeg, Nat.reduceMul, Int.reduceEq, Int.reduceBEq, Int.reduceBNe, ntmps25, hz, hy] <;> (try simp only [SC] at hc) <;> try (first | exact absurd (by assumption) hc | exact absurd hc (by assumption) | exact False.elim hc | (refine False.elim ?_; omega))))
    all_goals first
      | exact h
      | (exfalso; omega)

end Go.Proofs.YtoncjokijkjliaaDoor
