/- Patches: what PatchTells and PatchNothing compute. Own work; printed from wip/law22/r.in by pre3.py. -/
import Derived.Test.YtoncjokijkjliaaDoorPaQ
namespace Go.Proofs.YtoncjokijkjliaaDoor
open Go.Sv
set_option linter.unusedSimpArgs false
set_option linter.unusedVariables false
set_option maxRecDepth 100000

theorem ntmps4 : Tryd.f4.ntmps = 48 := rfl
set_option maxHeartbeats 8000000 in
theorem tells4 {B0 : Base} {b : List UInt8} {l : List EditT.den} {ls : List (List UInt8)} {e : List UInt8} {c : UInt8} {n : Int} {o1 o2 o3 : Own} {H : Hp} {K : AVal → Hp → Prop} (hb : b.length + totalL l ≤ 100000000000) (hl : l.length ≤ 100000000000)
    (hj : (joinL ls e).length ≤ 10000000000000) (hs : ∀ s ∈ ls, s.length < 4294967281) (hll : ls.length ≤ 1000000000000) (h : K (.bool true) H) : FnC Tryd.prog B0 4 [.sl .u8 b o1, .sl EditT l o2, .sl .str ls o3, .str e, .u8 c, .int .i64 n] H K := by
  refine fn_of_tr Tryd.func4 rfl (by decide) (by simp) ?_
  obtain ⟨hr1, hr2, hr3⟩ := risF_ok (b.length : Int) 12 0 l
  have hjj : (joinL ls e == joinL ls e) = true := beq_self_eq_true _
  repeat' (first | (refine kw (by assumption) ?_) | (refine tr_seqk ?_; intro K_ hK_) | (refine tr_block ?_) | (refine inBlock_normal ?_) | (refine andThen_normal ?_) | (refine And.intro (by omega) ?_) | (refine tr_return rfl rfl (Hp.Le.refl _) ?_) | (refine ends_normal rfl (Hp.Le.refl _) ?_) | (refine fun (b_ : Nat) hb_ => ?_) | (refine tr_regk 8 ?_; intro K_ hK_) | (refine tr_if ?_) | (refine tr_rege 8 ?_; intro K_ hK_) | (refine tr_skip ?_) | (refine tr_exit ?_) | (refine tr_drawk 8 followsF (by decide +kernel) ?_; intro K_ hK_) | (refine tr_drawe 8 followsF (by decide +kernel) ?_; intro K_ hK_) | (simp (maxSteps := 2000000) (disch := omega) only [go_sem, F, Nat.reduceLT, Nat.reduceLeDiff, Nat.reduceAdd, Nat.reduceEqDiff, ↓reduceIte, ↓reduceDIte, reduceCtorEq, Int.reduceLE, Int.reduceLT, Int.reduceToNat, UInt8.reduceOfNat, Nat.reduceSub, Int.reduceNeg, Nat.reduceMul, Int.reduceEq, Int.reduceBEq, Int.reduceBNe, ntmps4, hjj]) | (refine wFn_intro (same7 (by omega) (by omega) ?_)) | (refine wFn_intro (rising10 (by omega) (by omega) ?_)) | (refine wFn_intro (body11 hj (by omega) ?_)) | (refine wFn_intro (rjoin12 hj (by omega) ?_)) | (refine wFn_intro (keeps8 hs hll ?_)) | (refine wFn_intro (known9 ?_)) | (refine ⟨_, wFn_intro (same7 (by omega) (by omega) ⟨rfl, rfl⟩), ?_⟩) | (refine ⟨_, wFn_intro (rising10 (by omega) (by omega) ⟨rfl, rfl⟩), ?_⟩) | (refine ⟨_, wFn_intro (body11 hj (by omega) ⟨rfl, rfl⟩), ?_⟩) | (refine ⟨_, wFn_intro (rjoin12 hj (by omega) ⟨rfl, rfl⟩), ?_⟩) | (refine ⟨_, wFn_intro (keeps8 hs hll ⟨rfl, rfl⟩), ?_⟩) | (refine ⟨_, wFn_intro (known9 ⟨rfl, rfl⟩), ?_⟩) | (refine gate_split (fun hc => ?_) (fun hc => ?_) <;> (try simp only [SB] at hc) <;> simp (disch := omega) only [hc, go_sem, F, Nat.reduceLT, Nat.reduceLeDiff, Nat.reduceAdd, Nat.reduceEqDiff, ↓reduceIte, ↓reduceDIte, reduceCtorEq, Int.reduceLE, Int.reduceLT, Int.reduceToNat, UInt8.reduceOfNat, Nat.reduceSub, Int.reduceNeg, Nat.reduceMul, Int.reduceEq, Int.reduceBEq, Int.reduceBNe, ntmps4, hjj] <;> (try simp only [SC] at hc) <;> try (first | exact absurd (by assumption) hc | exact absurd hc (by assumption) | exact False.elim hc | (refine False.elim ?_; omega))))
  exact h
theorem ntmps6 : Tryd.f6.ntmps = 100 := rfl
theorem ap_one {b : List UInt8} {f t : Int} {d : List UInt8} (h1 : 0 ≤ f) (h2 : f ≤ t) (h3 : t ≤ b.length) : applyL b [(f, t, d, ())] 0 [] = some (b.take f.toNat ++ d ++ b.drop t.toNat) := by
  rw [applyL_cons, if_neg (by simp only; omega)]
  simp only [applyL, List.nil_append, Int.toNat_zero, List.drop_zero]
set_option maxHeartbeats 8000000 in
theorem nothing6 {B0 : Base} {b : List UInt8} {a n : Int} {o1 : Own} {H : Hp} {K : AVal → Hp → Prop} (hb : b.length ≤ 100000000000) (h : K (.bool true) H) : FnC Tryd.prog B0 6 [.sl .u8 b o1, .int .i64 a, .int .i64 n] H K := by
  refine fn_of_tr Tryd.func6 rfl (by decide) (by simp) ?_
  have w1 := win_le (n := a) (show (0 : Int) ≤ b.length by omega)
  generalize hk : winZ a 0 b.length = k at *
  have w2 := win_le (n := n) (show (0 : Int) ≤ b.length - k by omega)
  generalize ht : winZ n 0 (b.length - k) = t at *
  have a1 : applyL b [] 0 [] = some b := by simp [applyL]
  have a2 : applyL b [(k, k + t, (b.take (k + t).toNat).drop k.toNat, ())] 0 [] = some b := by
    rw [ap_one (by omega) (by omega) (by omega)]
    have e1 : b.take k.toNat ++ (b.take (k + t).toNat).drop k.toNat = b.take (k + t).toNat := by
      conv => rhs; rw [← List.take_append_drop k.toNat (b.take (k + t).toNat), List.take_take, Nat.min_eq_left (by omega)]
    rw [e1, List.take_append_drop]
  have a3 : applyL b [(0, (b.length : Int), [], ())] 0 [] = some [] := by
    rw [ap_one (by omega) (by omega) (by omega), Int.toNat_natCast, List.drop_length]; rfl
  have a4 : applyL b [(k, (b.length : Int) + 1, [], ())] 0 [] = none := by
    rw [applyL_cons, if_pos (by simp only; omega)]
  have hbb : (b == b) = true := beq_self_eq_true _
  have hdt : (List.drop k.toNat (List.take (k + t).toNat b)).length = t.toNat := by rw [List.length_drop, List.length_take]; omega
  repeat' (first | (refine kw (by assumption) ?_) | (refine tr_seqk ?_; intro K_ hK_) | (refine tr_block ?_) | (refine inBlock_normal ?_) | (refine andThen_normal ?_) | (refine And.intro (by omega) ?_) | (refine tr_return rfl rfl (Hp.Le.refl _) ?_) | (refine ends_normal rfl (Hp.Le.refl _) ?_) | (refine fun (b_ : Nat) hb_ => ?_) | (refine tr_regk 40 ?_; intro K_ hK_) | (refine tr_if ?_) | (refine tr_rege 40 ?_; intro K_ hK_) | (refine tr_skip ?_) | (refine tr_exit ?_) | (refine tr_drawk 40 followsF (by decide +kernel) ?_; intro K_ hK_) | (refine tr_drawe 40 followsF (by decide +kernel) ?_; intro K_ hK_) | (simp (maxSteps := 2000000) (disch := omega) only [go_sem, F, Nat.reduceLT, Nat.reduceLeDiff, Nat.reduceAdd, Nat.reduceEqDiff, ↓reduceIte, ↓reduceDIte, reduceCtorEq, Int.reduceLE, Int.reduceLT, Int.reduceToNat, UInt8.reduceOfNat, Nat.reduceSub, Int.reduceNeg, Nat.reduceMul, Int.reduceEq, Int.reduceBEq, Int.reduceBNe, ntmps6, hk, ht, a1, a2, a3, a4, apV, hbb]) | (refine wFn_intro (within14 (by omega) (by omega) (by omega) ?_)) | (refine wFn_intro (apply13 (by simp only [totalL, List.map_cons, List.map_nil, List.sum_cons, List.sum_nil, hdt, List.length_nil]; omega) (by simp) ?_)) | (refine wFn_intro (known9 ?_)) | (refine ⟨_, wFn_intro (within14 (by omega) (by omega) (by omega) ⟨rfl, rfl⟩), ?_⟩) | (refine ⟨_, wFn_intro (apply13 (by simp only [totalL, List.map_cons, List.map_nil, List.sum_cons, List.sum_nil, hdt, List.length_nil]; omega) (by simp) ⟨rfl, rfl⟩), ?_⟩) | (refine ⟨_, wFn_intro (known9 ⟨rfl, rfl⟩), ?_⟩) | (refine gate_split (fun hc => ?_) (fun hc => ?_) <;> (try simp only [SB] at hc) <;> simp (disch := omega) only [hc, go_sem, F, Nat.reduceLT, Nat.reduceLeDiff, Nat.reduceAdd, Nat.reduceEqDiff, ↓reduceIte, ↓reduceDIte, reduceCtorEq, Int.reduceLE, Int.reduceLT, Int.reduceToNat, UInt8.reduceOfNat, Nat.reduceSub, Int.reduceNeg, Nat.reduceMul, Int.reduceEq, Int.reduceBEq, Int.reduceBNe, ntmps6, hk, ht, a1, a2, a3, a4, apV, hbb] <;> (try simp only [SC] at hc) <;> try (first | exact absurd (by assumption) hc | exact absurd hc (by assumption) | exact False.elim hc | (refine False.elim ?_; omega))))
  exact h
end Go.Proofs.YtoncjokijkjliaaDoor
