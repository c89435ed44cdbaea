/- The stretches, in a document: step by step. Own work; printed from wip/law25/l.in by pre3.py. -/
import Derived.Test.YtopegdkhoafajaaAuJ
namespace Go.Proofs.Ytopegdkhoafajaa
open Go.Sv
set_option linter.unusedSimpArgs false
set_option linter.unusedVariables false
set_option maxRecDepth 100000

/-- One behind the other; the last one at the end. -/
def midL : List (List UInt8) → List UInt8 → Bool
  | [], _ => false
  | [x], b => x.isSuffixOf b
  | x :: y :: r, b => (Lib.cut b x).2.2 && midL (y :: r) (Lib.cut b x).2.1
def standL (l : List (List UInt8)) (b : List UInt8) : Bool :=
  if l.length = 1 then l.getD 0 [] == b else (l.getD 0 []).isPrefixOf b && midL (l.drop 1) (b.drop (l.getD 0 []).length)
theorem mid_go {l : List (List UInt8)} {i : Nat} (h : i + 1 < l.length) (b : List UInt8) : midL (l.drop i) b = ((Lib.cut b (l.getD i [])).2.2 && midL (l.drop (i + 1)) (Lib.cut b (l.getD i [])).2.1) := by
  rw [List.drop_eq_getElem_cons (by omega : i < l.length), List.drop_eq_getElem_cons h, midL, List.getD_eq_getElem?_getD, List.getElem?_eq_getElem (by omega : i < l.length)]
  rfl
theorem mid_end {l : List (List UInt8)} {i : Nat} (h : i + 1 = l.length) (b : List UInt8) : midL (l.drop i) b = (l.getD i []).isSuffixOf b := by
  rw [List.drop_eq_getElem_cons (by omega : i < l.length), List.drop_eq_nil_of_le (by omega), midL, List.getD_eq_getElem?_getD, List.getElem?_eq_getElem (by omega : i < l.length)]
  rfl
theorem getD_le {l : List (List UInt8)} (hl : ∀ y ∈ l, y.length ≤ 1000000000) (i : Nat) : (l.getD i []).length ≤ 1000000000 := by
  rw [List.getD_eq_getElem?_getD]
  by_cases h : i < l.length
  · rw [List.getElem?_eq_getElem h]; exact hl _ (List.getElem_mem h)
  · rw [List.getElem?_eq_none (by omega)]; simp
theorem cut_le2 (s p : List UInt8) : (Lib.cut s p).2.1.length ≤ s.length := by
  unfold Lib.cut
  split
  · simp only [List.length_drop]; omega
  · simp
theorem ntmps23 : Try.f23.ntmps = 58 := rfl
set_option maxHeartbeats 8000000 in
theorem stand23 {n : Nat} {m : Int} {l : List (List UInt8)} {b : List UInt8} {o1 o2 : Own} {H : Hp} {K : AVal → Hp → Prop} (hl0 : l ≠ []) (hl : ∀ y ∈ l, y.length ≤ 1000000000) (hll : l.length ≤ 1000000000000) (hb : b.length ≤ 1000000000) (h : K (.bool (standL l b)) H) : FnC Try.prog ⟨n, T0 m⟩ 23 [.sl (.sl .u8) l o1, .sl .u8 b o2] H K := by
  refine fn_of_tr Try.func23 rfl (by decide) (by simp) ?_
  have hpos : 0 < l.length := List.length_pos_iff.2 hl0
  have hg0 := getD_le hl 0
  unfold standL at h
  by_cases h1 : l.length = 1
  · rw [if_pos h1] at h
    repeat' (first | (refine kw (by assumption) ?_) | (refine tr_seqk ?_; intro K_ hK_) | (refine tr_block ?_) | (refine inBlock_normal ?_) | (refine andThen_normal ?_) | (refine And.intro (by omega) ?_) | (refine tr_return rfl rfl (Hp.Le.refl _) ?_) | (refine ends_normal rfl (Hp.Le.refl _) ?_) | (refine fun (b_ : Nat) hb_ => ?_) | (refine tr_regk 38 ?_; intro K_ hK_) | (refine tr_if ?_) | (refine tr_rege 38 ?_; intro K_ hK_) | (refine tr_skip ?_) | (refine tr_exit ?_) | (refine tr_drawk 38 followsF (by decide +kernel) ?_; intro K_ hK_) | (refine tr_drawe 38 followsF (by decide +kernel) ?_; intro K_ hK_) | (simp (maxSteps := 2000000) (disch := omega) only [go_sem, F, Nat.reduceLT, Nat.reduceLeDiff, Nat.reduceAdd, Nat.reduceEqDiff, ↓reduceIte, ↓reduceDIte, reduceCtorEq, Int.reduceLE, Int.reduceLT, Int.reduceToNat, UInt8.reduceOfNat, Nat.reduceSub, Int.reduceNeg, Nat.reduceMul, Int.reduceEq, Int.reduceBEq, Int.reduceBNe, ntmps23, h1]) | (refine wFn_intro (equal26 ?_)) | (refine ⟨_, wFn_intro (equal26 ⟨rfl, rfl⟩), ?_⟩) | (refine gate_split (fun hc => ?_) (fun hc => ?_) <;> (try simp only [SB] at hc) <;> simp (disch := omega) only [hc, go_sem, F, Nat.reduceLT, Nat.reduceLeDiff, Nat.reduceAdd, Nat.reduceEqDiff, ↓reduceIte, ↓reduceDIte, reduceCtorEq, Int.reduceLE, Int.reduceLT, Int.reduceToNat, UInt8.reduceOfNat, Nat.reduceSub, Int.reduceNeg, Nat.reduceMul, Int.reduceEq, Int.reduceBEq, Int.reduceBNe, ntmps23, h1] <;> (try simp only [SC] at hc) <;> try (first | exact absurd (by assumption) hc | exact absurd hc (by assumption) | exact False.elim hc | (refine False.elim ?_; omega))))
    all_goals exact h
  · rw [if_neg h1] at h
    by_cases hp : (l.getD 0 []).isPrefixOf b = true
    · rw [hp, Bool.true_and] at h
      have hcp : cutPreV b (l.getD 0 []) = .tup [.sl .u8 (b.drop (l.getD 0 []).length) .no, .bool true] := if_pos hp
      have hn : ((l.length : Int) - 1).toNat = l.length - 1 := by omega
      have hnl : (((l.take (l.length - 1)).drop 1).length : Int) = l.length - 2 := by rw [List.length_drop, List.length_take]; omega
      repeat' (first | (refine kw (by assumption) ?_) | (refine tr_seqk ?_; intro K_ hK_) | (refine tr_block ?_) | (refine inBlock_normal ?_) | (refine andThen_normal ?_) | (refine And.intro (by omega) ?_) | (refine tr_return rfl rfl (Hp.Le.refl _) ?_) | (refine ends_normal rfl (Hp.Le.refl _) ?_) | (refine fun (b_ : Nat) hb_ => ?_) | (refine tr_regk 38 ?_; intro K_ hK_) | (refine tr_if ?_) | (refine tr_rege 38 ?_; intro K_ hK_) | (refine tr_skip ?_) | (refine tr_exit ?_) | (refine tr_drawk 38 followsF (by decide +kernel) ?_; intro K_ hK_) | (refine tr_drawe 38 followsF (by decide +kernel) ?_; intro K_ hK_) | (simp (maxSteps := 2000000) (disch := omega) only [go_sem, F, Nat.reduceLT, Nat.reduceLeDiff, Nat.reduceAdd, Nat.reduceEqDiff, ↓reduceIte, ↓reduceDIte, reduceCtorEq, Int.reduceLE, Int.reduceLT, Int.reduceToNat, UInt8.reduceOfNat, Nat.reduceSub, Int.reduceNeg, Nat.reduceMul, Int.reduceEq, Int.reduceBEq, Int.reduceBNe, ntmps23, hcp, hn]) | (refine wFn_intro (cutPrefix29 hb hg0 ?_)) | (refine ⟨_, wFn_intro (cutPrefix29 hb hg0 ⟨rfl, rfl⟩), ?_⟩) | (refine gate_split (fun hc => ?_) (fun hc => ?_) <;> (try simp only [SB] at hc) <;> simp (disch := omega) only [hc, go_sem, F, Nat.reduceLT, Nat.reduceLeDiff, Nat.reduceAdd, Nat.reduceEqDiff, ↓reduceIte, ↓reduceDIte, reduceCtorEq, Int.reduceLE, Int.reduceLT, Int.reduceToNat, UInt8.reduceOfNat, Nat.reduceSub, Int.reduceNeg, Nat.reduceMul, Int.reduceEq, Int.reduceBEq, Int.reduceBNe, ntmps23, hcp, hn] <;> (try simp only [SC] at hc) <;> try (first | exact absurd (by assumption) hc | exact absurd hc (by assumption) | exact False.elim hc | (refine False.elim ?_; omega))))
      generalize hB : b.drop (l.getD 0 []).length = B at *
      have hBl : B.length ≤ 1000000000 := by rw [← hB, List.length_drop]; omega
      generalize hM : (l.take (l.length - 1)).drop 1 = M at *
      have hMl : M.length = l.length - 2 := by omega
      have hMg : ∀ j, j < M.length → M.getD j [] = l.getD (1 + j) [] := by
        intro j hj
        rw [← hM, List.getD_eq_getElem?_getD, List.getD_eq_getElem?_getD, List.getElem?_drop, List.getElem?_take_of_lt (by omega)]
      refine tr_while (by assumption) (α := Nat × List UInt8 × Own) (β := List UInt8 × Own) (fun x => [(37, .int .i64 x.1), (36, .int .i64 M.length), (35, .sl (.sl .u8) M .no), (6, .int .i64 ((l.length : Int) - 1)), (0, .sl (.sl .u8) l o1), (1, .sl .u8 x.2.1 x.2.2)]) (fun _ => H)
        (fun x => x.1 ≤ M.length ∧ x.2.1.length ≤ 1000000000 ∧ midL (l.drop (1 + x.1)) x.2.1 = midL (l.drop 1) B) (fun x => M.length - x.1) (0, B, .no)
        (fun z => [(6, .int .i64 ((l.length : Int) - 1)), (0, .sl (.sl .u8) l o1), (1, .sl .u8 z.1 z.2)]) (fun _ => H) (fun z => z.1.length ≤ 1000000000 ∧ midL (l.drop 1) B = (l.getD (l.length - 1) []).isSuffixOf z.1) ?_ (Hp.Le.refl _) ⟨Nat.zero_le _, hBl, rfl⟩ ?_ ?_
      · simp only [go_sem, F, Nat.reduceLT, Nat.reduceLeDiff, Nat.reduceAdd, Nat.reduceEqDiff, ↓reduceIte, ↓reduceDIte, reduceCtorEq, Int.reduceLE, Int.reduceLT, Int.reduceToNat, UInt8.reduceOfNat, Nat.reduceSub, Int.reduceNeg, Nat.reduceMul, Int.reduceEq, Int.reduceBEq, Int.reduceBNe, Int.natCast_zero, hnl, hMl]
      · rintro ⟨j, b', o'⟩ ⟨hj, hb', hm⟩
        simp only at hj hb' hm
        by_cases hjl : j < M.length
        · have hgo := mid_go (l := l) (i := 1 + j) (by omega) b'
          rw [← hMg j hjl] at hgo
          have hml : (M.getD j []).length ≤ 1000000000 := by rw [hMg j hjl]; exact getD_le hl _
          have hcl := cut_le2 b' (M.getD j [])
          obtain ⟨⟨c1, c2, c3⟩, hc1⟩ : ∃ c, Lib.cut b' (M.getD j []) = c := ⟨_, rfl⟩
          rw [hc1] at hgo hcl
          simp only at hgo hcl
          have hcv : cutV b' (M.getD j []) = .tup [.sl .u8 c1 .no, .sl .u8 c2 .no, .bool c3] := by unfold cutV; rw [hc1]
          cases c3
          · rw [Bool.false_and] at hgo
            rw [← hm, hgo] at h
            repeat' (first | (refine kw (by assumption) ?_) | (refine tr_seqk ?_; intro K_ hK_) | (refine tr_block ?_) | (refine inBlock_normal ?_) | (refine andThen_normal ?_) | (refine And.intro (by omega) ?_) | (refine tr_return rfl rfl (Hp.Le.refl _) ?_) | (refine ends_normal rfl (Hp.Le.refl _) ?_) | (refine fun (b_ : Nat) hb_ => ?_) | (refine tr_regk 38 ?_; intro K_ hK_) | (refine tr_if ?_) | (refine tr_rege 38 ?_; intro K_ hK_) | (refine tr_skip ?_) | (refine tr_exit ?_) | (refine tr_drawk 38 followsF (by decide +kernel) ?_; intro K_ hK_) | (refine tr_drawe 38 followsF (by decide +kernel) ?_; intro K_ hK_) | (simp (maxSteps := 2000000) (disch := omega) only [go_sem, F, Nat.reduceLT, Nat.reduceLeDiff, Nat.reduceAdd, Nat.reduceEqDiff, ↓reduceIte, ↓reduceDIte, reduceCtorEq, Int.reduceLE, Int.reduceLT, Int.reduceToNat, UInt8.reduceOfNat, Nat.reduceSub, Int.reduceNeg, Nat.reduceMul, Int.reduceEq, Int.reduceBEq, Int.reduceBNe, ntmps23, hcv]) | (refine wFn_intro (cut30 hb' hml ?_)) | (refine ⟨_, wFn_intro (cut30 hb' hml ⟨rfl, rfl⟩), ?_⟩) | (refine gate_split (fun hc => ?_) (fun hc => ?_) <;> (try simp only [SB] at hc) <;> simp (disch := omega) only [hc, go_sem, F, Nat.reduceLT, Nat.reduceLeDiff, Nat.reduceAdd, Nat.reduceEqDiff, ↓reduceIte, ↓reduceDIte, reduceCtorEq, Int.reduceLE, Int.reduceLT, Int.reduceToNat, UInt8.reduceOfNat, Nat.reduceSub, Int.reduceNeg, Nat.reduceMul, Int.reduceEq, Int.reduceBEq, Int.reduceBNe, ntmps23, hcv] <;> (try simp only [SC] at hc) <;> try (first | exact absurd (by assumption) hc | exact absurd hc (by assumption) | exact False.elim hc | (refine False.elim ?_; omega))))
            all_goals exact h
          · rw [Bool.true_and, Nat.add_assoc] at hgo
            repeat' (first | (refine kw (by assumption) ?_) | (refine tr_seqk ?_; intro K_ hK_) | (refine tr_block ?_) | (refine inBlock_normal ?_) | (refine andThen_normal ?_) | (refine And.intro (by omega) ?_) | (refine tr_return rfl rfl (Hp.Le.refl _) ?_) | (refine ends_normal rfl (Hp.Le.refl _) ?_) | (refine fun (b_ : Nat) hb_ => ?_) | (refine tr_regk 38 ?_; intro K_ hK_) | (refine tr_if ?_) | (refine tr_rege 38 ?_; intro K_ hK_) | (refine tr_skip ?_) | (refine tr_exit ?_) | (refine tr_drawk 38 followsF (by decide +kernel) ?_; intro K_ hK_) | (refine tr_drawe 38 followsF (by decide +kernel) ?_; intro K_ hK_) | (simp (maxSteps := 2000000) (disch := omega) only [go_sem, F, Nat.reduceLT, Nat.reduceLeDiff, Nat.reduceAdd, Nat.reduceEqDiff, ↓reduceIte, ↓reduceDIte, reduceCtorEq, Int.reduceLE, Int.reduceLT, Int.reduceToNat, UInt8.reduceOfNat, Nat.reduceSub, Int.reduceNeg, Nat.reduceMul, Int.reduceEq, Int.reduceBEq, Int.reduceBNe, ntmps23, hcv]) | (refine wFn_intro (cut30 hb' hml ?_)) | (refine ⟨_, wFn_intro (cut30 hb' hml ⟨rfl, rfl⟩), ?_⟩) | (refine gate_split (fun hc => ?_) (fun hc => ?_) <;> (try simp only [SB] at hc) <;> simp (disch := omega) only [hc, go_sem, F, Nat.reduceLT, Nat.reduceLeDiff, Nat.reduceAdd, Nat.reduceEqDiff, ↓reduceIte, ↓reduceDIte, reduceCtorEq, Int.reduceLE, Int.reduceLT, Int.reduceToNat, UInt8.reduceOfNat, Nat.reduceSub, Int.reduceNeg, Nat.reduceMul, Int.reduceEq, Int.reduceBEq, Int.reduceBNe, ntmps23, hcv] <;> (try simp only [SC] at hc) <;> try (first | exact absurd (by assumption) hc | exact absurd hc (by assumption) | exact False.elim hc | (refine False.elim ?_; omega))))
            all_goals exact ⟨(j + 1, c2, .no), (by simp only [go_sem, F, Nat.reduceLT, Nat.reduceLeDiff, Nat.reduceAdd, Nat.reduceEqDiff, ↓reduceIte, ↓reduceDIte, reduceCtorEq, Int.reduceLE, Int.reduceLT, Int.reduceToNat, UInt8.reduceOfNat, Nat.reduceSub, Int.reduceNeg, Nat.reduceMul, Int.reduceEq, Int.reduceBEq, Int.reduceBNe, Option.some.injEq, AVal.int.injEq]; try omega), Hp.Le.refl _, ⟨by simp only; omega, by simp only; omega, by simp only; rw [← hm, hgo]⟩, by simp only; omega⟩
        · have he := mid_end (l := l) (i := 1 + j) (by omega) b'
          rw [show 1 + j = l.length - 1 by omega] at he hm
          repeat' (first | (refine kw (by assumption) ?_) | (refine tr_seqk ?_; intro K_ hK_) | (refine tr_block ?_) | (refine inBlock_normal ?_) | (refine andThen_normal ?_) | (refine And.intro (by omega) ?_) | (refine tr_return rfl rfl (Hp.Le.refl _) ?_) | (refine ends_normal rfl (Hp.Le.refl _) ?_) | (refine fun (b_ : Nat) hb_ => ?_) | (refine tr_regk 38 ?_; intro K_ hK_) | (refine tr_if ?_) | (refine tr_rege 38 ?_; intro K_ hK_) | (refine tr_skip ?_) | (refine tr_exit ?_) | (refine tr_drawk 38 followsF (by decide +kernel) ?_; intro K_ hK_) | (refine tr_drawe 38 followsF (by decide +kernel) ?_; intro K_ hK_) | (simp (maxSteps := 2000000) (disch := omega) only [go_sem, F, Nat.reduceLT, Nat.reduceLeDiff, Nat.reduceAdd, Nat.reduceEqDiff, ↓reduceIte, ↓reduceDIte, reduceCtorEq, Int.reduceLE, Int.reduceLT, Int.reduceToNat, UInt8.reduceOfNat, Nat.reduceSub, Int.reduceNeg, Nat.reduceMul, Int.reduceEq, Int.reduceBEq, Int.reduceBNe, ntmps23]) | (refine gate_split (fun hc => ?_) (fun hc => ?_) <;> (try simp only [SB] at hc) <;> simp (disch := omega) only [hc, go_sem, F, Nat.reduceLT, Nat.reduceLeDiff, Nat.reduceAdd, Nat.reduceEqDiff, ↓reduceIte, ↓reduceDIte, reduceCtorEq, Int.reduceLE, Int.reduceLT, Int.reduceToNat, UInt8.reduceOfNat, Nat.reduceSub, Int.reduceNeg, Nat.reduceMul, Int.reduceEq, Int.reduceBEq, Int.reduceBNe, ntmps23] <;> (try simp only [SC] at hc) <;> try (first | exact absurd (by assumption) hc | exact absurd hc (by assumption) | exact False.elim hc | (refine False.elim ?_; omega))))
          all_goals exact ⟨(b', o'), (by simp only [go_sem, F, Nat.reduceLT, Nat.reduceLeDiff, Nat.reduceAdd, Nat.reduceEqDiff, ↓reduceIte, ↓reduceDIte, reduceCtorEq, Int.reduceLE, Int.reduceLT, Int.reduceToNat, UInt8.reduceOfNat, Nat.reduceSub, Int.reduceNeg, Nat.reduceMul, Int.reduceEq, Int.reduceBEq, Int.reduceBNe, Option.some.injEq, AVal.int.injEq]; try omega), Hp.Le.refl _, hb', by rw [← hm, he]⟩
      · rintro ⟨b', o'⟩ ⟨hb', hm⟩
        simp only at hb' hm
        rw [hm] at h
        have hgl := getD_le hl (l.length - 1)
        repeat' (first | (refine kw (by assumption) ?_) | (refine tr_seqk ?_; intro K_ hK_) | (refine tr_block ?_) | (refine inBlock_normal ?_) | (refine andThen_normal ?_) | (refine And.intro (by omega) ?_) | (refine tr_return rfl rfl (Hp.Le.refl _) ?_) | (refine ends_normal rfl (Hp.Le.refl _) ?_) | (refine fun (b_ : Nat) hb_ => ?_) | (refine tr_regk 38 ?_; intro K_ hK_) | (refine tr_if ?_) | (refine tr_rege 38 ?_; intro K_ hK_) | (refine tr_skip ?_) | (refine tr_exit ?_) | (refine tr_drawk 38 followsF (by decide +kernel) ?_; intro K_ hK_) | (refine tr_drawe 38 followsF (by decide +kernel) ?_; intro K_ hK_) | (simp (maxSteps := 2000000) (disch := omega) only [go_sem, F, Nat.reduceLT, Nat.reduceLeDiff, Nat.reduceAdd, Nat.reduceEqDiff, ↓reduceIte, ↓reduceDIte, reduceCtorEq, Int.reduceLE, Int.reduceLT, Int.reduceToNat, UInt8.reduceOfNat, Nat.reduceSub, Int.reduceNeg, Nat.reduceMul, Int.reduceEq, Int.reduceBEq, Int.reduceBNe, ntmps23, hn]) | (refine wFn_intro (hasSuffix31 hb' hgl ?_)) | (refine ⟨_, wFn_intro (hasSuffix31 hb' hgl ⟨rfl, rfl⟩), ?_⟩) | (refine gate_split (fun hc => ?_) (fun hc => ?_) <;> (try simp only [SB] at hc) <;> simp (disch := omega) only [hc, go_sem, F, Nat.reduceLT, Nat.reduceLeDiff, Nat.reduceAdd, Nat.reduceEqDiff, ↓reduceIte, ↓reduceDIte, reduceCtorEq, Int.reduceLE, Int.reduceLT, Int.reduceToNat, UInt8.reduceOfNat, Nat.reduceSub, Int.reduceNeg, Nat.reduceMul, Int.reduceEq, Int.reduceBEq, Int.reduceBNe, ntmps23, hn] <;> (try simp only [SC] at hc) <;> try (first | exact absurd (by assumption) hc | exact absurd hc (by assumption) | exact False.elim hc | (refine False.elim ?_; omega))))
        all_goals exact h
    · have hp' : (l.getD 0 []).isPrefixOf b = false := Bool.eq_false_iff.2 hp
      rw [hp', Bool.false_and] at h
      have hcp : cutPreV b (l.getD 0 []) = .tup [.sl .u8 b .no, .bool false] := if_neg hp
      repeat' (first | (refine kw (by assumption) ?_) | (refine tr_seqk ?_; intro K_ hK_) | (refine tr_block ?_) | (refine inBlock_normal ?_) | (refine andThen_normal ?_) | (refine And.intro (by omega) ?_) | (refine tr_return rfl rfl (Hp.Le.refl _) ?_) | (refine ends_normal rfl (Hp.Le.refl _) ?_) | (refine fun (b_ : Nat) hb_ => ?_) | (refine tr_regk 38 ?_; intro K_ hK_) | (refine tr_if ?_) | (refine tr_rege 38 ?_; intro K_ hK_) | (refine tr_skip ?_) | (refine tr_exit ?_) | (refine tr_drawk 38 followsF (by decide +kernel) ?_; intro K_ hK_) | (refine tr_drawe 38 followsF (by decide +kernel) ?_; intro K_ hK_) | (simp (maxSteps := 2000000) (disch := omega) only [go_sem, F, Nat.reduceLT, Nat.reduceLeDiff, Nat.reduceAdd, Nat.reduceEqDiff, ↓reduceIte, ↓reduceDIte, reduceCtorEq, Int.reduceLE, Int.reduceLT, Int.reduceToNat, UInt8.reduceOfNat, Nat.reduceSub, Int.reduceNeg, Nat.reduceMul, Int.reduceEq, Int.reduceBEq, Int.reduceBNe, ntmps23, hcp]) | (refine wFn_intro (cutPrefix29 hb hg0 ?_)) | (refine ⟨_, wFn_intro (cutPrefix29 hb hg0 ⟨rfl, rfl⟩), ?_⟩) | (refine gate_split (fun hc => ?_) (fun hc => ?_) <;> (try simp only [SB] at hc) <;> simp (disch := omega) only [hc, go_sem, F, Nat.reduceLT, Nat.reduceLeDiff, Nat.reduceAdd, Nat.reduceEqDiff, ↓reduceIte, ↓reduceDIte, reduceCtorEq, Int.reduceLE, Int.reduceLT, Int.reduceToNat, UInt8.reduceOfNat, Nat.reduceSub, Int.reduceNeg, Nat.reduceMul, Int.reduceEq, Int.reduceBEq, Int.reduceBNe, ntmps23, hcp] <;> (try simp only [SC] at hc) <;> try (first | exact absurd (by assumption) hc | exact absurd hc (by assumption) | exact False.elim hc | (refine False.elim ?_; omega))))
      all_goals exact h
end Go.Proofs.Ytopegdkhoafajaa
