/- What stands between: the program's loop; rows of texts without the empty ones: step by step. Own work; printed from wip/law25/a.in by pre3.py. -/
import Derived.Test.YtopegdkhoafajaaAuP
import Derived.Test.YtopegdkhoafajaaAuSh
namespace Go.Proofs.Ytopegdkhoafajaa
open Go.Sv
set_option linter.unusedSimpArgs false
set_option linter.unusedVariables false
set_option maxRecDepth 100000

theorem le_mid2 {H : Hp} {b c : Nat} {x y : AObj} (hb : H b = none) (hc : (H.set b (some y)) c = none) : (H.set c (some x)).Le ((H.set b (some y)).set c (some x)) := by
  have hne : c ≠ b := fun e => by subst e; simp [Hp.set] at hc
  rw [Hp.set_comm (Ne.symm hne)]
  exact Hp.le_set (by rw [Hp.set_ne (Ne.symm hne)]; exact hb)
theorem hp_back {H : Hp} {b : Nat} {x : AObj} (hb : H b = none) : (H.set b (some x)).set b none = H := by
  funext c
  simp only [Hp.set]
  split
  · rename_i e; rw [e, hb]
  · rfl
theorem hp_none {H : Hp} {b : Nat} (hb : H b = none) : H.set b none = H := by
  funext c
  simp only [Hp.set]
  split
  · rename_i e; rw [e, hb]
  · rfl
theorem ntmps21 : Try.f21.ntmps = 5 := rfl
set_option maxHeartbeats 4000000 in
theorem del21 {B0 : Base} {v : List UInt8} {H : Hp} {K : AVal → Hp → Prop} (h : K (.bool (v == [])) H) : FnC Try.prog B0 21 [.str v] H K := by
  refine fn_of_tr Try.func21 rfl (by decide) (by simp) ?_
  repeat' (first | (refine kw (by assumption) ?_) | (refine tr_seqk ?_; intro K_ hK_) | (refine tr_block ?_) | (refine inBlock_normal ?_) | (refine andThen_normal ?_) | (refine And.intro (by omega) ?_) | (refine tr_return rfl rfl (Hp.Le.refl _) ?_) | (refine ends_normal rfl (Hp.Le.refl _) ?_) | (refine fun (b_ : Nat) hb_ => ?_) | (refine tr_regk 3 ?_; intro K_ hK_) | (refine tr_if ?_) | (refine tr_rege 3 ?_; intro K_ hK_) | (refine tr_skip ?_) | (refine tr_exit ?_) | (refine tr_drawk 3 followsF (by decide +kernel) ?_; intro K_ hK_) | (refine tr_drawe 3 followsF (by decide +kernel) ?_; intro K_ hK_) | (simp (maxSteps := 2000000) (disch := omega) only [go_sem, F, Nat.reduceLT, Nat.reduceLeDiff, Nat.reduceAdd, Nat.reduceEqDiff, ↓reduceIte, ↓reduceDIte, reduceCtorEq, Int.reduceLE, Int.reduceLT, Int.reduceToNat, UInt8.reduceOfNat, Nat.reduceSub, Int.reduceNeg, Nat.reduceMul, Int.reduceEq, Int.reduceBEq, Int.reduceBNe, ntmps21]) | (refine gate_split (fun hc => ?_) (fun hc => ?_) <;> (try simp only [SB] at hc) <;> simp (disch := omega) only [hc, go_sem, F, Nat.reduceLT, Nat.reduceLeDiff, Nat.reduceAdd, Nat.reduceEqDiff, ↓reduceIte, ↓reduceDIte, reduceCtorEq, Int.reduceLE, Int.reduceLT, Int.reduceToNat, UInt8.reduceOfNat, Nat.reduceSub, Int.reduceNeg, Nat.reduceMul, Int.reduceEq, Int.reduceBEq, Int.reduceBNe, ntmps21] <;> (try simp only [SC] at hc) <;> try (first | exact absurd (by assumption) hc | exact absurd hc (by assumption) | exact False.elim hc | (refine False.elim ?_; omega))))
  exact h

theorem ntmps18 : Try.f18.ntmps = 9 := rfl
set_option maxHeartbeats 4000000 in
theorem clip18 {B0 : Base} {l : List (List UInt8)} {o : Own} {H : Hp} {K : AVal → Hp → Prop} (h : K (.sl .str l .exact) H) : FnC Try.prog B0 18 [.sl .str l o] H K := by
  refine fn_of_tr Try.func18 rfl (by decide) (by simp) ?_
  have ht : (l.take l.length).drop 0 = l := by simp
  repeat' (first | (refine kw (by assumption) ?_) | (refine tr_seqk ?_; intro K_ hK_) | (refine tr_block ?_) | (refine inBlock_normal ?_) | (refine andThen_normal ?_) | (refine And.intro (by omega) ?_) | (refine tr_return rfl rfl (Hp.Le.refl _) ?_) | (refine ends_normal rfl (Hp.Le.refl _) ?_) | (refine fun (b_ : Nat) hb_ => ?_) | (refine tr_regk 3 ?_; intro K_ hK_) | (refine tr_if ?_) | (refine tr_rege 3 ?_; intro K_ hK_) | (refine tr_skip ?_) | (refine tr_exit ?_) | (refine tr_drawk 3 followsF (by decide +kernel) ?_; intro K_ hK_) | (refine tr_drawe 3 followsF (by decide +kernel) ?_; intro K_ hK_) | (simp (maxSteps := 2000000) (disch := omega) only [go_sem, F, Nat.reduceLT, Nat.reduceLeDiff, Nat.reduceAdd, Nat.reduceEqDiff, ↓reduceIte, ↓reduceDIte, reduceCtorEq, Int.reduceLE, Int.reduceLT, Int.reduceToNat, UInt8.reduceOfNat, Nat.reduceSub, Int.reduceNeg, Nat.reduceMul, Int.reduceEq, Int.reduceBEq, Int.reduceBNe, ntmps18, ht, Int.toNat_natCast]) | (refine gate_split (fun hc => ?_) (fun hc => ?_) <;> (try simp only [SB] at hc) <;> simp (disch := omega) only [hc, go_sem, F, Nat.reduceLT, Nat.reduceLeDiff, Nat.reduceAdd, Nat.reduceEqDiff, ↓reduceIte, ↓reduceDIte, reduceCtorEq, Int.reduceLE, Int.reduceLT, Int.reduceToNat, UInt8.reduceOfNat, Nat.reduceSub, Int.reduceNeg, Nat.reduceMul, Int.reduceEq, Int.reduceBEq, Int.reduceBNe, ntmps18, ht, Int.toNat_natCast] <;> (try simp only [SC] at hc) <;> try (first | exact absurd (by assumption) hc | exact absurd hc (by assumption) | exact False.elim hc | (refine False.elim ?_; omega))))
  exact h

theorem ntmps19 : Try.f19.ntmps = 37 := rfl
set_option maxHeartbeats 8000000 in
theorem between19 {n : Nat} {m : Int} {s p : List UInt8} {H : Hp} {K : AVal → Hp → Prop} (hs : s.length ≤ 1000000000) (h : ∀ ob, RowOk (ty := .str) H (betA p s) ob → K (rowV .str ob (betA p s).length) (hpRow 9 .str H (betA p s) ob)) : FnC Try.prog ⟨n, T0 m⟩ 19 [.str s, .str p] H K := by
  refine fn_of_tr Try.func19 rfl (by decide) (by simp) ?_
  repeat' (first | (refine kw (by assumption) ?_) | (refine tr_seqk ?_; intro K_ hK_) | (refine tr_block ?_) | (refine inBlock_normal ?_) | (refine andThen_normal ?_) | (refine And.intro (by omega) ?_) | (refine tr_return rfl rfl (Hp.Le.refl _) ?_) | (refine ends_normal rfl (Hp.Le.refl _) ?_) | (refine fun (b_ : Nat) hb_ => ?_) | (refine tr_regk 12 ?_; intro K_ hK_) | (refine tr_if ?_) | (refine tr_rege 12 ?_; intro K_ hK_) | (refine tr_skip ?_) | (refine tr_exit ?_) | (refine tr_drawk 12 followsF (by decide +kernel) ?_; intro K_ hK_) | (refine tr_drawe 12 followsF (by decide +kernel) ?_; intro K_ hK_) | (simp (maxSteps := 2000000) (disch := omega) only [go_sem, F, Nat.reduceLT, Nat.reduceLeDiff, Nat.reduceAdd, Nat.reduceEqDiff, ↓reduceIte, ↓reduceDIte, reduceCtorEq, Int.reduceLE, Int.reduceLT, Int.reduceToNat, UInt8.reduceOfNat, Nat.reduceSub, Int.reduceNeg, Nat.reduceMul, Int.reduceEq, Int.reduceBEq, Int.reduceBNe, ntmps19]) | (refine gate_split (fun hc => ?_) (fun hc => ?_) <;> (try simp only [SB] at hc) <;> simp (disch := omega) only [hc, go_sem, F, Nat.reduceLT, Nat.reduceLeDiff, Nat.reduceAdd, Nat.reduceEqDiff, ↓reduceIte, ↓reduceDIte, reduceCtorEq, Int.reduceLE, Int.reduceLT, Int.reduceToNat, UInt8.reduceOfNat, Nat.reduceSub, Int.reduceNeg, Nat.reduceMul, Int.reduceEq, Int.reduceBEq, Int.reduceBNe, ntmps19] <;> (try simp only [SC] at hc) <;> try (first | exact absurd (by assumption) hc | exact absurd hc (by assumption) | exact False.elim hc | (refine False.elim ?_; omega))))
  refine tr_rounds (α := List UInt8 × List (List UInt8) × Option Nat) (fun x => [(0, .str x.1), (1, .str p), (5, rowV .str x.2.2 x.2.1.length)]) (fun x => hpRow 9 .str H x.2.1 x.2.2)
    (fun x => RowOk (ty := .str) H x.2.1 x.2.2 ∧ x.1.length + x.2.1.length ≤ s.length ∧ x.2.1 ++ betA p x.1 = betA p s) (fun x => x.1.length) (s, [], none) ?_ (Hp.Le.refl _) ⟨rfl, by simp, rfl⟩ ?_
  · exact (by simp only [go_sem, F, Nat.reduceLT, Nat.reduceLeDiff, Nat.reduceAdd, Nat.reduceEqDiff, ↓reduceIte, ↓reduceDIte, reduceCtorEq, Int.reduceLE, Int.reduceLT, Int.reduceToNat, UInt8.reduceOfNat, Nat.reduceSub, Int.reduceNeg, Nat.reduceMul, Int.reduceEq, Int.reduceBEq, Int.reduceBNe, Option.some.injEq, AVal.int.injEq, rowV]; try omega)
  · rintro ⟨r, acc, ob⟩ ⟨hr, hl, he⟩
    simp only at hr hl he
    obtain ⟨⟨c1, c2, c3⟩, hc1⟩ : ∃ c, Lib.cut r p = c := ⟨_, rfl⟩
    have hcl := cut_len r p
    rw [hc1] at hcl
    simp only at hcl
    obtain ⟨⟨d1, d2, d3⟩, hd1⟩ : ∃ d, Lib.cut c2 [34] = d := ⟨_, rfl⟩
    have hdl := @cut_len1 c2 [34] (by simp)
    rw [hd1] at hdl
    simp only at hdl
    by_cases hok : c3 = true ∧ d3 = true
    · obtain ⟨rfl, rfl⟩ := hok
      have hdl' := hdl rfl
      have hb := betA_go (p := p) (s := r) (by rw [hc1]) (by rw [hc1]; simp only; rw [hd1])
      rw [hc1] at hb
      simp only at hb
      rw [hd1] at hb
      simp only at hb
      rw [hb] at he
      rcases ob with _ | b
      · have hr' : acc = [] := hr
        subst hr'
        repeat' (first | (refine kw (by assumption) ?_) | (refine tr_seqk ?_; intro K_ hK_) | (refine tr_block ?_) | (refine inBlock_normal ?_) | (refine andThen_normal ?_) | (refine And.intro (by omega) ?_) | (refine tr_return rfl rfl (by first | exact Ap.le (by with_reducible assumption) | exact Ap2.le (by with_reducible assumption) | exact Hp.Le.refl _) ?_) | (refine ends_normal rfl (by first | exact Ap.le (by with_reducible assumption) | exact Ap2.le (by with_reducible assumption) | exact Hp.Le.refl _) ?_) | (first | (have t_ := b2_; clear t_; refine fun (b3_ : Nat) hb3_ => ?_; first | have hn_ := N4_ hb3_ | have hn_ := N3_ hb3_ | have hn_ := N2_ hb3_ | have hn_ := N1_ hb3_ | skip) | (have t_ := b1_; clear t_; refine fun (b2_ : Nat) hb2_ => ?_; first | have hn_ := N4_ hb2_ | have hn_ := N3_ hb2_ | have hn_ := N2_ hb2_ | have hn_ := N1_ hb2_ | skip) | (refine fun (b1_ : Nat) hb1_ => ?_; first | have hn_ := N4_ hb1_ | have hn_ := N3_ hb1_ | have hn_ := N2_ hb1_ | have hn_ := N1_ hb1_ | skip)) | (refine tr_regk 12 ?_; intro K_ hK_) | (refine tr_if ?_) | (refine tr_rege 12 ?_; intro K_ hK_) | (refine tr_skip ?_) | (refine tr_exit ?_) | (refine tr_drawk 12 followsF (by decide +kernel) ?_; intro K_ hK_) | (refine tr_drawe 12 followsF (by decide +kernel) ?_; intro K_ hK_) | (simp (maxSteps := 2000000) (disch := omega) only [go_sem, F, Nat.reduceLT, Nat.reduceLeDiff, Nat.reduceAdd, Nat.reduceEqDiff, ↓reduceIte, ↓reduceDIte, reduceCtorEq, Int.reduceLE, Int.reduceLT, Int.reduceToNat, UInt8.reduceOfNat, Nat.reduceSub, Int.reduceNeg, Nat.reduceMul, Int.reduceEq, Int.reduceBEq, Int.reduceBNe, ntmps19, hc1, hd1, rowV, hpRow, List.length_nil, Hp.set_ne]) | (refine wFn_intro (cut27 (by omega) ?_)) | (refine ⟨_, wFn_intro (cut27 (by omega) ⟨rfl, rfl⟩), ?_⟩) | (refine wAppend_row0 rfl (by first | exact newsA_sl | exact newsA_str) (by simp) (by simp only [F]) (by simp only [F, Option.some.injEq, eq_self, true_or, or_true, reduceCtorEq]) (by simp only [F, List.length_append, List.length_cons, List.length_nil]; omega) (by (try simp only [List.length_append, List.length_cons, List.length_nil]); omega) ?_; intro bn_ hbn_) | (refine wAppend_row (by first | exact Hp.set_self | (rw [Hp.set_ne (by omega), Hp.set_self])) (by simp only [F]) rfl (by first | rfl | omega | (simp only [List.length_append, List.length_map, List.length_set])) (by simp only [F]) (by first | exact newsA_sl | exact newsA_str) (by simp only [F]) (by simp only [F, Option.some.injEq, eq_self, true_or, or_true, reduceCtorEq]) (by simp only [F, List.length_append, List.length_cons, List.length_nil]; omega) (by (try simp only [List.length_append, List.length_cons, List.length_nil]); omega) ?_; intro bn_ hbn_) | (refine gate_split (fun hc => ?_) (fun hc => ?_) <;> (try simp only [SB] at hc) <;> simp (disch := omega) only [hc, go_sem, F, Nat.reduceLT, Nat.reduceLeDiff, Nat.reduceAdd, Nat.reduceEqDiff, ↓reduceIte, ↓reduceDIte, reduceCtorEq, Int.reduceLE, Int.reduceLT, Int.reduceToNat, UInt8.reduceOfNat, Nat.reduceSub, Int.reduceNeg, Nat.reduceMul, Int.reduceEq, Int.reduceBEq, Int.reduceBNe, ntmps19, hc1, hd1, rowV, hpRow, List.length_nil, Hp.set_ne] <;> (try simp only [SC] at hc) <;> try (first | exact absurd (by assumption) hc | exact absurd hc (by assumption) | exact False.elim hc | (refine False.elim ?_; omega))))
        all_goals first
          | exact ⟨(d2, [d1], some bn_), (by simp only [go_sem, F, Nat.reduceLT, Nat.reduceLeDiff, Nat.reduceAdd, Nat.reduceEqDiff, ↓reduceIte, ↓reduceDIte, reduceCtorEq, Int.reduceLE, Int.reduceLT, Int.reduceToNat, UInt8.reduceOfNat, Nat.reduceSub, Int.reduceNeg, Nat.reduceMul, Int.reduceEq, Int.reduceBEq, Int.reduceBNe, Option.some.injEq, AVal.int.injEq, rowV]; try omega), Hp.Le.refl _, ⟨⟨hbn_, by simp⟩, by simp only [List.length_singleton]; simp only [List.length_nil] at hl; omega, he⟩, by simp only; omega⟩
          | skip
      · obtain ⟨hb0, hne0⟩ := hr
        repeat' (first | (refine kw (by assumption) ?_) | (refine tr_seqk ?_; intro K_ hK_) | (refine tr_block ?_) | (refine inBlock_normal ?_) | (refine andThen_normal ?_) | (refine And.intro (by omega) ?_) | (refine tr_return rfl rfl (by first | exact Ap.le (by with_reducible assumption) | exact Ap2.le (by with_reducible assumption) | exact Hp.Le.refl _) ?_) | (refine ends_normal rfl (by first | exact Ap.le (by with_reducible assumption) | exact Ap2.le (by with_reducible assumption) | exact Hp.Le.refl _) ?_) | (first | (have t_ := b2_; clear t_; refine fun (b3_ : Nat) hb3_ => ?_; first | have hn_ := N4_ hb3_ | have hn_ := N3_ hb3_ | have hn_ := N2_ hb3_ | have hn_ := N1_ hb3_ | skip) | (have t_ := b1_; clear t_; refine fun (b2_ : Nat) hb2_ => ?_; first | have hn_ := N4_ hb2_ | have hn_ := N3_ hb2_ | have hn_ := N2_ hb2_ | have hn_ := N1_ hb2_ | skip) | (refine fun (b1_ : Nat) hb1_ => ?_; first | have hn_ := N4_ hb1_ | have hn_ := N3_ hb1_ | have hn_ := N2_ hb1_ | have hn_ := N1_ hb1_ | skip)) | (refine tr_regk 12 ?_; intro K_ hK_) | (refine tr_if ?_) | (refine tr_rege 12 ?_; intro K_ hK_) | (refine tr_skip ?_) | (refine tr_exit ?_) | (refine tr_drawk 12 followsF (by decide +kernel) ?_; intro K_ hK_) | (refine tr_drawe 12 followsF (by decide +kernel) ?_; intro K_ hK_) | (simp (maxSteps := 2000000) (disch := omega) only [go_sem, F, Nat.reduceLT, Nat.reduceLeDiff, Nat.reduceAdd, Nat.reduceEqDiff, ↓reduceIte, ↓reduceDIte, reduceCtorEq, Int.reduceLE, Int.reduceLT, Int.reduceToNat, UInt8.reduceOfNat, Nat.reduceSub, Int.reduceNeg, Nat.reduceMul, Int.reduceEq, Int.reduceBEq, Int.reduceBNe, ntmps19, hc1, hd1, rowV, hpRow, Hp.set_ne]) | (refine wFn_intro (cut27 (by omega) ?_)) | (refine ⟨_, wFn_intro (cut27 (by omega) ⟨rfl, rfl⟩), ?_⟩) | (refine wAppend_row0 rfl (by first | exact newsA_sl | exact newsA_str) (by simp) (by simp only [F]) (by simp only [F, Option.some.injEq, eq_self, true_or, or_true, reduceCtorEq]) (by simp only [F, List.length_append, List.length_cons, List.length_nil]; omega) (by (try simp only [List.length_append, List.length_cons, List.length_nil]); omega) ?_; intro bn_ hbn_) | (refine wAppend_row (by first | exact Hp.set_self | (rw [Hp.set_ne (by omega), Hp.set_self])) (by simp only [F]) rfl (by first | rfl | omega | (simp only [List.length_append, List.length_map, List.length_set])) (by simp only [F]) (by first | exact newsA_sl | exact newsA_str) (by simp only [F]) (by simp only [F, Option.some.injEq, eq_self, true_or, or_true, reduceCtorEq]) (by simp only [F, List.length_append, List.length_cons, List.length_nil]; omega) (by (try simp only [List.length_append, List.length_cons, List.length_nil]); omega) ?_; intro bn_ hbn_) | (refine gate_split (fun hc => ?_) (fun hc => ?_) <;> (try simp only [SB] at hc) <;> simp (disch := omega) only [hc, go_sem, F, Nat.reduceLT, Nat.reduceLeDiff, Nat.reduceAdd, Nat.reduceEqDiff, ↓reduceIte, ↓reduceDIte, reduceCtorEq, Int.reduceLE, Int.reduceLT, Int.reduceToNat, UInt8.reduceOfNat, Nat.reduceSub, Int.reduceNeg, Nat.reduceMul, Int.reduceEq, Int.reduceBEq, Int.reduceBNe, ntmps19, hc1, hd1, rowV, hpRow, Hp.set_ne] <;> (try simp only [SC] at hc) <;> try (first | exact absurd (by assumption) hc | exact absurd hc (by assumption) | exact False.elim hc | (refine False.elim ?_; omega))))
        all_goals first
          | (rw [hp_back hb0] at hbn_
             exact ⟨(d2, acc ++ [d1], some bn_), (by simp only [go_sem, F, Nat.reduceLT, Nat.reduceLeDiff, Nat.reduceAdd, Nat.reduceEqDiff, ↓reduceIte, ↓reduceDIte, reduceCtorEq, Int.reduceLE, Int.reduceLT, Int.reduceToNat, UInt8.reduceOfNat, Nat.reduceSub, Int.reduceNeg, Nat.reduceMul, Int.reduceEq, Int.reduceBEq, Int.reduceBNe, Option.some.injEq, AVal.int.injEq, rowV, List.length_append]; try omega), by rw [hp_none hb0]; exact Hp.Le.refl _, ⟨⟨hbn_, by simp⟩, by simp only [List.length_append, List.length_singleton]; omega, by simp only [List.append_assoc]; exact he⟩, by simp only; omega⟩)
          | skip
    · have hb := betA_no (p := p) (s := r) (by rw [hc1]; simp only; rw [hd1]; exact hok)
      rw [hb, List.append_nil] at he
      subst he
      have hk := h ob hr
      cases c3
      · repeat' (first | (refine kw (by assumption) ?_) | (refine tr_seqk ?_; intro K_ hK_) | (refine tr_block ?_) | (refine inBlock_normal ?_) | (refine andThen_normal ?_) | (refine And.intro (by omega) ?_) | (refine tr_return rfl rfl (Hp.Le.refl _) ?_) | (refine ends_normal rfl (Hp.Le.refl _) ?_) | (refine fun (b_ : Nat) hb_ => ?_) | (refine tr_regk 12 ?_; intro K_ hK_) | (refine tr_if ?_) | (refine tr_rege 12 ?_; intro K_ hK_) | (refine tr_skip ?_) | (refine tr_exit ?_) | (refine tr_drawk 12 followsF (by decide +kernel) ?_; intro K_ hK_) | (refine tr_drawe 12 followsF (by decide +kernel) ?_; intro K_ hK_) | (simp (maxSteps := 2000000) (disch := omega) only [go_sem, F, Nat.reduceLT, Nat.reduceLeDiff, Nat.reduceAdd, Nat.reduceEqDiff, ↓reduceIte, ↓reduceDIte, reduceCtorEq, Int.reduceLE, Int.reduceLT, Int.reduceToNat, UInt8.reduceOfNat, Nat.reduceSub, Int.reduceNeg, Nat.reduceMul, Int.reduceEq, Int.reduceBEq, Int.reduceBNe, ntmps19, hc1, hd1]) | (refine wFn_intro (cut27 (by omega) ?_)) | (refine ⟨_, wFn_intro (cut27 (by omega) ⟨rfl, rfl⟩), ?_⟩) | (refine gate_split (fun hc => ?_) (fun hc => ?_) <;> (try simp only [SB] at hc) <;> simp (disch := omega) only [hc, go_sem, F, Nat.reduceLT, Nat.reduceLeDiff, Nat.reduceAdd, Nat.reduceEqDiff, ↓reduceIte, ↓reduceDIte, reduceCtorEq, Int.reduceLE, Int.reduceLT, Int.reduceToNat, UInt8.reduceOfNat, Nat.reduceSub, Int.reduceNeg, Nat.reduceMul, Int.reduceEq, Int.reduceBEq, Int.reduceBNe, ntmps19, hc1, hd1] <;> (try simp only [SC] at hc) <;> try (first | exact absurd (by assumption) hc | exact absurd hc (by assumption) | exact False.elim hc | (refine False.elim ?_; omega))))
        all_goals exact hk
      · cases d3
        · repeat' (first | (refine kw (by assumption) ?_) | (refine tr_seqk ?_; intro K_ hK_) | (refine tr_block ?_) | (refine inBlock_normal ?_) | (refine andThen_normal ?_) | (refine And.intro (by omega) ?_) | (refine tr_return rfl rfl (Hp.Le.refl _) ?_) | (refine ends_normal rfl (Hp.Le.refl _) ?_) | (refine fun (b_ : Nat) hb_ => ?_) | (refine tr_regk 12 ?_; intro K_ hK_) | (refine tr_if ?_) | (refine tr_rege 12 ?_; intro K_ hK_) | (refine tr_skip ?_) | (refine tr_exit ?_) | (refine tr_drawk 12 followsF (by decide +kernel) ?_; intro K_ hK_) | (refine tr_drawe 12 followsF (by decide +kernel) ?_; intro K_ hK_) | (simp (maxSteps := 2000000) (disch := omega) only [go_sem, F, Nat.reduceLT, Nat.reduceLeDiff, Nat.reduceAdd, Nat.reduceEqDiff, ↓reduceIte, ↓reduceDIte, reduceCtorEq, Int.reduceLE, Int.reduceLT, Int.reduceToNat, UInt8.reduceOfNat, Nat.reduceSub, Int.reduceNeg, Nat.reduceMul, Int.reduceEq, Int.reduceBEq, Int.reduceBNe, ntmps19, hc1, hd1]) | (refine wFn_intro (cut27 (by omega) ?_)) | (refine ⟨_, wFn_intro (cut27 (by omega) ⟨rfl, rfl⟩), ?_⟩) | (refine gate_split (fun hc => ?_) (fun hc => ?_) <;> (try simp only [SB] at hc) <;> simp (disch := omega) only [hc, go_sem, F, Nat.reduceLT, Nat.reduceLeDiff, Nat.reduceAdd, Nat.reduceEqDiff, ↓reduceIte, ↓reduceDIte, reduceCtorEq, Int.reduceLE, Int.reduceLT, Int.reduceToNat, UInt8.reduceOfNat, Nat.reduceSub, Int.reduceNeg, Nat.reduceMul, Int.reduceEq, Int.reduceBEq, Int.reduceBNe, ntmps19, hc1, hd1] <;> (try simp only [SC] at hc) <;> try (first | exact absurd (by assumption) hc | exact absurd hc (by assumption) | exact False.elim hc | (refine False.elim ?_; omega))))
          all_goals exact hk
        · exact absurd ⟨rfl, rfl⟩ hok
theorem between19s {n : Nat} {m : Int} {s p : List UInt8} {H : Hp} {K : AVal → Hp → Prop} (hs : s.length ≤ 1000000000) (h : K (.sl .str (betA p s) .no) H) : FnC Try.prog ⟨n, T0 m⟩ 19 [.str s, .str p] H K := by
  refine FnC.giveUp (between19 hs fun ob hr => ?_)
  rcases ob with _ | b
  · have hr' : betA p s = [] := hr
    refine .inl ⟨.str, [], .exact, rfl, ?_⟩
    rw [hr'] at h
    exact h
  · refine .inr ⟨b, (betA p s).length, 9, .str, betA p s, rfl, Hp.set_self, Nat.le_refl _, ?_⟩
    rw [List.take_of_length_le (Nat.le_refl _)]
    show K _ ((H.set b (some (.row 9 .str (betA p s)))).set b none)
    rw [hp_back hr.1]
    exact h
end Go.Proofs.Ytopegdkhoafajaa
