/- Code: what the document's Clean and Span compute, step by step. Own work; printed from wip/law9/d.in by pre2.py. -/
import Derived.Test.YtfnhhkpnfficaaaDoorCoP
namespace Go.Proofs.YtfnhhkpnfficaaaDoor
open Go.Sv
set_option linter.unusedSimpArgs false
set_option linter.unusedVariables false
set_option maxRecDepth 100000

theorem nl_next {s : List UInt8} {i : Nat} (h : i < s.length) : (s.take i).map nl ++ [nl (s.getD i 0)] = (s.take (i + 1)).map nl := by
  rw [List.take_add_one, List.map_append, List.getElem?_eq_getElem h, List.getD_eq_getElem?_getD, List.getElem?_eq_getElem h]; rfl
theorem all_next {s : List UInt8} {i : Nat} (h : i < s.length) : ((s.take (i + 1)).map nl).all isB = (((s.take i).map nl).all isB && isB (nl (s.getD i 0))) := by
  rw [← nl_next h, List.all_append]; simp
theorem cut_one (s : List UInt8) (i : Nat) (h : i < s.length) : (s.take (i + 1)).drop i = [s.getD i 0] := by
  rw [List.take_add_one, List.getElem?_eq_getElem h, List.drop_append_of_le_length (by rw [List.length_take]; omega), List.drop_eq_nil_of_le (by rw [List.length_take]; omega), List.getD_eq_getElem?_getD, List.getElem?_eq_getElem h]; rfl
theorem one_beq (c : UInt8) : ([c] == [32]) = isB c := by
  unfold isB
  cases h : c == 32 <;> simp_all
theorem clean_two {t : List UInt8} (h : t.all isB = false) (h0 : t.getD 0 0 = 32) : 2 ≤ t.length := by
  match t with
  | [] => simp at h
  | [x] =>
    rw [List.getD_cons_zero] at h0
    subst h0
    exact absurd h (by decide)
  | _ :: _ :: _ => simp
theorem clean_yes {s : List UInt8} (h : (s.map nl).all isB = false) (h0 : (s.map nl).getD 0 0 = 32) (h1 : (s.map nl).getD (s.length - 1) 0 = 32) : cleanL s = ((s.map nl).take (s.length - 1)).drop 1 := if_pos ⟨h, h0, h1⟩
theorem clean_all {s : List UInt8} (h : (s.map nl).all isB = true) : cleanL s = s.map nl := if_neg (fun g => by rw [h] at g; cases g.1)
theorem clean_no0 {s : List UInt8} (h : ¬ (s.map nl).getD 0 0 = 32) : cleanL s = s.map nl := if_neg (fun g => h g.2.1)
theorem clean_no1 {s : List UInt8} (h : ¬ (s.map nl).getD (s.length - 1) 0 = 32) : cleanL s = s.map nl := if_neg (fun g => h g.2.2)
theorem beq32 {c : UInt8} (h : ¬ c = 32) : (c == 32) = false := beq_eq_false_iff_ne.2 h
theorem toNat_succ (n : Nat) : ((n : Int) + 1).toNat = n + 1 := by omega
theorem ntmps36 : Tryd.f36.ntmps = 52 := rfl
set_option maxHeartbeats 4000000 in
theorem rclean36 {B0 : Base} {s : List UInt8} {H : Hp} {K : AVal → Hp → Prop} (hs : s.length ≤ 1000000000000000) (h : K (.str (cleanL s)) H) : FnC Tryd.prog B0 36 [.str s] H K := by
  refine fn_of_tr Tryd.func36 rfl (by decide) (by simp) ?_
  repeat' (first | (refine kw (by assumption) ?_) | (refine tr_seqk ?_; intro K_ hK_) | (refine tr_block ?_) | (refine inBlock_normal ?_) | (refine andThen_normal ?_) | (refine And.intro (by omega) ?_) | (refine tr_return rfl rfl (Hp.Le.refl _) ?_) | (refine ends_normal rfl (Hp.Le.refl _) ?_) | (refine fun (b_ : Nat) hb_ => ?_) | (refine tr_regk 8 ?_; intro K_ hK_) | (refine tr_if ?_) | (refine tr_rege 8 ?_; intro K_ hK_) | (refine tr_skip ?_) | (refine tr_exit ?_) | (refine tr_drawk 8 followsF (by decide +kernel) ?_; intro K_ hK_) | (refine tr_drawe 8 followsF (by decide +kernel) ?_; intro K_ hK_) | (simp (maxSteps := 2000000) (disch := omega) only [go_sem, F, Nat.reduceLT, Nat.reduceLeDiff, Nat.reduceAdd, Nat.reduceEqDiff, ↓reduceIte, reduceCtorEq, Int.reduceLE, Int.reduceLT, Int.reduceToNat, UInt8.reduceOfNat, Nat.reduceSub, Int.reduceNeg, Nat.reduceMul, Int.reduceEq, Int.reduceBEq, Int.reduceBNe, ntmps36]) | (refine gate_split (fun hc => ?_) (fun hc => ?_) <;> (try simp only [SB] at hc) <;> simp (disch := omega) only [hc, go_sem, F, Nat.reduceLT, Nat.reduceLeDiff, Nat.reduceAdd, Nat.reduceEqDiff, ↓reduceIte, reduceCtorEq, Int.reduceLE, Int.reduceLT, Int.reduceToNat, UInt8.reduceOfNat, Nat.reduceSub, Int.reduceNeg, Nat.reduceMul, Int.reduceEq, Int.reduceBEq, Int.reduceBNe, ntmps36] <;> (try simp only [SC] at hc) <;> try (first | exact absurd (by assumption) hc | exact absurd hc (by assumption) | exact False.elim hc | (refine False.elim ?_; omega))))
  refine tr_while (by assumption) (α := Nat) (β := Unit) (fun x => [(0, .str s), (3, .str ((s.take x).map nl)), (4, .bool (((s.take x).map nl).all isB)), (5, .int .i64 x)]) (fun _ => H) (fun x => x ≤ s.length) (fun x => s.length - x) 0
    (fun _ => [(3, .str (s.map nl)), (4, .bool ((s.map nl).all isB))]) (fun _ => H) (fun _ => True) ?_ (Hp.Le.refl _) (Nat.zero_le _) ?_ ?_
  · simp only [go_sem, F, Nat.reduceLT, Nat.reduceLeDiff, Nat.reduceAdd, Nat.reduceEqDiff, ↓reduceIte, reduceCtorEq, Int.reduceLE, Int.reduceLT, Int.reduceToNat, UInt8.reduceOfNat, Nat.reduceSub, Int.reduceNeg, Nat.reduceMul, Int.reduceEq, Int.reduceBEq, Int.reduceBNe, Int.natCast_zero, List.take_zero, List.map_nil, List.all_nil]
  · rintro i hi
    have hts := toNat_succ i
    have hlen : ((s.take i).map nl).length = i := by rw [List.length_map, List.length_take]; omega
    by_cases hil : i < s.length
    · have hnx := nl_next hil
      have hal := all_next hil
      have hc1 := cut_one s i hil
      have hob := one_beq (s.getD i 0)
      have hob2 := one_beq 32
      by_cases h10 : s.getD i 0 = 10
      · have hnl : nl (s.getD i 0) = 32 := by rw [h10]; rfl
        rw [hnl] at hnx hal
        have e1 : (s.getD i 0 == 10) = true := by rw [h10]; rfl
        cases ha : ((s.take i).map nl).all isB
        · rw [ha, Bool.false_and] at hal
          repeat' (first | (refine kw (by assumption) ?_) | (refine tr_seqk ?_; intro K_ hK_) | (refine tr_block ?_) | (refine inBlock_normal ?_) | (refine andThen_normal ?_) | (refine And.intro (by omega) ?_) | (refine tr_return rfl rfl (Hp.Le.refl _) ?_) | (refine ends_normal rfl (Hp.Le.refl _) ?_) | (refine fun (b_ : Nat) hb_ => ?_) | (refine tr_regk 8 ?_; intro K_ hK_) | (refine tr_if ?_) | (refine tr_rege 8 ?_; intro K_ hK_) | (refine tr_skip ?_) | (refine tr_exit ?_) | (refine tr_drawk 8 followsF (by decide +kernel) ?_; intro K_ hK_) | (refine tr_drawe 8 followsF (by decide +kernel) ?_; intro K_ hK_) | (simp (maxSteps := 2000000) (disch := omega) only [go_sem, F, Nat.reduceLT, Nat.reduceLeDiff, Nat.reduceAdd, Nat.reduceEqDiff, ↓reduceIte, reduceCtorEq, Int.reduceLE, Int.reduceLT, Int.reduceToNat, UInt8.reduceOfNat, Nat.reduceSub, Int.reduceNeg, Nat.reduceMul, Int.reduceEq, Int.reduceBEq, Int.reduceBNe, ntmps36, hts, hc1, e1, ha, List.length_append]) | (refine gate_split (fun hc => ?_) (fun hc => ?_) <;> (try simp only [SB] at hc) <;> simp (disch := omega) only [hc, go_sem, F, Nat.reduceLT, Nat.reduceLeDiff, Nat.reduceAdd, Nat.reduceEqDiff, ↓reduceIte, reduceCtorEq, Int.reduceLE, Int.reduceLT, Int.reduceToNat, UInt8.reduceOfNat, Nat.reduceSub, Int.reduceNeg, Nat.reduceMul, Int.reduceEq, Int.reduceBEq, Int.reduceBNe, ntmps36, hts, hc1, e1, ha, List.length_append] <;> (try simp only [SC] at hc) <;> try (first | exact absurd (by assumption) hc | exact absurd hc (by assumption) | exact False.elim hc | (refine False.elim ?_; omega))))
          all_goals first
            | exact ⟨i + 1, by rw [hal, ← hnx]; exact (by simp only [go_sem, F, Nat.reduceLT, Nat.reduceLeDiff, Nat.reduceAdd, Nat.reduceEqDiff, ↓reduceIte, reduceCtorEq, Int.reduceLE, Int.reduceLT, Int.reduceToNat, UInt8.reduceOfNat, Nat.reduceSub, Int.reduceNeg, Nat.reduceMul, Int.reduceEq, Int.reduceBEq, Int.reduceBNe, Option.some.injEq, AVal.int.injEq]; try omega), Hp.Le.refl _, by omega, by omega⟩
            | skip
        · rw [ha, Bool.true_and, show isB 32 = true from rfl] at hal
          repeat' (first | (refine kw (by assumption) ?_) | (refine tr_seqk ?_; intro K_ hK_) | (refine tr_block ?_) | (refine inBlock_normal ?_) | (refine andThen_normal ?_) | (refine And.intro (by omega) ?_) | (refine tr_return rfl rfl (Hp.Le.refl _) ?_) | (refine ends_normal rfl (Hp.Le.refl _) ?_) | (refine fun (b_ : Nat) hb_ => ?_) | (refine tr_regk 8 ?_; intro K_ hK_) | (refine tr_if ?_) | (refine tr_rege 8 ?_; intro K_ hK_) | (refine tr_skip ?_) | (refine tr_exit ?_) | (refine tr_drawk 8 followsF (by decide +kernel) ?_; intro K_ hK_) | (refine tr_drawe 8 followsF (by decide +kernel) ?_; intro K_ hK_) | (simp (maxSteps := 2000000) (disch := omega) only [go_sem, F, Nat.reduceLT, Nat.reduceLeDiff, Nat.reduceAdd, Nat.reduceEqDiff, ↓reduceIte, reduceCtorEq, Int.reduceLE, Int.reduceLT, Int.reduceToNat, UInt8.reduceOfNat, Nat.reduceSub, Int.reduceNeg, Nat.reduceMul, Int.reduceEq, Int.reduceBEq, Int.reduceBNe, ntmps36, hts, hc1, e1, ha, List.length_append]) | (refine gate_split (fun hc => ?_) (fun hc => ?_) <;> (try simp only [SB] at hc) <;> simp (disch := omega) only [hc, go_sem, F, Nat.reduceLT, Nat.reduceLeDiff, Nat.reduceAdd, Nat.reduceEqDiff, ↓reduceIte, reduceCtorEq, Int.reduceLE, Int.reduceLT, Int.reduceToNat, UInt8.reduceOfNat, Nat.reduceSub, Int.reduceNeg, Nat.reduceMul, Int.reduceEq, Int.reduceBEq, Int.reduceBNe, ntmps36, hts, hc1, e1, ha, List.length_append] <;> (try simp only [SC] at hc) <;> try (first | exact absurd (by assumption) hc | exact absurd hc (by assumption) | exact False.elim hc | (refine False.elim ?_; omega))))
          all_goals first
            | exact ⟨i + 1, by rw [hal, ← hnx]; exact (by simp only [go_sem, F, Nat.reduceLT, Nat.reduceLeDiff, Nat.reduceAdd, Nat.reduceEqDiff, ↓reduceIte, reduceCtorEq, Int.reduceLE, Int.reduceLT, Int.reduceToNat, UInt8.reduceOfNat, Nat.reduceSub, Int.reduceNeg, Nat.reduceMul, Int.reduceEq, Int.reduceBEq, Int.reduceBNe, Option.some.injEq, AVal.int.injEq]; try omega), Hp.Le.refl _, by omega, by omega⟩
            | skip
      · have hnl : nl (s.getD i 0) = s.getD i 0 := if_neg h10
        rw [hnl] at hnx hal
        have e1 : (s.getD i 0 == 10) = false := beq_eq_false_iff_ne.2 h10
        cases ha : ((s.take i).map nl).all isB
        · rw [ha, Bool.false_and] at hal
          repeat' (first | (refine kw (by assumption) ?_) | (refine tr_seqk ?_; intro K_ hK_) | (refine tr_block ?_) | (refine inBlock_normal ?_) | (refine andThen_normal ?_) | (refine And.intro (by omega) ?_) | (refine tr_return rfl rfl (Hp.Le.refl _) ?_) | (refine ends_normal rfl (Hp.Le.refl _) ?_) | (refine fun (b_ : Nat) hb_ => ?_) | (refine tr_regk 8 ?_; intro K_ hK_) | (refine tr_if ?_) | (refine tr_rege 8 ?_; intro K_ hK_) | (refine tr_skip ?_) | (refine tr_exit ?_) | (refine tr_drawk 8 followsF (by decide +kernel) ?_; intro K_ hK_) | (refine tr_drawe 8 followsF (by decide +kernel) ?_; intro K_ hK_) | (simp (maxSteps := 2000000) (disch := omega) only [go_sem, F, Nat.reduceLT, Nat.reduceLeDiff, Nat.reduceAdd, Nat.reduceEqDiff, ↓reduceIte, reduceCtorEq, Int.reduceLE, Int.reduceLT, Int.reduceToNat, UInt8.reduceOfNat, Nat.reduceSub, Int.reduceNeg, Nat.reduceMul, Int.reduceEq, Int.reduceBEq, Int.reduceBNe, ntmps36, hts, hc1, e1, ha, List.length_append]) | (refine gate_split (fun hc => ?_) (fun hc => ?_) <;> (try simp only [SB] at hc) <;> simp (disch := omega) only [hc, go_sem, F, Nat.reduceLT, Nat.reduceLeDiff, Nat.reduceAdd, Nat.reduceEqDiff, ↓reduceIte, reduceCtorEq, Int.reduceLE, Int.reduceLT, Int.reduceToNat, UInt8.reduceOfNat, Nat.reduceSub, Int.reduceNeg, Nat.reduceMul, Int.reduceEq, Int.reduceBEq, Int.reduceBNe, ntmps36, hts, hc1, e1, ha, List.length_append] <;> (try simp only [SC] at hc) <;> try (first | exact absurd (by assumption) hc | exact absurd hc (by assumption) | exact False.elim hc | (refine False.elim ?_; omega))))
          all_goals first
            | exact ⟨i + 1, by rw [hal, ← hnx]; exact (by simp only [go_sem, F, Nat.reduceLT, Nat.reduceLeDiff, Nat.reduceAdd, Nat.reduceEqDiff, ↓reduceIte, reduceCtorEq, Int.reduceLE, Int.reduceLT, Int.reduceToNat, UInt8.reduceOfNat, Nat.reduceSub, Int.reduceNeg, Nat.reduceMul, Int.reduceEq, Int.reduceBEq, Int.reduceBNe, Option.some.injEq, AVal.int.injEq]; try omega), Hp.Le.refl _, by omega, by omega⟩
            | skip
        · rw [ha, Bool.true_and] at hal
          repeat' (first | (refine kw (by assumption) ?_) | (refine tr_seqk ?_; intro K_ hK_) | (refine tr_block ?_) | (refine inBlock_normal ?_) | (refine andThen_normal ?_) | (refine And.intro (by omega) ?_) | (refine tr_return rfl rfl (Hp.Le.refl _) ?_) | (refine ends_normal rfl (Hp.Le.refl _) ?_) | (refine fun (b_ : Nat) hb_ => ?_) | (refine tr_regk 8 ?_; intro K_ hK_) | (refine tr_if ?_) | (refine tr_rege 8 ?_; intro K_ hK_) | (refine tr_skip ?_) | (refine tr_exit ?_) | (refine tr_drawk 8 followsF (by decide +kernel) ?_; intro K_ hK_) | (refine tr_drawe 8 followsF (by decide +kernel) ?_; intro K_ hK_) | (simp (maxSteps := 2000000) (disch := omega) only [go_sem, F, Nat.reduceLT, Nat.reduceLeDiff, Nat.reduceAdd, Nat.reduceEqDiff, ↓reduceIte, reduceCtorEq, Int.reduceLE, Int.reduceLT, Int.reduceToNat, UInt8.reduceOfNat, Nat.reduceSub, Int.reduceNeg, Nat.reduceMul, Int.reduceEq, Int.reduceBEq, Int.reduceBNe, ntmps36, hts, hc1, e1, ha, hob, List.length_append]) | (refine gate_split (fun hc => ?_) (fun hc => ?_) <;> (try simp only [SB] at hc) <;> simp (disch := omega) only [hc, go_sem, F, Nat.reduceLT, Nat.reduceLeDiff, Nat.reduceAdd, Nat.reduceEqDiff, ↓reduceIte, reduceCtorEq, Int.reduceLE, Int.reduceLT, Int.reduceToNat, UInt8.reduceOfNat, Nat.reduceSub, Int.reduceNeg, Nat.reduceMul, Int.reduceEq, Int.reduceBEq, Int.reduceBNe, ntmps36, hts, hc1, e1, ha, hob, List.length_append] <;> (try simp only [SC] at hc) <;> try (first | exact absurd (by assumption) hc | exact absurd hc (by assumption) | exact False.elim hc | (refine False.elim ?_; omega))))
          all_goals first
            | exact ⟨i + 1, by rw [hal, ← hnx]; exact (by simp only [go_sem, F, Nat.reduceLT, Nat.reduceLeDiff, Nat.reduceAdd, Nat.reduceEqDiff, ↓reduceIte, reduceCtorEq, Int.reduceLE, Int.reduceLT, Int.reduceToNat, UInt8.reduceOfNat, Nat.reduceSub, Int.reduceNeg, Nat.reduceMul, Int.reduceEq, Int.reduceBEq, Int.reduceBNe, Option.some.injEq, AVal.int.injEq]; try omega), Hp.Le.refl _, by omega, by omega⟩
            | skip
    · have hie : s.take i = s := List.take_of_length_le (by omega)
      rw [hie] at hlen
      repeat' (first | (refine kw (by assumption) ?_) | (refine tr_seqk ?_; intro K_ hK_) | (refine tr_block ?_) | (refine inBlock_normal ?_) | (refine andThen_normal ?_) | (refine And.intro (by omega) ?_) | (refine tr_return rfl rfl (Hp.Le.refl _) ?_) | (refine ends_normal rfl (Hp.Le.refl _) ?_) | (refine fun (b_ : Nat) hb_ => ?_) | (refine tr_regk 8 ?_; intro K_ hK_) | (refine tr_if ?_) | (refine tr_rege 8 ?_; intro K_ hK_) | (refine tr_skip ?_) | (refine tr_exit ?_) | (refine tr_drawk 8 followsF (by decide +kernel) ?_; intro K_ hK_) | (refine tr_drawe 8 followsF (by decide +kernel) ?_; intro K_ hK_) | (simp (maxSteps := 2000000) (disch := omega) only [go_sem, F, Nat.reduceLT, Nat.reduceLeDiff, Nat.reduceAdd, Nat.reduceEqDiff, ↓reduceIte, reduceCtorEq, Int.reduceLE, Int.reduceLT, Int.reduceToNat, UInt8.reduceOfNat, Nat.reduceSub, Int.reduceNeg, Nat.reduceMul, Int.reduceEq, Int.reduceBEq, Int.reduceBNe, ntmps36, hie]) | (refine gate_split (fun hc => ?_) (fun hc => ?_) <;> (try simp only [SB] at hc) <;> simp (disch := omega) only [hc, go_sem, F, Nat.reduceLT, Nat.reduceLeDiff, Nat.reduceAdd, Nat.reduceEqDiff, ↓reduceIte, reduceCtorEq, Int.reduceLE, Int.reduceLT, Int.reduceToNat, UInt8.reduceOfNat, Nat.reduceSub, Int.reduceNeg, Nat.reduceMul, Int.reduceEq, Int.reduceBEq, Int.reduceBNe, ntmps36, hie] <;> (try simp only [SC] at hc) <;> try (first | exact absurd (by assumption) hc | exact absurd hc (by assumption) | exact False.elim hc | (refine False.elim ?_; omega))))
      all_goals first
        | exact ⟨(), (by simp only [go_sem, F, Nat.reduceLT, Nat.reduceLeDiff, Nat.reduceAdd, Nat.reduceEqDiff, ↓reduceIte, reduceCtorEq, Int.reduceLE, Int.reduceLT, Int.reduceToNat, UInt8.reduceOfNat, Nat.reduceSub, Int.reduceNeg, Nat.reduceMul, Int.reduceEq, Int.reduceBEq, Int.reduceBNe, Option.some.injEq, AVal.int.injEq]; try omega), Hp.Le.refl _⟩
        | exact ⟨(), by rw [hie], Hp.Le.refl _⟩
        | exact ⟨(), Hp.Le.refl _⟩
        | skip
  · rintro - -
    have hL : (s.map nl).length = s.length := List.length_map ..
    cases ha : (s.map nl).all isB
    · by_cases h0 : (s.map nl).getD 0 0 = 32
      · have h2 := clean_two ha h0
        have hx0 : ((s.map nl).getD 0 0 == 32) = true := by rw [h0]; rfl
        have ht : ((s.length : Int) - 1).toNat = s.length - 1 := by omega
        by_cases h1 : (s.map nl).getD (s.length - 1) 0 = 32
        · have hx1 : ((s.map nl).getD (s.length - 1) 0 == 32) = true := by rw [h1]; rfl
          rw [clean_yes ha h0 h1] at h
          generalize hm : s.map nl = t at *
          repeat' (first | (refine kw (by assumption) ?_) | (refine tr_seqk ?_; intro K_ hK_) | (refine tr_block ?_) | (refine inBlock_normal ?_) | (refine andThen_normal ?_) | (refine And.intro (by omega) ?_) | (refine tr_return rfl rfl (Hp.Le.refl _) ?_) | (refine ends_normal rfl (Hp.Le.refl _) ?_) | (refine fun (b_ : Nat) hb_ => ?_) | (refine tr_regk 8 ?_; intro K_ hK_) | (refine tr_if ?_) | (refine tr_rege 8 ?_; intro K_ hK_) | (refine tr_skip ?_) | (refine tr_exit ?_) | (refine tr_drawk 8 followsF (by decide +kernel) ?_; intro K_ hK_) | (refine tr_drawe 8 followsF (by decide +kernel) ?_; intro K_ hK_) | (simp (maxSteps := 2000000) (disch := omega) only [go_sem, F, Nat.reduceLT, Nat.reduceLeDiff, Nat.reduceAdd, Nat.reduceEqDiff, ↓reduceIte, reduceCtorEq, Int.reduceLE, Int.reduceLT, Int.reduceToNat, UInt8.reduceOfNat, Nat.reduceSub, Int.reduceNeg, Nat.reduceMul, Int.reduceEq, Int.reduceBEq, Int.reduceBNe, ntmps36, hm, ha, hL, hx0, hx1, ht]) | (refine gate_split (fun hc => ?_) (fun hc => ?_) <;> (try simp only [SB] at hc) <;> simp (disch := omega) only [hc, go_sem, F, Nat.reduceLT, Nat.reduceLeDiff, Nat.reduceAdd, Nat.reduceEqDiff, ↓reduceIte, reduceCtorEq, Int.reduceLE, Int.reduceLT, Int.reduceToNat, UInt8.reduceOfNat, Nat.reduceSub, Int.reduceNeg, Nat.reduceMul, Int.reduceEq, Int.reduceBEq, Int.reduceBNe, ntmps36, hm, ha, hL, hx0, hx1, ht] <;> (try simp only [SC] at hc) <;> try (first | exact absurd (by assumption) hc | exact absurd hc (by assumption) | exact False.elim hc | (refine False.elim ?_; omega))))
          exact h
        · have hx1 := beq32 h1
          rw [clean_no1 h1] at h
          generalize hm : s.map nl = t at *
          repeat' (first | (refine kw (by assumption) ?_) | (refine tr_seqk ?_; intro K_ hK_) | (refine tr_block ?_) | (refine inBlock_normal ?_) | (refine andThen_normal ?_) | (refine And.intro (by omega) ?_) | (refine tr_return rfl rfl (Hp.Le.refl _) ?_) | (refine ends_normal rfl (Hp.Le.refl _) ?_) | (refine fun (b_ : Nat) hb_ => ?_) | (refine tr_regk 8 ?_; intro K_ hK_) | (refine tr_if ?_) | (refine tr_rege 8 ?_; intro K_ hK_) | (refine tr_skip ?_) | (refine tr_exit ?_) | (refine tr_drawk 8 followsF (by decide +kernel) ?_; intro K_ hK_) | (refine tr_drawe 8 followsF (by decide +kernel) ?_; intro K_ hK_) | (simp (maxSteps := 2000000) (disch := omega) only [go_sem, F, Nat.reduceLT, Nat.reduceLeDiff, Nat.reduceAdd, Nat.reduceEqDiff, ↓reduceIte, reduceCtorEq, Int.reduceLE, Int.reduceLT, Int.reduceToNat, UInt8.reduceOfNat, Nat.reduceSub, Int.reduceNeg, Nat.reduceMul, Int.reduceEq, Int.reduceBEq, Int.reduceBNe, ntmps36, hm, ha, hL, hx0, hx1, ht]) | (refine gate_split (fun hc => ?_) (fun hc => ?_) <;> (try simp only [SB] at hc) <;> simp (disch := omega) only [hc, go_sem, F, Nat.reduceLT, Nat.reduceLeDiff, Nat.reduceAdd, Nat.reduceEqDiff, ↓reduceIte, reduceCtorEq, Int.reduceLE, Int.reduceLT, Int.reduceToNat, UInt8.reduceOfNat, Nat.reduceSub, Int.reduceNeg, Nat.reduceMul, Int.reduceEq, Int.reduceBEq, Int.reduceBNe, ntmps36, hm, ha, hL, hx0, hx1, ht] <;> (try simp only [SC] at hc) <;> try (first | exact absurd (by assumption) hc | exact absurd hc (by assumption) | exact False.elim hc | (refine False.elim ?_; omega))))
          exact h
      · have hx0 := beq32 h0
        rw [clean_no0 h0] at h
        have hp : 0 < s.length := by
          rcases s with _ | ⟨c, s⟩
          · simp at ha
          · simp
        generalize hm : s.map nl = t at *
        repeat' (first | (refine kw (by assumption) ?_) | (refine tr_seqk ?_; intro K_ hK_) | (refine tr_block ?_) | (refine inBlock_normal ?_) | (refine andThen_normal ?_) | (refine And.intro (by omega) ?_) | (refine tr_return rfl rfl (Hp.Le.refl _) ?_) | (refine ends_normal rfl (Hp.Le.refl _) ?_) | (refine fun (b_ : Nat) hb_ => ?_) | (refine tr_regk 8 ?_; intro K_ hK_) | (refine tr_if ?_) | (refine tr_rege 8 ?_; intro K_ hK_) | (refine tr_skip ?_) | (refine tr_exit ?_) | (refine tr_drawk 8 followsF (by decide +kernel) ?_; intro K_ hK_) | (refine tr_drawe 8 followsF (by decide +kernel) ?_; intro K_ hK_) | (simp (maxSteps := 2000000) (disch := omega) only [go_sem, F, Nat.reduceLT, Nat.reduceLeDiff, Nat.reduceAdd, Nat.reduceEqDiff, ↓reduceIte, reduceCtorEq, Int.reduceLE, Int.reduceLT, Int.reduceToNat, UInt8.reduceOfNat, Nat.reduceSub, Int.reduceNeg, Nat.reduceMul, Int.reduceEq, Int.reduceBEq, Int.reduceBNe, ntmps36, hm, ha, hL, hx0]) | (refine gate_split (fun hc => ?_) (fun hc => ?_) <;> (try simp only [SB] at hc) <;> simp (disch := omega) only [hc, go_sem, F, Nat.reduceLT, Nat.reduceLeDiff, Nat.reduceAdd, Nat.reduceEqDiff, ↓reduceIte, reduceCtorEq, Int.reduceLE, Int.reduceLT, Int.reduceToNat, UInt8.reduceOfNat, Nat.reduceSub, Int.reduceNeg, Nat.reduceMul, Int.reduceEq, Int.reduceBEq, Int.reduceBNe, ntmps36, hm, ha, hL, hx0] <;> (try simp only [SC] at hc) <;> try (first | exact absurd (by assumption) hc | exact absurd hc (by assumption) | exact False.elim hc | (refine False.elim ?_; omega))))
        exact h
    · rw [clean_all ha] at h
      generalize hm : s.map nl = t at *
      repeat' (first | (refine kw (by assumption) ?_) | (refine tr_seqk ?_; intro K_ hK_) | (refine tr_block ?_) | (refine inBlock_normal ?_) | (refine andThen_normal ?_) | (refine And.intro (by omega) ?_) | (refine tr_return rfl rfl (Hp.Le.refl _) ?_) | (refine ends_normal rfl (Hp.Le.refl _) ?_) | (refine fun (b_ : Nat) hb_ => ?_) | (refine tr_regk 8 ?_; intro K_ hK_) | (refine tr_if ?_) | (refine tr_rege 8 ?_; intro K_ hK_) | (refine tr_skip ?_) | (refine tr_exit ?_) | (refine tr_drawk 8 followsF (by decide +kernel) ?_; intro K_ hK_) | (refine tr_drawe 8 followsF (by decide +kernel) ?_; intro K_ hK_) | (simp (maxSteps := 2000000) (disch := omega) only [go_sem, F, Nat.reduceLT, Nat.reduceLeDiff, Nat.reduceAdd, Nat.reduceEqDiff, ↓reduceIte, reduceCtorEq, Int.reduceLE, Int.reduceLT, Int.reduceToNat, UInt8.reduceOfNat, Nat.reduceSub, Int.reduceNeg, Nat.reduceMul, Int.reduceEq, Int.reduceBEq, Int.reduceBNe, ntmps36, hm, ha, hL]) | (refine gate_split (fun hc => ?_) (fun hc => ?_) <;> (try simp only [SB] at hc) <;> simp (disch := omega) only [hc, go_sem, F, Nat.reduceLT, Nat.reduceLeDiff, Nat.reduceAdd, Nat.reduceEqDiff, ↓reduceIte, reduceCtorEq, Int.reduceLE, Int.reduceLT, Int.reduceToNat, UInt8.reduceOfNat, Nat.reduceSub, Int.reduceNeg, Nat.reduceMul, Int.reduceEq, Int.reduceBEq, Int.reduceBNe, ntmps36, hm, ha, hL] <;> (try simp only [SC] at hc) <;> try (first | exact absurd (by assumption) hc | exact absurd hc (by assumption) | exact False.elim hc | (refine False.elim ?_; omega))))
      exact h
end Go.Proofs.YtfnhhkpnfficaaaDoor
