/- Links: rows of pieces; has a text a sign: step by step. Own work; printed from wip/law11/m.in by pre2.py. -/
import Derived.Test.YtfnhhkpnfficaaaDoorLkP
namespace Go.Proofs.YtfnhhkpnfficaaaDoor
open Go.Sv
set_option linter.unusedSimpArgs false
set_option linter.unusedVariables false
set_option maxRecDepth 100000

def pieces15 : List (List UInt8) := [[91], [93], [40], [41], [60, 97, 98, 58], [62], [96], [92], [97], [32], [106, 97, 118, 97, 115, 99, 114, 105, 112, 116, 58], [35], [96, 96], [60], [100, 97, 116, 97, 58], [227, 128, 128]]
def mP (k : UInt8) : List UInt8 := List.getD pieces15 (k &&& 15).toNat []
def lmadeL (ks : List UInt8) : List UInt8 := (ks.take 24).flatMap mP
theorem and15_le (k : UInt8) : (k &&& 15).toNat ≤ 15 := by
  rw [UInt8.toNat_and]
  exact Nat.and_le_right
theorem mP_len (k : UInt8) : (mP k).length ≤ 11 := by
  have key : ∀ x ∈ pieces15, x.length ≤ 11 := by decide
  unfold mP
  rw [List.getD_eq_getElem?_getD]
  cases h : pieces15[(k &&& 15).toNat]? with
  | none => simp
  | some x => exact key x (List.mem_of_getElem? h)
theorem flatP_len : ∀ l : List UInt8, (l.flatMap mP).length ≤ 11 * l.length
  | [] => by simp
  | c :: l => by
    have h1 := flatP_len l
    have h2 := mP_len c
    rw [List.flatMap_cons, List.length_append, List.length_cons, Nat.mul_succ]
    omega
theorem lmade_len (ks : List UInt8) : (lmadeL ks).length ≤ 264 := by
  have := flatP_len (ks.take 24)
  have h2 : (ks.take 24).length ≤ 24 := by rw [List.length_take]; omega
  unfold lmadeL
  omega
theorem lmade_next {ks : List UInt8} {i : Nat} (h : i < ks.length) : (ks.take i).flatMap mP ++ mP (ks.getD i 0) = (ks.take (i + 1)).flatMap mP := by
  rw [List.take_add_one, List.flatMap_append, List.getElem?_eq_getElem h, List.getD_eq_getElem?_getD, List.getElem?_eq_getElem h]
  simp
theorem ntmps20 : Tryd.f20.ntmps = 26 := rfl
set_option maxHeartbeats 4000000 in
theorem made20 {B0 : Base} {ks : List UInt8} {o : Own} {H : Hp} {K : AVal → Hp → Prop} (h : K (.str (lmadeL ks)) H) : FnC Tryd.prog B0 20 [.sl .u8 ks o] H K := by
  refine fn_of_tr Tryd.func20 rfl (by decide) (by simp) ?_
  repeat' (first | (refine kw (by assumption) ?_) | (refine tr_seqk ?_; intro K_ hK_) | (refine tr_block ?_) | (refine inBlock_normal ?_) | (refine andThen_normal ?_) | (refine And.intro (by omega) ?_) | (refine tr_return rfl rfl (Hp.Le.refl _) ?_) | (refine ends_normal rfl (Hp.Le.refl _) ?_) | (refine fun (b_ : Nat) hb_ => ?_) | (refine tr_regk 5 ?_; intro K_ hK_) | (refine tr_if ?_) | (refine tr_rege 5 ?_; intro K_ hK_) | (refine tr_skip ?_) | (refine tr_exit ?_) | (refine tr_drawk 5 followsF (by decide +kernel) ?_; intro K_ hK_) | (refine tr_drawe 5 followsF (by decide +kernel) ?_; intro K_ hK_) | (simp (maxSteps := 2000000) (disch := omega) only [go_sem, F, Nat.reduceLT, Nat.reduceLeDiff, Nat.reduceAdd, Nat.reduceEqDiff, ↓reduceIte, reduceCtorEq, Int.reduceLE, Int.reduceLT, Int.reduceToNat, UInt8.reduceOfNat, Nat.reduceSub, Int.reduceNeg, Nat.reduceMul, Int.reduceEq, Int.reduceBEq, Int.reduceBNe, ntmps20]) | (refine gate_split (fun hc => ?_) (fun hc => ?_) <;> (try simp only [SB] at hc) <;> simp (disch := omega) only [hc, go_sem, F, Nat.reduceLT, Nat.reduceLeDiff, Nat.reduceAdd, Nat.reduceEqDiff, ↓reduceIte, reduceCtorEq, Int.reduceLE, Int.reduceLT, Int.reduceToNat, UInt8.reduceOfNat, Nat.reduceSub, Int.reduceNeg, Nat.reduceMul, Int.reduceEq, Int.reduceBEq, Int.reduceBNe, ntmps20] <;> (try simp only [SC] at hc) <;> try (first | exact absurd (by assumption) hc | exact absurd hc (by assumption) | exact False.elim hc | (refine False.elim ?_; omega))))
  refine tr_while (by assumption) (α := Nat) (β := Unit) (fun x => [(0, .sl .u8 ks o), (3, .str ((ks.take x).flatMap mP)), (4, .int .i64 x)]) (fun _ => H) (fun x => x ≤ ks.length ∧ x ≤ 24) (fun x => 24 - x) 0
    (fun _ => [(3, .str (lmadeL ks))]) (fun _ => H) (fun _ => True) ?_ (Hp.Le.refl _) ⟨Nat.zero_le _, Nat.zero_le _⟩ ?_ ?_
  · simp only [go_sem, F, Nat.reduceLT, Nat.reduceLeDiff, Nat.reduceAdd, Nat.reduceEqDiff, ↓reduceIte, reduceCtorEq, Int.reduceLE, Int.reduceLT, Int.reduceToNat, UInt8.reduceOfNat, Nat.reduceSub, Int.reduceNeg, Nat.reduceMul, Int.reduceEq, Int.reduceBEq, Int.reduceBNe, Int.natCast_zero, List.take_zero, List.flatMap_nil]
  · rintro i ⟨hi, hi2⟩
    have hlen := flatP_len (ks.take i)
    have hlt : (ks.take i).length ≤ 24 := by rw [List.length_take]; omega
    by_cases hil : i < ks.length ∧ i < 24
    · obtain ⟨hil, hi24⟩ := hil
      have hnx := lmade_next hil
      have hp := mP_len (ks.getD i 0)
      have h15 := and15_le (ks.getD i 0)
      unfold mP pieces15 at hnx hp
      generalize hg : List.getD _ (ks.getD i 0 &&& 15).toNat _ = p at hnx hp
      repeat' (first | (refine kw (by assumption) ?_) | (refine tr_seqk ?_; intro K_ hK_) | (refine tr_block ?_) | (refine inBlock_normal ?_) | (refine andThen_normal ?_) | (refine And.intro (by omega) ?_) | (refine tr_return rfl rfl (Hp.Le.refl _) ?_) | (refine ends_normal rfl (Hp.Le.refl _) ?_) | (refine fun (b_ : Nat) hb_ => ?_) | (refine tr_regk 5 ?_; intro K_ hK_) | (refine tr_if ?_) | (refine tr_rege 5 ?_; intro K_ hK_) | (refine tr_skip ?_) | (refine tr_exit ?_) | (refine tr_drawk 5 followsF (by decide +kernel) ?_; intro K_ hK_) | (refine tr_drawe 5 followsF (by decide +kernel) ?_; intro K_ hK_) | (simp (maxSteps := 2000000) (disch := omega) only [go_sem, F, Nat.reduceLT, Nat.reduceLeDiff, Nat.reduceAdd, Nat.reduceEqDiff, ↓reduceIte, reduceCtorEq, Int.reduceLE, Int.reduceLT, Int.reduceToNat, UInt8.reduceOfNat, Nat.reduceSub, Int.reduceNeg, Nat.reduceMul, Int.reduceEq, Int.reduceBEq, Int.reduceBNe, ntmps20, hg, List.length_append]) | (refine gate_split (fun hc => ?_) (fun hc => ?_) <;> (try simp only [SB] at hc) <;> simp (disch := omega) only [hc, go_sem, F, Nat.reduceLT, Nat.reduceLeDiff, Nat.reduceAdd, Nat.reduceEqDiff, ↓reduceIte, reduceCtorEq, Int.reduceLE, Int.reduceLT, Int.reduceToNat, UInt8.reduceOfNat, Nat.reduceSub, Int.reduceNeg, Nat.reduceMul, Int.reduceEq, Int.reduceBEq, Int.reduceBNe, ntmps20, hg, List.length_append] <;> (try simp only [SC] at hc) <;> try (first | exact absurd (by assumption) hc | exact absurd hc (by assumption) | exact False.elim hc | (refine False.elim ?_; omega))))
      all_goals first
        | exact ⟨i + 1, by unfold mP pieces15; rw [← hnx]; exact (by simp only [go_sem, F, Nat.reduceLT, Nat.reduceLeDiff, Nat.reduceAdd, Nat.reduceEqDiff, ↓reduceIte, reduceCtorEq, Int.reduceLE, Int.reduceLT, Int.reduceToNat, UInt8.reduceOfNat, Nat.reduceSub, Int.reduceNeg, Nat.reduceMul, Int.reduceEq, Int.reduceBEq, Int.reduceBNe, Option.some.injEq, AVal.int.injEq]; try omega), Hp.Le.refl _, ⟨by omega, by omega⟩, by omega⟩
        | skip
    · have hrl : (ks.take i).flatMap mP = lmadeL ks := by
        unfold lmadeL
        rcases Nat.lt_or_ge i ks.length with h1 | h1
        · rw [show i = 24 by omega]
        · rw [List.take_of_length_le h1, List.take_of_length_le (by omega)]
      repeat' (first | (refine kw (by assumption) ?_) | (refine tr_seqk ?_; intro K_ hK_) | (refine tr_block ?_) | (refine inBlock_normal ?_) | (refine andThen_normal ?_) | (refine And.intro (by omega) ?_) | (refine tr_return rfl rfl (Hp.Le.refl _) ?_) | (refine ends_normal rfl (Hp.Le.refl _) ?_) | (refine fun (b_ : Nat) hb_ => ?_) | (refine tr_regk 5 ?_; intro K_ hK_) | (refine tr_if ?_) | (refine tr_rege 5 ?_; intro K_ hK_) | (refine tr_skip ?_) | (refine tr_exit ?_) | (refine tr_drawk 5 followsF (by decide +kernel) ?_; intro K_ hK_) | (refine tr_drawe 5 followsF (by decide +kernel) ?_; intro K_ hK_) | (simp (maxSteps := 2000000) (disch := omega) only [go_sem, F, Nat.reduceLT, Nat.reduceLeDiff, Nat.reduceAdd, Nat.reduceEqDiff, ↓reduceIte, reduceCtorEq, Int.reduceLE, Int.reduceLT, Int.reduceToNat, UInt8.reduceOfNat, Nat.reduceSub, Int.reduceNeg, Nat.reduceMul, Int.reduceEq, Int.reduceBEq, Int.reduceBNe, ntmps20, hrl]) | (refine gate_split (fun hc => ?_) (fun hc => ?_) <;> (try simp only [SB] at hc) <;> simp (disch := omega) only [hc, go_sem, F, Nat.reduceLT, Nat.reduceLeDiff, Nat.reduceAdd, Nat.reduceEqDiff, ↓reduceIte, reduceCtorEq, Int.reduceLE, Int.reduceLT, Int.reduceToNat, UInt8.reduceOfNat, Nat.reduceSub, Int.reduceNeg, Nat.reduceMul, Int.reduceEq, Int.reduceBEq, Int.reduceBNe, ntmps20, hrl] <;> (try simp only [SC] at hc) <;> try (first | exact absurd (by assumption) hc | exact absurd hc (by assumption) | exact False.elim hc | (refine False.elim ?_; omega))))
      all_goals first
        | exact ⟨(), Hp.Le.refl _⟩
        | exact ⟨(), by rw [hrl], Hp.Le.refl _⟩
        | exact ⟨(), (by simp only [go_sem, F, Nat.reduceLT, Nat.reduceLeDiff, Nat.reduceAdd, Nat.reduceEqDiff, ↓reduceIte, reduceCtorEq, Int.reduceLE, Int.reduceLT, Int.reduceToNat, UInt8.reduceOfNat, Nat.reduceSub, Int.reduceNeg, Nat.reduceMul, Int.reduceEq, Int.reduceBEq, Int.reduceBNe, Option.some.injEq, AVal.int.injEq]; try omega), Hp.Le.refl _⟩
        | skip
  · rintro - -
    repeat' (first | (refine kw (by assumption) ?_) | (refine tr_seqk ?_; intro K_ hK_) | (refine tr_block ?_) | (refine inBlock_normal ?_) | (refine andThen_normal ?_) | (refine And.intro (by omega) ?_) | (refine tr_return rfl rfl (Hp.Le.refl _) ?_) | (refine ends_normal rfl (Hp.Le.refl _) ?_) | (refine fun (b_ : Nat) hb_ => ?_) | (refine tr_regk 5 ?_; intro K_ hK_) | (refine tr_if ?_) | (refine tr_rege 5 ?_; intro K_ hK_) | (refine tr_skip ?_) | (refine tr_exit ?_) | (refine tr_drawk 5 followsF (by decide +kernel) ?_; intro K_ hK_) | (refine tr_drawe 5 followsF (by decide +kernel) ?_; intro K_ hK_) | (simp (maxSteps := 2000000) (disch := omega) only [go_sem, F, Nat.reduceLT, Nat.reduceLeDiff, Nat.reduceAdd, Nat.reduceEqDiff, ↓reduceIte, reduceCtorEq, Int.reduceLE, Int.reduceLT, Int.reduceToNat, UInt8.reduceOfNat, Nat.reduceSub, Int.reduceNeg, Nat.reduceMul, Int.reduceEq, Int.reduceBEq, Int.reduceBNe, ntmps20]) | (refine gate_split (fun hc => ?_) (fun hc => ?_) <;> (try simp only [SB] at hc) <;> simp (disch := omega) only [hc, go_sem, F, Nat.reduceLT, Nat.reduceLeDiff, Nat.reduceAdd, Nat.reduceEqDiff, ↓reduceIte, reduceCtorEq, Int.reduceLE, Int.reduceLT, Int.reduceToNat, UInt8.reduceOfNat, Nat.reduceSub, Int.reduceNeg, Nat.reduceMul, Int.reduceEq, Int.reduceBEq, Int.reduceBNe, ntmps20] <;> (try simp only [SC] at hc) <;> try (first | exact absurd (by assumption) hc | exact absurd hc (by assumption) | exact False.elim hc | (refine False.elim ?_; omega))))
    exact h
def codeB (s : List UInt8) : Bool := s.any (fun c => c == 96 || c == 60)
theorem code_no {s : List UInt8} (h : codeB s = false) : ∀ j, j < s.length → s.getD j 0 ≠ 96 ∧ s.getD j 0 ≠ 60 := by
  intro j hj
  unfold codeB at h
  rw [List.any_eq_false] at h
  have := h (s.getD j 0) (by rw [List.getD_eq_getElem?_getD, List.getElem?_eq_getElem hj]; exact List.getElem_mem hj)
  simpa using this
theorem code_yes {s : List UInt8} {j : Nat} (hj : j < s.length) (h : s.getD j 0 = 96 ∨ s.getD j 0 = 60) : codeB s = true := by
  unfold codeB
  rw [List.any_eq_true]
  exact ⟨s.getD j 0, by rw [List.getD_eq_getElem?_getD, List.getElem?_eq_getElem hj]; exact List.getElem_mem hj, by simpa using h⟩
theorem code_none {s : List UInt8} (h : ∀ j, j < s.length → s.getD j 0 ≠ 96 ∧ s.getD j 0 ≠ 60) : codeB s = false := by
  unfold codeB
  rw [List.any_eq_false]
  intro x hx
  obtain ⟨i, hi, he⟩ := List.mem_iff_getElem.1 hx
  have := h i hi
  rw [List.getD_eq_getElem?_getD, List.getElem?_eq_getElem hi] at this
  rw [← he]
  simpa using this
theorem ntmps24 : Tryd.f24.ntmps = 20 := rfl
set_option maxHeartbeats 4000000 in
theorem code24 {B0 : Base} {s : List UInt8} {H : Hp} {K : AVal → Hp → Prop} (hs : s.length ≤ 1000000000000) (h : K (.bool (codeB s)) H) : FnC Tryd.prog B0 24 [.str s] H K := by
  refine fn_of_tr Tryd.func24 rfl (by decide) (by simp) ?_
  repeat' (first | (refine kw (by assumption) ?_) | (refine tr_seqk ?_; intro K_ hK_) | (refine tr_block ?_) | (refine inBlock_normal ?_) | (refine andThen_normal ?_) | (refine And.intro (by omega) ?_) | (refine tr_return rfl rfl (Hp.Le.refl _) ?_) | (refine ends_normal rfl (Hp.Le.refl _) ?_) | (refine fun (b_ : Nat) hb_ => ?_) | (refine tr_regk 5 ?_; intro K_ hK_) | (refine tr_if ?_) | (refine tr_rege 5 ?_; intro K_ hK_) | (refine tr_skip ?_) | (refine tr_exit ?_) | (refine tr_drawk 5 followsF (by decide +kernel) ?_; intro K_ hK_) | (refine tr_drawe 5 followsF (by decide +kernel) ?_; intro K_ hK_) | (simp (maxSteps := 2000000) (disch := omega) only [go_sem, F, Nat.reduceLT, Nat.reduceLeDiff, Nat.reduceAdd, Nat.reduceEqDiff, ↓reduceIte, reduceCtorEq, Int.reduceLE, Int.reduceLT, Int.reduceToNat, UInt8.reduceOfNat, Nat.reduceSub, Int.reduceNeg, Nat.reduceMul, Int.reduceEq, Int.reduceBEq, Int.reduceBNe, ntmps24]) | (refine gate_split (fun hc => ?_) (fun hc => ?_) <;> (try simp only [SB] at hc) <;> simp (disch := omega) only [hc, go_sem, F, Nat.reduceLT, Nat.reduceLeDiff, Nat.reduceAdd, Nat.reduceEqDiff, ↓reduceIte, reduceCtorEq, Int.reduceLE, Int.reduceLT, Int.reduceToNat, UInt8.reduceOfNat, Nat.reduceSub, Int.reduceNeg, Nat.reduceMul, Int.reduceEq, Int.reduceBEq, Int.reduceBNe, ntmps24] <;> (try simp only [SC] at hc) <;> try (first | exact absurd (by assumption) hc | exact absurd hc (by assumption) | exact False.elim hc | (refine False.elim ?_; omega))))
  refine tr_while (by assumption) (α := Nat) (β := Unit) (fun i => [(0, .str s), (3, .int .i64 i)]) (fun _ => H) (fun i => i ≤ s.length ∧ ∀ j, j < i → s.getD j 0 ≠ 96 ∧ s.getD j 0 ≠ 60) (fun i => s.length - i) 0
    (fun _ => []) (fun _ => H) (fun _ => codeB s = false) ?_ (Hp.Le.refl _) ⟨Nat.zero_le _, fun j hj => by omega⟩ ?_ ?_
  · simp only [go_sem, F, Nat.reduceLT, Nat.reduceLeDiff, Nat.reduceAdd, Nat.reduceEqDiff, ↓reduceIte, reduceCtorEq, Int.reduceLE, Int.reduceLT, Int.reduceToNat, UInt8.reduceOfNat, Nat.reduceSub, Int.reduceNeg, Nat.reduceMul, Int.reduceEq, Int.reduceBEq, Int.reduceBNe, Int.natCast_zero]
  · rintro i ⟨hi, hno⟩
    by_cases hil : i < s.length
    · by_cases h1 : s.getD i 0 = 96
      · have e1 : (s.getD i 0 == 96) = true := by rw [h1]; rfl
        rw [code_yes hil (.inl h1)] at h
        repeat' (first | (refine kw (by assumption) ?_) | (refine tr_seqk ?_; intro K_ hK_) | (refine tr_block ?_) | (refine inBlock_normal ?_) | (refine andThen_normal ?_) | (refine And.intro (by omega) ?_) | (refine tr_return rfl rfl (Hp.Le.refl _) ?_) | (refine ends_normal rfl (Hp.Le.refl _) ?_) | (refine fun (b_ : Nat) hb_ => ?_) | (refine tr_regk 5 ?_; intro K_ hK_) | (refine tr_if ?_) | (refine tr_rege 5 ?_; intro K_ hK_) | (refine tr_skip ?_) | (refine tr_exit ?_) | (refine tr_drawk 5 followsF (by decide +kernel) ?_; intro K_ hK_) | (refine tr_drawe 5 followsF (by decide +kernel) ?_; intro K_ hK_) | (simp (maxSteps := 2000000) (disch := omega) only [go_sem, F, Nat.reduceLT, Nat.reduceLeDiff, Nat.reduceAdd, Nat.reduceEqDiff, ↓reduceIte, reduceCtorEq, Int.reduceLE, Int.reduceLT, Int.reduceToNat, UInt8.reduceOfNat, Nat.reduceSub, Int.reduceNeg, Nat.reduceMul, Int.reduceEq, Int.reduceBEq, Int.reduceBNe, ntmps24, Int.toNat_natCast, e1]) | (refine gate_split (fun hc => ?_) (fun hc => ?_) <;> (try simp only [SB] at hc) <;> simp (disch := omega) only [hc, go_sem, F, Nat.reduceLT, Nat.reduceLeDiff, Nat.reduceAdd, Nat.reduceEqDiff, ↓reduceIte, reduceCtorEq, Int.reduceLE, Int.reduceLT, Int.reduceToNat, UInt8.reduceOfNat, Nat.reduceSub, Int.reduceNeg, Nat.reduceMul, Int.reduceEq, Int.reduceBEq, Int.reduceBNe, ntmps24, Int.toNat_natCast, e1] <;> (try simp only [SC] at hc) <;> try (first | exact absurd (by assumption) hc | exact absurd hc (by assumption) | exact False.elim hc | (refine False.elim ?_; omega))))
        all_goals first
          | exact h
          | skip
      · have e1 : (s.getD i 0 == 96) = false := beq_eq_false_iff_ne.2 h1
        by_cases h2 : s.getD i 0 = 60
        · have e2 : (s.getD i 0 == 60) = true := by rw [h2]; rfl
          rw [code_yes hil (.inr h2)] at h
          repeat' (first | (refine kw (by assumption) ?_) | (refine tr_seqk ?_; intro K_ hK_) | (refine tr_block ?_) | (refine inBlock_normal ?_) | (refine andThen_normal ?_) | (refine And.intro (by omega) ?_) | (refine tr_return rfl rfl (Hp.Le.refl _) ?_) | (refine ends_normal rfl (Hp.Le.refl _) ?_) | (refine fun (b_ : Nat) hb_ => ?_) | (refine tr_regk 5 ?_; intro K_ hK_) | (refine tr_if ?_) | (refine tr_rege 5 ?_; intro K_ hK_) | (refine tr_skip ?_) | (refine tr_exit ?_) | (refine tr_drawk 5 followsF (by decide +kernel) ?_; intro K_ hK_) | (refine tr_drawe 5 followsF (by decide +kernel) ?_; intro K_ hK_) | (simp (maxSteps := 2000000) (disch := omega) only [go_sem, F, Nat.reduceLT, Nat.reduceLeDiff, Nat.reduceAdd, Nat.reduceEqDiff, ↓reduceIte, reduceCtorEq, Int.reduceLE, Int.reduceLT, Int.reduceToNat, UInt8.reduceOfNat, Nat.reduceSub, Int.reduceNeg, Nat.reduceMul, Int.reduceEq, Int.reduceBEq, Int.reduceBNe, ntmps24, Int.toNat_natCast, e1, e2]) | (refine gate_split (fun hc => ?_) (fun hc => ?_) <;> (try simp only [SB] at hc) <;> simp (disch := omega) only [hc, go_sem, F, Nat.reduceLT, Nat.reduceLeDiff, Nat.reduceAdd, Nat.reduceEqDiff, ↓reduceIte, reduceCtorEq, Int.reduceLE, Int.reduceLT, Int.reduceToNat, UInt8.reduceOfNat, Nat.reduceSub, Int.reduceNeg, Nat.reduceMul, Int.reduceEq, Int.reduceBEq, Int.reduceBNe, ntmps24, Int.toNat_natCast, e1, e2] <;> (try simp only [SC] at hc) <;> try (first | exact absurd (by assumption) hc | exact absurd hc (by assumption) | exact False.elim hc | (refine False.elim ?_; omega))))
          all_goals first
            | exact h
            | skip
        · have e2 : (s.getD i 0 == 60) = false := beq_eq_false_iff_ne.2 h2
          have hno2 : ∀ j, j < i + 1 → s.getD j 0 ≠ 96 ∧ s.getD j 0 ≠ 60 := fun j hj => by
            rcases Nat.lt_or_ge j i with g1 | g1
            · exact hno j g1
            · obtain rfl : j = i := by omega
              exact ⟨h1, h2⟩
          clear hno
          repeat' (first | (refine kw (by assumption) ?_) | (refine tr_seqk ?_; intro K_ hK_) | (refine tr_block ?_) | (refine inBlock_normal ?_) | (refine andThen_normal ?_) | (refine And.intro (by omega) ?_) | (refine tr_return rfl rfl (Hp.Le.refl _) ?_) | (refine ends_normal rfl (Hp.Le.refl _) ?_) | (refine fun (b_ : Nat) hb_ => ?_) | (refine tr_regk 5 ?_; intro K_ hK_) | (refine tr_if ?_) | (refine tr_rege 5 ?_; intro K_ hK_) | (refine tr_skip ?_) | (refine tr_exit ?_) | (refine tr_drawk 5 followsF (by decide +kernel) ?_; intro K_ hK_) | (refine tr_drawe 5 followsF (by decide +kernel) ?_; intro K_ hK_) | (simp (maxSteps := 2000000) (disch := omega) only [go_sem, F, Nat.reduceLT, Nat.reduceLeDiff, Nat.reduceAdd, Nat.reduceEqDiff, ↓reduceIte, reduceCtorEq, Int.reduceLE, Int.reduceLT, Int.reduceToNat, UInt8.reduceOfNat, Nat.reduceSub, Int.reduceNeg, Nat.reduceMul, Int.reduceEq, Int.reduceBEq, Int.reduceBNe, ntmps24, Int.toNat_natCast, e1, e2]) | (refine gate_split (fun hc => ?_) (fun hc => ?_) <;> (try simp only [SB] at hc) <;> simp (disch := omega) only [hc, go_sem, F, Nat.reduceLT, Nat.reduceLeDiff, Nat.reduceAdd, Nat.reduceEqDiff, ↓reduceIte, reduceCtorEq, Int.reduceLE, Int.reduceLT, Int.reduceToNat, UInt8.reduceOfNat, Nat.reduceSub, Int.reduceNeg, Nat.reduceMul, Int.reduceEq, Int.reduceBEq, Int.reduceBNe, ntmps24, Int.toNat_natCast, e1, e2] <;> (try simp only [SC] at hc) <;> try (first | exact absurd (by assumption) hc | exact absurd hc (by assumption) | exact False.elim hc | (refine False.elim ?_; omega))))
          all_goals first
            | exact ⟨i + 1, (by simp only [go_sem, F, Nat.reduceLT, Nat.reduceLeDiff, Nat.reduceAdd, Nat.reduceEqDiff, ↓reduceIte, reduceCtorEq, Int.reduceLE, Int.reduceLT, Int.reduceToNat, UInt8.reduceOfNat, Nat.reduceSub, Int.reduceNeg, Nat.reduceMul, Int.reduceEq, Int.reduceBEq, Int.reduceBNe, Option.some.injEq, AVal.int.injEq]; try omega), Hp.Le.refl _, ⟨by omega, hno2⟩, by omega⟩
            | skip
    · have hr : codeB s = false := code_none (fun j hj => hno j (by omega))
      repeat' (first | (refine kw (by assumption) ?_) | (refine tr_seqk ?_; intro K_ hK_) | (refine tr_block ?_) | (refine inBlock_normal ?_) | (refine andThen_normal ?_) | (refine And.intro (by omega) ?_) | (refine tr_return rfl rfl (Hp.Le.refl _) ?_) | (refine ends_normal rfl (Hp.Le.refl _) ?_) | (refine fun (b_ : Nat) hb_ => ?_) | (refine tr_regk 5 ?_; intro K_ hK_) | (refine tr_if ?_) | (refine tr_rege 5 ?_; intro K_ hK_) | (refine tr_skip ?_) | (refine tr_exit ?_) | (refine tr_drawk 5 followsF (by decide +kernel) ?_; intro K_ hK_) | (refine tr_drawe 5 followsF (by decide +kernel) ?_; intro K_ hK_) | (simp (maxSteps := 2000000) (disch := omega) only [go_sem, F, Nat.reduceLT, Nat.reduceLeDiff, Nat.reduceAdd, Nat.reduceEqDiff, ↓reduceIte, reduceCtorEq, Int.reduceLE, Int.reduceLT, Int.reduceToNat, UInt8.reduceOfNat, Nat.reduceSub, Int.reduceNeg, Nat.reduceMul, Int.reduceEq, Int.reduceBEq, Int.reduceBNe, ntmps24]) | (refine gate_split (fun hc => ?_) (fun hc => ?_) <;> (try simp only [SB] at hc) <;> simp (disch := omega) only [hc, go_sem, F, Nat.reduceLT, Nat.reduceLeDiff, Nat.reduceAdd, Nat.reduceEqDiff, ↓reduceIte, reduceCtorEq, Int.reduceLE, Int.reduceLT, Int.reduceToNat, UInt8.reduceOfNat, Nat.reduceSub, Int.reduceNeg, Nat.reduceMul, Int.reduceEq, Int.reduceBEq, Int.reduceBNe, ntmps24] <;> (try simp only [SC] at hc) <;> try (first | exact absurd (by assumption) hc | exact absurd hc (by assumption) | exact False.elim hc | (refine False.elim ?_; omega))))
      all_goals first
        | exact ⟨(), Hp.Le.refl _, hr⟩
        | exact ⟨(), (by simp only [go_sem, F, Nat.reduceLT, Nat.reduceLeDiff, Nat.reduceAdd, Nat.reduceEqDiff, ↓reduceIte, reduceCtorEq, Int.reduceLE, Int.reduceLT, Int.reduceToNat, UInt8.reduceOfNat, Nat.reduceSub, Int.reduceNeg, Nat.reduceMul, Int.reduceEq, Int.reduceBEq, Int.reduceBNe, Option.some.injEq, AVal.int.injEq]; try omega), Hp.Le.refl _, hr⟩
        | skip
  · rintro - hr
    rw [hr] at h
    repeat' (first | (refine kw (by assumption) ?_) | (refine tr_seqk ?_; intro K_ hK_) | (refine tr_block ?_) | (refine inBlock_normal ?_) | (refine andThen_normal ?_) | (refine And.intro (by omega) ?_) | (refine tr_return rfl rfl (Hp.Le.refl _) ?_) | (refine ends_normal rfl (Hp.Le.refl _) ?_) | (refine fun (b_ : Nat) hb_ => ?_) | (refine tr_regk 5 ?_; intro K_ hK_) | (refine tr_if ?_) | (refine tr_rege 5 ?_; intro K_ hK_) | (refine tr_skip ?_) | (refine tr_exit ?_) | (refine tr_drawk 5 followsF (by decide +kernel) ?_; intro K_ hK_) | (refine tr_drawe 5 followsF (by decide +kernel) ?_; intro K_ hK_) | (simp (maxSteps := 2000000) (disch := omega) only [go_sem, F, Nat.reduceLT, Nat.reduceLeDiff, Nat.reduceAdd, Nat.reduceEqDiff, ↓reduceIte, reduceCtorEq, Int.reduceLE, Int.reduceLT, Int.reduceToNat, UInt8.reduceOfNat, Nat.reduceSub, Int.reduceNeg, Nat.reduceMul, Int.reduceEq, Int.reduceBEq, Int.reduceBNe, ntmps24]) | (refine gate_split (fun hc => ?_) (fun hc => ?_) <;> (try simp only [SB] at hc) <;> simp (disch := omega) only [hc, go_sem, F, Nat.reduceLT, Nat.reduceLeDiff, Nat.reduceAdd, Nat.reduceEqDiff, ↓reduceIte, reduceCtorEq, Int.reduceLE, Int.reduceLT, Int.reduceToNat, UInt8.reduceOfNat, Nat.reduceSub, Int.reduceNeg, Nat.reduceMul, Int.reduceEq, Int.reduceBEq, Int.reduceBNe, ntmps24] <;> (try simp only [SC] at hc) <;> try (first | exact absurd (by assumption) hc | exact absurd hc (by assumption) | exact False.elim hc | (refine False.elim ?_; omega))))
    exact h
end Go.Proofs.YtfnhhkpnfficaaaDoor
