/- Known runs. Own work; printed from wip/law25/o.in by pre3.py. -/
import Derived.Test.YtopegdkhoafajaaAuH
import Derived.Test.YtopegdkhoafajaaAuM
import Derived.Test.YtopegdkhoafajaaAuN
namespace Go.Proofs.Ytopegdkhoafajaa
open Go.Sv
set_option linter.unusedSimpArgs false
set_option linter.unusedVariables false
set_option maxRecDepth 100000
/-- 'betA', by steps that are counted. -/
def betF : Nat → List UInt8 → List UInt8 → List (List UInt8)
  | 0, _, _ => []
  | n + 1, p, s => if (Lib.cut s p).2.2 = true ∧ (Lib.cut (Lib.cut s p).2.1 [34]).2.2 = true then (Lib.cut (Lib.cut s p).2.1 [34]).1 :: betF n p (Lib.cut (Lib.cut s p).2.1 [34]).2.1 else []
theorem betF_eq : ∀ (n : Nat) (p s : List UInt8), s.length ≤ n → betA p s = betF n p s
  | 0, p, s, h => by
    rw [betA_no (fun h2 => by have := cut_len1 (by simp) h2.2; have := cut_len s p; omega)]; rfl
  | n + 1, p, s, h => by
    unfold betF
    by_cases h2 : (Lib.cut s p).2.2 = true ∧ (Lib.cut (Lib.cut s p).2.1 [34]).2.2 = true
    · have k1 := cut_len1 (by simp) h2.2
      have k2 := cut_len s p
      rw [betA_go h2.1 h2.2, if_pos h2, betF_eq n p _ (by omega)]
    · rw [betA_no h2, if_neg h2]
def idF (s : List UInt8) : List (List UInt8) := betF s.length idW s
def hrefF (s : List UInt8) : List (List UInt8) := nonE (betF s.length hrefW s)
theorem idA_F : idA = idF := funext fun s => betF_eq _ _ _ (Nat.le_refl _)
theorem hrefA_F : hrefA = hrefF := funext fun s => by unfold hrefA hrefF; rw [betF_eq _ _ _ (Nat.le_refl _)]
def linkF (l : List Src) : Bool := decide ((datas l).flatMap idF).Nodup && ((datas l).flatMap hrefF).all (fun x => decide (x ∈ (datas l).flatMap idF))
theorem linkV_F (l : List Src) : linkV l = linkF l := by
  unfold linkV idsOf refsOf linkF
  rw [idA_F, hrefA_F]
theorem kI : idA [60, 97, 32, 105, 100, 61, 34, 120, 34, 62, 32, 105, 100, 61, 34, 121] = [[120]] := by rw [idA_F]; decide +kernel
theorem kH : hrefA [104, 114, 101, 102, 61, 34, 35, 120, 34, 32, 104, 114, 101, 102, 61, 34, 121, 34, 32, 104, 114, 101, 102, 61, 34, 35, 34] = [[120]] := by rw [hrefA_F]; decide +kernel
theorem kL0 : linkV [] = true := by rw [linkV_F]; decide +kernel
theorem kL1 : linkV [([], [105, 100, 61, 34, 120, 34], ()), ([], [104, 114, 101, 102, 61, 34, 35, 120, 34], ())] = true := by rw [linkV_F]; decide +kernel
theorem kL2 : linkV [([], [104, 114, 101, 102, 61, 34, 35, 120, 34], ())] = false := by rw [linkV_F]; decide +kernel
theorem kL3 : linkV [([], [105, 100, 61, 34, 120, 34, 105, 100, 61, 34, 120, 34], ())] = false := by rw [linkV_F]; decide +kernel
abbrev wA : List UInt8 := [48, 49, 50, 51, 52, 53, 54, 55, 56, 57]
theorem kW1 : withinV [([97], [48, 49, 50, 51, 52, 53, 54, 55, 56, 57], ())] [([97], [48, 49, 120, 120, 120, 120, 52, 53, 89, 55, 56, 57], ())] [(0, 0, 2, 4, ([], [], [], [], false, false, ()), [], [], ()), (0, 0, 6, 7, ([], [], [], [], false, false, ()), [], [], ())] = true := by decide +kernel
theorem kW2 : withinV [([97], [48, 49, 50, 51, 52, 53, 54, 55, 56, 57], ())] [([97], [48, 49, 120, 120, 120, 120, 52, 53, 89, 55, 56], ())] [(0, 0, 2, 4, ([], [], [], [], false, false, ()), [], [], ()), (0, 0, 6, 7, ([], [], [], [], false, false, ()), [], [], ())] = false := by decide +kernel
theorem kW3 : withinV [([97], [48, 49, 50, 51, 52, 53, 54, 55, 56, 57], ())] [([97], [48, 49, 50, 51, 52, 53, 54, 55, 56, 57], ())] [(0, 0, 2, 4, ([], [], [], [], false, false, ()), [], [], ()), (0, 0, 6, 7, ([], [], [], [], false, false, ()), [], [], ())] = true := by decide +kernel
theorem kW4 : withinV [([97], [48, 49, 50, 51, 52, 53, 54, 55, 56, 57], ())] [([97], [48, 49, 120, 120, 120, 120, 52, 53, 89, 55, 56, 57], ())] [] = false := by decide +kernel
theorem kS1 : decide (([([97], [48, 49, 50, 51, 52, 53, 54, 55, 56, 57], ())] : List Src) = [([97], [48, 49, 50, 51, 52, 53, 54, 55, 56, 57], ())]) = true := by decide +kernel
theorem kS2 : decide (([([97], [48, 49, 50, 51, 52, 53, 54, 55, 56, 57], ())] : List Src) = [([97], [48, 49, 120, 120, 120, 120, 52, 53, 89, 55, 56, 57], ())]) = false := by decide +kernel
theorem kE1 : decide (([[120]] : List (List UInt8)) = [[120]]) = true := by decide
theorem ntmps9 : Try.f9.ntmps = 93 := rfl
set_option maxHeartbeats 16000000 in
theorem known9 {n : Nat} {m : Int} {H : Hp} {K : AVal → Hp → Prop} (h : K (.bool true) H) : FnC Try.prog ⟨n, T0 m⟩ 9 [] H K := by
  refine fn_of_tr Try.func9 rfl (by decide) (by simp) ?_
  repeat' (first | (refine kw (by assumption) ?_) | (refine tr_seqk ?_; intro K_ hK_) | (refine tr_block ?_) | (refine inBlock_normal ?_) | (refine andThen_normal ?_) | (refine And.intro (by omega) ?_) | (refine tr_return rfl rfl (Hp.Le.refl _) ?_) | (refine ends_normal rfl (Hp.Le.refl _) ?_) | (refine fun (b_ : Nat) hb_ => ?_) | (refine tr_regk 5 ?_; intro K_ hK_) | (refine tr_if ?_) | (refine tr_rege 5 ?_; intro K_ hK_) | (refine tr_skip ?_) | (refine tr_exit ?_) | (refine tr_drawk 5 followsF (by decide +kernel) ?_; intro K_ hK_) | (refine tr_drawe 5 followsF (by decide +kernel) ?_; intro K_ hK_) | (simp (maxSteps := 2000000) (disch := omega) only [go_sem, F, Nat.reduceLT, Nat.reduceLeDiff, Nat.reduceAdd, Nat.reduceEqDiff, ↓reduceIte, ↓reduceDIte, reduceCtorEq, Int.reduceLE, Int.reduceLT, Int.reduceToNat, UInt8.reduceOfNat, Nat.reduceSub, Int.reduceNeg, Nat.reduceMul, Int.reduceEq, Int.reduceBEq, Int.reduceBNe, ntmps9, List.append_eq, List.cons_append, List.nil_append, kI, kH, kL0, kL1, kL2, kL3, kW1, kW2, kW3, kW4, kS1, kS2, kE1]) | (refine wFn_intro (ids11 (by decide) ?_)) | (refine wFn_intro (hrefs12 (by decide) ?_)) | (refine wFn_intro (same10 (by decide) ?_)) | (refine wFn_intro (linked7 (by decide) (by decide) ?_)) | (refine wFn_intro (within16 (by decide) (by decide) (by decide) (by decide) (by decide) ?_)) | (refine wFn_intro (same17 (by decide) (by decide) ?_)) | (refine ⟨_, wFn_intro (ids11 (by decide) ⟨rfl, rfl⟩), ?_⟩) | (refine ⟨_, wFn_intro (hrefs12 (by decide) ⟨rfl, rfl⟩), ?_⟩) | (refine ⟨_, wFn_intro (same10 (by decide) ⟨rfl, rfl⟩), ?_⟩) | (refine ⟨_, wFn_intro (linked7 (by decide) (by decide) ⟨rfl, rfl⟩), ?_⟩) | (refine ⟨_, wFn_intro (within16 (by decide) (by decide) (by decide) (by decide) (by decide) ⟨rfl, rfl⟩), ?_⟩) | (refine ⟨_, wFn_intro (same17 (by decide) (by decide) ⟨rfl, rfl⟩), ?_⟩) | (refine gate_split (fun hc => ?_) (fun hc => ?_) <;> (try simp only [SB] at hc) <;> simp (disch := omega) only [hc, go_sem, F, Nat.reduceLT, Nat.reduceLeDiff, Nat.reduceAdd, Nat.reduceEqDiff, ↓reduceIte, ↓reduceDIte, reduceCtorEq, Int.reduceLE, Int.reduceLT, Int.reduceToNat, UInt8.reduceOfNat, Nat.reduceSub, Int.reduceNeg, Nat.reduceMul, Int.reduceEq, Int.reduceBEq, Int.reduceBNe, ntmps9, List.append_eq, List.cons_append, List.nil_append, kI, kH, kL0, kL1, kL2, kL3, kW1, kW2, kW3, kW4, kS1, kS2, kE1] <;> (try simp only [SC] at hc) <;> try (first | exact absurd (by assumption) hc | exact absurd hc (by assumption) | exact False.elim hc | (refine False.elim ?_; omega))))
  exact h
end Go.Proofs.Ytopegdkhoafajaa
