/- Patches: numbers within bounds; cuts one behind the other: step by step. Own work; printed from wip/law22/o.in by pre3.py. -/
import Derived.Test.YtoncjokijkjliaaDoorPaE
namespace Go.Proofs.YtoncjokijkjliaaDoor
open Go.Sv
set_option linter.unusedSimpArgs false
set_option linter.unusedVariables false
set_option maxRecDepth 100000

def winZ (n lo hi : Int) : Int := if lo ≤ n ∧ n ≤ hi then n else lo + (if n.tmod (hi - lo + 1) < 0 then n.tmod (hi - lo + 1) + hi - lo + 1 else n.tmod (hi - lo + 1))
theorem tmod_bd (n : Int) {m : Int} (hm : 0 < m) : -m < n.tmod m ∧ n.tmod m < m := by
  rcases Int.lt_or_le n 0 with h | h
  · have h1 : n.tmod m = -((-n).tmod m) := by rw [Int.neg_tmod]; omega
    rw [Int.tmod_eq_emod_of_nonneg (show (0 : Int) ≤ -n by omega)] at h1
    have := Int.emod_nonneg (-n) (show m ≠ 0 by omega)
    have := Int.emod_lt_of_pos (-n) hm
    omega
  · rw [Int.tmod_eq_emod_of_nonneg h]
    have := Int.emod_nonneg n (show m ≠ 0 by omega)
    have := Int.emod_lt_of_pos n hm
    omega
theorem win_le {n lo hi : Int} (h : lo ≤ hi) : lo ≤ winZ n lo hi ∧ winZ n lo hi ≤ hi := by
  unfold winZ
  have := tmod_bd n (show 0 < hi - lo + 1 by omega)
  generalize n.tmod (hi - lo + 1) = r at *
  split
  · assumption
  · split <;> omega
theorem ntmps14 : Tryd.f14.ntmps = 33 := rfl
set_option maxHeartbeats 4000000 in
theorem within14 {B0 : Base} {n lo hi : Int} {H : Hp} {K : AVal → Hp → Prop} (h1 : -1000000000000000 ≤ lo) (h2 : lo ≤ hi) (h3 : hi ≤ 1000000000000000) (h : K (.int .i64 (winZ n lo hi)) H) : FnC Tryd.prog B0 14 [.int .i64 n, .int .i64 lo, .int .i64 hi] H K := by
  refine fn_of_tr Tryd.func14 rfl (by decide) (by simp) ?_
  unfold winZ at h
  have hbd := tmod_bd n (show 0 < hi - lo + 1 by omega)
  have hne : (hi - lo + 1 = 0) = False := eq_false (by omega)
  have hne2 : (hi - lo + 1 == 0) = false := beq_eq_false_iff_ne.2 (by omega)
  by_cases hin : lo ≤ n ∧ n ≤ hi
  · rw [if_pos hin] at h
    repeat' (first | (refine kw (by assumption) ?_) | (refine tr_seqk ?_; intro K_ hK_) | (refine tr_block ?_) | (refine inBlock_normal ?_) | (refine andThen_normal ?_) | (refine And.intro (by omega) ?_) | (refine tr_return rfl rfl (Hp.Le.refl _) ?_) | (refine ends_normal rfl (Hp.Le.refl _) ?_) | (refine fun (b_ : Nat) hb_ => ?_) | (refine tr_regk 7 ?_; intro K_ hK_) | (refine tr_if ?_) | (refine tr_rege 7 ?_; intro K_ hK_) | (refine tr_skip ?_) | (refine tr_exit ?_) | (refine tr_drawk 7 followsF (by decide +kernel) ?_; intro K_ hK_) | (refine tr_drawe 7 followsF (by decide +kernel) ?_; intro K_ hK_) | (simp (maxSteps := 2000000) (disch := omega) only [go_sem, F, Nat.reduceLT, Nat.reduceLeDiff, Nat.reduceAdd, Nat.reduceEqDiff, ↓reduceIte, ↓reduceDIte, reduceCtorEq, Int.reduceLE, Int.reduceLT, Int.reduceToNat, UInt8.reduceOfNat, Nat.reduceSub, Int.reduceNeg, Nat.reduceMul, Int.reduceEq, Int.reduceBEq, Int.reduceBNe, ntmps14]) | (refine gate_split (fun hc => ?_) (fun hc => ?_) <;> (try simp only [SB] at hc) <;> simp (disch := omega) only [hc, go_sem, F, Nat.reduceLT, Nat.reduceLeDiff, Nat.reduceAdd, Nat.reduceEqDiff, ↓reduceIte, ↓reduceDIte, reduceCtorEq, Int.reduceLE, Int.reduceLT, Int.reduceToNat, UInt8.reduceOfNat, Nat.reduceSub, Int.reduceNeg, Nat.reduceMul, Int.reduceEq, Int.reduceBEq, Int.reduceBNe, ntmps14] <;> (try simp only [SC] at hc) <;> try (first | exact absurd (by assumption) hc | exact absurd hc (by assumption) | exact False.elim hc | (refine False.elim ?_; omega))))
    exact h
  · rw [if_neg hin] at h
    have hr2 : 0 ≤ n → n % (hi - lo + 1) = n.tmod (hi - lo + 1) := fun hn => (Int.tmod_eq_emod_of_nonneg hn).symm
    generalize hr : n.tmod (hi - lo + 1) = r at *
    by_cases hn : 0 ≤ n
    · have hr3 := hr2 hn
      by_cases hr0 : r < 0
      · rw [if_pos hr0] at h
        repeat' (first | (refine kw (by assumption) ?_) | (refine tr_seqk ?_; intro K_ hK_) | (refine tr_block ?_) | (refine inBlock_normal ?_) | (refine andThen_normal ?_) | (refine And.intro (by omega) ?_) | (refine tr_return rfl rfl (Hp.Le.refl _) ?_) | (refine ends_normal rfl (Hp.Le.refl _) ?_) | (refine fun (b_ : Nat) hb_ => ?_) | (refine tr_regk 7 ?_; intro K_ hK_) | (refine tr_if ?_) | (refine tr_rege 7 ?_; intro K_ hK_) | (refine tr_skip ?_) | (refine tr_exit ?_) | (refine tr_drawk 7 followsF (by decide +kernel) ?_; intro K_ hK_) | (refine tr_drawe 7 followsF (by decide +kernel) ?_; intro K_ hK_) | (simp (maxSteps := 2000000) (disch := omega) only [go_sem, F, Nat.reduceLT, Nat.reduceLeDiff, Nat.reduceAdd, Nat.reduceEqDiff, ↓reduceIte, ↓reduceDIte, reduceCtorEq, Int.reduceLE, Int.reduceLT, Int.reduceToNat, UInt8.reduceOfNat, Nat.reduceSub, Int.reduceNeg, Nat.reduceMul, Int.reduceEq, Int.reduceBEq, Int.reduceBNe, ntmps14, hr, hr3, hne, hne2]) | (refine gate_split (fun hc => ?_) (fun hc => ?_) <;> (try simp only [SB] at hc) <;> simp (disch := omega) only [hc, go_sem, F, Nat.reduceLT, Nat.reduceLeDiff, Nat.reduceAdd, Nat.reduceEqDiff, ↓reduceIte, ↓reduceDIte, reduceCtorEq, Int.reduceLE, Int.reduceLT, Int.reduceToNat, UInt8.reduceOfNat, Nat.reduceSub, Int.reduceNeg, Nat.reduceMul, Int.reduceEq, Int.reduceBEq, Int.reduceBNe, ntmps14, hr, hr3, hne, hne2] <;> (try simp only [SC] at hc) <;> try (first | exact absurd (by assumption) hc | exact absurd hc (by assumption) | exact False.elim hc | (refine False.elim ?_; omega))))
        all_goals exact h
      · rw [if_neg hr0] at h
        repeat' (first | (refine kw (by assumption) ?_) | (refine tr_seqk ?_; intro K_ hK_) | (refine tr_block ?_) | (refine inBlock_normal ?_) | (refine andThen_normal ?_) | (refine And.intro (by omega) ?_) | (refine tr_return rfl rfl (Hp.Le.refl _) ?_) | (refine ends_normal rfl (Hp.Le.refl _) ?_) | (refine fun (b_ : Nat) hb_ => ?_) | (refine tr_regk 7 ?_; intro K_ hK_) | (refine tr_if ?_) | (refine tr_rege 7 ?_; intro K_ hK_) | (refine tr_skip ?_) | (refine tr_exit ?_) | (refine tr_drawk 7 followsF (by decide +kernel) ?_; intro K_ hK_) | (refine tr_drawe 7 followsF (by decide +kernel) ?_; intro K_ hK_) | (simp (maxSteps := 2000000) (disch := omega) only [go_sem, F, Nat.reduceLT, Nat.reduceLeDiff, Nat.reduceAdd, Nat.reduceEqDiff, ↓reduceIte, ↓reduceDIte, reduceCtorEq, Int.reduceLE, Int.reduceLT, Int.reduceToNat, UInt8.reduceOfNat, Nat.reduceSub, Int.reduceNeg, Nat.reduceMul, Int.reduceEq, Int.reduceBEq, Int.reduceBNe, ntmps14, hr, hr3, hne, hne2]) | (refine gate_split (fun hc => ?_) (fun hc => ?_) <;> (try simp only [SB] at hc) <;> simp (disch := omega) only [hc, go_sem, F, Nat.reduceLT, Nat.reduceLeDiff, Nat.reduceAdd, Nat.reduceEqDiff, ↓reduceIte, ↓reduceDIte, reduceCtorEq, Int.reduceLE, Int.reduceLT, Int.reduceToNat, UInt8.reduceOfNat, Nat.reduceSub, Int.reduceNeg, Nat.reduceMul, Int.reduceEq, Int.reduceBEq, Int.reduceBNe, ntmps14, hr, hr3, hne, hne2] <;> (try simp only [SC] at hc) <;> try (first | exact absurd (by assumption) hc | exact absurd hc (by assumption) | exact False.elim hc | (refine False.elim ?_; omega))))
        all_goals exact h
    · by_cases hr0 : r < 0
      · rw [if_pos hr0] at h
        repeat' (first | (refine kw (by assumption) ?_) | (refine tr_seqk ?_; intro K_ hK_) | (refine tr_block ?_) | (refine inBlock_normal ?_) | (refine andThen_normal ?_) | (refine And.intro (by omega) ?_) | (refine tr_return rfl rfl (Hp.Le.refl _) ?_) | (refine ends_normal rfl (Hp.Le.refl _) ?_) | (refine fun (b_ : Nat) hb_ => ?_) | (refine tr_regk 7 ?_; intro K_ hK_) | (refine tr_if ?_) | (refine tr_rege 7 ?_; intro K_ hK_) | (refine tr_skip ?_) | (refine tr_exit ?_) | (refine tr_drawk 7 followsF (by decide +kernel) ?_; intro K_ hK_) | (refine tr_drawe 7 followsF (by decide +kernel) ?_; intro K_ hK_) | (simp (maxSteps := 2000000) (disch := omega) only [go_sem, F, Nat.reduceLT, Nat.reduceLeDiff, Nat.reduceAdd, Nat.reduceEqDiff, ↓reduceIte, ↓reduceDIte, reduceCtorEq, Int.reduceLE, Int.reduceLT, Int.reduceToNat, UInt8.reduceOfNat, Nat.reduceSub, Int.reduceNeg, Nat.reduceMul, Int.reduceEq, Int.reduceBEq, Int.reduceBNe, ntmps14, hr, hne, hne2]) | (refine gate_split (fun hc => ?_) (fun hc => ?_) <;> (try simp only [SB] at hc) <;> simp (disch := omega) only [hc, go_sem, F, Nat.reduceLT, Nat.reduceLeDiff, Nat.reduceAdd, Nat.reduceEqDiff, ↓reduceIte, ↓reduceDIte, reduceCtorEq, Int.reduceLE, Int.reduceLT, Int.reduceToNat, UInt8.reduceOfNat, Nat.reduceSub, Int.reduceNeg, Nat.reduceMul, Int.reduceEq, Int.reduceBEq, Int.reduceBNe, ntmps14, hr, hne, hne2] <;> (try simp only [SC] at hc) <;> try (first | exact absurd (by assumption) hc | exact absurd hc (by assumption) | exact False.elim hc | (refine False.elim ?_; omega))))
        all_goals exact h
      · rw [if_neg hr0] at h
        repeat' (first | (refine kw (by assumption) ?_) | (refine tr_seqk ?_; intro K_ hK_) | (refine tr_block ?_) | (refine inBlock_normal ?_) | (refine andThen_normal ?_) | (refine And.intro (by omega) ?_) | (refine tr_return rfl rfl (Hp.Le.refl _) ?_) | (refine ends_normal rfl (Hp.Le.refl _) ?_) | (refine fun (b_ : Nat) hb_ => ?_) | (refine tr_regk 7 ?_; intro K_ hK_) | (refine tr_if ?_) | (refine tr_rege 7 ?_; intro K_ hK_) | (refine tr_skip ?_) | (refine tr_exit ?_) | (refine tr_drawk 7 followsF (by decide +kernel) ?_; intro K_ hK_) | (refine tr_drawe 7 followsF (by decide +kernel) ?_; intro K_ hK_) | (simp (maxSteps := 2000000) (disch := omega) only [go_sem, F, Nat.reduceLT, Nat.reduceLeDiff, Nat.reduceAdd, Nat.reduceEqDiff, ↓reduceIte, ↓reduceDIte, reduceCtorEq, Int.reduceLE, Int.reduceLT, Int.reduceToNat, UInt8.reduceOfNat, Nat.reduceSub, Int.reduceNeg, Nat.reduceMul, Int.reduceEq, Int.reduceBEq, Int.reduceBNe, ntmps14, hr, hne, hne2]) | (refine gate_split (fun hc => ?_) (fun hc => ?_) <;> (try simp only [SB] at hc) <;> simp (disch := omega) only [hc, go_sem, F, Nat.reduceLT, Nat.reduceLeDiff, Nat.reduceAdd, Nat.reduceEqDiff, ↓reduceIte, ↓reduceDIte, reduceCtorEq, Int.reduceLE, Int.reduceLT, Int.reduceToNat, UInt8.reduceOfNat, Nat.reduceSub, Int.reduceNeg, Nat.reduceMul, Int.reduceEq, Int.reduceBEq, Int.reduceBNe, ntmps14, hr, hne, hne2] <;> (try simp only [SC] at hc) <;> try (first | exact absurd (by assumption) hc | exact absurd hc (by assumption) | exact False.elim hc | (refine False.elim ?_; omega))))
        all_goals exact h
/-! ### cuts one behind the other -/
def RisL (n : Int) : Int → List EditT.den → Prop
  | _, [] => True
  | a, e :: r => a ≤ e.1 ∧ e.1 ≤ e.2.1 ∧ e.2.1 ≤ n ∧ RisL n e.2.1 r
def endR : Int → List EditT.den → Int
  | a, [] => a
  | _, e :: r => endR e.2.1 r
theorem ris_snoc {n : Int} {e : EditT.den} : ∀ {l : List EditT.den} {a : Int}, RisL n a l → endR a l ≤ e.1 → e.1 ≤ e.2.1 → e.2.1 ≤ n → RisL n a (l ++ [e]) ∧ endR a (l ++ [e]) = e.2.1
  | [], a, _, h1, h2, h3 => ⟨⟨h1, h2, h3, trivial⟩, rfl⟩
  | x :: l, a, h, h1, h2, h3 => by
    obtain ⟨k1, k2, k3, k4⟩ := h
    obtain ⟨m1, m2⟩ := ris_snoc k4 h1 h2 h3
    exact ⟨⟨k1, k2, k3, m1⟩, m2⟩
/-- The cuts that 'rising' makes. -/
def risF (n : Int) : Nat → Int → List EditT.den → List EditT.den
  | 0, _, _ => []
  | _ + 1, _, [] => []
  | k + 1, a, e :: l => if n < a + winZ e.1 0 3 + winZ e.2.1 0 3 then [] else (a + winZ e.1 0 3, a + winZ e.1 0 3 + winZ e.2.1 0 3, e.2.2.1, ()) :: risF n k (a + winZ e.1 0 3 + winZ e.2.1 0 3) l
theorem risF_zero (n a : Int) (l : List EditT.den) : risF n 0 a l = [] := rfl
theorem risF_cons (n a : Int) (k : Nat) (e : EditT.den) (l : List EditT.den) : risF n (k + 1) a (e :: l) = if n < a + winZ e.1 0 3 + winZ e.2.1 0 3 then [] else (a + winZ e.1 0 3, a + winZ e.1 0 3 + winZ e.2.1 0 3, e.2.2.1, ()) :: risF n k (a + winZ e.1 0 3 + winZ e.2.1 0 3) l := rfl
theorem risF_ok (n : Int) : ∀ (k : Nat) (a : Int) (l : List EditT.den), RisL n a (risF n k a l) ∧ totalL (risF n k a l) ≤ totalL l ∧ (risF n k a l).length ≤ k
  | 0, a, l => ⟨trivial, Nat.zero_le _, Nat.zero_le _⟩
  | k + 1, a, [] => ⟨trivial, Nat.zero_le _, Nat.zero_le _⟩
  | k + 1, a, e :: l => by
    unfold risF
    have w1 := win_le (n := e.1) (show (0 : Int) ≤ 3 by decide)
    have w2 := win_le (n := e.2.1) (show (0 : Int) ≤ 3 by decide)
    generalize winZ e.1 0 3 = f at *
    generalize winZ e.2.1 0 3 = t at *
    split
    · exact ⟨trivial, Nat.zero_le _, Nat.zero_le _⟩
    · obtain ⟨h1, h2, h3⟩ := risF_ok n k (a + f + t) l
      refine ⟨⟨show a ≤ a + f by omega, show a + f ≤ a + f + t by omega, show a + f + t ≤ n by omega, h1⟩, ?_, by rw [List.length_cons]; omega⟩
      rw [total_cons, total_cons]; simp only; omega
theorem FnC.noE {P : Program} {B0 : Base} {f : FuncId} {args : List AVal} {H : Hp} {K : AVal → Hp → Prop} {t : Ty} (h : FnC P B0 f args H (fun x H' => ∃ (l : List t.den) (o : Own), x = .sl t l o ∧ K (.sl t l .no) H')) : FnC P B0 f args H K := by
  refine ⟨h.1, fun w S vs hi ha => (h.2 w S vs hi ha).mono ?_⟩
  rintro e w' ⟨v, x, S', H', h1, h2, h3, h4, l, o, rfl, h5⟩
  refine ⟨v, _, S', H', h1, h2, h3, ?_, h5⟩
  simp only [Rep] at h4 ⊢
  obtain ⟨a, cap, e1, e2, e3, _⟩ := h4
  exact ⟨a, cap, e1, e2, e3, trivial⟩
theorem ntmps10 : Tryd.f10.ntmps = 47 := rfl
set_option maxHeartbeats 8000000 in
theorem rising10 {B0 : Base} {n : Nat} {l : List EditT.den} {o1 : Own} {H : Hp} {K : AVal → Hp → Prop} (hn : n ≤ 1000000000000) (hl : l.length ≤ 1000000000000)
    (h : K (.sl EditT (risF n 12 0 l) .no) H) : FnC Tryd.prog B0 10 [.int .i64 n, .sl EditT l o1] H K := by
  refine FnC.noE (t := EditT) (fn_of_tr Tryd.func10 rfl (by decide) (by simp) ?_)
  repeat' (first | (refine kw (by assumption) ?_) | (refine tr_seqk ?_; intro K_ hK_) | (refine tr_block ?_) | (refine inBlock_normal ?_) | (refine andThen_normal ?_) | (refine And.intro (by omega) ?_) | (refine tr_return rfl rfl (Hp.Le.refl _) ?_) | (refine ends_normal rfl (Hp.Le.refl _) ?_) | (refine fun (b_ : Nat) hb_ => ?_) | (refine tr_regk 8 ?_; intro K_ hK_) | (refine tr_if ?_) | (refine tr_rege 8 ?_; intro K_ hK_) | (refine tr_skip ?_) | (refine tr_exit ?_) | (refine tr_drawk 8 followsF (by decide +kernel) ?_; intro K_ hK_) | (refine tr_drawe 8 followsF (by decide +kernel) ?_; intro K_ hK_) | (simp (maxSteps := 2000000) (disch := omega) only [go_sem, F, Nat.reduceLT, Nat.reduceLeDiff, Nat.reduceAdd, Nat.reduceEqDiff, ↓reduceIte, ↓reduceDIte, reduceCtorEq, Int.reduceLE, Int.reduceLT, Int.reduceToNat, UInt8.reduceOfNat, Nat.reduceSub, Int.reduceNeg, Nat.reduceMul, Int.reduceEq, Int.reduceBEq, Int.reduceBNe, ntmps10]) | (refine gate_split (fun hc => ?_) (fun hc => ?_) <;> (try simp only [SB] at hc) <;> simp (disch := omega) only [hc, go_sem, F, Nat.reduceLT, Nat.reduceLeDiff, Nat.reduceAdd, Nat.reduceEqDiff, ↓reduceIte, ↓reduceDIte, reduceCtorEq, Int.reduceLE, Int.reduceLT, Int.reduceToNat, UInt8.reduceOfNat, Nat.reduceSub, Int.reduceNeg, Nat.reduceMul, Int.reduceEq, Int.reduceBEq, Int.reduceBNe, ntmps10] <;> (try simp only [SC] at hc) <;> try (first | exact absurd (by assumption) hc | exact absurd hc (by assumption) | exact False.elim hc | (refine False.elim ?_; omega))))
  refine tr_while (by assumption) (α := Nat × Int × List EditT.den × Own × Hp) (β := List EditT.den × Own × Hp) (fun x => [(7, .int .i64 x.1), (6, .int .i64 x.2.1), (5, .sl EditT x.2.2.1 x.2.2.2.1), (0, .int .i64 n), (1, .sl EditT l o1)]) (fun x => x.2.2.2.2)
    (fun x => Ap H x.2.2.2.2 x.2.2.2.1 EditT x.2.2.1.length ∧ x.1 ≤ l.length ∧ x.1 ≤ 12 ∧ x.2.2.1.length ≤ x.1 ∧ 0 ≤ x.2.1 ∧ x.2.1 ≤ n ∧ x.2.2.1 ++ risF n (12 - x.1) x.2.1 (l.drop x.1) = risF n 12 0 l) (fun x => l.length - x.1) (0, 0, [], .exact, H)
    (fun z => [(5, .sl EditT z.1 z.2.1)]) (fun z => z.2.2) (fun z => Ap H z.2.2 z.2.1 EditT z.1.length ∧ z.1 = risF n 12 0 l) ?_ (Hp.Le.refl _) ⟨Ap.exact _ _ _, by simp, by simp, by simp, by simp, by simp, rfl⟩ ?_ ?_
  · simp only [go_sem, F, Nat.reduceLT, Nat.reduceLeDiff, Nat.reduceAdd, Nat.reduceEqDiff, ↓reduceIte, ↓reduceDIte, reduceCtorEq, Int.reduceLE, Int.reduceLT, Int.reduceToNat, UInt8.reduceOfNat, Nat.reduceSub, Int.reduceNeg, Nat.reduceMul, Int.reduceEq, Int.reduceBEq, Int.reduceBNe, Int.natCast_zero]
  · rintro ⟨i, a, out, o', h'⟩ ⟨ha, hi, hi12, ho, ha0, han, hr⟩
    simp only at ha hi hi12 ho ha0 han hr
    by_cases hil : i < l.length
    · by_cases h12 : i < 12
      · rw [drop_consE hil, show 12 - i = (11 - i) + 1 by omega] at hr
        obtain ⟨⟨f, t, d, ⟨⟩⟩, hg⟩ : ∃ e : Int × Int × List UInt8 × Unit, l.getD i (0, 0, [], ()) = e := ⟨_, rfl⟩
        rw [hg, risF_cons] at hr
        simp only at hr
        have w1 := win_le (n := f) (show (0 : Int) ≤ 3 by decide)
        have w2 := win_le (n := t) (show (0 : Int) ≤ 3 by decide)
        generalize hf : winZ f 0 3 = f' at *
        generalize ht' : winZ t 0 3 = t' at *
        by_cases hto : (n : Int) < a + f' + t'
        · rw [if_pos hto, List.append_nil] at hr
          repeat' (first | (refine kw (by assumption) ?_) | (refine tr_seqk ?_; intro K_ hK_) | (refine tr_block ?_) | (refine inBlock_normal ?_) | (refine andThen_normal ?_) | (refine And.intro (by omega) ?_) | (refine tr_return rfl rfl (Hp.Le.refl _) ?_) | (refine ends_normal rfl (Hp.Le.refl _) ?_) | (refine fun (b_ : Nat) hb_ => ?_) | (refine tr_regk 9 ?_; intro K_ hK_) | (refine tr_if ?_) | (refine tr_rege 9 ?_; intro K_ hK_) | (refine tr_skip ?_) | (refine tr_exit ?_) | (refine tr_drawks 9 followsF (by decide +kernel) (by decide +kernel) ?_; intro K_ hK_) | (refine tr_drawes 9 followsF (by decide +kernel) (by decide +kernel) ?_; intro K_ hK_) | (refine tr_drawk 9 followsF (by decide +kernel) ?_; intro K_ hK_) | (refine tr_drawe 9 followsF (by decide +kernel) ?_; intro K_ hK_) | (simp (maxSteps := 2000000) (disch := omega) only [go_sem, F, Nat.reduceLT, Nat.reduceLeDiff, Nat.reduceAdd, Nat.reduceEqDiff, ↓reduceIte, ↓reduceDIte, reduceCtorEq, Int.reduceLE, Int.reduceLT, Int.reduceToNat, UInt8.reduceOfNat, Nat.reduceSub, Int.reduceNeg, Nat.reduceMul, Int.reduceEq, Int.reduceBEq, Int.reduceBNe, ntmps10, hg, hf, ht', splitLast]) | (refine wFn_intro (within14 (by decide) (by decide) (by decide) ?_)) | (refine ⟨_, wFn_intro (within14 (by decide) (by decide) (by decide) ⟨rfl, rfl⟩), ?_⟩) | (refine gate_split (fun hc => ?_) (fun hc => ?_) <;> (try simp only [SB] at hc) <;> simp (disch := omega) only [hc, go_sem, F, Nat.reduceLT, Nat.reduceLeDiff, Nat.reduceAdd, Nat.reduceEqDiff, ↓reduceIte, ↓reduceDIte, reduceCtorEq, Int.reduceLE, Int.reduceLT, Int.reduceToNat, UInt8.reduceOfNat, Nat.reduceSub, Int.reduceNeg, Nat.reduceMul, Int.reduceEq, Int.reduceBEq, Int.reduceBNe, ntmps10, hg, hf, ht', splitLast] <;> (try simp only [SC] at hc) <;> try (first | exact absurd (by assumption) hc | exact absurd hc (by assumption) | exact False.elim hc | (refine False.elim ?_; omega))))
          exact ⟨(out, o', h'), rfl, Hp.le_set hb_, ha, hr⟩
        · rw [if_neg hto] at hr
          repeat' (first | (refine kw (by assumption) ?_) | (refine tr_seqk ?_; intro K_ hK_) | (refine tr_block ?_) | (refine inBlock_normal ?_) | (refine andThen_normal ?_) | (refine And.intro (by omega) ?_) | (refine tr_return rfl rfl (by first | exact Ap.le (by with_reducible assumption) | exact Ap2.le (by with_reducible assumption) | exact Hp.Le.refl _) ?_) | (refine ends_normal rfl (by first | exact Ap.le (by with_reducible assumption) | exact Ap2.le (by with_reducible assumption) | exact Hp.Le.refl _) ?_) | (refine fun (b_ : Nat) hb_ => ?_) | (refine tr_regk 9 ?_; intro K_ hK_) | (refine tr_if ?_) | (refine tr_rege 9 ?_; intro K_ hK_) | (refine tr_skip ?_) | (refine tr_exit ?_) | (refine tr_drawks 9 followsF (by decide +kernel) (by decide +kernel) ?_; intro K_ hK_) | (refine tr_drawes 9 followsF (by decide +kernel) (by decide +kernel) ?_; intro K_ hK_) | (refine tr_drawk 9 followsF (by decide +kernel) ?_; intro K_ hK_) | (refine tr_drawe 9 followsF (by decide +kernel) ?_; intro K_ hK_) | (simp (maxSteps := 2000000) (disch := omega) only [go_sem, F, Nat.reduceLT, Nat.reduceLeDiff, Nat.reduceAdd, Nat.reduceEqDiff, ↓reduceIte, ↓reduceDIte, reduceCtorEq, Int.reduceLE, Int.reduceLT, Int.reduceToNat, UInt8.reduceOfNat, Nat.reduceSub, Int.reduceNeg, Nat.reduceMul, Int.reduceEq, Int.reduceBEq, Int.reduceBNe, ntmps10, hg, hf, ht', splitLast]) | (refine wAppend_ap (by first | assumption | exact Ap.frame (by assumption) (by assumption) | exact Ap.lit _ _ _ _) (by first | exact newsA_sl | exact newsA_str) (by simp only [F]) (by simp only [F, Option.some.injEq, eq_self, true_or, or_true, reduceCtorEq]) (by simp only [F, List.length_append, List.length_cons, List.length_nil]; omega) (by (try simp only [List.length_append, List.length_cons, List.length_nil]); omega) ?_; intro o_ h_ ha_) | (refine wFn_intro (within14 (by decide) (by decide) (by decide) ?_)) | (refine ⟨_, wFn_intro (within14 (by decide) (by decide) (by decide) ⟨rfl, rfl⟩), ?_⟩) | (refine gate_split (fun hc => ?_) (fun hc => ?_) <;> (try simp only [SB] at hc) <;> simp (disch := omega) only [hc, go_sem, F, Nat.reduceLT, Nat.reduceLeDiff, Nat.reduceAdd, Nat.reduceEqDiff, ↓reduceIte, ↓reduceDIte, reduceCtorEq, Int.reduceLE, Int.reduceLT, Int.reduceToNat, UInt8.reduceOfNat, Nat.reduceSub, Int.reduceNeg, Nat.reduceMul, Int.reduceEq, Int.reduceBEq, Int.reduceBNe, ntmps10, hg, hf, ht', splitLast] <;> (try simp only [SC] at hc) <;> try (first | exact absurd (by assumption) hc | exact absurd hc (by assumption) | exact False.elim hc | (refine False.elim ?_; omega))))
          have hb9 := Ap.le ha_ b_ _ Hp.set_self
          repeat' (first | (refine kw (by assumption) ?_) | (refine tr_seqk ?_; intro K_ hK_) | (refine tr_block ?_) | (refine inBlock_normal ?_) | (refine andThen_normal ?_) | (refine And.intro (by omega) ?_) | (refine tr_return rfl rfl (Hp.Le.refl _) ?_) | (refine ends_normal rfl (Hp.Le.refl _) ?_) | (refine fun (b_ : Nat) hb_ => ?_) | (refine tr_regk 9 ?_; intro K_ hK_) | (refine tr_if ?_) | (refine tr_rege 9 ?_; intro K_ hK_) | (refine tr_skip ?_) | (refine tr_exit ?_) | (refine tr_drawk 9 followsF (by decide +kernel) ?_; intro K_ hK_) | (refine tr_drawe 9 followsF (by decide +kernel) ?_; intro K_ hK_) | (simp (maxSteps := 2000000) (disch := omega) only [go_sem, F, Nat.reduceLT, Nat.reduceLeDiff, Nat.reduceAdd, Nat.reduceEqDiff, ↓reduceIte, ↓reduceDIte, reduceCtorEq, Int.reduceLE, Int.reduceLT, Int.reduceToNat, UInt8.reduceOfNat, Nat.reduceSub, Int.reduceNeg, Nat.reduceMul, Int.reduceEq, Int.reduceBEq, Int.reduceBNe, ntmps10, hb9]) | (refine gate_split (fun hc => ?_) (fun hc => ?_) <;> (try simp only [SB] at hc) <;> simp (disch := omega) only [hc, go_sem, F, Nat.reduceLT, Nat.reduceLeDiff, Nat.reduceAdd, Nat.reduceEqDiff, ↓reduceIte, ↓reduceDIte, reduceCtorEq, Int.reduceLE, Int.reduceLT, Int.reduceToNat, UInt8.reduceOfNat, Nat.reduceSub, Int.reduceNeg, Nat.reduceMul, Int.reduceEq, Int.reduceBEq, Int.reduceBNe, ntmps10, hb9] <;> (try simp only [SC] at hc) <;> try (first | exact absurd (by assumption) hc | exact absurd hc (by assumption) | exact False.elim hc | (refine False.elim ?_; omega))))
          obtain ⟨h2, u1, u2⟩ := Ap.unframe ha_ (Ap.none ha hb_)
          refine ⟨(i + 1, a + f' + t', _, o_, h2), ?_, u2, ⟨u1, by simp only; omega, by simp only; omega, by simp only [List.length_append, List.length_cons, List.length_nil]; omega, by simp only; omega, by simp only; omega, by rw [← hr, List.append_assoc]; simp only [show 12 - (i + 1) = 11 - i by omega]; rfl⟩, by simp only; omega⟩
          exact (by simp only [go_sem, F, Nat.reduceLT, Nat.reduceLeDiff, Nat.reduceAdd, Nat.reduceEqDiff, ↓reduceIte, ↓reduceDIte, reduceCtorEq, Int.reduceLE, Int.reduceLT, Int.reduceToNat, UInt8.reduceOfNat, Nat.reduceSub, Int.reduceNeg, Nat.reduceMul, Int.reduceEq, Int.reduceBEq, Int.reduceBNe, Option.some.injEq, AVal.int.injEq]; try omega)
      · rw [show 12 - i = 0 by omega] at hr
        rw [risF_zero, List.append_nil] at hr
        repeat' (first | (refine kw (by assumption) ?_) | (refine tr_seqk ?_; intro K_ hK_) | (refine tr_block ?_) | (refine inBlock_normal ?_) | (refine andThen_normal ?_) | (refine And.intro (by omega) ?_) | (refine tr_return rfl rfl (Hp.Le.refl _) ?_) | (refine ends_normal rfl (Hp.Le.refl _) ?_) | (refine fun (b_ : Nat) hb_ => ?_) | (refine tr_regk 8 ?_; intro K_ hK_) | (refine tr_if ?_) | (refine tr_rege 8 ?_; intro K_ hK_) | (refine tr_skip ?_) | (refine tr_exit ?_) | (refine tr_drawk 8 followsF (by decide +kernel) ?_; intro K_ hK_) | (refine tr_drawe 8 followsF (by decide +kernel) ?_; intro K_ hK_) | (simp (maxSteps := 2000000) (disch := omega) only [go_sem, F, Nat.reduceLT, Nat.reduceLeDiff, Nat.reduceAdd, Nat.reduceEqDiff, ↓reduceIte, ↓reduceDIte, reduceCtorEq, Int.reduceLE, Int.reduceLT, Int.reduceToNat, UInt8.reduceOfNat, Nat.reduceSub, Int.reduceNeg, Nat.reduceMul, Int.reduceEq, Int.reduceBEq, Int.reduceBNe, ntmps10]) | (refine gate_split (fun hc => ?_) (fun hc => ?_) <;> (try simp only [SB] at hc) <;> simp (disch := omega) only [hc, go_sem, F, Nat.reduceLT, Nat.reduceLeDiff, Nat.reduceAdd, Nat.reduceEqDiff, ↓reduceIte, ↓reduceDIte, reduceCtorEq, Int.reduceLE, Int.reduceLT, Int.reduceToNat, UInt8.reduceOfNat, Nat.reduceSub, Int.reduceNeg, Nat.reduceMul, Int.reduceEq, Int.reduceBEq, Int.reduceBNe, ntmps10] <;> (try simp only [SC] at hc) <;> try (first | exact absurd (by assumption) hc | exact absurd hc (by assumption) | exact False.elim hc | (refine False.elim ?_; omega))))
        exact ⟨(out, o', h'), rfl, Hp.Le.refl _, ha, hr⟩
    · rw [List.drop_eq_nil_of_le (by omega)] at hr
      have hnil : ∀ k a, risF n k a [] = [] := fun k a => by cases k <;> rfl
      rw [hnil, List.append_nil] at hr
      repeat' (first | (refine kw (by assumption) ?_) | (refine tr_seqk ?_; intro K_ hK_) | (refine tr_block ?_) | (refine inBlock_normal ?_) | (refine andThen_normal ?_) | (refine And.intro (by omega) ?_) | (refine tr_return rfl rfl (Hp.Le.refl _) ?_) | (refine ends_normal rfl (Hp.Le.refl _) ?_) | (refine fun (b_ : Nat) hb_ => ?_) | (refine tr_regk 8 ?_; intro K_ hK_) | (refine tr_if ?_) | (refine tr_rege 8 ?_; intro K_ hK_) | (refine tr_skip ?_) | (refine tr_exit ?_) | (refine tr_drawk 8 followsF (by decide +kernel) ?_; intro K_ hK_) | (refine tr_drawe 8 followsF (by decide +kernel) ?_; intro K_ hK_) | (simp (maxSteps := 2000000) (disch := omega) only [go_sem, F, Nat.reduceLT, Nat.reduceLeDiff, Nat.reduceAdd, Nat.reduceEqDiff, ↓reduceIte, ↓reduceDIte, reduceCtorEq, Int.reduceLE, Int.reduceLT, Int.reduceToNat, UInt8.reduceOfNat, Nat.reduceSub, Int.reduceNeg, Nat.reduceMul, Int.reduceEq, Int.reduceBEq, Int.reduceBNe, ntmps10]) | (refine gate_split (fun hc => ?_) (fun hc => ?_) <;> (try simp only [SB] at hc) <;> simp (disch := omega) only [hc, go_sem, F, Nat.reduceLT, Nat.reduceLeDiff, Nat.reduceAdd, Nat.reduceEqDiff, ↓reduceIte, ↓reduceDIte, reduceCtorEq, Int.reduceLE, Int.reduceLT, Int.reduceToNat, UInt8.reduceOfNat, Nat.reduceSub, Int.reduceNeg, Nat.reduceMul, Int.reduceEq, Int.reduceBEq, Int.reduceBNe, ntmps10] <;> (try simp only [SC] at hc) <;> try (first | exact absurd (by assumption) hc | exact absurd hc (by assumption) | exact False.elim hc | (refine False.elim ?_; omega))))
      exact ⟨(out, o', h'), rfl, Hp.Le.refl _, ha, hr⟩
  · rintro ⟨out, o', h'⟩ ⟨ha, hr⟩
    simp only at ha hr
    subst hr
    repeat' (first | (refine kw (by assumption) ?_) | (refine tr_seqk ?_; intro K_ hK_) | (refine tr_block ?_) | (refine inBlock_normal ?_) | (refine andThen_normal ?_) | (refine And.intro (by omega) ?_) | (refine tr_return rfl rfl (by first | exact Ap.le (by with_reducible assumption) | exact Ap2.le (by with_reducible assumption) | exact Hp.Le.refl _) ?_) | (refine ends_normal rfl (by first | exact Ap.le (by with_reducible assumption) | exact Ap2.le (by with_reducible assumption) | exact Hp.Le.refl _) ?_) | (refine fun (b_ : Nat) hb_ => ?_) | (refine tr_regk 8 ?_; intro K_ hK_) | (refine tr_if ?_) | (refine tr_rege 8 ?_; intro K_ hK_) | (refine tr_skip ?_) | (refine tr_exit ?_) | (refine tr_drawk 8 followsF (by decide +kernel) ?_; intro K_ hK_) | (refine tr_drawe 8 followsF (by decide +kernel) ?_; intro K_ hK_) | (simp (maxSteps := 2000000) (disch := omega) only [go_sem, F, Nat.reduceLT, Nat.reduceLeDiff, Nat.reduceAdd, Nat.reduceEqDiff, ↓reduceIte, ↓reduceDIte, reduceCtorEq, Int.reduceLE, Int.reduceLT, Int.reduceToNat, UInt8.reduceOfNat, Nat.reduceSub, Int.reduceNeg, Nat.reduceMul, Int.reduceEq, Int.reduceBEq, Int.reduceBNe, ntmps10]) | (refine wAppend_ap (by first | assumption | exact Ap.frame (by assumption) (by assumption) | exact Ap.lit _ _ _ _) (by first | exact newsA_sl | exact newsA_str) (by simp only [F]) (by simp only [F, Option.some.injEq, eq_self, true_or, or_true, reduceCtorEq]) (by simp only [F, List.length_append, List.length_cons, List.length_nil]; omega) (by (try simp only [List.length_append, List.length_cons, List.length_nil]); omega) ?_; intro o_ h_ ha_) | (refine gate_split (fun hc => ?_) (fun hc => ?_) <;> (try simp only [SB] at hc) <;> simp (disch := omega) only [hc, go_sem, F, Nat.reduceLT, Nat.reduceLeDiff, Nat.reduceAdd, Nat.reduceEqDiff, ↓reduceIte, ↓reduceDIte, reduceCtorEq, Int.reduceLE, Int.reduceLT, Int.reduceToNat, UInt8.reduceOfNat, Nat.reduceSub, Int.reduceNeg, Nat.reduceMul, Int.reduceEq, Int.reduceBEq, Int.reduceBNe, ntmps10] <;> (try simp only [SC] at hc) <;> try (first | exact absurd (by assumption) hc | exact absurd hc (by assumption) | exact False.elim hc | (refine False.elim ?_; omega))))
    exact ⟨_, _, rfl, h⟩
end Go.Proofs.YtoncjokijkjliaaDoor
