/- Patches: what PatchRest computes. Own work; printed from wip/law22/u.in by pre3.py. -/
import Derived.Test.YtoncjokijkjliaaDoorPaQ
namespace Go.Proofs.YtoncjokijkjliaaDoor
open Go.Sv
set_option linter.unusedSimpArgs false
set_option linter.unusedVariables false
set_option maxRecDepth 100000

abbrev EdT : Type := Int × Int × List UInt8 × Unit
/-- What rising cuts leave of bytes, with what is put there. -/
def restL (b : List UInt8) : Int → List EdT → List UInt8
  | a, [] => b.drop a.toNat
  | a, e :: l => (b.take e.1.toNat).drop a.toNat ++ e.2.2.1 ++ restL b e.2.1 l
theorem ap_ris {b : List UInt8} : ∀ {l : List EdT} {a : Int} {out : List UInt8}, RisL b.length a l → applyL b l a out = some (out ++ restL b a l)
  | [], a, out, _ => rfl
  | (f, t, d, u) :: l, a, out, h => by
    obtain ⟨h1, h2, h3, h4⟩ := h
    have h1' : (a : Int) ≤ f := h1
    have h2' : (f : Int) ≤ t := h2
    have h3' : (t : Int) ≤ b.length := h3
    rw [applyL_cons, if_neg (by simp only; omega), ap_ris h4]
    simp only [restL, List.append_assoc]
/-- How many more bytes that makes. -/
def moreL : List EdT → Int
  | [] => 0
  | e :: l => (e.2.2.1.length : Int) - (e.2.1 - e.1) + moreL l
theorem rest_len {b : List UInt8} : ∀ {l : List EdT} {a : Int}, 0 ≤ a → a ≤ b.length → RisL b.length a l → ((restL b a l).length : Int) = (b.length : Int) - a + moreL l
  | [], a, h0, ha, _ => by simp only [restL, moreL, List.length_drop]; omega
  | (f, t, d, u) :: l, a, h0, ha, h => by
    obtain ⟨h1, h2, h3, h4⟩ := h
    have h1' : (a : Int) ≤ f := h1
    have h2' : (f : Int) ≤ t := h2
    have h3' : (t : Int) ≤ b.length := h3
    have ih := rest_len (a := t) (by omega) h3' h4
    simp only [restL, moreL, List.length_append, List.length_drop, List.length_take]
    omega
theorem more_bd {n : Nat} : ∀ {l : List EdT} {a : Int}, RisL n a l → 0 ≤ a → a ≤ n → -((n : Int) - a) ≤ moreL l ∧ moreL l ≤ totalL l
  | [], a, _, _, h => by simp only [moreL, totalL, List.map_nil, List.sum_nil]; omega
  | (f, t, d, u) :: l, a, h, h0, hn => by
    obtain ⟨h1, h2, h3, h4⟩ := h
    have h1' : (a : Int) ≤ f := h1
    have h2' : (f : Int) ≤ t := h2
    have h3' : (t : Int) ≤ n := h3
    have ih := more_bd (a := t) h4 (by omega) h3'
    rw [total_cons]
    simp only [moreL]
    omega
theorem more_snoc {l : List EdT} {e : EdT} : moreL (l ++ [e]) = moreL l + ((e.2.2.1.length : Int) - (e.2.1 - e.1)) := by
  induction l with
  | nil => simp [moreL]
  | cons x l ih => simp only [List.cons_append, moreL, ih]; omega
theorem ris_mem {n : Int} : ∀ {l : List EdT} {a : Int}, RisL n a l → 0 ≤ a → ∀ e ∈ l, 0 ≤ e.1 ∧ e.1 ≤ e.2.1 ∧ e.2.1 ≤ n ∧ e.2.2.1.length ≤ totalL l
  | [], _, _, _, e, h => by simp at h
  | (f, t, d, u) :: l, a, h, h0, e, he => by
    obtain ⟨h1, h2, h3, h4⟩ := h
    have h1' : (a : Int) ≤ f := h1
    have h2' : (f : Int) ≤ t := h2
    have h3' : (t : Int) ≤ n := h3
    rw [total_cons]
    rcases List.mem_cons.1 he with rfl | he
    · simp only; omega
    · have := ris_mem (a := t) h4 (by omega) e he
      omega
theorem ris_take {n : Int} : ∀ {l : List EdT} {a : Int} (i : Nat), RisL n a l → RisL n a (l.take i)
  | [], _, i, _ => by simp only [List.take_nil]; trivial
  | e :: l, a, 0, _ => trivial
  | e :: l, a, i + 1, h => by
    rw [List.take_succ_cons]
    obtain ⟨h1, h2, h3, h4⟩ := h
    exact ⟨h1, h2, h3, ris_take i h4⟩
theorem cut_at (l : List UInt8) (w n : Nat) : (l.take (w + n)).drop w = (l.drop w).take n := by rw [List.drop_take, Nat.add_sub_cancel_left]
theorem ntmps5 : Tryd.f5.ntmps = 130 := rfl
set_option maxHeartbeats 8000000 in
theorem rest5 {B0 : Base} {b : List UInt8} {l : List EditT.den} {o1 o2 : Own} {H : Hp} {K : AVal → Hp → Prop} (hb : b.length + totalL l ≤ 100000000000) (hl : l.length ≤ 100000000000) (h : K (.bool true) H) : FnC Tryd.prog B0 5 [.sl .u8 b o1, .sl EditT l o2] H K := by
  refine fn_of_tr Tryd.func5 rfl (by decide) (by simp) ?_
  obtain ⟨hr1, hr2, hr3⟩ := risF_ok (b.length : Int) 12 0 l
  generalize hrf : risF (b.length : Int) 12 0 l = r at *
  have hsome : applyL b r 0 [] = some (restL b 0 r) := ap_ris hr1
  have hlen := rest_len (Int.le_refl 0) (by omega) hr1
  have hmb := more_bd hr1 (Int.le_refl 0) (by omega)
  have hrl : r.length ≤ 12 := hr3
  generalize ho : restL b 0 r = out at *
  repeat' (first | (refine kw (by assumption) ?_) | (refine tr_seqk ?_; intro K_ hK_) | (refine tr_block ?_) | (refine inBlock_normal ?_) | (refine andThen_normal ?_) | (refine And.intro (by omega) ?_) | (refine tr_return rfl rfl (Hp.Le.refl _) ?_) | (refine ends_normal rfl (Hp.Le.refl _) ?_) | (refine fun (b_ : Nat) hb_ => ?_) | (refine tr_regk 26 ?_; intro K_ hK_) | (refine tr_if ?_) | (refine tr_rege 26 ?_; intro K_ hK_) | (refine tr_skip ?_) | (refine tr_exit ?_) | (refine tr_drawk 26 followsF (by decide +kernel) ?_; intro K_ hK_) | (refine tr_drawe 26 followsF (by decide +kernel) ?_; intro K_ hK_) | (simp (maxSteps := 2000000) (disch := omega) only [go_sem, F, Nat.reduceLT, Nat.reduceLeDiff, Nat.reduceAdd, Nat.reduceEqDiff, ↓reduceIte, ↓reduceDIte, reduceCtorEq, Int.reduceLE, Int.reduceLT, Int.reduceToNat, UInt8.reduceOfNat, Nat.reduceSub, Int.reduceNeg, Nat.reduceMul, Int.reduceEq, Int.reduceBEq, Int.reduceBNe, ntmps5, hrf]) | (refine wFn_intro (rising10 (by omega) (by omega) ?_)) | (refine ⟨_, wFn_intro (rising10 (by omega) (by omega) ⟨rfl, rfl⟩), ?_⟩) | (refine gate_split (fun hc => ?_) (fun hc => ?_) <;> (try simp only [SB] at hc) <;> simp (disch := omega) only [hc, go_sem, F, Nat.reduceLT, Nat.reduceLeDiff, Nat.reduceAdd, Nat.reduceEqDiff, ↓reduceIte, ↓reduceDIte, reduceCtorEq, Int.reduceLE, Int.reduceLT, Int.reduceToNat, UInt8.reduceOfNat, Nat.reduceSub, Int.reduceNeg, Nat.reduceMul, Int.reduceEq, Int.reduceBEq, Int.reduceBNe, ntmps5, hrf] <;> (try simp only [SC] at hc) <;> try (first | exact absurd (by assumption) hc | exact absurd hc (by assumption) | exact False.elim hc | (refine False.elim ?_; omega))))
  refine tr_while (by assumption) (α := Nat × Own × Hp) (β := Own × Hp) (fun x => [(25, .int .i64 x.1), (24, .int .i64 r.length), (23, .sl EditT r .no), (7, .int .i64 ((b.length : Int) + moreL (r.take x.1))), (6, .sl EditT (r.take x.1) x.2.1), (5, .sl EditT r .no), (0, .sl .u8 b o1)]) (fun x => x.2.2)
    (fun x => Ap H x.2.2 x.2.1 EditT (r.take x.1).length ∧ x.1 ≤ r.length) (fun x => r.length - x.1) (0, .exact, H) (fun z => [(7, .int .i64 ((b.length : Int) + moreL r)), (6, .sl EditT r z.1), (5, .sl EditT r .no), (0, .sl .u8 b o1)]) (fun z => z.2) (fun z => Ap H z.2 z.1 EditT r.length) ?_ (Hp.Le.refl _) ⟨Ap.exact _ _ _, by simp⟩ ?_ ?_
  · simp only [go_sem, F, Nat.reduceLT, Nat.reduceLeDiff, Nat.reduceAdd, Nat.reduceEqDiff, ↓reduceIte, ↓reduceDIte, reduceCtorEq, Int.reduceLE, Int.reduceLT, Int.reduceToNat, UInt8.reduceOfNat, Nat.reduceSub, Int.reduceNeg, Nat.reduceMul, Int.reduceEq, Int.reduceBEq, Int.reduceBNe, Int.natCast_zero, moreL, Int.add_zero]
  · rintro ⟨i, o', h'⟩ ⟨ha, hi⟩
    simp only at ha hi
    by_cases hil : i < r.length
    · have hs := take_snocE hil
      have hmem : r.getD i (0, 0, [], ()) ∈ r := by rw [List.getD_eq_getElem?_getD, List.getElem?_eq_getElem hil]; exact List.getElem_mem hil
      have hbd := ris_mem hr1 (Int.le_refl 0) _ hmem
      have hmt := more_bd (ris_take i hr1) (Int.le_refl 0) (by omega)
      have htt := total_take r i
      have hlen2 : (r.take i).length = i := by rw [List.length_take]; omega
      obtain ⟨⟨f, t, d, ⟨⟩⟩, hg⟩ : ∃ e : Int × Int × List UInt8 × Unit, r.getD i (0, 0, [], ()) = e := ⟨_, rfl⟩
      rw [hg] at hs hbd
      simp only at hbd
      have hms : moreL (r.take (i + 1)) = moreL (r.take i) + ((d.length : Int) - (t - f)) := by rw [hs, more_snoc]
      generalize hm : moreL (r.take i) = m at *
      repeat' (first | (refine kw (by assumption) ?_) | (refine tr_seqk ?_; intro K_ hK_) | (refine tr_block ?_) | (refine inBlock_normal ?_) | (refine andThen_normal ?_) | (refine And.intro (by omega) ?_) | (refine tr_return rfl rfl (by first | exact Ap.le (by with_reducible assumption) | exact Ap2.le (by with_reducible assumption) | exact Hp.Le.refl _) ?_) | (refine ends_normal rfl (by first | exact Ap.le (by with_reducible assumption) | exact Ap2.le (by with_reducible assumption) | exact Hp.Le.refl _) ?_) | (refine fun (b_ : Nat) hb_ => ?_) | (refine tr_regk 26 ?_; intro K_ hK_) | (refine tr_if ?_) | (refine tr_rege 26 ?_; intro K_ hK_) | (refine tr_skip ?_) | (refine tr_exit ?_) | (refine tr_drawk 26 followsF (by decide +kernel) ?_; intro K_ hK_) | (refine tr_drawe 26 followsF (by decide +kernel) ?_; intro K_ hK_) | (simp (maxSteps := 2000000) (disch := omega) only [go_sem, F, Nat.reduceLT, Nat.reduceLeDiff, Nat.reduceAdd, Nat.reduceEqDiff, ↓reduceIte, ↓reduceDIte, reduceCtorEq, Int.reduceLE, Int.reduceLT, Int.reduceToNat, UInt8.reduceOfNat, Nat.reduceSub, Int.reduceNeg, Nat.reduceMul, Int.reduceEq, Int.reduceBEq, Int.reduceBNe, ntmps5, hg, hlen2]) | (refine wAppend_ap (by first | assumption | exact Ap.frame (by assumption) (by assumption) | exact Ap.lit _ _ _ _) (by first | exact newsA_sl | exact newsA_str) (by simp only [F]) (by simp only [F, Option.some.injEq, eq_self, true_or, or_true, reduceCtorEq]) (by simp only [F, List.length_append, List.length_cons, List.length_nil]; omega) (by (try simp only [List.length_append, List.length_cons, List.length_nil]); omega) ?_; intro o_ h_ ha_) | (refine gate_split (fun hc => ?_) (fun hc => ?_) <;> (try simp only [SB] at hc) <;> simp (disch := omega) only [hc, go_sem, F, Nat.reduceLT, Nat.reduceLeDiff, Nat.reduceAdd, Nat.reduceEqDiff, ↓reduceIte, ↓reduceDIte, reduceCtorEq, Int.reduceLE, Int.reduceLT, Int.reduceToNat, UInt8.reduceOfNat, Nat.reduceSub, Int.reduceNeg, Nat.reduceMul, Int.reduceEq, Int.reduceBEq, Int.reduceBNe, ntmps5, hg, hlen2] <;> (try simp only [SC] at hc) <;> try (first | exact absurd (by assumption) hc | exact absurd hc (by assumption) | exact False.elim hc | (refine False.elim ?_; omega))))
      have hb9 := Ap.le ha_ b_ _ Hp.set_self
      repeat' (first | (refine kw (by assumption) ?_) | (refine tr_seqk ?_; intro K_ hK_) | (refine tr_block ?_) | (refine inBlock_normal ?_) | (refine andThen_normal ?_) | (refine And.intro (by omega) ?_) | (refine tr_return rfl rfl (Hp.Le.refl _) ?_) | (refine ends_normal rfl (Hp.Le.refl _) ?_) | (refine fun (b_ : Nat) hb_ => ?_) | (refine tr_regk 26 ?_; intro K_ hK_) | (refine tr_if ?_) | (refine tr_rege 26 ?_; intro K_ hK_) | (refine tr_skip ?_) | (refine tr_exit ?_) | (refine tr_drawk 26 followsF (by decide +kernel) ?_; intro K_ hK_) | (refine tr_drawe 26 followsF (by decide +kernel) ?_; intro K_ hK_) | (simp (maxSteps := 2000000) (disch := omega) only [go_sem, F, Nat.reduceLT, Nat.reduceLeDiff, Nat.reduceAdd, Nat.reduceEqDiff, ↓reduceIte, ↓reduceDIte, reduceCtorEq, Int.reduceLE, Int.reduceLT, Int.reduceToNat, UInt8.reduceOfNat, Nat.reduceSub, Int.reduceNeg, Nat.reduceMul, Int.reduceEq, Int.reduceBEq, Int.reduceBNe, ntmps5, hb9]) | (refine gate_split (fun hc => ?_) (fun hc => ?_) <;> (try simp only [SB] at hc) <;> simp (disch := omega) only [hc, go_sem, F, Nat.reduceLT, Nat.reduceLeDiff, Nat.reduceAdd, Nat.reduceEqDiff, ↓reduceIte, ↓reduceDIte, reduceCtorEq, Int.reduceLE, Int.reduceLT, Int.reduceToNat, UInt8.reduceOfNat, Nat.reduceSub, Int.reduceNeg, Nat.reduceMul, Int.reduceEq, Int.reduceBEq, Int.reduceBNe, ntmps5, hb9] <;> (try simp only [SC] at hc) <;> try (first | exact absurd (by assumption) hc | exact absurd hc (by assumption) | exact False.elim hc | (refine False.elim ?_; omega))))
      obtain ⟨h2, u1, u2⟩ := Ap.unframe ha_ (Ap.none ha hb_)
      refine ⟨(i + 1, o_, h2), ?_, u2, ⟨by rw [hs]; exact u1, by simp only; omega⟩, by simp only; omega⟩
      have hms' : moreL (r.take i ++ [(f, t, d, ())]) = m + ((d.length : Int) - (t - f)) := by rw [← hms, hs]
      simp only [go_sem, F, Nat.reduceLT, Nat.reduceLeDiff, Nat.reduceAdd, Nat.reduceEqDiff, ↓reduceIte, ↓reduceDIte, reduceCtorEq, Int.reduceLE, Int.reduceLT, Int.reduceToNat, UInt8.reduceOfNat, Nat.reduceSub, Int.reduceNeg, Nat.reduceMul, Int.reduceEq, Int.reduceBEq, Int.reduceBNe, hs, hms']
      refine ⟨by congr 1, by congr 1; omega⟩
    · have : r.take i = r := List.take_of_length_le (by omega)
      repeat' (first | (refine kw (by assumption) ?_) | (refine tr_seqk ?_; intro K_ hK_) | (refine tr_block ?_) | (refine inBlock_normal ?_) | (refine andThen_normal ?_) | (refine And.intro (by omega) ?_) | (refine tr_return rfl rfl (Hp.Le.refl _) ?_) | (refine ends_normal rfl (Hp.Le.refl _) ?_) | (refine fun (b_ : Nat) hb_ => ?_) | (refine tr_regk 26 ?_; intro K_ hK_) | (refine tr_if ?_) | (refine tr_rege 26 ?_; intro K_ hK_) | (refine tr_skip ?_) | (refine tr_exit ?_) | (refine tr_drawk 26 followsF (by decide +kernel) ?_; intro K_ hK_) | (refine tr_drawe 26 followsF (by decide +kernel) ?_; intro K_ hK_) | (simp (maxSteps := 2000000) (disch := omega) only [go_sem, F, Nat.reduceLT, Nat.reduceLeDiff, Nat.reduceAdd, Nat.reduceEqDiff, ↓reduceIte, ↓reduceDIte, reduceCtorEq, Int.reduceLE, Int.reduceLT, Int.reduceToNat, UInt8.reduceOfNat, Nat.reduceSub, Int.reduceNeg, Nat.reduceMul, Int.reduceEq, Int.reduceBEq, Int.reduceBNe, ntmps5, this]) | (refine gate_split (fun hc => ?_) (fun hc => ?_) <;> (try simp only [SB] at hc) <;> simp (disch := omega) only [hc, go_sem, F, Nat.reduceLT, Nat.reduceLeDiff, Nat.reduceAdd, Nat.reduceEqDiff, ↓reduceIte, ↓reduceDIte, reduceCtorEq, Int.reduceLE, Int.reduceLT, Int.reduceToNat, UInt8.reduceOfNat, Nat.reduceSub, Int.reduceNeg, Nat.reduceMul, Int.reduceEq, Int.reduceBEq, Int.reduceBNe, ntmps5, this] <;> (try simp only [SC] at hc) <;> try (first | exact absurd (by assumption) hc | exact absurd hc (by assumption) | exact False.elim hc | (refine False.elim ?_; omega))))
      exact ⟨(o', h'), (by simp only [go_sem, F, Nat.reduceLT, Nat.reduceLeDiff, Nat.reduceAdd, Nat.reduceEqDiff, ↓reduceIte, ↓reduceDIte, reduceCtorEq, Int.reduceLE, Int.reduceLT, Int.reduceToNat, UInt8.reduceOfNat, Nat.reduceSub, Int.reduceNeg, Nat.reduceMul, Int.reduceEq, Int.reduceBEq, Int.reduceBNe, Option.some.injEq, AVal.int.injEq, this]; try omega), Hp.Le.refl _, by rw [this] at ha; exact ha⟩
  · rintro ⟨o', h'⟩ ha
    simp only at ha
    have hle := ha.le
    have hne : ((out.length : Int) != (b.length : Int) + moreL r) = false := by rw [bne_eq_false_iff_eq]; omega
    repeat' (first | (refine kw (by assumption) ?_) | (refine tr_seqk ?_; intro K_ hK_) | (refine tr_block ?_) | (refine inBlock_normal ?_) | (refine andThen_normal ?_) | (refine And.intro (by omega) ?_) | (refine tr_return rfl rfl (hle) ?_) | (refine ends_normal rfl (hle) ?_) | (refine fun (b_ : Nat) hb_ => ?_) | (refine tr_regk 68 ?_; intro K_ hK_) | (refine tr_if ?_) | (refine tr_rege 68 ?_; intro K_ hK_) | (refine tr_skip ?_) | (refine tr_exit ?_) | (refine tr_drawk 68 followsF (by decide +kernel) ?_; intro K_ hK_) | (refine tr_drawe 68 followsF (by decide +kernel) ?_; intro K_ hK_) | (simp (maxSteps := 2000000) (disch := omega) only [go_sem, F, Nat.reduceLT, Nat.reduceLeDiff, Nat.reduceAdd, Nat.reduceEqDiff, ↓reduceIte, ↓reduceDIte, reduceCtorEq, Int.reduceLE, Int.reduceLT, Int.reduceToNat, UInt8.reduceOfNat, Nat.reduceSub, Int.reduceNeg, Nat.reduceMul, Int.reduceEq, Int.reduceBEq, Int.reduceBNe, ntmps5, hsome, apV, ho, hne]) | (refine wFn_intro (apply13 (by omega) (by omega) ?_)) | (refine ⟨_, wFn_intro (apply13 (by omega) (by omega) ⟨rfl, rfl⟩), ?_⟩) | (refine gate_split (fun hc => ?_) (fun hc => ?_) <;> (try simp only [SB] at hc) <;> simp (disch := omega) only [hc, go_sem, F, Nat.reduceLT, Nat.reduceLeDiff, Nat.reduceAdd, Nat.reduceEqDiff, ↓reduceIte, ↓reduceDIte, reduceCtorEq, Int.reduceLE, Int.reduceLT, Int.reduceToNat, UInt8.reduceOfNat, Nat.reduceSub, Int.reduceNeg, Nat.reduceMul, Int.reduceEq, Int.reduceBEq, Int.reduceBNe, ntmps5, hsome, apV, ho, hne] <;> (try simp only [SC] at hc) <;> try (first | exact absurd (by assumption) hc | exact absurd hc (by assumption) | exact False.elim hc | (refine False.elim ?_; omega))))
    refine tr_while (by assumption) (α := Nat × Int × Nat) (β := Int × Nat) (fun x => [(67, .int .i64 x.1), (66, .int .i64 r.length), (65, .sl EditT r .no), (13, .int .i64 x.2.2), (12, .int .i64 x.2.1), (10, .sl .u8 out .no), (0, .sl .u8 b o1)]) (fun _ => H)
      (fun x => x.1 ≤ r.length ∧ 0 ≤ x.2.1 ∧ x.2.1 ≤ b.length ∧ x.2.2 ≤ out.length ∧ RisL b.length x.2.1 (r.drop x.1) ∧ out.drop x.2.2 = restL b x.2.1 (r.drop x.1)) (fun x => r.length - x.1) (0, 0, 0) (fun z => [(13, .int .i64 z.2), (12, .int .i64 z.1), (10, .sl .u8 out .no), (0, .sl .u8 b o1)]) (fun _ => H)
      (fun z => 0 ≤ z.1 ∧ z.1 ≤ b.length ∧ z.2 ≤ out.length ∧ out.drop z.2 = b.drop z.1.toNat) ?_ hle ⟨Nat.zero_le _, Int.le_refl _, by simp only; omega, Nat.zero_le _, hr1, by simp only [List.drop_zero]; exact ho.symm⟩ ?_ ?_
    · simp only [go_sem, F, Nat.reduceLT, Nat.reduceLeDiff, Nat.reduceAdd, Nat.reduceEqDiff, ↓reduceIte, ↓reduceDIte, reduceCtorEq, Int.reduceLE, Int.reduceLT, Int.reduceToNat, UInt8.reduceOfNat, Nat.reduceSub, Int.reduceNeg, Nat.reduceMul, Int.reduceEq, Int.reduceBEq, Int.reduceBNe, Int.natCast_zero]
    · rintro ⟨i, a, w⟩ ⟨hi, ha0, han, hw, hris, hdr⟩
      simp only at hi ha0 han hw hris hdr
      by_cases hil : i < r.length
      · rw [drop_consE hil] at hris hdr
        obtain ⟨⟨f, t, d, ⟨⟩⟩, hg⟩ : ∃ e : Int × Int × List UInt8 × Unit, r.getD i (0, 0, [], ()) = e := ⟨_, rfl⟩
        rw [hg] at hris hdr
        obtain ⟨q1, q2, q3, q4⟩ := hris
        have q1' : (a : Int) ≤ f := q1
        have q2' : (f : Int) ≤ t := q2
        have q3' : (t : Int) ≤ b.length := q3
        simp only [restL] at hdr
        generalize hP : (b.take f.toNat).drop a.toNat = P at *
        have hPl : P.length = f.toNat - a.toNat := by rw [← hP, List.length_drop, List.length_take]; omega
        generalize hR : restL b t (r.drop (i + 1)) = R at *
        have hdl := congrArg List.length hdr
        simp only [List.length_drop, List.length_append] at hdl
        have e1 : ((w : Int) + (f - a)).toNat = w + P.length := by omega
        have e2 : ((w : Int) + (f - a) + (d.length : Int)).toNat = w + P.length + d.length := by omega
        have c1 : List.drop w (List.take ((w : Int) + (f - a)).toNat out) = P := by
          rw [e1, cut_at, hdr, List.append_assoc, List.take_left]
        have hdr2 : out.drop (w + P.length) = d ++ R := by
          rw [← List.drop_drop, hdr, List.append_assoc, List.drop_left]
        have c2 : List.drop ((w : Int) + (f - a)).toNat (List.take ((w : Int) + (f - a) + (d.length : Int)).toNat out) = d := by
          rw [e1, e2, cut_at, hdr2, List.take_left]
        have hdr3 : out.drop (w + P.length + d.length) = R := by
          rw [← List.drop_drop, hdr2, List.drop_left]
        repeat' (first | (refine kw (by assumption) ?_) | (refine tr_seqk ?_; intro K_ hK_) | (refine tr_block ?_) | (refine inBlock_normal ?_) | (refine andThen_normal ?_) | (refine And.intro (by omega) ?_) | (refine tr_return rfl rfl ((Hp.le_set hb_)) ?_) | (refine ends_normal rfl ((Hp.le_set hb_)) ?_) | (refine fun (b_ : Nat) hb_ => ?_) | (refine tr_regk 68 ?_; intro K_ hK_) | (refine tr_if ?_) | (refine tr_rege 68 ?_; intro K_ hK_) | (refine tr_skip ?_) | (refine tr_exit ?_) | (refine tr_drawk 68 followsF (by decide +kernel) ?_; intro K_ hK_) | (refine tr_drawe 68 followsF (by decide +kernel) ?_; intro K_ hK_) | (simp (maxSteps := 2000000) (disch := omega) only [go_sem, F, Nat.reduceLT, Nat.reduceLeDiff, Nat.reduceAdd, Nat.reduceEqDiff, ↓reduceIte, ↓reduceDIte, reduceCtorEq, Int.reduceLE, Int.reduceLT, Int.reduceToNat, UInt8.reduceOfNat, Nat.reduceSub, Int.reduceNeg, Nat.reduceMul, Int.reduceEq, Int.reduceBEq, Int.reduceBNe, ntmps5, hg, hP, c1, c2]) | (refine gate_split (fun hc => ?_) (fun hc => ?_) <;> (try simp only [SB] at hc) <;> simp (disch := omega) only [hc, go_sem, F, Nat.reduceLT, Nat.reduceLeDiff, Nat.reduceAdd, Nat.reduceEqDiff, ↓reduceIte, ↓reduceDIte, reduceCtorEq, Int.reduceLE, Int.reduceLT, Int.reduceToNat, UInt8.reduceOfNat, Nat.reduceSub, Int.reduceNeg, Nat.reduceMul, Int.reduceEq, Int.reduceBEq, Int.reduceBNe, ntmps5, hg, hP, c1, c2] <;> (try simp only [SC] at hc) <;> try (first | exact absurd (by assumption) hc | exact absurd hc (by assumption) | exact False.elim hc | (refine False.elim ?_; omega))))
        refine ⟨(i + 1, t, w + P.length + d.length), ?_, Hp.le_set hb_, ⟨by simp only; omega, by simp only; omega, by simp only; omega, by simp only; omega, q4, by simp only; rw [hdr3, hR]⟩, by simp only; omega⟩
        simp only [go_sem, F, Nat.reduceLT, Nat.reduceLeDiff, Nat.reduceAdd, Nat.reduceEqDiff, ↓reduceIte, ↓reduceDIte, reduceCtorEq, Int.reduceLE, Int.reduceLT, Int.reduceToNat, UInt8.reduceOfNat, Nat.reduceSub, Int.reduceNeg, Nat.reduceMul, Int.reduceEq, Int.reduceBEq, Int.reduceBNe]
        refine ⟨by congr 1, by congr 1; omega⟩
      · rw [show r.drop i = [] from List.drop_eq_nil_of_le (by omega)] at hdr
        repeat' (first | (refine kw (by assumption) ?_) | (refine tr_seqk ?_; intro K_ hK_) | (refine tr_block ?_) | (refine inBlock_normal ?_) | (refine andThen_normal ?_) | (refine And.intro (by omega) ?_) | (refine tr_return rfl rfl (Hp.Le.refl _) ?_) | (refine ends_normal rfl (Hp.Le.refl _) ?_) | (refine fun (b_ : Nat) hb_ => ?_) | (refine tr_regk 68 ?_; intro K_ hK_) | (refine tr_if ?_) | (refine tr_rege 68 ?_; intro K_ hK_) | (refine tr_skip ?_) | (refine tr_exit ?_) | (refine tr_drawk 68 followsF (by decide +kernel) ?_; intro K_ hK_) | (refine tr_drawe 68 followsF (by decide +kernel) ?_; intro K_ hK_) | (simp (maxSteps := 2000000) (disch := omega) only [go_sem, F, Nat.reduceLT, Nat.reduceLeDiff, Nat.reduceAdd, Nat.reduceEqDiff, ↓reduceIte, ↓reduceDIte, reduceCtorEq, Int.reduceLE, Int.reduceLT, Int.reduceToNat, UInt8.reduceOfNat, Nat.reduceSub, Int.reduceNeg, Nat.reduceMul, Int.reduceEq, Int.reduceBEq, Int.reduceBNe, ntmps5]) | (refine gate_split (fun hc => ?_) (fun hc => ?_) <;> (try simp only [SB] at hc) <;> simp (disch := omega) only [hc, go_sem, F, Nat.reduceLT, Nat.reduceLeDiff, Nat.reduceAdd, Nat.reduceEqDiff, ↓reduceIte, ↓reduceDIte, reduceCtorEq, Int.reduceLE, Int.reduceLT, Int.reduceToNat, UInt8.reduceOfNat, Nat.reduceSub, Int.reduceNeg, Nat.reduceMul, Int.reduceEq, Int.reduceBEq, Int.reduceBNe, ntmps5] <;> (try simp only [SC] at hc) <;> try (first | exact absurd (by assumption) hc | exact absurd hc (by assumption) | exact False.elim hc | (refine False.elim ?_; omega))))
        exact ⟨(a, w), (by simp only [go_sem, F, Nat.reduceLT, Nat.reduceLeDiff, Nat.reduceAdd, Nat.reduceEqDiff, ↓reduceIte, ↓reduceDIte, reduceCtorEq, Int.reduceLE, Int.reduceLT, Int.reduceToNat, UInt8.reduceOfNat, Nat.reduceSub, Int.reduceNeg, Nat.reduceMul, Int.reduceEq, Int.reduceBEq, Int.reduceBNe, Option.some.injEq, AVal.int.injEq]; try omega), Hp.Le.refl _, ha0, han, hw, hdr⟩
    · rintro ⟨a, w⟩ ⟨ha0, han, hw, hdr⟩
      simp only at ha0 han hw hdr
      generalize hX : b.drop a.toNat = X at *
      repeat' (first | (refine kw (by assumption) ?_) | (refine tr_seqk ?_; intro K_ hK_) | (refine tr_block ?_) | (refine inBlock_normal ?_) | (refine andThen_normal ?_) | (refine And.intro (by omega) ?_) | (refine tr_return rfl rfl (Hp.Le.refl _) ?_) | (refine ends_normal rfl (Hp.Le.refl _) ?_) | (refine fun (b_ : Nat) hb_ => ?_) | (refine tr_regk 26 ?_; intro K_ hK_) | (refine tr_if ?_) | (refine tr_rege 26 ?_; intro K_ hK_) | (refine tr_skip ?_) | (refine tr_exit ?_) | (refine tr_drawk 26 followsF (by decide +kernel) ?_; intro K_ hK_) | (refine tr_drawe 26 followsF (by decide +kernel) ?_; intro K_ hK_) | (simp (maxSteps := 2000000) (disch := omega) only [go_sem, F, Nat.reduceLT, Nat.reduceLeDiff, Nat.reduceAdd, Nat.reduceEqDiff, ↓reduceIte, ↓reduceDIte, reduceCtorEq, Int.reduceLE, Int.reduceLT, Int.reduceToNat, UInt8.reduceOfNat, Nat.reduceSub, Int.reduceNeg, Nat.reduceMul, Int.reduceEq, Int.reduceBEq, Int.reduceBNe, ntmps5, hdr, hX]) | (refine wFn_intro (known9 ?_)) | (refine ⟨_, wFn_intro (known9 ⟨rfl, rfl⟩), ?_⟩) | (refine gate_split (fun hc => ?_) (fun hc => ?_) <;> (try simp only [SB] at hc) <;> simp (disch := omega) only [hc, go_sem, F, Nat.reduceLT, Nat.reduceLeDiff, Nat.reduceAdd, Nat.reduceEqDiff, ↓reduceIte, ↓reduceDIte, reduceCtorEq, Int.reduceLE, Int.reduceLT, Int.reduceToNat, UInt8.reduceOfNat, Nat.reduceSub, Int.reduceNeg, Nat.reduceMul, Int.reduceEq, Int.reduceBEq, Int.reduceBNe, ntmps5, hdr, hX] <;> (try simp only [SC] at hc) <;> try (first | exact absurd (by assumption) hc | exact absurd hc (by assumption) | exact False.elim hc | (refine False.elim ?_; omega))))
      exact h
end Go.Proofs.YtoncjokijkjliaaDoor
