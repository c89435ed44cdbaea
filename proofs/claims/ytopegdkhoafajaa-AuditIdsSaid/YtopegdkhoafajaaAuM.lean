/- Documents within documents: step by step. Own work; printed from wip/law25/m.in by pre3.py. -/
import Derived.Test.YtopegdkhoafajaaAuK
import Derived.Test.YtopegdkhoafajaaAuL
import Derived.Test.YtopegdkhoafajaaAuG
namespace Go.Proofs.Ytopegdkhoafajaa
open Go.Sv
set_option linter.unusedSimpArgs false
set_option linter.unusedVariables false
set_option maxRecDepth 100000

abbrev src0 : Src := ([], [], ())
def okI (a b : List Src) (l : List DefD) (i : Nat) : Bool := match strL i (a.getD i src0).2.1 l 0 [] with
  | none => false
  | some x => (a.getD i src0).1 == (b.getD i src0).1 && standL x (b.getD i src0).2.1
def withinV (a b : List Src) (l : List DefD) : Bool := decide (a.length = b.length) && (List.range a.length).all (okI a b l)
theorem within_no {a b : List Src} {l : List DefD} {i : Nat} (h : i < a.length) (hi : okI a b l i = false) : withinV a b l = false := by
  have : (List.range a.length).all (okI a b l) = false := by
    rw [Bool.eq_false_iff]
    intro h2
    have := List.all_eq_true.1 h2 i (List.mem_range.2 h)
    rw [hi] at this
    simp at this
  unfold withinV
  rw [this, Bool.and_false]
theorem within_yes {a b : List Src} {l : List DefD} (hab : a.length = b.length) (h : ∀ i, i < a.length → okI a b l i = true) : withinV a b l = true := by
  unfold withinV
  rw [decide_eq_true hab, Bool.true_and, List.all_eq_true]
  intro i hi
  exact h i (List.mem_range.1 hi)
theorem src_le {l : List Src} (hd : ∀ e ∈ l, e.2.1.length ≤ 1000000000) (i : Nat) : (l.getD i src0).2.1.length ≤ 1000000000 := by
  rw [List.getD_eq_getElem?_getD]
  by_cases h : i < l.length
  · rw [List.getElem?_eq_getElem h]; exact hd _ (List.getElem_mem h)
  · rw [List.getElem?_eq_none (by omega)]; simp
theorem ntmps16 : Try.f16.ntmps = 57 := rfl
theorem strL_len (doc : Int) (b : List UInt8) : ∀ (l : List DefD) (a : Int) (out x : List (List UInt8)), strL doc b l a out = some x → x.length ≤ out.length + l.length + 1
  | [], a, out, x, h => by
    simp only [strL, Option.some.injEq] at h
    subst h; simp
  | d :: l, a, out, x, h => by
    rw [strL_cons] at h
    split at h
    · have := strL_len doc b l a out x h; simp only [List.length_cons]; omega
    · split at h
      · simp at h
      · have := strL_len doc b l _ _ x h; simp only [List.length_append, List.length_cons, List.length_nil] at this ⊢; omega
set_option maxHeartbeats 8000000 in
theorem within16 {n : Nat} {m : Int} {a b : List SourceT.den} {l : List DefT.den} {o1 o2 o3 : Own} {H : Hp} {K : AVal → Hp → Prop} (hal : a.length ≤ 1000000000000) (hbl : b.length ≤ 1000000000000) (hll : l.length ≤ 100000000000) (hda : ∀ e : Src, e ∈ a → e.2.1.length ≤ 1000000000) (hdb : ∀ e : Src, e ∈ b → e.2.1.length ≤ 1000000000) (h : K (.bool (withinV a b l)) H) : FnC Try.prog ⟨n, T0 m⟩ 16 [.sl SourceT a o1, .sl SourceT b o2, .sl DefT l o3] H K := by
  refine fn_of_tr Try.func16 rfl (by decide) (by simp) ?_
  by_cases hab : a.length = b.length
  · repeat' (first | (refine kw (by assumption) ?_) | (refine tr_seqk ?_; intro K_ hK_) | (refine tr_block ?_) | (refine inBlock_normal ?_) | (refine andThen_normal ?_) | (refine And.intro (by omega) ?_) | (refine tr_return rfl rfl (Hp.Le.refl _) ?_) | (refine ends_normal rfl (Hp.Le.refl _) ?_) | (refine fun (b_ : Nat) hb_ => ?_) | (refine tr_regk 18 ?_; intro K_ hK_) | (refine tr_if ?_) | (refine tr_rege 18 ?_; intro K_ hK_) | (refine tr_skip ?_) | (refine tr_exit ?_) | (refine tr_drawk 18 followsF (by decide +kernel) ?_; intro K_ hK_) | (refine tr_drawe 18 followsF (by decide +kernel) ?_; intro K_ hK_) | (simp (maxSteps := 2000000) (disch := omega) only [go_sem, F, Nat.reduceLT, Nat.reduceLeDiff, Nat.reduceAdd, Nat.reduceEqDiff, ↓reduceIte, ↓reduceDIte, reduceCtorEq, Int.reduceLE, Int.reduceLT, Int.reduceToNat, UInt8.reduceOfNat, Nat.reduceSub, Int.reduceNeg, Nat.reduceMul, Int.reduceEq, Int.reduceBEq, Int.reduceBNe, ntmps16, hab]) | (refine gate_split (fun hc => ?_) (fun hc => ?_) <;> (try simp only [SB] at hc) <;> simp (disch := omega) only [hc, go_sem, F, Nat.reduceLT, Nat.reduceLeDiff, Nat.reduceAdd, Nat.reduceEqDiff, ↓reduceIte, ↓reduceDIte, reduceCtorEq, Int.reduceLE, Int.reduceLT, Int.reduceToNat, UInt8.reduceOfNat, Nat.reduceSub, Int.reduceNeg, Nat.reduceMul, Int.reduceEq, Int.reduceBEq, Int.reduceBNe, ntmps16, hab] <;> (try simp only [SC] at hc) <;> try (first | exact absurd (by assumption) hc | exact absurd hc (by assumption) | exact False.elim hc | (refine False.elim ?_; omega))))
    refine tr_while (by assumption) (α := Nat) (β := Unit) (fun x => [(17, .int .i64 x), (16, .int .i64 b.length), (0, .sl SourceT a o1), (1, .sl SourceT b o2), (2, .sl DefT l o3)]) (fun _ => H)
      (fun x => x ≤ b.length ∧ ∀ j, j < x → okI a b l j = true) (fun x => b.length - x) 0 (fun z => []) (fun _ => H) (fun z => ∀ j, j < b.length → okI a b l j = true) ?_ (Hp.Le.refl _) ⟨Nat.zero_le _, fun j hj => absurd hj (Nat.not_lt_zero _)⟩ ?_ ?_
    · simp only [go_sem, F, Nat.reduceLT, Nat.reduceLeDiff, Nat.reduceAdd, Nat.reduceEqDiff, ↓reduceIte, ↓reduceDIte, reduceCtorEq, Int.reduceLE, Int.reduceLT, Int.reduceToNat, UInt8.reduceOfNat, Nat.reduceSub, Int.reduceNeg, Nat.reduceMul, Int.reduceEq, Int.reduceBEq, Int.reduceBNe, Int.natCast_zero, hab]
    · rintro i ⟨hi, hok⟩
      by_cases hil : i < b.length
      · have hla := src_le hda i
        have hlb := src_le hdb i
        have hno := @within_no a b l i
        have hyes : okI a b l i = okI a b l i := rfl
        obtain ⟨⟨p1, d1, u1⟩, hg1⟩ : ∃ e : Src, a.getD i src0 = e := ⟨_, rfl⟩
        obtain ⟨⟨p2, d2, u2⟩, hg2⟩ : ∃ e : Src, b.getD i src0 = e := ⟨_, rfl⟩
        have hoi : okI a b l i = (match strL i d1 l 0 [] with | none => false | some x => p1 == p2 && standL x d2) := by unfold okI; rw [hg1, hg2]
        rw [hg1] at hla
        rw [hg2] at hlb
        simp only at hla hlb
        rw [hab] at hno
        cases hst : strL i d1 l 0 [] with
        | none =>
          rw [hst] at hoi
          simp only at hoi
          rw [hno hil hoi] at h
          have hsv : strV (strL i d1 l 0 []) = .tup [.sl (.sl .u8) [] .no, .bool false] := by rw [hst]; rfl
          repeat' (first | (refine kw (by assumption) ?_) | (refine tr_seqk ?_; intro K_ hK_) | (refine tr_block ?_) | (refine inBlock_normal ?_) | (refine andThen_normal ?_) | (refine And.intro (by omega) ?_) | (refine tr_return rfl rfl (Hp.Le.refl _) ?_) | (refine ends_normal rfl (Hp.Le.refl _) ?_) | (refine fun (b_ : Nat) hb_ => ?_) | (refine tr_regk 18 ?_; intro K_ hK_) | (refine tr_if ?_) | (refine tr_rege 18 ?_; intro K_ hK_) | (refine tr_skip ?_) | (refine tr_exit ?_) | (refine tr_drawk 18 followsF (by decide +kernel) ?_; intro K_ hK_) | (refine tr_drawe 18 followsF (by decide +kernel) ?_; intro K_ hK_) | (simp (maxSteps := 2000000) (disch := omega) only [go_sem, F, Nat.reduceLT, Nat.reduceLeDiff, Nat.reduceAdd, Nat.reduceEqDiff, ↓reduceIte, ↓reduceDIte, reduceCtorEq, Int.reduceLE, Int.reduceLT, Int.reduceToNat, UInt8.reduceOfNat, Nat.reduceSub, Int.reduceNeg, Nat.reduceMul, Int.reduceEq, Int.reduceBEq, Int.reduceBNe, ntmps16, hg1, hg2, hsv]) | (refine wFn_intro (stretches22 hla (by omega) ?_)) | (refine ⟨_, wFn_intro (stretches22 hla (by omega) ⟨rfl, rfl⟩), ?_⟩) | (refine gate_split (fun hc => ?_) (fun hc => ?_) <;> (try simp only [SB] at hc) <;> simp (disch := omega) only [hc, go_sem, F, Nat.reduceLT, Nat.reduceLeDiff, Nat.reduceAdd, Nat.reduceEqDiff, ↓reduceIte, ↓reduceDIte, reduceCtorEq, Int.reduceLE, Int.reduceLT, Int.reduceToNat, UInt8.reduceOfNat, Nat.reduceSub, Int.reduceNeg, Nat.reduceMul, Int.reduceEq, Int.reduceBEq, Int.reduceBNe, ntmps16, hg1, hg2, hsv] <;> (try simp only [SC] at hc) <;> try (first | exact absurd (by assumption) hc | exact absurd hc (by assumption) | exact False.elim hc | (refine False.elim ?_; omega))))
          all_goals exact h
        | some x =>
          rw [hst] at hoi
          simp only at hoi
          obtain ⟨hx0, hxl⟩ := strL_some i d1 l 0 [] x hst (by simp)
          have hxl' : ∀ y ∈ x, y.length ≤ 1000000000 := fun y hy => Nat.le_trans (hxl y hy) hla
          have hxn := strL_len i d1 l 0 [] x hst
          have hxn' : x.length ≤ 1000000000000 := by simp only [List.length_nil] at hxn; omega
          have hsv : strV (strL i d1 l 0 []) = .tup [.sl (.sl .u8) x .no, .bool true] := by rw [hst]; rfl
          by_cases hpp : p1 = p2
          · have hq : (p1 != p2) = false := by simpa using hpp
            rw [beq_iff_eq.2 hpp, Bool.true_and] at hoi
            cases hsl : standL x d2
            · rw [hsl] at hoi
              rw [hno hil hoi] at h
              repeat' (first | (refine kw (by assumption) ?_) | (refine tr_seqk ?_; intro K_ hK_) | (refine tr_block ?_) | (refine inBlock_normal ?_) | (refine andThen_normal ?_) | (refine And.intro (by omega) ?_) | (refine tr_return rfl rfl (Hp.Le.refl _) ?_) | (refine ends_normal rfl (Hp.Le.refl _) ?_) | (refine fun (b_ : Nat) hb_ => ?_) | (refine tr_regk 18 ?_; intro K_ hK_) | (refine tr_if ?_) | (refine tr_rege 18 ?_; intro K_ hK_) | (refine tr_skip ?_) | (refine tr_exit ?_) | (refine tr_drawk 18 followsF (by decide +kernel) ?_; intro K_ hK_) | (refine tr_drawe 18 followsF (by decide +kernel) ?_; intro K_ hK_) | (simp (maxSteps := 2000000) (disch := omega) only [go_sem, F, Nat.reduceLT, Nat.reduceLeDiff, Nat.reduceAdd, Nat.reduceEqDiff, ↓reduceIte, ↓reduceDIte, reduceCtorEq, Int.reduceLE, Int.reduceLT, Int.reduceToNat, UInt8.reduceOfNat, Nat.reduceSub, Int.reduceNeg, Nat.reduceMul, Int.reduceEq, Int.reduceBEq, Int.reduceBNe, ntmps16, hg1, hg2, hsv, hq, hsl]) | (refine wFn_intro (stretches22 hla (by omega) ?_)) | (refine wFn_intro (stand23 hx0 hxl' hxn' hlb ?_)) | (refine ⟨_, wFn_intro (stretches22 hla (by omega) ⟨rfl, rfl⟩), ?_⟩) | (refine ⟨_, wFn_intro (stand23 hx0 hxl' hxn' hlb ⟨rfl, rfl⟩), ?_⟩) | (refine gate_split (fun hc => ?_) (fun hc => ?_) <;> (try simp only [SB] at hc) <;> simp (disch := omega) only [hc, go_sem, F, Nat.reduceLT, Nat.reduceLeDiff, Nat.reduceAdd, Nat.reduceEqDiff, ↓reduceIte, ↓reduceDIte, reduceCtorEq, Int.reduceLE, Int.reduceLT, Int.reduceToNat, UInt8.reduceOfNat, Nat.reduceSub, Int.reduceNeg, Nat.reduceMul, Int.reduceEq, Int.reduceBEq, Int.reduceBNe, ntmps16, hg1, hg2, hsv, hq, hsl] <;> (try simp only [SC] at hc) <;> try (first | exact absurd (by assumption) hc | exact absurd hc (by assumption) | exact False.elim hc | (refine False.elim ?_; omega))))
              all_goals exact h
            · rw [hsl] at hoi
              repeat' (first | (refine kw (by assumption) ?_) | (refine tr_seqk ?_; intro K_ hK_) | (refine tr_block ?_) | (refine inBlock_normal ?_) | (refine andThen_normal ?_) | (refine And.intro (by omega) ?_) | (refine tr_return rfl rfl (Hp.Le.refl _) ?_) | (refine ends_normal rfl (Hp.Le.refl _) ?_) | (refine fun (b_ : Nat) hb_ => ?_) | (refine tr_regk 18 ?_; intro K_ hK_) | (refine tr_if ?_) | (refine tr_rege 18 ?_; intro K_ hK_) | (refine tr_skip ?_) | (refine tr_exit ?_) | (refine tr_drawk 18 followsF (by decide +kernel) ?_; intro K_ hK_) | (refine tr_drawe 18 followsF (by decide +kernel) ?_; intro K_ hK_) | (simp (maxSteps := 2000000) (disch := omega) only [go_sem, F, Nat.reduceLT, Nat.reduceLeDiff, Nat.reduceAdd, Nat.reduceEqDiff, ↓reduceIte, ↓reduceDIte, reduceCtorEq, Int.reduceLE, Int.reduceLT, Int.reduceToNat, UInt8.reduceOfNat, Nat.reduceSub, Int.reduceNeg, Nat.reduceMul, Int.reduceEq, Int.reduceBEq, Int.reduceBNe, ntmps16, hg1, hg2, hsv, hq, hsl]) | (refine wFn_intro (stretches22 hla (by omega) ?_)) | (refine wFn_intro (stand23 hx0 hxl' hxn' hlb ?_)) | (refine ⟨_, wFn_intro (stretches22 hla (by omega) ⟨rfl, rfl⟩), ?_⟩) | (refine ⟨_, wFn_intro (stand23 hx0 hxl' hxn' hlb ⟨rfl, rfl⟩), ?_⟩) | (refine gate_split (fun hc => ?_) (fun hc => ?_) <;> (try simp only [SB] at hc) <;> simp (disch := omega) only [hc, go_sem, F, Nat.reduceLT, Nat.reduceLeDiff, Nat.reduceAdd, Nat.reduceEqDiff, ↓reduceIte, ↓reduceDIte, reduceCtorEq, Int.reduceLE, Int.reduceLT, Int.reduceToNat, UInt8.reduceOfNat, Nat.reduceSub, Int.reduceNeg, Nat.reduceMul, Int.reduceEq, Int.reduceBEq, Int.reduceBNe, ntmps16, hg1, hg2, hsv, hq, hsl] <;> (try simp only [SC] at hc) <;> try (first | exact absurd (by assumption) hc | exact absurd hc (by assumption) | exact False.elim hc | (refine False.elim ?_; omega))))
              all_goals (refine ⟨i + 1, (by simp only [go_sem, F, Nat.reduceLT, Nat.reduceLeDiff, Nat.reduceAdd, Nat.reduceEqDiff, ↓reduceIte, ↓reduceDIte, reduceCtorEq, Int.reduceLE, Int.reduceLT, Int.reduceToNat, UInt8.reduceOfNat, Nat.reduceSub, Int.reduceNeg, Nat.reduceMul, Int.reduceEq, Int.reduceBEq, Int.reduceBNe, Option.some.injEq, AVal.int.injEq]; try omega), Hp.Le.refl _, ⟨by omega, fun j hj => ?_⟩, by omega⟩
                         rcases Nat.lt_or_ge j i with hji | hji
                         · exact hok j hji
                         · rw [show j = i by omega]; exact hoi)
          · have hq : (p1 != p2) = true := by simpa using hpp
            rw [beq_eq_false_iff_ne.2 hpp, Bool.false_and] at hoi
            rw [hno hil hoi] at h
            repeat' (first | (refine kw (by assumption) ?_) | (refine tr_seqk ?_; intro K_ hK_) | (refine tr_block ?_) | (refine inBlock_normal ?_) | (refine andThen_normal ?_) | (refine And.intro (by omega) ?_) | (refine tr_return rfl rfl (Hp.Le.refl _) ?_) | (refine ends_normal rfl (Hp.Le.refl _) ?_) | (refine fun (b_ : Nat) hb_ => ?_) | (refine tr_regk 18 ?_; intro K_ hK_) | (refine tr_if ?_) | (refine tr_rege 18 ?_; intro K_ hK_) | (refine tr_skip ?_) | (refine tr_exit ?_) | (refine tr_drawk 18 followsF (by decide +kernel) ?_; intro K_ hK_) | (refine tr_drawe 18 followsF (by decide +kernel) ?_; intro K_ hK_) | (simp (maxSteps := 2000000) (disch := omega) only [go_sem, F, Nat.reduceLT, Nat.reduceLeDiff, Nat.reduceAdd, Nat.reduceEqDiff, ↓reduceIte, ↓reduceDIte, reduceCtorEq, Int.reduceLE, Int.reduceLT, Int.reduceToNat, UInt8.reduceOfNat, Nat.reduceSub, Int.reduceNeg, Nat.reduceMul, Int.reduceEq, Int.reduceBEq, Int.reduceBNe, ntmps16, hg1, hg2, hsv, hq]) | (refine wFn_intro (stretches22 hla (by omega) ?_)) | (refine wFn_intro (stand23 hx0 hxl' hxn' hlb ?_)) | (refine ⟨_, wFn_intro (stretches22 hla (by omega) ⟨rfl, rfl⟩), ?_⟩) | (refine ⟨_, wFn_intro (stand23 hx0 hxl' hxn' hlb ⟨rfl, rfl⟩), ?_⟩) | (refine gate_split (fun hc => ?_) (fun hc => ?_) <;> (try simp only [SB] at hc) <;> simp (disch := omega) only [hc, go_sem, F, Nat.reduceLT, Nat.reduceLeDiff, Nat.reduceAdd, Nat.reduceEqDiff, ↓reduceIte, ↓reduceDIte, reduceCtorEq, Int.reduceLE, Int.reduceLT, Int.reduceToNat, UInt8.reduceOfNat, Nat.reduceSub, Int.reduceNeg, Nat.reduceMul, Int.reduceEq, Int.reduceBEq, Int.reduceBNe, ntmps16, hg1, hg2, hsv, hq] <;> (try simp only [SC] at hc) <;> try (first | exact absurd (by assumption) hc | exact absurd hc (by assumption) | exact False.elim hc | (refine False.elim ?_; omega))))
            all_goals exact h
      · have hie : i = b.length := by omega
        subst hie
        repeat' (first | (refine kw (by assumption) ?_) | (refine tr_seqk ?_; intro K_ hK_) | (refine tr_block ?_) | (refine inBlock_normal ?_) | (refine andThen_normal ?_) | (refine And.intro (by omega) ?_) | (refine tr_return rfl rfl (Hp.Le.refl _) ?_) | (refine ends_normal rfl (Hp.Le.refl _) ?_) | (refine fun (b_ : Nat) hb_ => ?_) | (refine tr_regk 18 ?_; intro K_ hK_) | (refine tr_if ?_) | (refine tr_rege 18 ?_; intro K_ hK_) | (refine tr_skip ?_) | (refine tr_exit ?_) | (refine tr_drawk 18 followsF (by decide +kernel) ?_; intro K_ hK_) | (refine tr_drawe 18 followsF (by decide +kernel) ?_; intro K_ hK_) | (simp (maxSteps := 2000000) (disch := omega) only [go_sem, F, Nat.reduceLT, Nat.reduceLeDiff, Nat.reduceAdd, Nat.reduceEqDiff, ↓reduceIte, ↓reduceDIte, reduceCtorEq, Int.reduceLE, Int.reduceLT, Int.reduceToNat, UInt8.reduceOfNat, Nat.reduceSub, Int.reduceNeg, Nat.reduceMul, Int.reduceEq, Int.reduceBEq, Int.reduceBNe, ntmps16]) | (refine gate_split (fun hc => ?_) (fun hc => ?_) <;> (try simp only [SB] at hc) <;> simp (disch := omega) only [hc, go_sem, F, Nat.reduceLT, Nat.reduceLeDiff, Nat.reduceAdd, Nat.reduceEqDiff, ↓reduceIte, ↓reduceDIte, reduceCtorEq, Int.reduceLE, Int.reduceLT, Int.reduceToNat, UInt8.reduceOfNat, Nat.reduceSub, Int.reduceNeg, Nat.reduceMul, Int.reduceEq, Int.reduceBEq, Int.reduceBNe, ntmps16] <;> (try simp only [SC] at hc) <;> try (first | exact absurd (by assumption) hc | exact absurd hc (by assumption) | exact False.elim hc | (refine False.elim ?_; omega))))
        all_goals exact ⟨(), Hp.Le.refl _, hok⟩
    · rintro - hok
      rw [within_yes hab (by rw [hab]; exact hok)] at h
      repeat' (first | (refine kw (by assumption) ?_) | (refine tr_seqk ?_; intro K_ hK_) | (refine tr_block ?_) | (refine inBlock_normal ?_) | (refine andThen_normal ?_) | (refine And.intro (by omega) ?_) | (refine tr_return rfl rfl (Hp.Le.refl _) ?_) | (refine ends_normal rfl (Hp.Le.refl _) ?_) | (refine fun (b_ : Nat) hb_ => ?_) | (refine tr_regk 18 ?_; intro K_ hK_) | (refine tr_if ?_) | (refine tr_rege 18 ?_; intro K_ hK_) | (refine tr_skip ?_) | (refine tr_exit ?_) | (refine tr_drawk 18 followsF (by decide +kernel) ?_; intro K_ hK_) | (refine tr_drawe 18 followsF (by decide +kernel) ?_; intro K_ hK_) | (simp (maxSteps := 2000000) (disch := omega) only [go_sem, F, Nat.reduceLT, Nat.reduceLeDiff, Nat.reduceAdd, Nat.reduceEqDiff, ↓reduceIte, ↓reduceDIte, reduceCtorEq, Int.reduceLE, Int.reduceLT, Int.reduceToNat, UInt8.reduceOfNat, Nat.reduceSub, Int.reduceNeg, Nat.reduceMul, Int.reduceEq, Int.reduceBEq, Int.reduceBNe, ntmps16]) | (refine gate_split (fun hc => ?_) (fun hc => ?_) <;> (try simp only [SB] at hc) <;> simp (disch := omega) only [hc, go_sem, F, Nat.reduceLT, Nat.reduceLeDiff, Nat.reduceAdd, Nat.reduceEqDiff, ↓reduceIte, ↓reduceDIte, reduceCtorEq, Int.reduceLE, Int.reduceLT, Int.reduceToNat, UInt8.reduceOfNat, Nat.reduceSub, Int.reduceNeg, Nat.reduceMul, Int.reduceEq, Int.reduceBEq, Int.reduceBNe, ntmps16] <;> (try simp only [SC] at hc) <;> try (first | exact absurd (by assumption) hc | exact absurd hc (by assumption) | exact False.elim hc | (refine False.elim ?_; omega))))
      exact h
  · have : withinV a b l = false := by unfold withinV; rw [decide_eq_false hab, Bool.false_and]
    rw [this] at h
    repeat' (first | (refine kw (by assumption) ?_) | (refine tr_seqk ?_; intro K_ hK_) | (refine tr_block ?_) | (refine inBlock_normal ?_) | (refine andThen_normal ?_) | (refine And.intro (by omega) ?_) | (refine tr_return rfl rfl (Hp.Le.refl _) ?_) | (refine ends_normal rfl (Hp.Le.refl _) ?_) | (refine fun (b_ : Nat) hb_ => ?_) | (refine tr_regk 18 ?_; intro K_ hK_) | (refine tr_if ?_) | (refine tr_rege 18 ?_; intro K_ hK_) | (refine tr_skip ?_) | (refine tr_exit ?_) | (refine tr_drawk 18 followsF (by decide +kernel) ?_; intro K_ hK_) | (refine tr_drawe 18 followsF (by decide +kernel) ?_; intro K_ hK_) | (simp (maxSteps := 2000000) (disch := omega) only [go_sem, F, Nat.reduceLT, Nat.reduceLeDiff, Nat.reduceAdd, Nat.reduceEqDiff, ↓reduceIte, ↓reduceDIte, reduceCtorEq, Int.reduceLE, Int.reduceLT, Int.reduceToNat, UInt8.reduceOfNat, Nat.reduceSub, Int.reduceNeg, Nat.reduceMul, Int.reduceEq, Int.reduceBEq, Int.reduceBNe, ntmps16]) | (refine gate_split (fun hc => ?_) (fun hc => ?_) <;> (try simp only [SB] at hc) <;> simp (disch := omega) only [hc, go_sem, F, Nat.reduceLT, Nat.reduceLeDiff, Nat.reduceAdd, Nat.reduceEqDiff, ↓reduceIte, ↓reduceDIte, reduceCtorEq, Int.reduceLE, Int.reduceLT, Int.reduceToNat, UInt8.reduceOfNat, Nat.reduceSub, Int.reduceNeg, Nat.reduceMul, Int.reduceEq, Int.reduceBEq, Int.reduceBNe, ntmps16] <;> (try simp only [SC] at hc) <;> try (first | exact absurd (by assumption) hc | exact absurd hc (by assumption) | exact False.elim hc | (refine False.elim ?_; omega))))
    all_goals first | exact h | (exfalso; omega)
end Go.Proofs.Ytopegdkhoafajaa
