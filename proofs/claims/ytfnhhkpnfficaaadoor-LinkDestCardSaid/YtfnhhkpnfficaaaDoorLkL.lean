/- Links: what LinkDest computes: step by step. Own work; printed from wip/law11/l.in by pre2.py. -/
import Derived.Test.YtfnhhkpnfficaaaDoorLkI
namespace Go.Proofs.YtfnhhkpnfficaaaDoor
open Go.Sv
set_option linter.unusedSimpArgs false
set_option linter.unusedVariables false
set_option maxRecDepth 100000

def fixR (n : Int) : Int := if 55296 ≤ n ∧ n ≤ 57343 then 65533 else n
theorem fix_bytes {n : Int} (h0 : 0 ≤ n) (h1 : n ≤ 65535) : runeBytes n = runeBytes (fixR n) := by
  unfold fixR
  split
  · rename_i h
    obtain ⟨m, rfl⟩ : ∃ m : Nat, n = m := ⟨n.toNat, by omega⟩
    rw [rune_bad (by omega) (by omega)]
    decide
  · rfl
theorem fix_ok {n : Int} (h0 : 0 ≤ n) (h1 : n ≤ 65535) : OkR (fixR n) := by
  unfold fixR
  split
  · exact ⟨65533, rfl, by decide⟩
  · rename_i h
    refine ⟨n.toNat, by omega, ?_⟩
    unfold Utf8.valid
    rw [Bool.or_eq_true, Bool.and_eq_true, decide_eq_true_eq, decide_eq_true_eq, Bool.and_eq_true, decide_eq_true_eq, decide_eq_true_eq]
    omega
theorem fix_blank {n : Int} (h : blankR n = false) : blankR (fixR n) = false := by
  unfold fixR
  split
  · decide
  · exact h
theorem wrap_u16i {x : Int} (h0 : 0 ≤ x) (h1 : x ≤ 65535) : IntKind.i32.wrap x = x := wrap_i32 (by omega) (by omega)
theorem getD_range {ws : List Int} (hw : ∀ x ∈ ws, 0 ≤ x ∧ x ≤ 65535) (i : Nat) : 0 ≤ ws.getD i 0 ∧ ws.getD i 0 ≤ 65535 := by
  rw [List.getD_eq_getElem?_getD]
  cases h : ws[i]? with
  | none => exact ⟨by decide, by decide⟩
  | some x => exact hw x (List.mem_of_getElem? h)
/-- What is taken of a row: no blanks, no signs that are none. -/
def keepR (n : Int) : Bool := !blankR n && !(n == 65533)
def takenL (ws : List Int) : List Int := (ws.filter keepR).map fixR
theorem taken_ok {ws : List Int} (hw : ∀ x ∈ ws, 0 ≤ x ∧ x ≤ 65535) : ∀ r ∈ takenL ws, OkR r ∧ blankR r = false := by
  intro r hr
  unfold takenL at hr
  obtain ⟨x, hx, rfl⟩ := List.mem_map.1 hr
  obtain ⟨h1, h2⟩ := List.mem_filter.1 hx
  have := hw x h1
  unfold keepR at h2
  rw [Bool.and_eq_true] at h2
  exact ⟨fix_ok this.1 this.2, fix_blank (by simpa using h2.1)⟩
theorem taken_next {ws : List Int} {i : Nat} (h : i < ws.length) : takenL (ws.take (i + 1)) = takenL (ws.take i) ++ (if keepR (ws.getD i 0) = true then [fixR (ws.getD i 0)] else []) := by
  unfold takenL
  rw [List.take_add_one, List.getElem?_eq_getElem h, List.filter_append, List.map_append, List.getD_eq_getElem?_getD, List.getElem?_eq_getElem h]
  congr 1
  show (List.filter keepR [ws[i]]).map fixR = if keepR ws[i] = true then [fixR ws[i]] else []
  rw [List.filter_cons]
  split <;> rfl
theorem taken_len (ws : List Int) : (takenL ws).length ≤ ws.length := by
  unfold takenL
  rw [List.length_map]
  exact List.length_filter_le _ _
theorem q_len : ∀ l : List Int, (qAll l).length ≤ 5 * l.length
  | [] => by simp [qAll]
  | r :: l => by
    have h1 := q_len l
    have h2 := (runeBytes_len r).2
    have e : qAll (r :: l) = qOne r ++ qAll l := by unfold qAll; rw [List.flatMap_cons]
    rw [e, List.length_append, List.length_cons]
    unfold qOne
    rw [List.length_append]
    have : (if asciiP r = true then [92] else ([] : List UInt8)).length ≤ 1 := by split <;> simp
    omega
theorem enc_snoc (l : List Int) (r : Int) : (l ++ [r]).flatMap runeBytes = l.flatMap runeBytes ++ runeBytes r := by simp
theorem q_snoc (l : List Int) (r : Int) : qAll (l ++ [r]) = qAll l ++ qOne r := by unfold qAll; simp
theorem ntmps10 : Tryd.f10.ntmps = 86 := rfl
set_option maxHeartbeats 16000000 in
theorem dest10 {q0 : Nat} {m0 : Int} {ws : List Int} {o : Own} {H : Hp} {K : AVal → Hp → Prop} (hw : ∀ x ∈ ws, 0 ≤ x ∧ x ≤ 65535) (h : K (.bool true) H) :
    FnC Tryd.prog ⟨q0, T9 m0⟩ 10 [.sl (.int .u16) ws o] H K := by
  refine fn_of_tr Tryd.func10 rfl (by decide) (by simp) ?_
  repeat' (first | (refine kw (by assumption) ?_) | (refine tr_seqk ?_; intro K_ hK_) | (refine tr_block ?_) | (refine inBlock_normal ?_) | (refine andThen_normal ?_) | (refine And.intro (by omega) ?_) | (refine tr_return rfl rfl (Hp.Le.refl _) ?_) | (refine ends_normal rfl (Hp.Le.refl _) ?_) | (refine fun (b_ : Nat) hb_ => ?_) | (refine tr_regk 15 ?_; intro K_ hK_) | (refine tr_if ?_) | (refine tr_rege 15 ?_; intro K_ hK_) | (refine tr_skip ?_) | (refine tr_exit ?_) | (refine tr_drawk 15 followsF (by decide +kernel) ?_; intro K_ hK_) | (refine tr_drawe 15 followsF (by decide +kernel) ?_; intro K_ hK_) | (simp (maxSteps := 2000000) (disch := omega) only [go_sem, F, Nat.reduceLT, Nat.reduceLeDiff, Nat.reduceAdd, Nat.reduceEqDiff, ↓reduceIte, reduceCtorEq, Int.reduceLE, Int.reduceLT, Int.reduceToNat, UInt8.reduceOfNat, Nat.reduceSub, Int.reduceNeg, Nat.reduceMul, Int.reduceEq, Int.reduceBEq, Int.reduceBNe, ntmps10]) | (refine gate_split (fun hc => ?_) (fun hc => ?_) <;> (try simp only [SB] at hc) <;> simp (disch := omega) only [hc, go_sem, F, Nat.reduceLT, Nat.reduceLeDiff, Nat.reduceAdd, Nat.reduceEqDiff, ↓reduceIte, reduceCtorEq, Int.reduceLE, Int.reduceLT, Int.reduceToNat, UInt8.reduceOfNat, Nat.reduceSub, Int.reduceNeg, Nat.reduceMul, Int.reduceEq, Int.reduceBEq, Int.reduceBNe, ntmps10] <;> (try simp only [SC] at hc) <;> try (first | exact absurd (by assumption) hc | exact absurd hc (by assumption) | exact False.elim hc | (refine False.elim ?_; omega))))
  refine tr_while (by assumption) (α := Nat) (β := List Int) (fun i => [(0, .sl (.int .u16) ws o), (3, .str ((takenL (ws.take i)).flatMap runeBytes)), (4, .int .i64 i)]) (fun _ => H) (fun i => i ≤ ws.length ∧ i ≤ 20) (fun i => 20 - i) 0
    (fun l => [(3, .str (l.flatMap runeBytes))]) (fun _ => H) (fun l => (∀ r ∈ l, OkR r ∧ blankR r = false) ∧ l.length ≤ 20) ?_ (Hp.Le.refl _) ⟨Nat.zero_le _, Nat.zero_le _⟩ ?_ ?_
  · simp only [go_sem, F, Nat.reduceLT, Nat.reduceLeDiff, Nat.reduceAdd, Nat.reduceEqDiff, ↓reduceIte, reduceCtorEq, Int.reduceLE, Int.reduceLT, Int.reduceToNat, UInt8.reduceOfNat, Nat.reduceSub, Int.reduceNeg, Nat.reduceMul, Int.reduceEq, Int.reduceBEq, Int.reduceBNe, Int.natCast_zero, List.take_zero, takenL, List.filter_nil, List.map_nil, List.flatMap_nil]
  · rintro i ⟨hi, hi2⟩
    have htl := taken_len (ws.take i)
    rw [List.length_take] at htl
    have hrl := runes_len (takenL (ws.take i))
    by_cases hil : i < ws.length ∧ i < 20
    · obtain ⟨hil, hi20⟩ := hil
      have hnx := taken_next hil
      have hr := getD_range hw i
      have hwr := wrap_u16i hr.1 hr.2
      have hfb := fix_bytes hr.1 hr.2
      generalize hx : ws.getD i 0 = x at *
      have hbl := runeBytes_len x
      cases hb : blankR x
      · by_cases h3 : x = 65533
        · have hk : keepR x = false := by unfold keepR; rw [hb, h3]; decide
          rw [hk, if_neg (by simp), List.append_nil] at hnx
          have e3 : (x = 65533) = True := eq_true h3
          repeat' (first | (refine kw (by assumption) ?_) | (refine tr_seqk ?_; intro K_ hK_) | (refine tr_block ?_) | (refine inBlock_normal ?_) | (refine andThen_normal ?_) | (refine And.intro (by omega) ?_) | (refine tr_return rfl rfl (Hp.Le.refl _) ?_) | (refine ends_normal rfl (Hp.Le.refl _) ?_) | (refine fun (b_ : Nat) hb_ => ?_) | (refine tr_regk 15 ?_; intro K_ hK_) | (refine tr_if ?_) | (refine tr_rege 15 ?_; intro K_ hK_) | (refine tr_skip ?_) | (refine tr_exit ?_) | (refine tr_drawk 15 followsF (by decide +kernel) ?_; intro K_ hK_) | (refine tr_drawe 15 followsF (by decide +kernel) ?_; intro K_ hK_) | (simp (maxSteps := 2000000) (disch := omega) only [go_sem, F, Nat.reduceLT, Nat.reduceLeDiff, Nat.reduceAdd, Nat.reduceEqDiff, ↓reduceIte, reduceCtorEq, Int.reduceLE, Int.reduceLT, Int.reduceToNat, UInt8.reduceOfNat, Nat.reduceSub, Int.reduceNeg, Nat.reduceMul, Int.reduceEq, Int.reduceBEq, Int.reduceBNe, ntmps10, hx, hwr, hb, e3]) | (refine wFn_intro (rblank25 ?_)) | (refine ⟨_, wFn_intro (rblank25 ⟨rfl, rfl⟩), ?_⟩) | (refine gate_split (fun hc => ?_) (fun hc => ?_) <;> (try simp only [SB] at hc) <;> simp (disch := omega) only [hc, go_sem, F, Nat.reduceLT, Nat.reduceLeDiff, Nat.reduceAdd, Nat.reduceEqDiff, ↓reduceIte, reduceCtorEq, Int.reduceLE, Int.reduceLT, Int.reduceToNat, UInt8.reduceOfNat, Nat.reduceSub, Int.reduceNeg, Nat.reduceMul, Int.reduceEq, Int.reduceBEq, Int.reduceBNe, ntmps10, hx, hwr, hb, e3] <;> (try simp only [SC] at hc) <;> try (first | exact absurd (by assumption) hc | exact absurd hc (by assumption) | exact False.elim hc | (refine False.elim ?_; omega))))
          all_goals first
            | exact ⟨i + 1, by rw [hnx]; exact (by simp only [go_sem, F, Nat.reduceLT, Nat.reduceLeDiff, Nat.reduceAdd, Nat.reduceEqDiff, ↓reduceIte, reduceCtorEq, Int.reduceLE, Int.reduceLT, Int.reduceToNat, UInt8.reduceOfNat, Nat.reduceSub, Int.reduceNeg, Nat.reduceMul, Int.reduceEq, Int.reduceBEq, Int.reduceBNe, Option.some.injEq, AVal.int.injEq]; try omega), Hp.Le.refl _, ⟨by omega, by omega⟩, by omega⟩
            | skip
        · have hk : keepR x = true := by unfold keepR; rw [hb, beq_eq_false_iff_ne.2 h3]; rfl
          rw [hk, if_pos rfl] at hnx
          have e3 : (x = 65533) = False := eq_false h3
          have hes := enc_snoc (takenL (ws.take i)) (fixR x)
          rw [← hfb] at hes
          repeat' (first | (refine kw (by assumption) ?_) | (refine tr_seqk ?_; intro K_ hK_) | (refine tr_block ?_) | (refine inBlock_normal ?_) | (refine andThen_normal ?_) | (refine And.intro (by omega) ?_) | (refine tr_return rfl rfl (Hp.Le.refl _) ?_) | (refine ends_normal rfl (Hp.Le.refl _) ?_) | (refine fun (b_ : Nat) hb_ => ?_) | (refine tr_regk 15 ?_; intro K_ hK_) | (refine tr_if ?_) | (refine tr_rege 15 ?_; intro K_ hK_) | (refine tr_skip ?_) | (refine tr_exit ?_) | (refine tr_drawk 15 followsF (by decide +kernel) ?_; intro K_ hK_) | (refine tr_drawe 15 followsF (by decide +kernel) ?_; intro K_ hK_) | (simp (maxSteps := 2000000) (disch := omega) only [go_sem, F, Nat.reduceLT, Nat.reduceLeDiff, Nat.reduceAdd, Nat.reduceEqDiff, ↓reduceIte, reduceCtorEq, Int.reduceLE, Int.reduceLT, Int.reduceToNat, UInt8.reduceOfNat, Nat.reduceSub, Int.reduceNeg, Nat.reduceMul, Int.reduceEq, Int.reduceBEq, Int.reduceBNe, ntmps10, hx, hwr, hb, e3, List.length_append]) | (refine wFn_intro (rblank25 ?_)) | (refine ⟨_, wFn_intro (rblank25 ⟨rfl, rfl⟩), ?_⟩) | (refine gate_split (fun hc => ?_) (fun hc => ?_) <;> (try simp only [SB] at hc) <;> simp (disch := omega) only [hc, go_sem, F, Nat.reduceLT, Nat.reduceLeDiff, Nat.reduceAdd, Nat.reduceEqDiff, ↓reduceIte, reduceCtorEq, Int.reduceLE, Int.reduceLT, Int.reduceToNat, UInt8.reduceOfNat, Nat.reduceSub, Int.reduceNeg, Nat.reduceMul, Int.reduceEq, Int.reduceBEq, Int.reduceBNe, ntmps10, hx, hwr, hb, e3, List.length_append] <;> (try simp only [SC] at hc) <;> try (first | exact absurd (by assumption) hc | exact absurd hc (by assumption) | exact False.elim hc | (refine False.elim ?_; omega))))
          all_goals first
            | exact ⟨i + 1, by rw [hnx, hes]; exact (by simp only [go_sem, F, Nat.reduceLT, Nat.reduceLeDiff, Nat.reduceAdd, Nat.reduceEqDiff, ↓reduceIte, reduceCtorEq, Int.reduceLE, Int.reduceLT, Int.reduceToNat, UInt8.reduceOfNat, Nat.reduceSub, Int.reduceNeg, Nat.reduceMul, Int.reduceEq, Int.reduceBEq, Int.reduceBNe, Option.some.injEq, AVal.int.injEq]; try omega), Hp.Le.refl _, ⟨by omega, by omega⟩, by omega⟩
            | skip
      · have hk : keepR x = false := by unfold keepR; rw [hb]; rfl
        rw [hk, if_neg (by simp), List.append_nil] at hnx
        repeat' (first | (refine kw (by assumption) ?_) | (refine tr_seqk ?_; intro K_ hK_) | (refine tr_block ?_) | (refine inBlock_normal ?_) | (refine andThen_normal ?_) | (refine And.intro (by omega) ?_) | (refine tr_return rfl rfl (Hp.Le.refl _) ?_) | (refine ends_normal rfl (Hp.Le.refl _) ?_) | (refine fun (b_ : Nat) hb_ => ?_) | (refine tr_regk 15 ?_; intro K_ hK_) | (refine tr_if ?_) | (refine tr_rege 15 ?_; intro K_ hK_) | (refine tr_skip ?_) | (refine tr_exit ?_) | (refine tr_drawk 15 followsF (by decide +kernel) ?_; intro K_ hK_) | (refine tr_drawe 15 followsF (by decide +kernel) ?_; intro K_ hK_) | (simp (maxSteps := 2000000) (disch := omega) only [go_sem, F, Nat.reduceLT, Nat.reduceLeDiff, Nat.reduceAdd, Nat.reduceEqDiff, ↓reduceIte, reduceCtorEq, Int.reduceLE, Int.reduceLT, Int.reduceToNat, UInt8.reduceOfNat, Nat.reduceSub, Int.reduceNeg, Nat.reduceMul, Int.reduceEq, Int.reduceBEq, Int.reduceBNe, ntmps10, hx, hwr, hb]) | (refine wFn_intro (rblank25 ?_)) | (refine ⟨_, wFn_intro (rblank25 ⟨rfl, rfl⟩), ?_⟩) | (refine gate_split (fun hc => ?_) (fun hc => ?_) <;> (try simp only [SB] at hc) <;> simp (disch := omega) only [hc, go_sem, F, Nat.reduceLT, Nat.reduceLeDiff, Nat.reduceAdd, Nat.reduceEqDiff, ↓reduceIte, reduceCtorEq, Int.reduceLE, Int.reduceLT, Int.reduceToNat, UInt8.reduceOfNat, Nat.reduceSub, Int.reduceNeg, Nat.reduceMul, Int.reduceEq, Int.reduceBEq, Int.reduceBNe, ntmps10, hx, hwr, hb] <;> (try simp only [SC] at hc) <;> try (first | exact absurd (by assumption) hc | exact absurd hc (by assumption) | exact False.elim hc | (refine False.elim ?_; omega))))
        all_goals first
          | exact ⟨i + 1, by rw [hnx]; exact (by simp only [go_sem, F, Nat.reduceLT, Nat.reduceLeDiff, Nat.reduceAdd, Nat.reduceEqDiff, ↓reduceIte, reduceCtorEq, Int.reduceLE, Int.reduceLT, Int.reduceToNat, UInt8.reduceOfNat, Nat.reduceSub, Int.reduceNeg, Nat.reduceMul, Int.reduceEq, Int.reduceBEq, Int.reduceBNe, Option.some.injEq, AVal.int.injEq]; try omega), Hp.Le.refl _, ⟨by omega, by omega⟩, by omega⟩
          | skip
    · have hok : ∀ r ∈ takenL (ws.take i), OkR r ∧ blankR r = false := taken_ok (fun x hx => hw x (List.mem_of_mem_take hx))
      repeat' (first | (refine kw (by assumption) ?_) | (refine tr_seqk ?_; intro K_ hK_) | (refine tr_block ?_) | (refine inBlock_normal ?_) | (refine andThen_normal ?_) | (refine And.intro (by omega) ?_) | (refine tr_return rfl rfl (Hp.Le.refl _) ?_) | (refine ends_normal rfl (Hp.Le.refl _) ?_) | (refine fun (b_ : Nat) hb_ => ?_) | (refine tr_regk 15 ?_; intro K_ hK_) | (refine tr_if ?_) | (refine tr_rege 15 ?_; intro K_ hK_) | (refine tr_skip ?_) | (refine tr_exit ?_) | (refine tr_drawk 15 followsF (by decide +kernel) ?_; intro K_ hK_) | (refine tr_drawe 15 followsF (by decide +kernel) ?_; intro K_ hK_) | (simp (maxSteps := 2000000) (disch := omega) only [go_sem, F, Nat.reduceLT, Nat.reduceLeDiff, Nat.reduceAdd, Nat.reduceEqDiff, ↓reduceIte, reduceCtorEq, Int.reduceLE, Int.reduceLT, Int.reduceToNat, UInt8.reduceOfNat, Nat.reduceSub, Int.reduceNeg, Nat.reduceMul, Int.reduceEq, Int.reduceBEq, Int.reduceBNe, ntmps10]) | (refine gate_split (fun hc => ?_) (fun hc => ?_) <;> (try simp only [SB] at hc) <;> simp (disch := omega) only [hc, go_sem, F, Nat.reduceLT, Nat.reduceLeDiff, Nat.reduceAdd, Nat.reduceEqDiff, ↓reduceIte, reduceCtorEq, Int.reduceLE, Int.reduceLT, Int.reduceToNat, UInt8.reduceOfNat, Nat.reduceSub, Int.reduceNeg, Nat.reduceMul, Int.reduceEq, Int.reduceBEq, Int.reduceBNe, ntmps10] <;> (try simp only [SC] at hc) <;> try (first | exact absurd (by assumption) hc | exact absurd hc (by assumption) | exact False.elim hc | (refine False.elim ?_; omega))))
      all_goals first
        | exact ⟨takenL (ws.take i), (by simp only [go_sem, F, Nat.reduceLT, Nat.reduceLeDiff, Nat.reduceAdd, Nat.reduceEqDiff, ↓reduceIte, reduceCtorEq, Int.reduceLE, Int.reduceLT, Int.reduceToNat, UInt8.reduceOfNat, Nat.reduceSub, Int.reduceNeg, Nat.reduceMul, Int.reduceEq, Int.reduceBEq, Int.reduceBNe, Option.some.injEq, AVal.int.injEq]; try omega), Hp.Le.refl _, hok, by omega⟩
        | skip
  · rintro l ⟨hok, hll⟩
    have hvr : vr (l.flatMap runeBytes) = l := vr_enc l (fun r hr => (hok r hr).1)
    have hlaw := destL_law l hok
    have hql := q_len l
    have hel := runes_len l
    generalize ht : l.flatMap runeBytes = t at *
    repeat' (first | (refine kw (by assumption) ?_) | (refine tr_seqk ?_; intro K_ hK_) | (refine tr_block ?_) | (refine inBlock_normal ?_) | (refine andThen_normal ?_) | (refine And.intro (by omega) ?_) | (refine tr_return rfl rfl (Hp.Le.refl _) ?_) | (refine ends_normal rfl (Hp.Le.refl _) ?_) | (refine fun (b_ : Nat) hb_ => ?_) | (refine tr_regk 45 ?_; intro K_ hK_) | (refine tr_if ?_) | (refine tr_rege 45 ?_; intro K_ hK_) | (refine tr_skip ?_) | (refine tr_exit ?_) | (refine tr_drawk 45 followsF (by decide +kernel) ?_; intro K_ hK_) | (refine tr_drawe 45 followsF (by decide +kernel) ?_; intro K_ hK_) | (simp (maxSteps := 2000000) (disch := omega) only [go_sem, F, Nat.reduceLT, Nat.reduceLeDiff, Nat.reduceAdd, Nat.reduceEqDiff, ↓reduceIte, reduceCtorEq, Int.reduceLE, Int.reduceLT, Int.reduceToNat, UInt8.reduceOfNat, Nat.reduceSub, Int.reduceNeg, Nat.reduceMul, Int.reduceEq, Int.reduceBEq, Int.reduceBNe, ntmps10]) | (refine gate_split (fun hc => ?_) (fun hc => ?_) <;> (try simp only [SB] at hc) <;> simp (disch := omega) only [hc, go_sem, F, Nat.reduceLT, Nat.reduceLeDiff, Nat.reduceAdd, Nat.reduceEqDiff, ↓reduceIte, reduceCtorEq, Int.reduceLE, Int.reduceLT, Int.reduceToNat, UInt8.reduceOfNat, Nat.reduceSub, Int.reduceNeg, Nat.reduceMul, Int.reduceEq, Int.reduceBEq, Int.reduceBNe, ntmps10] <;> (try simp only [SC] at hc) <;> try (first | exact absurd (by assumption) hc | exact absurd hc (by assumption) | exact False.elim hc | (refine False.elim ?_; omega))))
    refine tr_while (by assumption) (α := List Int × Nat) (β := Unit) (fun x => [(3, .str t), (6, .str ([40] ++ qAll x.1)), (42, .ptr (some ⟨b_, 0, none⟩))])
      (fun x => H.set b_ (some (.iter t x.2))) (fun x => x.1 ++ vr (t.drop x.2) = l) (fun x => t.length - x.2) ([], 0)
      (fun _ => [(3, .str t), (6, .str ([40] ++ qAll l))]) (fun _ => H) (fun _ => True) ?_ (Hp.Le.refl _) (by rw [List.nil_append, List.drop_zero]; exact hvr) ?_ ?_
    · simp only [go_sem, F, Nat.reduceLT, Nat.reduceLeDiff, Nat.reduceAdd, Nat.reduceEqDiff, ↓reduceIte, reduceCtorEq, Int.reduceLE, Int.reduceLT, Int.reduceToNat, UInt8.reduceOfNat, Nat.reduceSub, Int.reduceNeg, Nat.reduceMul, Int.reduceEq, Int.reduceBEq, Int.reduceBNe, Int.natCast_zero, qAll, List.flatMap_nil, List.append_nil]
    · rintro ⟨m, pos⟩ hm
      simp only at hm
      have hd1 := decU_pos t pos
      by_cases hpl : pos < t.length
      · have hml : m.length ≤ l.length := by rw [← hm, List.length_append]; omega
        have hqm := q_len m
        rw [vr_step hpl] at hm
        have hru := decU_ok t pos
        have hrb := runeBytes_len (decU t pos).1
        generalize hD : decU t pos = D at *
        obtain ⟨r, w⟩ := D
        simp only at hm hru hrb hd1
        have hqs := q_snoc m r
        have hm2 : (m ++ [(r : Int)]) ++ vr (t.drop (pos + w)) = l := by rw [List.append_assoc]; exact hm
        unfold qOne at hqs
        cases ha : asciiP (r : Int)
        · rw [ha, if_neg (by simp), List.nil_append] at hqs
          repeat' (first | (refine kw (by assumption) ?_) | (refine tr_seqk ?_; intro K_ hK_) | (refine tr_block ?_) | (refine inBlock_normal ?_) | (refine andThen_normal ?_) | (refine And.intro (by omega) ?_) | (refine tr_return rfl rfl (Hp.Le.refl _) ?_) | (refine ends_normal rfl (Hp.Le.refl _) ?_) | (refine fun (b_ : Nat) hb_ => ?_) | (refine tr_regk 45 ?_; intro K_ hK_) | (refine tr_if ?_) | (refine tr_rege 45 ?_; intro K_ hK_) | (refine tr_skip ?_) | (refine tr_exit ?_) | (refine tr_drawk 45 followsF (by decide +kernel) ?_; intro K_ hK_) | (refine tr_drawe 45 followsF (by decide +kernel) ?_; intro K_ hK_) | (simp (maxSteps := 2000000) (disch := omega) only [go_sem, F, Nat.reduceLT, Nat.reduceLeDiff, Nat.reduceAdd, Nat.reduceEqDiff, ↓reduceIte, reduceCtorEq, Int.reduceLE, Int.reduceLT, Int.reduceToNat, UInt8.reduceOfNat, Nat.reduceSub, Int.reduceNeg, Nat.reduceMul, Int.reduceEq, Int.reduceBEq, Int.reduceBNe, ntmps10, hD, ha, List.length_append]) | (refine wFn_intro (ascii26 ?_)) | (refine ⟨_, wFn_intro (ascii26 ⟨rfl, rfl⟩), ?_⟩) | (refine gate_split (fun hc => ?_) (fun hc => ?_) <;> (try simp only [SB] at hc) <;> simp (disch := omega) only [hc, go_sem, F, Nat.reduceLT, Nat.reduceLeDiff, Nat.reduceAdd, Nat.reduceEqDiff, ↓reduceIte, reduceCtorEq, Int.reduceLE, Int.reduceLT, Int.reduceToNat, UInt8.reduceOfNat, Nat.reduceSub, Int.reduceNeg, Nat.reduceMul, Int.reduceEq, Int.reduceBEq, Int.reduceBNe, ntmps10, hD, ha, List.length_append] <;> (try simp only [SC] at hc) <;> try (first | exact absurd (by assumption) hc | exact absurd hc (by assumption) | exact False.elim hc | (refine False.elim ?_; omega))))
          all_goals first
            | exact ⟨(m ++ [(r : Int)], pos + w), by rw [hqs], Hp.Le.refl _, hm2, by simp only; omega⟩
            | skip
        · rw [ha, if_pos rfl] at hqs
          repeat' (first | (refine kw (by assumption) ?_) | (refine tr_seqk ?_; intro K_ hK_) | (refine tr_block ?_) | (refine inBlock_normal ?_) | (refine andThen_normal ?_) | (refine And.intro (by omega) ?_) | (refine tr_return rfl rfl (Hp.Le.refl _) ?_) | (refine ends_normal rfl (Hp.Le.refl _) ?_) | (refine fun (b_ : Nat) hb_ => ?_) | (refine tr_regk 45 ?_; intro K_ hK_) | (refine tr_if ?_) | (refine tr_rege 45 ?_; intro K_ hK_) | (refine tr_skip ?_) | (refine tr_exit ?_) | (refine tr_drawk 45 followsF (by decide +kernel) ?_; intro K_ hK_) | (refine tr_drawe 45 followsF (by decide +kernel) ?_; intro K_ hK_) | (simp (maxSteps := 2000000) (disch := omega) only [go_sem, F, Nat.reduceLT, Nat.reduceLeDiff, Nat.reduceAdd, Nat.reduceEqDiff, ↓reduceIte, reduceCtorEq, Int.reduceLE, Int.reduceLT, Int.reduceToNat, UInt8.reduceOfNat, Nat.reduceSub, Int.reduceNeg, Nat.reduceMul, Int.reduceEq, Int.reduceBEq, Int.reduceBNe, ntmps10, hD, ha, List.length_append]) | (refine wFn_intro (ascii26 ?_)) | (refine ⟨_, wFn_intro (ascii26 ⟨rfl, rfl⟩), ?_⟩) | (refine gate_split (fun hc => ?_) (fun hc => ?_) <;> (try simp only [SB] at hc) <;> simp (disch := omega) only [hc, go_sem, F, Nat.reduceLT, Nat.reduceLeDiff, Nat.reduceAdd, Nat.reduceEqDiff, ↓reduceIte, reduceCtorEq, Int.reduceLE, Int.reduceLT, Int.reduceToNat, UInt8.reduceOfNat, Nat.reduceSub, Int.reduceNeg, Nat.reduceMul, Int.reduceEq, Int.reduceBEq, Int.reduceBNe, ntmps10, hD, ha, List.length_append] <;> (try simp only [SC] at hc) <;> try (first | exact absurd (by assumption) hc | exact absurd hc (by assumption) | exact False.elim hc | (refine False.elim ?_; omega))))
          all_goals first
            | exact ⟨(m ++ [(r : Int)], pos + w), by rw [hqs]; exact (by simp only [go_sem, F, Nat.reduceLT, Nat.reduceLeDiff, Nat.reduceAdd, Nat.reduceEqDiff, ↓reduceIte, reduceCtorEq, Int.reduceLE, Int.reduceLT, Int.reduceToNat, UInt8.reduceOfNat, Nat.reduceSub, Int.reduceNeg, Nat.reduceMul, Int.reduceEq, Int.reduceBEq, Int.reduceBNe, Option.some.injEq, AVal.int.injEq, List.append_assoc]; try omega), Hp.Le.refl _, hm2, by simp only; omega⟩
            | skip
      · rw [vr_end hpl, List.append_nil] at hm
        repeat' (first | (refine kw (by assumption) ?_) | (refine tr_seqk ?_; intro K_ hK_) | (refine tr_block ?_) | (refine inBlock_normal ?_) | (refine andThen_normal ?_) | (refine And.intro (by omega) ?_) | (refine tr_return rfl rfl (Hp.Le.refl _) ?_) | (refine ends_normal rfl (Hp.Le.refl _) ?_) | (refine fun (b_ : Nat) hb_ => ?_) | (refine tr_regk 45 ?_; intro K_ hK_) | (refine tr_if ?_) | (refine tr_rege 45 ?_; intro K_ hK_) | (refine tr_skip ?_) | (refine tr_exit ?_) | (refine tr_drawk 45 followsF (by decide +kernel) ?_; intro K_ hK_) | (refine tr_drawe 45 followsF (by decide +kernel) ?_; intro K_ hK_) | (simp (maxSteps := 2000000) (disch := omega) only [go_sem, F, Nat.reduceLT, Nat.reduceLeDiff, Nat.reduceAdd, Nat.reduceEqDiff, ↓reduceIte, reduceCtorEq, Int.reduceLE, Int.reduceLT, Int.reduceToNat, UInt8.reduceOfNat, Nat.reduceSub, Int.reduceNeg, Nat.reduceMul, Int.reduceEq, Int.reduceBEq, Int.reduceBNe, ntmps10, hm]) | (refine gate_split (fun hc => ?_) (fun hc => ?_) <;> (try simp only [SB] at hc) <;> simp (disch := omega) only [hc, go_sem, F, Nat.reduceLT, Nat.reduceLeDiff, Nat.reduceAdd, Nat.reduceEqDiff, ↓reduceIte, reduceCtorEq, Int.reduceLE, Int.reduceLT, Int.reduceToNat, UInt8.reduceOfNat, Nat.reduceSub, Int.reduceNeg, Nat.reduceMul, Int.reduceEq, Int.reduceBEq, Int.reduceBNe, ntmps10, hm] <;> (try simp only [SC] at hc) <;> try (first | exact absurd (by assumption) hc | exact absurd hc (by assumption) | exact False.elim hc | (refine False.elim ?_; omega))))
        all_goals first
          | exact ⟨(), Hp.le_set hb_⟩
          | exact ⟨(), by rw [hm], Hp.le_set hb_⟩
          | skip
    · rintro - -
      have hdv : destV ([40] ++ qAll l ++ [41, 120]) 0 = .tup [.str t, .int .i64 (((qAll l).length : Int) + 2), .bool true] := by unfold destV; rw [hlaw]
      generalize hQ : qAll l = Q at *
      simp only [List.cons_append, List.nil_append] at hdv
      repeat' (first | (refine kw (by assumption) ?_) | (refine tr_seqk ?_; intro K_ hK_) | (refine tr_block ?_) | (refine inBlock_normal ?_) | (refine andThen_normal ?_) | (refine And.intro (by omega) ?_) | (refine tr_return rfl rfl (Hp.Le.refl _) ?_) | (refine ends_normal rfl (Hp.Le.refl _) ?_) | (refine fun (b_ : Nat) hb_ => ?_) | (refine tr_regk 65 ?_; intro K_ hK_) | (refine tr_if ?_) | (refine tr_rege 65 ?_; intro K_ hK_) | (refine tr_skip ?_) | (refine tr_exit ?_) | (refine tr_drawk 65 followsF (by decide +kernel) ?_; intro K_ hK_) | (refine tr_drawe 65 followsF (by decide +kernel) ?_; intro K_ hK_) | (simp (maxSteps := 2000000) (disch := omega) only [go_sem, F, Nat.reduceLT, Nat.reduceLeDiff, Nat.reduceAdd, Nat.reduceEqDiff, ↓reduceIte, reduceCtorEq, Int.reduceLE, Int.reduceLT, Int.reduceToNat, UInt8.reduceOfNat, Nat.reduceSub, Int.reduceNeg, Nat.reduceMul, Int.reduceEq, Int.reduceBEq, Int.reduceBNe, ntmps10, hdv, List.length_append]) | (refine wFn_intro (dest27 (by (try simp only [List.length_append, List.length_cons, List.length_nil]); omega) ?_)) | (refine ⟨_, wFn_intro (dest27 (by (try simp only [List.length_append, List.length_cons, List.length_nil]); omega) ⟨rfl, rfl⟩), ?_⟩) | (refine gate_split (fun hc => ?_) (fun hc => ?_) <;> (try simp only [SB] at hc) <;> simp (disch := omega) only [hc, go_sem, F, Nat.reduceLT, Nat.reduceLeDiff, Nat.reduceAdd, Nat.reduceEqDiff, ↓reduceIte, reduceCtorEq, Int.reduceLE, Int.reduceLT, Int.reduceToNat, UInt8.reduceOfNat, Nat.reduceSub, Int.reduceNeg, Nat.reduceMul, Int.reduceEq, Int.reduceBEq, Int.reduceBNe, ntmps10, hdv, List.length_append] <;> (try simp only [SC] at hc) <;> try (first | exact absurd (by assumption) hc | exact absurd hc (by assumption) | exact False.elim hc | (refine False.elim ?_; omega))))
      refine tr_while (by assumption) (α := List Int × Nat) (β := Unit) (fun x => [(6, .str (40 :: Q)), (9, .str t), (10, .int .i64 ((Q.length : Int) + 2)), (11, .bool true), (12, .str (x.1.flatMap runeBytes)), (62, .ptr (some ⟨b_, 0, none⟩))])
        (fun x => H.set b_ (some (.iter t x.2))) (fun x => x.1 ++ vr (t.drop x.2) = l) (fun x => t.length - x.2) ([], 0)
        (fun _ => [(6, .str (40 :: Q)), (9, .str t), (10, .int .i64 ((Q.length : Int) + 2)), (11, .bool true), (12, .str t)]) (fun _ => H) (fun _ => True) ?_ (Hp.Le.refl _) (by rw [List.nil_append, List.drop_zero]; exact hvr) ?_ ?_
      · simp only [go_sem, F, Nat.reduceLT, Nat.reduceLeDiff, Nat.reduceAdd, Nat.reduceEqDiff, ↓reduceIte, reduceCtorEq, Int.reduceLE, Int.reduceLT, Int.reduceToNat, UInt8.reduceOfNat, Nat.reduceSub, Int.reduceNeg, Nat.reduceMul, Int.reduceEq, Int.reduceBEq, Int.reduceBNe, Int.natCast_zero, List.flatMap_nil]
      · rintro ⟨m, pos⟩ hm
        simp only at hm
        have hd1 := decU_pos t pos
        by_cases hpl : pos < t.length
        · have hml : m.length ≤ l.length := by rw [← hm, List.length_append]; omega
          have hem := runes_len m
          rw [vr_step hpl] at hm
          have hrb := runeBytes_len (decU t pos).1
          generalize hD : decU t pos = D at *
          obtain ⟨r, w⟩ := D
          simp only at hm hrb hd1
          have hm2 : (m ++ [(r : Int)]) ++ vr (t.drop (pos + w)) = l := by rw [List.append_assoc]; exact hm
          have hes := enc_snoc m (r : Int)
          repeat' (first | (refine kw (by assumption) ?_) | (refine tr_seqk ?_; intro K_ hK_) | (refine tr_block ?_) | (refine inBlock_normal ?_) | (refine andThen_normal ?_) | (refine And.intro (by omega) ?_) | (refine tr_return rfl rfl (Hp.Le.refl _) ?_) | (refine ends_normal rfl (Hp.Le.refl _) ?_) | (refine fun (b_ : Nat) hb_ => ?_) | (refine tr_regk 65 ?_; intro K_ hK_) | (refine tr_if ?_) | (refine tr_rege 65 ?_; intro K_ hK_) | (refine tr_skip ?_) | (refine tr_exit ?_) | (refine tr_drawk 65 followsF (by decide +kernel) ?_; intro K_ hK_) | (refine tr_drawe 65 followsF (by decide +kernel) ?_; intro K_ hK_) | (simp (maxSteps := 2000000) (disch := omega) only [go_sem, F, Nat.reduceLT, Nat.reduceLeDiff, Nat.reduceAdd, Nat.reduceEqDiff, ↓reduceIte, reduceCtorEq, Int.reduceLE, Int.reduceLT, Int.reduceToNat, UInt8.reduceOfNat, Nat.reduceSub, Int.reduceNeg, Nat.reduceMul, Int.reduceEq, Int.reduceBEq, Int.reduceBNe, ntmps10, hD, List.length_append]) | (refine gate_split (fun hc => ?_) (fun hc => ?_) <;> (try simp only [SB] at hc) <;> simp (disch := omega) only [hc, go_sem, F, Nat.reduceLT, Nat.reduceLeDiff, Nat.reduceAdd, Nat.reduceEqDiff, ↓reduceIte, reduceCtorEq, Int.reduceLE, Int.reduceLT, Int.reduceToNat, UInt8.reduceOfNat, Nat.reduceSub, Int.reduceNeg, Nat.reduceMul, Int.reduceEq, Int.reduceBEq, Int.reduceBNe, ntmps10, hD, List.length_append] <;> (try simp only [SC] at hc) <;> try (first | exact absurd (by assumption) hc | exact absurd hc (by assumption) | exact False.elim hc | (refine False.elim ?_; omega))))
          all_goals first
            | exact ⟨(m ++ [(r : Int)], pos + w), by rw [hes], Hp.Le.refl _, hm2, by simp only; omega⟩
            | skip
        · rw [vr_end hpl, List.append_nil] at hm
          repeat' (first | (refine kw (by assumption) ?_) | (refine tr_seqk ?_; intro K_ hK_) | (refine tr_block ?_) | (refine inBlock_normal ?_) | (refine andThen_normal ?_) | (refine And.intro (by omega) ?_) | (refine tr_return rfl rfl (Hp.Le.refl _) ?_) | (refine ends_normal rfl (Hp.Le.refl _) ?_) | (refine fun (b_ : Nat) hb_ => ?_) | (refine tr_regk 65 ?_; intro K_ hK_) | (refine tr_if ?_) | (refine tr_rege 65 ?_; intro K_ hK_) | (refine tr_skip ?_) | (refine tr_exit ?_) | (refine tr_drawk 65 followsF (by decide +kernel) ?_; intro K_ hK_) | (refine tr_drawe 65 followsF (by decide +kernel) ?_; intro K_ hK_) | (simp (maxSteps := 2000000) (disch := omega) only [go_sem, F, Nat.reduceLT, Nat.reduceLeDiff, Nat.reduceAdd, Nat.reduceEqDiff, ↓reduceIte, reduceCtorEq, Int.reduceLE, Int.reduceLT, Int.reduceToNat, UInt8.reduceOfNat, Nat.reduceSub, Int.reduceNeg, Nat.reduceMul, Int.reduceEq, Int.reduceBEq, Int.reduceBNe, ntmps10, hm, ht]) | (refine gate_split (fun hc => ?_) (fun hc => ?_) <;> (try simp only [SB] at hc) <;> simp (disch := omega) only [hc, go_sem, F, Nat.reduceLT, Nat.reduceLeDiff, Nat.reduceAdd, Nat.reduceEqDiff, ↓reduceIte, reduceCtorEq, Int.reduceLE, Int.reduceLT, Int.reduceToNat, UInt8.reduceOfNat, Nat.reduceSub, Int.reduceNeg, Nat.reduceMul, Int.reduceEq, Int.reduceBEq, Int.reduceBNe, ntmps10, hm, ht] <;> (try simp only [SC] at hc) <;> try (first | exact absurd (by assumption) hc | exact absurd hc (by assumption) | exact False.elim hc | (refine False.elim ?_; omega))))
          all_goals first
            | exact ⟨(), Hp.le_set hb_⟩
            | exact ⟨(), by rw [hm, ht], Hp.le_set hb_⟩
            | exact ⟨(), (by simp only [go_sem, F, Nat.reduceLT, Nat.reduceLeDiff, Nat.reduceAdd, Nat.reduceEqDiff, ↓reduceIte, reduceCtorEq, Int.reduceLE, Int.reduceLT, Int.reduceToNat, UInt8.reduceOfNat, Nat.reduceSub, Int.reduceNeg, Nat.reduceMul, Int.reduceEq, Int.reduceBEq, Int.reduceBNe, Option.some.injEq, AVal.int.injEq, hm, ht]; try omega), Hp.le_set hb_⟩
            | skip
      · rintro - -
        have eb : ((Q.length : Int) + 2 == ((Q.length + 1 : Nat) : Int) + 1) = true := by rw [beq_iff_eq]; omega
        repeat' (first | (refine kw (by assumption) ?_) | (refine tr_seqk ?_; intro K_ hK_) | (refine tr_block ?_) | (refine inBlock_normal ?_) | (refine andThen_normal ?_) | (refine And.intro (by omega) ?_) | (refine tr_return rfl rfl (Hp.Le.refl _) ?_) | (refine ends_normal rfl (Hp.Le.refl _) ?_) | (refine fun (b_ : Nat) hb_ => ?_) | (refine tr_regk 65 ?_; intro K_ hK_) | (refine tr_if ?_) | (refine tr_rege 65 ?_; intro K_ hK_) | (refine tr_skip ?_) | (refine tr_exit ?_) | (refine tr_drawk 65 followsF (by decide +kernel) ?_; intro K_ hK_) | (refine tr_drawe 65 followsF (by decide +kernel) ?_; intro K_ hK_) | (simp (maxSteps := 2000000) (disch := omega) only [go_sem, F, Nat.reduceLT, Nat.reduceLeDiff, Nat.reduceAdd, Nat.reduceEqDiff, ↓reduceIte, reduceCtorEq, Int.reduceLE, Int.reduceLT, Int.reduceToNat, UInt8.reduceOfNat, Nat.reduceSub, Int.reduceNeg, Nat.reduceMul, Int.reduceEq, Int.reduceBEq, Int.reduceBNe, ntmps10, eb]) | (refine wFn_intro (known22 ?_)) | (refine ⟨_, wFn_intro (known22 ⟨rfl, rfl⟩), ?_⟩) | (refine gate_split (fun hc => ?_) (fun hc => ?_) <;> (try simp only [SB] at hc) <;> simp (disch := omega) only [hc, go_sem, F, Nat.reduceLT, Nat.reduceLeDiff, Nat.reduceAdd, Nat.reduceEqDiff, ↓reduceIte, reduceCtorEq, Int.reduceLE, Int.reduceLT, Int.reduceToNat, UInt8.reduceOfNat, Nat.reduceSub, Int.reduceNeg, Nat.reduceMul, Int.reduceEq, Int.reduceBEq, Int.reduceBNe, ntmps10, eb] <;> (try simp only [SC] at hc) <;> try (first | exact absurd (by assumption) hc | exact absurd hc (by assumption) | exact False.elim hc | (refine False.elim ?_; omega))))
        all_goals first
          | exact h
          | skip
end Go.Proofs.YtfnhhkpnfficaaaDoor
