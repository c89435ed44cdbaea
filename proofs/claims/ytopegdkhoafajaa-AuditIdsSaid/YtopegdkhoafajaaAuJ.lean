/- Bytes: Equal, HasPrefix, HasSuffix, CutPrefix, Cut: step by step. Own work; printed from wip/law25/j.in by pre3.py. -/
import Derived.Test.YtopegdkhoafajaaAuSh
import Derived.Lib.IndexMore
import Derived.Lib.IndexLaws
import Derived.Shelf.Bytes.SlIndexAt
import Derived.Shelf.Bytes.IndexByte
namespace Go.Proofs.Ytopegdkhoafajaa
open Go.Sv Go.Shelf
set_option linter.unusedSimpArgs false
set_option linter.unusedVariables false
set_option maxRecDepth 100000

theorem bytes_at {w : World} {S : Seal} {l : List UInt8} {o : Own} {v : Value} (h : Rep w S (.sl .u8 l o) v) : ∃ a cap, v = .slice a l.length cap ∧ l.length ≤ cap ∧ (l ≠ [] → ∃ a', a = some a' ∧ ∀ i, i < l.length → w.cell? (a'.add i) = some (.int .u8 ((l.map fun c => ((c.toNat : Nat) : Int)).getD i 0))) := by
  by_cases hl : l = []
  · subst hl
    simp only [Rep] at h
    obtain ⟨a, cap, rfl, hcap, hsl, _⟩ := h
    exact ⟨a, cap, rfl, hcap, fun h => absurd rfl h⟩
  · obtain ⟨a, cap, rfl, h1, h2⟩ := bytes_cells h hl
    exact ⟨some a, cap, rfl, h1, fun _ => ⟨a, rfl, h2⟩⟩
theorem index_le1 (s p : List UInt8) (hp : p ≠ []) : Lib.index [] p = -1 := by
  cases p with
  | nil => exact absurd rfl hp
  | cons a t => rfl
section
variable {P : Program} {ρ : Go.Shelf.Ren}
set_option maxHeartbeats 1000000 in
/-- bytes.IndexByte at nil, whatever its capacity is said to be. -/
theorem ib_nil (L : Go.Proofs.Lays.n187 P ρ) (c : Nat) (cv : Int) (w : World) :
    Calls P (ρ.f 187) #[.slice none 0 c, .int .u8 cv] w fun e w' => e = .returned (.int .i64 (-1)) ∧ w' = w := by
  have t3 := L.t3; have t5 := L.t5; have t37 := L.t37
  have a3 := L.a3; have a5 := L.a5; have a37 := L.a37
  have mixed := L.mixed; have z3 := L.z3; have v3 := L.v3; have z5 := L.z5; have v5 := L.v5; have z37 := L.z37; have v37 := L.v37
  go_enter L.f187, Body.n187_ntmps ρ
  go_wp2
  rw [run_callFunc_extern L.f255 (by kernel_rfl) (by kernel_rfl) (by kernel_rfl) (e := Extern.BytealgIndexByte.indexByte) (by kernel_rfl), Lib.run_indexByteNil w 0 c cv]
  simp only [Result.andThen]
  rw [Oper.upon_value]
  go_wp2
  go_ret
  exact ⟨rfl, rfl⟩
end
theorem indexByte36e {B0 : Base} {o : Own} {c : UInt8} {H : Hp} {K : AVal → Hp → Prop} (h : K (.int .i64 (-1)) H) : FnC Try.prog B0 36 [.sl .u8 [] o, .u8 c] H K := by
  refine FnC_of_calls (x := .int .i64 (-1)) Try.func36 (by kernel_rfl) (by kernel_rfl) (v := .int .i64 (-1)) (fun w S => by simp only [Rep]) (fun w S vs hi ha => ?_) h
  obtain ⟨u, v, rfl, hu, hv⟩ := rep2 ha
  obtain ⟨a1, c1, rfl, hc1, k1⟩ := bytes_at hu
  simp only [Rep] at hv
  subst hv
  cases a1 with
  | none =>
    refine (ib_nil (ρ := Try.lays185_ren) { Try.lays185 with } c1 _ w).mono fun e w' h => ⟨h.1, ?_⟩
    rw [h.2]
    exact ⟨rfl, rfl, rfl, Nat.le_refl _, fun _ _ => rfl⟩
  | some a1 =>
    refine (Any.bytes_IndexByte_at (ρ := Try.lays185_ren) { Try.lays185 with } a1 0 c1 [] _ w rfl (fun i hi => absurd hi (Nat.not_lt_zero _))).mono fun e w' h => ⟨h.1, ?_⟩
    rw [h.2]
    exact ⟨rfl, rfl, rfl, Nat.le_refl _, fun _ _ => rfl⟩
theorem ntmps34 : Try.f34.ntmps = 200 := rfl
theorem index34e1 {B0 : Base} {o1 o2 : Own} {c : UInt8} {H : Hp} {K : AVal → Hp → Prop} (h : K (.int .i64 (-1)) H) : FnC Try.prog B0 34 [.sl .u8 [] o1, .sl .u8 [c] o2] H K := by
  refine fn_of_tr Try.func34 rfl (by decide) (by simp) ?_
  have hg : ([c] : List UInt8).getD 0 0 = c := rfl
  repeat' (first | (refine kw (by assumption) ?_) | (refine tr_seqk ?_; intro K_ hK_) | (refine tr_block ?_) | (refine inBlock_normal ?_) | (refine andThen_normal ?_) | (refine And.intro (by omega) ?_) | (refine tr_return rfl rfl (Hp.Le.refl _) ?_) | (refine ends_normal rfl (Hp.Le.refl _) ?_) | (refine fun (b_ : Nat) hb_ => ?_) | (refine tr_regk 50 ?_; intro K_ hK_) | (refine tr_if ?_) | (refine tr_rege 50 ?_; intro K_ hK_) | (refine tr_skip ?_) | (refine tr_exit ?_) | (refine tr_drawk 50 followsF (by decide +kernel) ?_; intro K_ hK_) | (refine tr_drawe 50 followsF (by decide +kernel) ?_; intro K_ hK_) | (simp (maxSteps := 2000000) (disch := omega) only [go_sem, F, Nat.reduceLT, Nat.reduceLeDiff, Nat.reduceAdd, Nat.reduceEqDiff, ↓reduceIte, ↓reduceDIte, reduceCtorEq, Int.reduceLE, Int.reduceLT, Int.reduceToNat, UInt8.reduceOfNat, Nat.reduceSub, Int.reduceNeg, Nat.reduceMul, Int.reduceEq, Int.reduceBEq, Int.reduceBNe, ntmps34, hg, List.length_singleton, List.length_cons, List.length_nil]) | (refine wFn_intro (indexByte36e ?_)) | (refine ⟨_, wFn_intro (indexByte36e ⟨rfl, rfl⟩), ?_⟩) | (refine gate_split (fun hc => ?_) (fun hc => ?_) <;> (try simp only [SB] at hc) <;> simp (disch := omega) only [hc, go_sem, F, Nat.reduceLT, Nat.reduceLeDiff, Nat.reduceAdd, Nat.reduceEqDiff, ↓reduceIte, ↓reduceDIte, reduceCtorEq, Int.reduceLE, Int.reduceLT, Int.reduceToNat, UInt8.reduceOfNat, Nat.reduceSub, Int.reduceNeg, Nat.reduceMul, Int.reduceEq, Int.reduceBEq, Int.reduceBNe, ntmps34, hg, List.length_singleton, List.length_cons, List.length_nil] <;> (try simp only [SC] at hc) <;> try (first | exact absurd (by assumption) hc | exact absurd hc (by assumption) | exact False.elim hc | (refine False.elim ?_; omega))))
  all_goals exact h
theorem index34el {n : Nat} {m : Int} {p : List UInt8} {o1 o2 : Own} {H : Hp} {K : AVal → Hp → Prop} (hp : p.length ≤ 1000000000) (hp2 : 2 ≤ p.length) (h : K (.int .i64 (-1)) H) : FnC Try.prog ⟨n, T0 m⟩ 34 [.sl .u8 [] o1, .sl .u8 p o2] H K := by
  refine FnC_of_calls (x := .int .i64 (-1)) Try.func34 (by kernel_rfl) (by kernel_rfl) (v := .int .i64 (-1)) (fun w S => by simp only [Rep]) (fun w S vs hi ha => ?_) h
  obtain ⟨u, v, rfl, hu, hv⟩ := rep2 ha
  obtain ⟨a1, c1, rfl, hc1, k1⟩ := bytes_at hu
  obtain ⟨a2, c2, rfl, hc2, k2⟩ := bytes_at hv
  refine (Any.bytes_Index_longer Try.lays185 a1 a2 0 c1 p.length c2 w hp2 (by omega) (by omega)).mono fun e w' h => ⟨h.1, ?_⟩
  rw [h.2]
  exact ⟨rfl, rfl, rfl, Nat.le_refl _, fun _ _ => rfl⟩
theorem index34a {n : Nat} {m : Int} {s p : List UInt8} {o1 o2 : Own} {H : Hp} {K : AVal → Hp → Prop} (hs : s.length ≤ 1000000000) (hp : p.length ≤ 1000000000) (h : K (.int .i64 (Lib.index s p)) H) : FnC Try.prog ⟨n, T0 m⟩ 34 [.sl .u8 s o1, .sl .u8 p o2] H K := by
  by_cases hp0 : p = []
  · subst hp0
    rw [Lib.index_empty] at h
    refine FnC_of_calls (x := .int .i64 0) Try.func34 (by kernel_rfl) (by kernel_rfl) (v := .int .i64 0) (fun w S => by simp only [Rep]) (fun w S vs hi ha => ?_) h
    obtain ⟨u, v, rfl, hu, hv⟩ := rep2 ha
    obtain ⟨a1, c1, rfl, hc1, k1⟩ := bytes_at hu
    obtain ⟨a2, c2, rfl, hc2, k2⟩ := bytes_at hv
    refine (Any.bytes_Index_none Try.lays185 a1 a2 s.length c1 c2 w).mono fun e w' h => ⟨h.1, ?_⟩
    rw [h.2]
    exact ⟨rfl, rfl, rfl, Nat.le_refl _, fun _ _ => rfl⟩
  · by_cases hs0 : s = []
    · subst hs0
      rw [index_le1 [] p hp0] at h
      match p, hp0, hp, h with
      | [c], _, _, h => exact index34e1 h
      | c :: d :: p, _, hp, h => exact index34el hp (by simp) h
    · exact index34 hs hp hs0 hp0 h

theorem FnC.no2 {P : Program} {B0 : Base} {f : FuncId} {args : List AVal} {H : Hp} {K : AVal → Hp → Prop} (h : FnC P B0 f args H (fun x H' => ∃ (t : Ty) (l : List t.den) (o : Own) (b : Bool), x = .tup [.sl t l o, .bool b] ∧ K (.tup [.sl t l .no, .bool b]) H')) : FnC P B0 f args H K := by
  refine ⟨h.1, fun w S vs hi ha => (h.2 w S vs hi ha).mono ?_⟩
  rintro e w' ⟨v, x, S', H', h1, h2, h3, h4, t, l, o, b, rfl, h5⟩
  refine ⟨v, _, S', H', h1, h2, h3, ?_, h5⟩
  simp only [Rep, RepL] at h4 ⊢
  obtain ⟨vs, rfl, v1, vr, e1, ⟨a, cap, e2, e3, e4, _⟩, h6⟩ := h4
  exact ⟨vs, rfl, v1, vr, e1, ⟨a, cap, e2, e3, e4, trivial⟩, h6⟩
theorem FnC.no3 {P : Program} {B0 : Base} {f : FuncId} {args : List AVal} {H : Hp} {K : AVal → Hp → Prop} (h : FnC P B0 f args H (fun x H' => ∃ (t t' : Ty) (l : List t.den) (l' : List t'.den) (o o' : Own) (b : Bool), x = .tup [.sl t l o, .sl t' l' o', .bool b] ∧ K (.tup [.sl t l .no, .sl t' l' .no, .bool b]) H')) : FnC P B0 f args H K := by
  refine ⟨h.1, fun w S vs hi ha => (h.2 w S vs hi ha).mono ?_⟩
  rintro e w' ⟨v, x, S', H', h1, h2, h3, h4, t, t', l, l', o, o', b, rfl, h5⟩
  refine ⟨v, _, S', H', h1, h2, h3, ?_, h5⟩
  simp only [Rep, RepL] at h4 ⊢
  obtain ⟨vs, rfl, v1, vr, e1, ⟨a, cap, e2, e3, e4, _⟩, v2, vr2, e5, ⟨a', cap', f2, f3, f4, _⟩, h6⟩ := h4
  exact ⟨vs, rfl, v1, vr, e1, ⟨a, cap, e2, e3, e4, trivial⟩, v2, vr2, e5, ⟨a', cap', f2, f3, f4, trivial⟩, h6⟩
theorem ntmps26 : Try.f26.ntmps = 10 := rfl
theorem equal26 {B0 : Base} {s p : List UInt8} {o1 o2 : Own} {H : Hp} {K : AVal → Hp → Prop} (h : K (.bool (s == p)) H) : FnC Try.prog B0 26 [.sl .u8 s o1, .sl .u8 p o2] H K := by
  refine fn_of_tr Try.func26 rfl (by decide) (by simp) ?_
  repeat' (first | (refine kw (by assumption) ?_) | (refine tr_seqk ?_; intro K_ hK_) | (refine tr_block ?_) | (refine inBlock_normal ?_) | (refine andThen_normal ?_) | (refine And.intro (by omega) ?_) | (refine tr_return rfl rfl (Hp.Le.refl _) ?_) | (refine ends_normal rfl (Hp.Le.refl _) ?_) | (refine fun (b_ : Nat) hb_ => ?_) | (refine tr_regk 5 ?_; intro K_ hK_) | (refine tr_if ?_) | (refine tr_rege 5 ?_; intro K_ hK_) | (refine tr_skip ?_) | (refine tr_exit ?_) | (refine tr_drawk 5 followsF (by decide +kernel) ?_; intro K_ hK_) | (refine tr_drawe 5 followsF (by decide +kernel) ?_; intro K_ hK_) | (simp (maxSteps := 2000000) (disch := omega) only [go_sem, F, Nat.reduceLT, Nat.reduceLeDiff, Nat.reduceAdd, Nat.reduceEqDiff, ↓reduceIte, ↓reduceDIte, reduceCtorEq, Int.reduceLE, Int.reduceLT, Int.reduceToNat, UInt8.reduceOfNat, Nat.reduceSub, Int.reduceNeg, Nat.reduceMul, Int.reduceEq, Int.reduceBEq, Int.reduceBNe, ntmps26]) | (refine gate_split (fun hc => ?_) (fun hc => ?_) <;> (try simp only [SB] at hc) <;> simp (disch := omega) only [hc, go_sem, F, Nat.reduceLT, Nat.reduceLeDiff, Nat.reduceAdd, Nat.reduceEqDiff, ↓reduceIte, ↓reduceDIte, reduceCtorEq, Int.reduceLE, Int.reduceLT, Int.reduceToNat, UInt8.reduceOfNat, Nat.reduceSub, Int.reduceNeg, Nat.reduceMul, Int.reduceEq, Int.reduceBEq, Int.reduceBNe, ntmps26] <;> (try simp only [SC] at hc) <;> try (first | exact absurd (by assumption) hc | exact absurd hc (by assumption) | exact False.elim hc | (refine False.elim ?_; omega))))
  exact h
theorem ntmps33 : Try.f33.ntmps = 18 := rfl
theorem take_eq_pre {s p : List UInt8} (h : p.length ≤ s.length) : (s.take p.length == p) = p.isPrefixOf s := by
  by_cases h1 : s.take p.length = p
  · rw [h1]
    simp only [beq_self_eq_true]
    refine (List.isPrefixOf_iff_prefix.2 ⟨s.drop p.length, ?_⟩).symm
    conv => lhs; lhs; rw [← h1]
    exact List.take_append_drop _ _
  · rw [beq_eq_false_iff_ne.2 h1]
    symm
    rw [Bool.eq_false_iff]
    intro h2
    obtain ⟨t, rfl⟩ := List.isPrefixOf_iff_prefix.1 h2
    exact h1 (by simp)
theorem pre_long {s p : List UInt8} (h : s.length < p.length) : p.isPrefixOf s = false := by
  rw [Bool.eq_false_iff]
  intro h2
  have := (List.isPrefixOf_iff_prefix.1 h2).length_le
  omega
theorem suf_long {s p : List UInt8} (h : s.length < p.length) : p.isSuffixOf s = false := by
  rw [Bool.eq_false_iff]
  intro h2
  have := (List.isSuffixOf_iff_suffix.1 h2).length_le
  omega
theorem drop_eq_suf {s p : List UInt8} (h : p.length ≤ s.length) : (s.drop (s.length - p.length) == p) = p.isSuffixOf s := by
  by_cases h1 : s.drop (s.length - p.length) = p
  · rw [h1]
    simp only [beq_self_eq_true]
    refine (List.isSuffixOf_iff_suffix.2 ⟨s.take (s.length - p.length), ?_⟩).symm
    conv => lhs; rhs; rw [← h1]
    exact List.take_append_drop _ _
  · rw [beq_eq_false_iff_ne.2 h1]
    symm
    rw [Bool.eq_false_iff]
    intro h2
    obtain ⟨t, rfl⟩ := List.isSuffixOf_iff_suffix.1 h2
    exact h1 (by simp)
theorem hasPrefix33 {B0 : Base} {s p : List UInt8} {o1 o2 : Own} {H : Hp} {K : AVal → Hp → Prop} (hs : s.length ≤ 1000000000) (hp : p.length ≤ 1000000000) (h : K (.bool (p.isPrefixOf s)) H) : FnC Try.prog B0 33 [.sl .u8 s o1, .sl .u8 p o2] H K := by
  refine fn_of_tr Try.func33 rfl (by decide) (by simp) ?_
  by_cases hl : p.length ≤ s.length
  · rw [← take_eq_pre hl] at h
    repeat' (first | (refine kw (by assumption) ?_) | (refine tr_seqk ?_; intro K_ hK_) | (refine tr_block ?_) | (refine inBlock_normal ?_) | (refine andThen_normal ?_) | (refine And.intro (by omega) ?_) | (refine tr_return rfl rfl (Hp.Le.refl _) ?_) | (refine ends_normal rfl (Hp.Le.refl _) ?_) | (refine fun (b_ : Nat) hb_ => ?_) | (refine tr_regk 5 ?_; intro K_ hK_) | (refine tr_if ?_) | (refine tr_rege 5 ?_; intro K_ hK_) | (refine tr_skip ?_) | (refine tr_exit ?_) | (refine tr_drawk 5 followsF (by decide +kernel) ?_; intro K_ hK_) | (refine tr_drawe 5 followsF (by decide +kernel) ?_; intro K_ hK_) | (simp (maxSteps := 2000000) (disch := omega) only [go_sem, F, Nat.reduceLT, Nat.reduceLeDiff, Nat.reduceAdd, Nat.reduceEqDiff, ↓reduceIte, ↓reduceDIte, reduceCtorEq, Int.reduceLE, Int.reduceLT, Int.reduceToNat, UInt8.reduceOfNat, Nat.reduceSub, Int.reduceNeg, Nat.reduceMul, Int.reduceEq, Int.reduceBEq, Int.reduceBNe, ntmps33, Int.toNat_natCast, List.drop_zero]) | (refine wFn_intro (equal26 ?_)) | (refine ⟨_, wFn_intro (equal26 ⟨rfl, rfl⟩), ?_⟩) | (refine gate_split (fun hc => ?_) (fun hc => ?_) <;> (try simp only [SB] at hc) <;> simp (disch := omega) only [hc, go_sem, F, Nat.reduceLT, Nat.reduceLeDiff, Nat.reduceAdd, Nat.reduceEqDiff, ↓reduceIte, ↓reduceDIte, reduceCtorEq, Int.reduceLE, Int.reduceLT, Int.reduceToNat, UInt8.reduceOfNat, Nat.reduceSub, Int.reduceNeg, Nat.reduceMul, Int.reduceEq, Int.reduceBEq, Int.reduceBNe, ntmps33, Int.toNat_natCast, List.drop_zero] <;> (try simp only [SC] at hc) <;> try (first | exact absurd (by assumption) hc | exact absurd hc (by assumption) | exact False.elim hc | (refine False.elim ?_; omega))))
    all_goals exact h
  · rw [pre_long (by omega)] at h
    repeat' (first | (refine kw (by assumption) ?_) | (refine tr_seqk ?_; intro K_ hK_) | (refine tr_block ?_) | (refine inBlock_normal ?_) | (refine andThen_normal ?_) | (refine And.intro (by omega) ?_) | (refine tr_return rfl rfl (Hp.Le.refl _) ?_) | (refine ends_normal rfl (Hp.Le.refl _) ?_) | (refine fun (b_ : Nat) hb_ => ?_) | (refine tr_regk 5 ?_; intro K_ hK_) | (refine tr_if ?_) | (refine tr_rege 5 ?_; intro K_ hK_) | (refine tr_skip ?_) | (refine tr_exit ?_) | (refine tr_drawk 5 followsF (by decide +kernel) ?_; intro K_ hK_) | (refine tr_drawe 5 followsF (by decide +kernel) ?_; intro K_ hK_) | (simp (maxSteps := 2000000) (disch := omega) only [go_sem, F, Nat.reduceLT, Nat.reduceLeDiff, Nat.reduceAdd, Nat.reduceEqDiff, ↓reduceIte, ↓reduceDIte, reduceCtorEq, Int.reduceLE, Int.reduceLT, Int.reduceToNat, UInt8.reduceOfNat, Nat.reduceSub, Int.reduceNeg, Nat.reduceMul, Int.reduceEq, Int.reduceBEq, Int.reduceBNe, ntmps33, Int.toNat_natCast]) | (refine wFn_intro (equal26 ?_)) | (refine ⟨_, wFn_intro (equal26 ⟨rfl, rfl⟩), ?_⟩) | (refine gate_split (fun hc => ?_) (fun hc => ?_) <;> (try simp only [SB] at hc) <;> simp (disch := omega) only [hc, go_sem, F, Nat.reduceLT, Nat.reduceLeDiff, Nat.reduceAdd, Nat.reduceEqDiff, ↓reduceIte, ↓reduceDIte, reduceCtorEq, Int.reduceLE, Int.reduceLT, Int.reduceToNat, UInt8.reduceOfNat, Nat.reduceSub, Int.reduceNeg, Nat.reduceMul, Int.reduceEq, Int.reduceBEq, Int.reduceBNe, ntmps33, Int.toNat_natCast] <;> (try simp only [SC] at hc) <;> try (first | exact absurd (by assumption) hc | exact absurd hc (by assumption) | exact False.elim hc | (refine False.elim ?_; omega))))
    all_goals exact h
theorem ntmps31 : Try.f31.ntmps = 21 := rfl
theorem hasSuffix31 {B0 : Base} {s p : List UInt8} {o1 o2 : Own} {H : Hp} {K : AVal → Hp → Prop} (hs : s.length ≤ 1000000000) (hp : p.length ≤ 1000000000) (h : K (.bool (p.isSuffixOf s)) H) : FnC Try.prog B0 31 [.sl .u8 s o1, .sl .u8 p o2] H K := by
  refine fn_of_tr Try.func31 rfl (by decide) (by simp) ?_
  by_cases hl : p.length ≤ s.length
  · rw [← drop_eq_suf hl] at h
    have hn : ((s.length : Int) - (p.length : Int)).toNat = s.length - p.length := by omega
    have ht : List.take s.length s = s := List.take_of_length_le (Nat.le_refl _)
    repeat' (first | (refine kw (by assumption) ?_) | (refine tr_seqk ?_; intro K_ hK_) | (refine tr_block ?_) | (refine inBlock_normal ?_) | (refine andThen_normal ?_) | (refine And.intro (by omega) ?_) | (refine tr_return rfl rfl (Hp.Le.refl _) ?_) | (refine ends_normal rfl (Hp.Le.refl _) ?_) | (refine fun (b_ : Nat) hb_ => ?_) | (refine tr_regk 5 ?_; intro K_ hK_) | (refine tr_if ?_) | (refine tr_rege 5 ?_; intro K_ hK_) | (refine tr_skip ?_) | (refine tr_exit ?_) | (refine tr_drawk 5 followsF (by decide +kernel) ?_; intro K_ hK_) | (refine tr_drawe 5 followsF (by decide +kernel) ?_; intro K_ hK_) | (simp (maxSteps := 2000000) (disch := omega) only [go_sem, F, Nat.reduceLT, Nat.reduceLeDiff, Nat.reduceAdd, Nat.reduceEqDiff, ↓reduceIte, ↓reduceDIte, reduceCtorEq, Int.reduceLE, Int.reduceLT, Int.reduceToNat, UInt8.reduceOfNat, Nat.reduceSub, Int.reduceNeg, Nat.reduceMul, Int.reduceEq, Int.reduceBEq, Int.reduceBNe, ntmps31, hn, ht, Int.toNat_natCast]) | (refine wFn_intro (equal26 ?_)) | (refine ⟨_, wFn_intro (equal26 ⟨rfl, rfl⟩), ?_⟩) | (refine gate_split (fun hc => ?_) (fun hc => ?_) <;> (try simp only [SB] at hc) <;> simp (disch := omega) only [hc, go_sem, F, Nat.reduceLT, Nat.reduceLeDiff, Nat.reduceAdd, Nat.reduceEqDiff, ↓reduceIte, ↓reduceDIte, reduceCtorEq, Int.reduceLE, Int.reduceLT, Int.reduceToNat, UInt8.reduceOfNat, Nat.reduceSub, Int.reduceNeg, Nat.reduceMul, Int.reduceEq, Int.reduceBEq, Int.reduceBNe, ntmps31, hn, ht, Int.toNat_natCast] <;> (try simp only [SC] at hc) <;> try (first | exact absurd (by assumption) hc | exact absurd hc (by assumption) | exact False.elim hc | (refine False.elim ?_; omega))))
    all_goals exact h
  · rw [suf_long (by omega)] at h
    repeat' (first | (refine kw (by assumption) ?_) | (refine tr_seqk ?_; intro K_ hK_) | (refine tr_block ?_) | (refine inBlock_normal ?_) | (refine andThen_normal ?_) | (refine And.intro (by omega) ?_) | (refine tr_return rfl rfl (Hp.Le.refl _) ?_) | (refine ends_normal rfl (Hp.Le.refl _) ?_) | (refine fun (b_ : Nat) hb_ => ?_) | (refine tr_regk 5 ?_; intro K_ hK_) | (refine tr_if ?_) | (refine tr_rege 5 ?_; intro K_ hK_) | (refine tr_skip ?_) | (refine tr_exit ?_) | (refine tr_drawk 5 followsF (by decide +kernel) ?_; intro K_ hK_) | (refine tr_drawe 5 followsF (by decide +kernel) ?_; intro K_ hK_) | (simp (maxSteps := 2000000) (disch := omega) only [go_sem, F, Nat.reduceLT, Nat.reduceLeDiff, Nat.reduceAdd, Nat.reduceEqDiff, ↓reduceIte, ↓reduceDIte, reduceCtorEq, Int.reduceLE, Int.reduceLT, Int.reduceToNat, UInt8.reduceOfNat, Nat.reduceSub, Int.reduceNeg, Nat.reduceMul, Int.reduceEq, Int.reduceBEq, Int.reduceBNe, ntmps31, Int.toNat_natCast]) | (refine wFn_intro (equal26 ?_)) | (refine ⟨_, wFn_intro (equal26 ⟨rfl, rfl⟩), ?_⟩) | (refine gate_split (fun hc => ?_) (fun hc => ?_) <;> (try simp only [SB] at hc) <;> simp (disch := omega) only [hc, go_sem, F, Nat.reduceLT, Nat.reduceLeDiff, Nat.reduceAdd, Nat.reduceEqDiff, ↓reduceIte, ↓reduceDIte, reduceCtorEq, Int.reduceLE, Int.reduceLT, Int.reduceToNat, UInt8.reduceOfNat, Nat.reduceSub, Int.reduceNeg, Nat.reduceMul, Int.reduceEq, Int.reduceBEq, Int.reduceBNe, ntmps31, Int.toNat_natCast] <;> (try simp only [SC] at hc) <;> try (first | exact absurd (by assumption) hc | exact absurd hc (by assumption) | exact False.elim hc | (refine False.elim ?_; omega))))
    all_goals exact h
def cutPreV (s p : List UInt8) : AVal := if p.isPrefixOf s then .tup [.sl .u8 (s.drop p.length) .no, .bool true] else .tup [.sl .u8 s .no, .bool false]
theorem ntmps29 : Try.f29.ntmps = 15 := rfl
theorem cutPrefix29 {B0 : Base} {s p : List UInt8} {o1 o2 : Own} {H : Hp} {K : AVal → Hp → Prop} (hs : s.length ≤ 1000000000) (hp : p.length ≤ 1000000000) (h : K (cutPreV s p) H) : FnC Try.prog B0 29 [.sl .u8 s o1, .sl .u8 p o2] H K := by
  refine FnC.no2 (fn_of_tr Try.func29 rfl (by decide) (by simp) ?_)
  have ht : List.take s.length s = s := List.take_of_length_le (Nat.le_refl _)
  unfold cutPreV at h
  by_cases hl : p.isPrefixOf s = true
  · have hle : p.length ≤ s.length := (List.isPrefixOf_iff_prefix.1 hl).length_le
    rw [if_pos hl] at h
    repeat' (first | (refine kw (by assumption) ?_) | (refine tr_seqk ?_; intro K_ hK_) | (refine tr_block ?_) | (refine inBlock_normal ?_) | (refine andThen_normal ?_) | (refine And.intro (by omega) ?_) | (refine tr_return rfl rfl (Hp.Le.refl _) ?_) | (refine ends_normal rfl (Hp.Le.refl _) ?_) | (refine fun (b_ : Nat) hb_ => ?_) | (refine tr_regk 6 ?_; intro K_ hK_) | (refine tr_if ?_) | (refine tr_rege 6 ?_; intro K_ hK_) | (refine tr_skip ?_) | (refine tr_exit ?_) | (refine tr_drawk 6 followsF (by decide +kernel) ?_; intro K_ hK_) | (refine tr_drawe 6 followsF (by decide +kernel) ?_; intro K_ hK_) | (simp (maxSteps := 2000000) (disch := omega) only [go_sem, F, Nat.reduceLT, Nat.reduceLeDiff, Nat.reduceAdd, Nat.reduceEqDiff, ↓reduceIte, ↓reduceDIte, reduceCtorEq, Int.reduceLE, Int.reduceLT, Int.reduceToNat, UInt8.reduceOfNat, Nat.reduceSub, Int.reduceNeg, Nat.reduceMul, Int.reduceEq, Int.reduceBEq, Int.reduceBNe, ntmps29, hl, ht, Int.toNat_natCast]) | (refine wFn_intro (hasPrefix33 hs hp ?_)) | (refine ⟨_, wFn_intro (hasPrefix33 hs hp ⟨rfl, rfl⟩), ?_⟩) | (refine gate_split (fun hc => ?_) (fun hc => ?_) <;> (try simp only [SB] at hc) <;> simp (disch := omega) only [hc, go_sem, F, Nat.reduceLT, Nat.reduceLeDiff, Nat.reduceAdd, Nat.reduceEqDiff, ↓reduceIte, ↓reduceDIte, reduceCtorEq, Int.reduceLE, Int.reduceLT, Int.reduceToNat, UInt8.reduceOfNat, Nat.reduceSub, Int.reduceNeg, Nat.reduceMul, Int.reduceEq, Int.reduceBEq, Int.reduceBNe, ntmps29, hl, ht, Int.toNat_natCast] <;> (try simp only [SC] at hc) <;> try (first | exact absurd (by assumption) hc | exact absurd hc (by assumption) | exact False.elim hc | (refine False.elim ?_; omega))))
    all_goals exact ⟨_, _, _, _, rfl, h⟩
  · have hl' : p.isPrefixOf s = false := Bool.eq_false_iff.2 hl
    rw [if_neg hl] at h
    repeat' (first | (refine kw (by assumption) ?_) | (refine tr_seqk ?_; intro K_ hK_) | (refine tr_block ?_) | (refine inBlock_normal ?_) | (refine andThen_normal ?_) | (refine And.intro (by omega) ?_) | (refine tr_return rfl rfl (Hp.Le.refl _) ?_) | (refine ends_normal rfl (Hp.Le.refl _) ?_) | (refine fun (b_ : Nat) hb_ => ?_) | (refine tr_regk 6 ?_; intro K_ hK_) | (refine tr_if ?_) | (refine tr_rege 6 ?_; intro K_ hK_) | (refine tr_skip ?_) | (refine tr_exit ?_) | (refine tr_drawk 6 followsF (by decide +kernel) ?_; intro K_ hK_) | (refine tr_drawe 6 followsF (by decide +kernel) ?_; intro K_ hK_) | (simp (maxSteps := 2000000) (disch := omega) only [go_sem, F, Nat.reduceLT, Nat.reduceLeDiff, Nat.reduceAdd, Nat.reduceEqDiff, ↓reduceIte, ↓reduceDIte, reduceCtorEq, Int.reduceLE, Int.reduceLT, Int.reduceToNat, UInt8.reduceOfNat, Nat.reduceSub, Int.reduceNeg, Nat.reduceMul, Int.reduceEq, Int.reduceBEq, Int.reduceBNe, ntmps29, hl', ht, Int.toNat_natCast]) | (refine wFn_intro (hasPrefix33 hs hp ?_)) | (refine ⟨_, wFn_intro (hasPrefix33 hs hp ⟨rfl, rfl⟩), ?_⟩) | (refine gate_split (fun hc => ?_) (fun hc => ?_) <;> (try simp only [SB] at hc) <;> simp (disch := omega) only [hc, go_sem, F, Nat.reduceLT, Nat.reduceLeDiff, Nat.reduceAdd, Nat.reduceEqDiff, ↓reduceIte, ↓reduceDIte, reduceCtorEq, Int.reduceLE, Int.reduceLT, Int.reduceToNat, UInt8.reduceOfNat, Nat.reduceSub, Int.reduceNeg, Nat.reduceMul, Int.reduceEq, Int.reduceBEq, Int.reduceBNe, ntmps29, hl', ht, Int.toNat_natCast] <;> (try simp only [SC] at hc) <;> try (first | exact absurd (by assumption) hc | exact absurd hc (by assumption) | exact False.elim hc | (refine False.elim ?_; omega))))
    all_goals exact ⟨_, _, _, _, rfl, h⟩
def cutV (s p : List UInt8) : AVal := .tup [.sl .u8 (Lib.cut s p).1 .no, .sl .u8 (Lib.cut s p).2.1 .no, .bool (Lib.cut s p).2.2]
theorem ntmps30 : Try.f30.ntmps = 23 := rfl
theorem cut30 {n : Nat} {m : Int} {s p : List UInt8} {o1 o2 : Own} {H : Hp} {K : AVal → Hp → Prop} (hs : s.length ≤ 1000000000) (hp : p.length ≤ 1000000000) (h : K (cutV s p) H) : FnC Try.prog ⟨n, T0 m⟩ 30 [.sl .u8 s o1, .sl .u8 p o2] H K := by
  refine FnC.no3 (fn_of_tr Try.func30 rfl (by decide) (by simp) ?_)
  have ht : List.take s.length s = s := List.take_of_length_le (Nat.le_refl _)
  have hr := Lib.index_room s p
  have hg := Lib.index_ge s p
  unfold cutV Lib.cut at h
  generalize hgx : Lib.index s p = x at *
  by_cases hx : 0 ≤ x
  · obtain ⟨i, rfl⟩ := Int.eq_ofNat_of_zero_le hx
    have hr := hr hx
    rw [if_pos hx] at h
    have hn : ((i : Int) + (p.length : Int)).toNat = i + p.length := by omega
    simp only [Int.toNat_natCast] at h
    repeat' (first | (refine kw (by assumption) ?_) | (refine tr_seqk ?_; intro K_ hK_) | (refine tr_block ?_) | (refine inBlock_normal ?_) | (refine andThen_normal ?_) | (refine And.intro (by omega) ?_) | (refine tr_return rfl rfl (Hp.Le.refl _) ?_) | (refine ends_normal rfl (Hp.Le.refl _) ?_) | (refine fun (b_ : Nat) hb_ => ?_) | (refine tr_regk 8 ?_; intro K_ hK_) | (refine tr_if ?_) | (refine tr_rege 8 ?_; intro K_ hK_) | (refine tr_skip ?_) | (refine tr_exit ?_) | (refine tr_drawk 8 followsF (by decide +kernel) ?_; intro K_ hK_) | (refine tr_drawe 8 followsF (by decide +kernel) ?_; intro K_ hK_) | (simp (maxSteps := 2000000) (disch := omega) only [go_sem, F, Nat.reduceLT, Nat.reduceLeDiff, Nat.reduceAdd, Nat.reduceEqDiff, ↓reduceIte, ↓reduceDIte, reduceCtorEq, Int.reduceLE, Int.reduceLT, Int.reduceToNat, UInt8.reduceOfNat, Nat.reduceSub, Int.reduceNeg, Nat.reduceMul, Int.reduceEq, Int.reduceBEq, Int.reduceBNe, ntmps30, hgx, hn, ht, Int.toNat_natCast, List.drop_zero]) | (refine wFn_intro (index34a hs hp ?_)) | (refine ⟨_, wFn_intro (index34a hs hp ⟨rfl, rfl⟩), ?_⟩) | (refine gate_split (fun hc => ?_) (fun hc => ?_) <;> (try simp only [SB] at hc) <;> simp (disch := omega) only [hc, go_sem, F, Nat.reduceLT, Nat.reduceLeDiff, Nat.reduceAdd, Nat.reduceEqDiff, ↓reduceIte, ↓reduceDIte, reduceCtorEq, Int.reduceLE, Int.reduceLT, Int.reduceToNat, UInt8.reduceOfNat, Nat.reduceSub, Int.reduceNeg, Nat.reduceMul, Int.reduceEq, Int.reduceBEq, Int.reduceBNe, ntmps30, hgx, hn, ht, Int.toNat_natCast, List.drop_zero] <;> (try simp only [SC] at hc) <;> try (first | exact absurd (by assumption) hc | exact absurd hc (by assumption) | exact False.elim hc | (refine False.elim ?_; omega))))
    all_goals exact ⟨_, _, _, _, _, _, _, rfl, h⟩
  · rw [if_neg hx] at h
    repeat' (first | (refine kw (by assumption) ?_) | (refine tr_seqk ?_; intro K_ hK_) | (refine tr_block ?_) | (refine inBlock_normal ?_) | (refine andThen_normal ?_) | (refine And.intro (by omega) ?_) | (refine tr_return rfl rfl (Hp.Le.refl _) ?_) | (refine ends_normal rfl (Hp.Le.refl _) ?_) | (refine fun (b_ : Nat) hb_ => ?_) | (refine tr_regk 8 ?_; intro K_ hK_) | (refine tr_if ?_) | (refine tr_rege 8 ?_; intro K_ hK_) | (refine tr_skip ?_) | (refine tr_exit ?_) | (refine tr_drawk 8 followsF (by decide +kernel) ?_; intro K_ hK_) | (refine tr_drawe 8 followsF (by decide +kernel) ?_; intro K_ hK_) | (simp (maxSteps := 2000000) (disch := omega) only [go_sem, F, Nat.reduceLT, Nat.reduceLeDiff, Nat.reduceAdd, Nat.reduceEqDiff, ↓reduceIte, ↓reduceDIte, reduceCtorEq, Int.reduceLE, Int.reduceLT, Int.reduceToNat, UInt8.reduceOfNat, Nat.reduceSub, Int.reduceNeg, Nat.reduceMul, Int.reduceEq, Int.reduceBEq, Int.reduceBNe, ntmps30, hgx]) | (refine wFn_intro (index34a hs hp ?_)) | (refine ⟨_, wFn_intro (index34a hs hp ⟨rfl, rfl⟩), ?_⟩) | (refine gate_split (fun hc => ?_) (fun hc => ?_) <;> (try simp only [SB] at hc) <;> simp (disch := omega) only [hc, go_sem, F, Nat.reduceLT, Nat.reduceLeDiff, Nat.reduceAdd, Nat.reduceEqDiff, ↓reduceIte, ↓reduceDIte, reduceCtorEq, Int.reduceLE, Int.reduceLT, Int.reduceToNat, UInt8.reduceOfNat, Nat.reduceSub, Int.reduceNeg, Nat.reduceMul, Int.reduceEq, Int.reduceBEq, Int.reduceBNe, ntmps30, hgx] <;> (try simp only [SC] at hc) <;> try (first | exact absurd (by assumption) hc | exact absurd hc (by assumption) | exact False.elim hc | (refine False.elim ?_; omega))))
    all_goals exact ⟨_, _, _, _, _, _, _, rfl, h⟩
end Go.Proofs.Ytopegdkhoafajaa
