/- What the library's functions come to, as contracts of this text's own: ReplaceAll, Trim, Cut, HasPrefix, DecodeLastRuneInString, with their tables. Own work; printed from wip/law9/sh.in by pre2.py. -/
import Derived.Test.YtfnhhkpnfficaaaDoorShelf
import Derived.Test.YtfnhhkpnfficaaaDoorCoP
import Derived.Lib.Replace
import Derived.Lib.SlTrimSet
import Derived.Lib.IndexBytes
namespace Go.Proofs.YtfnhhkpnfficaaaDoor
open Go.Sv Go.Shelf
set_option linter.unusedSimpArgs false
set_option linter.unusedVariables false
set_option maxRecDepth 100000

/-- The tables: first, acceptRanges; and the one number that the library chose. -/
def T9 (m : Int) : List (Nat × List Value) := [(1, (List.range 256).map fun c => .int .u8 (Lib.firstT c)), (2, (List.range 32).map fun i => .int .u8 (if i % 2 = 0 then Lib.accLo (i / 2) else Lib.accHi (i / 2))), (0, [.int .i64 m])]
theorem max_of {m : Int} {w : World} {S : Seal} (h : TabAt (T9 m) w S) : w.cell? ⟨0, 0, none⟩ = some (.int .i64 m) :=
  h.cell (q := (0, [.int .i64 m])) (by simp [T9]) rfl
theorem tabs_of {m : Int} {w : World} {S : Seal} (h : TabAt (T9 m) w S) : Lib.Utf8Tabs 1 2 w := by
  refine ⟨fun c hc => ?_, fun i hi => ⟨?_, ?_⟩⟩
  · refine h.cell (q := (1, (List.range 256).map fun c => .int .u8 (Lib.firstT c))) (by simp [T9]) ?_
    simp only [List.getElem?_map, List.getElem?_range hc]; rfl
  · refine h.cell (q := (2, (List.range 32).map fun i => .int .u8 (if i % 2 = 0 then Lib.accLo (i / 2) else Lib.accHi (i / 2)))) (by simp [T9]) ?_
    simp only [List.getElem?_map, List.getElem?_range (show 2 * i < 32 by omega), Option.map_some]
    rw [if_pos (by omega), show 2 * i / 2 = i by omega]
  · refine h.cell (q := (2, (List.range 32).map fun i => .int .u8 (if i % 2 = 0 then Lib.accLo (i / 2) else Lib.accHi (i / 2)))) (by simp [T9]) ?_
    simp only [List.getElem?_map, List.getElem?_range (show 2 * i + 1 < 32 by omega), Option.map_some]
    rw [if_neg (by omega), show (2 * i + 1) / 2 = i by omega]
theorem of_tabs {m : Int} {w : World} (h : Lib.Utf8Tabs 1 2 w) (hm : w.cell? ⟨0, 0, none⟩ = some (.int .i64 m)) : TabAt (T9 m) w (sealAll w) := by
  refine tabAt_seal fun q hq j v hv => ?_
  simp only [T9, List.mem_cons, List.not_mem_nil, or_false] at hq
  rcases hq with rfl | rfl | rfl
  · simp only at hv ⊢
    rcases Nat.lt_or_ge j 256 with hj | hj
    · rw [List.getElem?_map, List.getElem?_range hj, Option.map_some, Option.some.injEq] at hv
      rw [← hv]; exact h.1 j hj
    · rw [List.getElem?_eq_none (by simp; omega)] at hv; simp at hv
  · simp only at hv ⊢
    rcases Nat.lt_or_ge j 32 with hj | hj
    · rw [List.getElem?_map, List.getElem?_range hj, Option.map_some, Option.some.injEq] at hv
      rw [← hv]
      by_cases h2 : j % 2 = 0
      · rw [if_pos h2]; have := (h.2 (j / 2) (by omega)).1; rwa [show 2 * (j / 2) = j by omega] at this
      · rw [if_neg h2]; have := (h.2 (j / 2) (by omega)).2; rwa [show 2 * (j / 2) + 1 = j by omega] at this
    · rw [List.getElem?_eq_none (by simp; omega)] at hv; simp at hv
  · simp only at hv ⊢
    rcases j with _ | j
    · simp only [List.getElem?_cons_zero, Option.some.injEq] at hv
      rw [← hv]; exact hm
    · simp at hv
theorem u8x : U8Extra Tryd.prog Tryd.lays260_ren := ⟨by kernel_rfl, by kernel_rfl, by kernel_rfl, by kernel_rfl, by kernel_rfl, by kernel_rfl, by kernel_rfl⟩
theorem tabs_laid {m : Int} {w : World} (h3 : Lib.VarReads Tryd.prog w "unicode/utf8.first" Lib.firstData) (h4 : Lib.VarReads Tryd.prog w "unicode/utf8.acceptRanges" Lib.acceptData) (hm : w.cell? ⟨0, 0, none⟩ = some (.int .i64 m)) : TabAt (T9 m) w (sealAll w) :=
  of_tabs (utf8Tabs_of_reads Tryd.lays260 u8x h3 h4) hm
theorem strSize (s : List UInt8) : (ByteArray.mk s.toArray).size = s.length := by simp [ByteArray.size]
theorem last97 {n : Nat} {m : Int} {s : List UInt8} {H : Hp} {K : AVal → Hp → Prop} (hs : s.length ≤ 9223372036854775807) (h : K (.tup [.int .i32 (Lib.decodeLastL s).1, .int .i64 (Lib.decodeLastL s).2]) H) : FnC Tryd.prog ⟨n, T9 m⟩ 97 [.str s] H K := by
  refine FnC_of_calls (x := .tup [.int .i32 (Lib.decodeLastL s).1, .int .i64 (Lib.decodeLastL s).2]) Tryd.func97 (by kernel_rfl) (by kernel_rfl) (v := .tuple #[.int .i32 (Lib.decodeLastL s).1, .int .i64 (Lib.decodeLastL s).2])
    (fun w S => by simp only [Rep, RepL]; exact ⟨_, rfl, _, _, rfl, rfl, _, _, rfl, rfl, rfl⟩) (fun w S vs hi ha => ?_) h
  obtain rfl := repStr ha
  exact Any.utf8_DecodeLastRuneInString Tryd.lays271 ⟨s.toArray⟩ w (by rw [strSize]; exact hs) (tabs_of hi.tab)
/-! ### the library's answers -/
theorem indexByte_cons (b c : UInt8) (t : List UInt8) : Lib.indexByte (b :: t) c = if b == c then 0 else if Lib.indexByte t c == -1 then -1 else Lib.indexByte t c + 1 := rfl
theorem replaceK_nl : ∀ s : List UInt8, Lib.replaceK [10] [32] (s.count 10) s = s.map nl
  | [] => rfl
  | c :: t => by
    have ih := replaceK_nl t
    by_cases hc : c = 10
    · subst hc
      have hi : Lib.index (10 :: t) [10] = ((0 : Nat) : Int) := by rw [Lib.index_one, indexByte_cons]; rfl
      rw [List.count_cons_self, Lib.replaceK_hit _ _ _ _ 0 hi, List.map_cons]
      simp only [List.take_zero, List.nil_append, List.length_cons, List.length_nil, List.drop_succ_cons, List.drop_zero]
      rw [ih]
      rfl
    · have hbc : (c == 10) = false := beq_eq_false_iff_ne.2 hc
      have hcn : List.count 10 (c :: t) = List.count 10 t := by rw [List.count_cons, hbc]; rfl
      have hnl : nl c = c := by unfold nl; rw [if_neg hc]
      rw [hcn, List.map_cons, hnl, ← ih]
      cases hk : List.count 10 t with
      | zero => rfl
      | succ k =>
        have hpos : 0 < Lib.count t [10] := by rw [Lib.count_one]; omega
        obtain ⟨i, hi⟩ := Lib.index_of_count hpos
        have hi2 : Lib.index (c :: t) [10] = ((i + 1 : Nat) : Int) := by
          rw [Lib.index_one] at hi ⊢
          rw [indexByte_cons, hbc, hi]
          rw [if_neg (by simp), if_neg (by first | (simp; done) | (simp; omega))]
          omega
        rw [Lib.replaceK_hit _ _ _ _ (i + 1) hi2, Lib.replaceK_hit _ _ _ _ i hi]
        simp only [List.take_succ_cons, List.cons_append, List.length_cons, List.length_nil, List.drop_succ_cons]
theorem replace_nl (s : List UInt8) : Lib.replaceAll s [10] [32] = s.map nl := by
  unfold Lib.replaceAll Lib.replace Lib.replaceNum
  rw [if_neg (by decide), if_pos (by left; decide), Lib.count_one]
  exact replaceK_nl s
theorem dropW_isE (p : UInt8 → Bool) : ∀ s : List UInt8, (s.dropWhile p).isEmpty = s.all p
  | [] => rfl
  | a :: t => by
    have ih := dropW_isE p t
    cases h : p a
    · simp [List.dropWhile, h]
    · simp only [List.dropWhile, h, List.all_cons, Bool.true_and]; exact ih
theorem dropW_all (p : UInt8 → Bool) : ∀ s : List UInt8, (s.dropWhile p).all p = s.all p
  | [] => rfl
  | a :: t => by
    have ih := dropW_all p t
    cases h : p a
    · simp [List.dropWhile, h]
    · simp only [List.dropWhile, h, List.all_cons, Bool.true_and]; exact ih
theorem trim_isE (s : List UInt8) : (Lib.trimB s 32).isEmpty = s.all isB := by
  unfold Lib.trimB Lib.trimLeftB Lib.trimRightB
  rw [dropW_isE, List.all_reverse, dropW_all, List.all_reverse]
  rfl

theorem rep3 {w : World} {S : Seal} {x y z : AVal} {vs : Array Value} (h : RepL w S [x, y, z] vs.toList) : ∃ u v t, vs = #[u, v, t] ∧ Rep w S x u ∧ Rep w S y v ∧ Rep w S z t := by
  simp only [RepL] at h
  obtain ⟨u, _, e, hu, v, _, rfl, hv, t, _, rfl, ht, rfl⟩ := h
  exact ⟨u, v, t, by apply Array.ext'; simpa using e, hu, hv, ht⟩
theorem count_le (s : List UInt8) : Lib.countB ⟨s.toArray⟩ ⟨#[10]⟩ ≤ s.length := by
  have := Lib.countB_mul_le ⟨#[10]⟩ (by decide) s.length ⟨s.toArray⟩ (by rw [strSize]; exact Nat.le_refl _)
  have h1 : (⟨#[10]⟩ : ByteArray).size = 1 := rfl
  simp only [List.length_singleton, Nat.mul_one, h1] at this
  rw [strSize] at this
  exact this
theorem replace52 {n : Nat} {m : Int} {s : List UInt8} {H : Hp} {K : AVal → Hp → Prop} (hs : s.length ≤ 1000000000) (h : K (.str (s.map nl)) H) : FnC Tryd.prog ⟨n, T9 m⟩ 52 [.str s, .str [10], .str [32]] H K := by
  refine FnC_of_calls (x := .str (s.map nl)) Tryd.func52 (by kernel_rfl) (by kernel_rfl) (v := strV (s.map nl)) (fun w S => by simp only [Rep]) (fun w S vs hi ha => ?_) h
  obtain ⟨u, v, t, rfl, hu, hv, ht⟩ := rep3 ha
  simp only [Rep, strV] at hu hv ht
  subst hu hv ht
  have hc := count_le s
  have := Any.strings_ReplaceAll Tryd.lays155 Tryd.Builder_Extra_155 ⟨s.toArray⟩ ⟨#[10]⟩ ⟨#[32]⟩ m w (by rw [strSize]; omega) (max_of hi.tab) (by decide) (by rw [strSize]; have h1 : (⟨#[32]⟩ : ByteArray).size = 1 := rfl; rw [h1]; omega)
  refine this.mono fun e w' h => ⟨?_, h.2⟩
  rw [h.1]
  show Ending.returned (Value.string ⟨(Lib.replaceAll s [10] [32]).toArray⟩) = _
  rw [replace_nl]
  rfl
theorem trim53 {B0 : Base} {s : List UInt8} {H : Hp} {K : AVal → Hp → Prop} (hs : s.length ≤ 9223372036854775807) (h : K (.str (Lib.trimB s 32)) H) : FnC Tryd.prog B0 53 [.str s, .str [32]] H K := by
  refine FnC_of_calls (x := .str (Lib.trimB s 32)) Tryd.func53 (by kernel_rfl) (by kernel_rfl) (v := strV (Lib.trimB s 32)) (fun w S => by simp only [Rep]) (fun w S vs hi ha => ?_) h
  obtain ⟨u, v, rfl, hu, hv⟩ := rep2 ha
  simp only [Rep, strV] at hu hv
  subst hu hv
  refine (Any.strings_Trim_one Tryd.lays160 ⟨s.toArray⟩ 32 (by decide) w (by rw [strSize]; exact hs)).mono fun e w' h => ⟨h.1, ?_⟩
  rcases h.2 with rfl | rfl
  · exact Go.RowKit.Below.refl _ _
  · exact (Go.RowKit.Below.refl _ _).drew
theorem cut59 {n : Nat} {m : Int} {s p : List UInt8} {H : Hp} {K : AVal → Hp → Prop} (hs : s.length ≤ 1000000000) (h : K (.tup [.str (Lib.cut s p).1, .str (Lib.cut s p).2.1, .bool (Lib.cut s p).2.2]) H) : FnC Tryd.prog ⟨n, T9 m⟩ 59 [.str s, .str p] H K := by
  refine FnC_of_calls (x := .tup [.str (Lib.cut s p).1, .str (Lib.cut s p).2.1, .bool (Lib.cut s p).2.2]) Tryd.func59 (by kernel_rfl) (by kernel_rfl) (v := .tuple #[strV (Lib.cut s p).1, strV (Lib.cut s p).2.1, .bool (Lib.cut s p).2.2])
    (fun w S => by simp only [Rep, RepL]; exact ⟨_, rfl, _, _, rfl, rfl, _, _, rfl, rfl, _, _, rfl, rfl, rfl⟩) (fun w S vs hi ha => ?_) h
  obtain ⟨u, v, rfl, hu, hv⟩ := rep2 ha
  simp only [Rep, strV] at hu hv
  subst hu hv
  refine (Any.strings_Cut Tryd.lays145 ⟨s.toArray⟩ ⟨p.toArray⟩ m w (by rw [strSize]; omega) (max_of hi.tab)).mono fun e w' h => ⟨h.1, ?_⟩
  obtain ⟨k, rfl⟩ := h.2
  exact ⟨rfl, rfl, rfl, Nat.le_refl _, fun _ _ => rfl⟩
theorem prefix58 {B0 : Base} {s p : List UInt8} {H : Hp} {K : AVal → Hp → Prop} (h : K (.bool (Lib.hasPrefix s p)) H) : FnC Tryd.prog B0 58 [.str s, .str p] H K := by
  refine FnC_of_calls (x := .bool (Lib.hasPrefix s p)) Tryd.func58 (by kernel_rfl) (by kernel_rfl) (v := .bool (Lib.hasPrefix s p)) (fun w S => by simp only [Rep]) (fun w S vs hi ha => ?_) h
  obtain ⟨u, v, rfl, hu, hv⟩ := rep2 ha
  simp only [Rep, strV] at hu hv
  subst hu hv
  exact (Any.strings_HasPrefix Tryd.lays99 ⟨s.toArray⟩ ⟨p.toArray⟩ w).mono fun e w' h => ⟨h.1, h.2 ▸ Go.RowKit.Below.refl _ _⟩
end Go.Proofs.YtfnhhkpnfficaaaDoor
