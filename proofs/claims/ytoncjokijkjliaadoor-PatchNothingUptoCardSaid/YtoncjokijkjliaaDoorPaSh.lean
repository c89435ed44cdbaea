/- What the library's functions come to, as contracts of this text's own: IndexByte, Trim at a blank and a tab, DecodeLastRuneInString with its tables. Own work; printed from wip/law4/sh.in by pre.py. -/
import Derived.Test.YtoncjokijkjliaaDoorShelf
import Derived.Test.YtoncjokijkjliaaDoorFacts
import Derived.Test.YtoncjokijkjliaaDoorCore24
namespace Go.Proofs.YtoncjokijkjliaaDoor
open Go.Sv Go.Shelf
set_option linter.unusedSimpArgs false
set_option linter.unusedVariables false
set_option maxRecDepth 100000

/-- The tables: first, acceptRanges. -/
def T8 : List (Nat × List Value) := [(1, (List.range 256).map fun c => .int .u8 (Lib.firstT c)), (2, (List.range 32).map fun i => .int .u8 (if i % 2 = 0 then Lib.accLo (i / 2) else Lib.accHi (i / 2)))]
theorem tabs_of {w : World} {S : Seal} (h : TabAt T8 w S) : Lib.Utf8Tabs 1 2 w := by
  refine ⟨fun c hc => ?_, fun i hi => ⟨?_, ?_⟩⟩
  · refine h.cell (q := (1, (List.range 256).map fun c => .int .u8 (Lib.firstT c))) (by simp [T8]) ?_
    simp only [List.getElem?_map, List.getElem?_range hc]; rfl
  · refine h.cell (q := (2, (List.range 32).map fun i => .int .u8 (if i % 2 = 0 then Lib.accLo (i / 2) else Lib.accHi (i / 2)))) (by simp [T8]) ?_
    simp only [List.getElem?_map, List.getElem?_range (show 2 * i < 32 by omega), Option.map_some]
    rw [if_pos (by omega), show 2 * i / 2 = i by omega]
  · refine h.cell (q := (2, (List.range 32).map fun i => .int .u8 (if i % 2 = 0 then Lib.accLo (i / 2) else Lib.accHi (i / 2)))) (by simp [T8]) ?_
    simp only [List.getElem?_map, List.getElem?_range (show 2 * i + 1 < 32 by omega), Option.map_some]
    rw [if_neg (by omega), show (2 * i + 1) / 2 = i by omega]
theorem of_tabs {w : World} (h : Lib.Utf8Tabs 1 2 w) : TabAt T8 w (sealAll w) := by
  refine tabAt_seal fun q hq j v hv => ?_
  simp only [T8, List.mem_cons, List.not_mem_nil, or_false] at hq
  rcases hq with rfl | rfl
  · simp only at hv ⊢
    rcases Nat.lt_or_ge j 256 with hj | hj
    · rw [List.getElem?_map, List.getElem?_range hj, Option.map_some, Option.some.injEq] at hv
      rw [← hv]; exact h.1 j hj
    · rw [List.getElem?_eq_none (by simp; omega)] at hv; simp at hv
  · simp only at hv ⊢
    rcases Nat.lt_or_ge j 32 with hj | hj
    · rw [List.getElem?_map, List.getElem?_range hj, Option.map_some, Option.some.injEq] at hv
      rw [← hv]
      by_cases h2 : j % 2 = 0
      · rw [if_pos h2]; have := (h.2 (j / 2) (by omega)).1; rwa [show 2 * (j / 2) = j by omega] at this
      · rw [if_neg h2]; have := (h.2 (j / 2) (by omega)).2; rwa [show 2 * (j / 2) + 1 = j by omega] at this
    · rw [List.getElem?_eq_none (by simp; omega)] at hv; simp at hv
theorem u8x : U8Extra Tryd.prog Tryd.lays260_ren := ⟨by kernel_rfl, by kernel_rfl, by kernel_rfl, by kernel_rfl, by kernel_rfl, by kernel_rfl, by kernel_rfl⟩
theorem tabs_laid {w : World} (h3 : Lib.VarReads Tryd.prog w "unicode/utf8.first" Lib.firstData) (h4 : Lib.VarReads Tryd.prog w "unicode/utf8.acceptRanges" Lib.acceptData) : TabAt T8 w (sealAll w) :=
  of_tabs (utf8Tabs_of_reads Tryd.lays260 u8x h3 h4)

theorem strSize (s : List UInt8) : (ByteArray.mk s.toArray).size = s.length := by simp [ByteArray.size]
theorem indexByte29 {B0 : Base} {s : List UInt8} {c : UInt8} {H : Hp} {K : AVal → Hp → Prop} (h : K (.int .i64 (Lib.indexByte s c)) H) : FnC Tryd.prog B0 29 [.str s, .u8 c] H K := by
  refine FnC_of_calls (x := .int .i64 (Lib.indexByte s c)) Tryd.func29 (by kernel_rfl) (by kernel_rfl) (v := .int .i64 (Lib.indexByte s c)) (fun w S => by simp only [Rep]) (fun w S vs hi ha => ?_) h
  obtain ⟨u, v, rfl, hu, hv⟩ := rep2 ha
  simp only [Rep, strV] at hu hv
  subst hu hv
  have := Any.strings_IndexByte Tryd.lays137 ⟨s.toArray⟩ c.toNat w
  rw [u8_back] at this
  exact this.mono fun e w' h => ⟨h.1, h.2 ▸ Go.RowKit.Below.refl _ _⟩
theorem trim28 {B0 : Base} {s : List UInt8} {H : Hp} {K : AVal → Hp → Prop} (hs : s.length ≤ 9223372036854775807) (h : K (.str (Lib.trimS s [32, 9])) H) : FnC Tryd.prog B0 28 [.str s, .str [32, 9]] H K := by
  refine FnC_of_calls (x := .str (Lib.trimS s [32, 9])) Tryd.func28 (by kernel_rfl) (by kernel_rfl) (v := strV (Lib.trimS s [32, 9])) (fun w S => by simp only [Rep]) (fun w S vs hi ha => ?_) h
  obtain ⟨u, v, rfl, hu, hv⟩ := rep2 ha
  simp only [Rep, strV] at hu hv
  subst hu hv
  exact Any.strings_Trim_laid Tryd.lays160 (by kernel_rfl) ⟨s.toArray⟩ ⟨#[32, 9]⟩ w (by rw [strSize]; exact hs) (by decide) (ascii_of_all (by decide))
end Go.Proofs.YtoncjokijkjliaaDoor
