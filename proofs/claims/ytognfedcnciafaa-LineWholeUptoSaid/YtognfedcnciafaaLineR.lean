/- Lines: what LineWhole computes. Own work; printed from wip/law1/r.in by pre.py. -/
import Derived.Test.YtognfedcnciafaaLineQ
namespace Go.Proofs.Ytognfedcnciafaa
open Go.Sv
set_option linter.unusedSimpArgs false
set_option linter.unusedVariables false
set_option maxRecDepth 100000

/-- Texts without ends. -/
def cleanL (l : List (List UInt8)) : Prop := ∀ s ∈ l, ∀ c ∈ s, noEnd c = true
theorem joinL_cons (s : List UInt8) (l : List (List UInt8)) (e : List UInt8) : joinL (s :: l) e = s ++ e ++ joinL l e := by simp [joinL]
theorem texts_feed : ∀ (l : List (List UInt8)), cleanL l → textsOf (joinL l [10]) = l
  | [], _ => by rw [joinL_nil, texts_lines, lines_nil]; rfl
  | s :: l, h => by
    have ih := texts_feed l fun t ht => h t (by simp [ht])
    rw [texts_lines] at ih ⊢
    rw [joinL_cons, show s ++ [10] ++ joinL l [10] = s ++ 10 :: joinL l [10] by simp, lines_feed (h s (by simp)), List.map_cons, ih]
theorem texts_back : ∀ (l : List (List UInt8)), cleanL l → textsOf (joinL l [13, 10]) = l
  | [], _ => by rw [joinL_nil, texts_lines, lines_nil]; rfl
  | s :: l, h => by
    have ih := texts_back l fun t ht => h t (by simp [ht])
    rw [texts_lines] at ih ⊢
    rw [joinL_cons, show s ++ [13, 10] ++ joinL l [13, 10] = s ++ 13 :: 10 :: joinL l [13, 10] by simp, lines_back (h s (by simp)), List.map_cons, ih]
/-- A line's text has no end. -/
theorem text_clean (b : List UInt8) (i : Nat) (hi : i ≤ b.length) : ∀ c ∈ (b.take (eol b i)).drop i, noEnd c = true := by
  intro c hc
  rw [(eol_take b i hi).2.2] at hc
  exact List.all_eq_true.1 (List.all_takeWhile (p := noEnd)) c hc
theorem cleanL_snoc {l : List (List UInt8)} {s : List UInt8} (h : cleanL l) (hs : ∀ c ∈ s, noEnd c = true) : cleanL (l ++ [s]) := by
  intro t ht
  rcases List.mem_append.1 ht with ht | ht
  · exact h t ht
  · simp at ht; subst ht; exact hs
end Go.Proofs.Ytognfedcnciafaa
