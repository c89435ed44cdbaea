/- Patches: line ends in a text, lines that stand within a fence: step by step. Own work; printed from wip/law22/k.in by pre3.py. -/
import Derived.Test.YtoncjokijkjliaaDoorPaC
import Derived.Test.YtoncjokijkjliaaDoorPaF
import Derived.Test.YtoncjokijkjliaaDoorCore27
import Derived.Shelf.Strings.IndexAnyAll
namespace Go.Proofs.YtoncjokijkjliaaDoor
open Go.Sv Go.Shelf
set_option linter.unusedSimpArgs false
set_option linter.unusedVariables false
set_option maxRecDepth 100000

/-! ### line ends, as bytes and as runes -/
def eolB (c : UInt8) : Bool := c == 10 || c == 13
def crlf (s : List UInt8) : Bool := s.any eolB
theorem decL_big {c : UInt8} {t : List UInt8} (h : 128 ≤ c.toNat) : 128 ≤ (decL (c :: t)).1 := by
  have key : ∀ p : Nat × Nat, p = decL (c :: t) → 128 ≤ p.1 := by
    intro p hp
    unfold decL at hp
    dsimp only at hp
    simp only [List.getD_cons_zero] at hp
    split at hp
    · omega
    split at hp
    · split at hp
      · rw [hp]; dsimp only; omega
      · rw [hp]; decide
    split at hp
    · split at hp
      · rename_i h4
        rw [Bool.and_eq_true, decide_eq_true_eq] at h4
        rw [hp]; dsimp only; omega
      · rw [hp]; decide
    split at hp
    · split at hp
      · rename_i h5
        rw [Bool.and_eq_true, decide_eq_true_eq] at h5
        rw [hp]; dsimp only; omega
      · rw [hp]; decide
    · rw [hp]; decide
  exact key _ rfl
theorem crlf_skip : ∀ (t : List UInt8) (k : Nat), k ≤ (t.takeWhile big).length → crlf t = crlf (t.drop k)
  | t, 0, _ => by rw [List.drop_zero]
  | [], k + 1, h => by simp at h
  | c :: t, k + 1, h => by
    rw [List.takeWhile_cons] at h
    cases hb : big c
    · rw [hb] at h; simp at h
    · rw [hb] at h
      simp only [if_true, List.length_cons] at h
      have hc : eolB c = false := by
        unfold eolB
        have h1 : c ≠ 10 := by rintro rfl; revert hb; decide
        have h2 : c ≠ 13 := by rintro rfl; revert hb; decide
        rw [beq_eq_false_iff_ne.2 h1, beq_eq_false_iff_ne.2 h2]; rfl
      rw [List.drop_succ_cons, ← crlf_skip t k (by omega)]
      unfold crlf
      rw [List.any_cons, hc, Bool.false_or]
theorem dropc (s : List UInt8) (n : Nat) (h : n < s.length) : s.drop n = s.getD n 0 :: s.drop (n + 1) := by
  rw [List.drop_eq_getElem_cons h, List.getD_eq_getElem?_getD, List.getElem?_eq_getElem h]; rfl
theorem eol_nat {c : UInt8} : eolB c = true ↔ c.toNat = 10 ∨ c.toNat = 13 := by
  unfold eolB
  rw [Bool.or_eq_true, beq_iff_eq, beq_iff_eq, ← UInt8.toNat_inj, ← UInt8.toNat_inj]; rfl
/-- A rune, and what is behind it. -/
theorem crlf_rune {s : List UInt8} {pos : Nat} (h : pos < s.length) : pos + (decU s pos).2 ≤ s.length ∧ 0 < (decU s pos).2 ∧ crlf (s.drop pos) = (decide ((decU s pos).1 = 10 ∨ (decU s pos).1 = 13) || crlf (s.drop (pos + (decU s pos).2))) := by
  have hd := dropc s pos h
  rw [decU_list]
  have hle := decL_le (s.drop pos) (by rw [hd]; simp)
  have hpos := decL_pos (s.drop pos)
  rw [List.length_drop] at hle
  refine ⟨by omega, hpos, ?_⟩
  generalize hc : s.getD pos 0 = c at *
  rw [hd] at hpos ⊢
  by_cases h8 : c.toNat < 128
  · rw [decL_small h8]
    show (crlf (c :: s.drop (pos + 1))) = _
    unfold crlf
    rw [List.any_cons]
    congr 1
    cases he : eolB c
    · symm; rw [decide_eq_false_iff_not]; intro hh; rw [eol_nat.2 hh] at he; cases he
    · symm; rw [decide_eq_true_eq]; exact eol_nat.1 he
  · have hb := decL_big (c := c) (t := s.drop (pos + 1)) (by omega)
    rw [decide_eq_false (by omega), Bool.false_or]
    have ht := decL_tail c (s.drop (pos + 1))
    have hs := crlf_skip _ _ ht
    rw [List.drop_drop, show pos + 1 + ((decL (c :: s.drop (pos + 1))).2 - 1) = pos + (decL (c :: s.drop (pos + 1))).2 by omega] at hs
    rw [← hs]
    unfold crlf
    have : eolB c = false := by
      cases he : eolB c
      · rfl
      · have := eol_nat.1 he; omega
    rw [List.any_cons, this, Bool.false_or]

/-! ### the library -/
theorem indexRuneA46 {B0 : Base} {s : List UInt8} {r : Int} {H : Hp} {K : AVal → Hp → Prop} (h0 : 0 ≤ r) (h1 : r < 128) (h : K (.int .i64 (Lib.indexByte s r.toNat.toUInt8)) H) : FnC Tryd.prog B0 46 [.str s, .int .i32 r] H K := by
  refine FnC_of_calls (x := .int .i64 (Lib.indexByte s r.toNat.toUInt8)) Tryd.func46 (by kernel_rfl) (by kernel_rfl) (v := .int .i64 (Lib.indexByte s r.toNat.toUInt8)) (fun w S => by simp only [Rep]) (fun w S vs hi ha => ?_) h
  obtain ⟨u, v, rfl, hu, hv⟩ := rep2 ha
  simp only [Rep, strV] at hu hv
  subst hu hv
  exact (Any.strings_IndexRune_ascii Tryd.lays152 ⟨s.toArray⟩ r w h0 h1).mono fun e w' h => ⟨h.1, h.2 ▸ Go.RowKit.Below.refl _ _⟩
end Go.Proofs.YtoncjokijkjliaaDoor
