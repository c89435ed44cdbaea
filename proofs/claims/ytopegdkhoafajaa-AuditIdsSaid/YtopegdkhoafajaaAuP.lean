/- What stands between a text and the next ", in plain Lean. Own work. -/
import Derived.Test.YtopegdkhoafajaaCore16
import Derived.Lib.IndexMore
import Derived.Lib.IndexLaws
namespace Go.Proofs.Ytopegdkhoafajaa
open Go.Sv
set_option linter.unusedSimpArgs false
set_option linter.unusedVariables false

theorem cut_len (s p : List UInt8) : (Lib.cut s p).2.1.length ≤ s.length := by
  unfold Lib.cut
  split
  · simp only [List.length_drop]; omega
  · simp
theorem cut_len1 {s p : List UInt8} (hp : p ≠ []) (h : (Lib.cut s p).2.2 = true) : (Lib.cut s p).2.1.length < s.length := by
  unfold Lib.cut at h ⊢
  split
  · rename_i h0
    have := Lib.index_room s p h0
    have hp1 : 0 < p.length := List.length_pos_iff.2 hp
    simp only [List.length_drop]; omega
  · rename_i h0
    rw [if_neg h0] at h; simp at h
/-- What stands between a text and the next ", each time. -/
def betA (p s : List UInt8) : List (List UInt8) :=
  if h : (Lib.cut s p).2.2 = true ∧ (Lib.cut (Lib.cut s p).2.1 [34]).2.2 = true then (Lib.cut (Lib.cut s p).2.1 [34]).1 :: betA p (Lib.cut (Lib.cut s p).2.1 [34]).2.1 else []
termination_by s.length
decreasing_by exact Nat.lt_of_lt_of_le (cut_len1 (by simp) h.2) (cut_len s p)
theorem betA_go {p s : List UInt8} (h1 : (Lib.cut s p).2.2 = true) (h2 : (Lib.cut (Lib.cut s p).2.1 [34]).2.2 = true) : betA p s = (Lib.cut (Lib.cut s p).2.1 [34]).1 :: betA p (Lib.cut (Lib.cut s p).2.1 [34]).2.1 := by
  rw [betA, dif_pos ⟨h1, h2⟩]
theorem betA_no {p s : List UInt8} (h : ¬ ((Lib.cut s p).2.2 = true ∧ (Lib.cut (Lib.cut s p).2.1 [34]).2.2 = true)) : betA p s = [] := by
  rw [betA, dif_neg h]
/-- The row of bytes ahead of the next ". -/
def tilQ (r : List UInt8) : List UInt8 := r.takeWhile (· != 34)
theorem tilQ_le (r : List UInt8) : (tilQ r).length ≤ r.length := (List.takeWhile_sublist _).length_le
theorem tilQ_cons (c : UInt8) (r : List UInt8) : tilQ (c :: r) = if c = 34 then [] else c :: tilQ r := by
  unfold tilQ
  rw [List.takeWhile_cons]
  by_cases h : c = 34 <;> simp [h]
theorem index_q : ∀ r : List UInt8, Lib.index r [34] = if (tilQ r).length = r.length then -1 else ((tilQ r).length : Int)
  | [] => rfl
  | c :: r => by
    unfold Lib.index
    rw [tilQ_cons]
    by_cases h : c = 34
    · subst h; simp [List.isPrefixOf]
    · have h' : (([34] : List UInt8).isPrefixOf (c :: r)) = false := by simp [List.isPrefixOf, Ne.symm h]
      rw [h', index_q r]
      have := tilQ_le r
      by_cases h2 : (tilQ r).length = r.length
      · simp [h, h2]
      · simp only [h, if_false, h2, List.length_cons, Nat.add_right_cancel_iff, Bool.false_eq_true]
        rw [if_neg (by simp only [beq_iff_eq]; omega)]
        omega
theorem tilQ_take (r : List UInt8) : r.take (tilQ r).length = tilQ r := by
  have h : (tilQ r) ++ r.dropWhile (· != 34) = r := List.takeWhile_append_dropWhile
  conv => lhs; rw [← h]
  rw [show (tilQ (tilQ r ++ r.dropWhile (· != 34))).length = (tilQ r).length by rw [h]]
  exact List.take_left' rfl
theorem cut_q (r : List UInt8) : Lib.cut r [34] = if (tilQ r).length = r.length then (r, [], false) else (tilQ r, r.drop ((tilQ r).length + 1), true) := by
  unfold Lib.cut
  rw [index_q]
  by_cases h : (tilQ r).length = r.length
  · simp [h]
  · rw [if_neg h, if_pos (by omega), if_neg h]
    simp only [Int.toNat_natCast, tilQ_take, List.length_singleton]
theorem betA_hit {p s : List UInt8} (h : p.isPrefixOf s = true) : betA p s = if (tilQ (s.drop p.length)).length = (s.drop p.length).length then [] else tilQ (s.drop p.length) :: betA p (s.drop (p.length + ((tilQ (s.drop p.length)).length + 1))) := by
  have hi : Lib.index s p = 0 := Lib.index_first (i := 0) (Nat.zero_le _) (by simpa [Lib.occAt] using h) (fun _ h => absurd h (Nat.not_lt_zero _))
  have hc : Lib.cut s p = ([], s.drop p.length, true) := by
    unfold Lib.cut
    rw [hi]; simp
  rw [betA, hc]
  simp only
  rw [cut_q]
  by_cases h2 : (tilQ (s.drop p.length)).length = (s.drop p.length).length
  · simp [h2]
  · simp only [h2, if_false, List.drop_drop, and_self, ↓reduceDIte]
theorem betA_skip {p : List UInt8} {c : UInt8} {s : List UInt8} (h : p.isPrefixOf (c :: s) = false) : betA p (c :: s) = betA p s := by
  have hi : Lib.index (c :: s) p = if Lib.index s p == -1 then -1 else Lib.index s p + 1 := by
    rw [Lib.index, h]; simp
  have hg := Lib.index_ge s p
  have hcut : (Lib.cut (c :: s) p).2 = (Lib.cut s p).2 := by
    unfold Lib.cut
    rw [hi]
    by_cases h1 : Lib.index s p = -1
    · simp [h1]
    · have : (Lib.index s p == -1) = false := beq_eq_false_iff_ne.2 h1
      rw [this]
      simp only [Bool.false_eq_true, if_false]
      rw [if_pos (by omega), if_pos (by omega)]
      have : (Lib.index s p + 1).toNat + p.length = ((Lib.index s p).toNat + p.length) + 1 := by omega
      simp only [this, List.drop_succ_cons]
  rw [betA, hcut]
  conv => rhs; rw [betA]
theorem betA_short : ∀ {p s : List UInt8}, s.length < p.length → betA p s = [] := by
  intro p s h
  refine betA_no (fun h2 => ?_)
  have := h2.1
  unfold Lib.cut at this
  split at this
  · rename_i h0
    have := Lib.index_room s p h0
    omega
  · simp at this
theorem isPre_take {p s : List UInt8} (h : p.length ≤ s.length) : p.isPrefixOf s = (s.take p.length == p) := by
  by_cases h1 : s.take p.length = p
  · rw [h1]
    simp only [beq_self_eq_true]
    exact List.isPrefixOf_iff_prefix.2 ⟨s.drop p.length, by conv => lhs; lhs; rw [← h1]
                                                            exact List.take_append_drop _ _⟩
  · rw [beq_eq_false_iff_ne.2 h1]
    rw [Bool.eq_false_iff]
    intro h2
    obtain ⟨t, rfl⟩ := List.isPrefixOf_iff_prefix.1 h2
    exact h1 (by simp)
theorem betA_drop_skip {p s : List UInt8} {i : Nat} (hi : i + p.length ≤ s.length) (hp : p ≠ []) (h : ((s.drop i).take p.length == p) = false) : betA p (s.drop i) = betA p (s.drop (i + 1)) := by
  have hp1 : 0 < p.length := List.length_pos_iff.2 hp
  rw [← isPre_take (by rw [List.length_drop]; omega)] at h
  rw [List.drop_eq_getElem_cons (by omega : i < s.length)] at h ⊢
  exact betA_skip h
theorem betA_drop_hit {p s : List UInt8} {i : Nat} (hi : i + p.length ≤ s.length) (h : ((s.drop i).take p.length == p) = true) : betA p (s.drop i) = if i + p.length + (tilQ (s.drop (i + p.length))).length = s.length then [] else tilQ (s.drop (i + p.length)) :: betA p (s.drop (i + p.length + (tilQ (s.drop (i + p.length))).length + 1)) := by
  rw [← isPre_take (by rw [List.length_drop]; omega)] at h
  rw [betA_hit h]
  rw [List.drop_drop, List.drop_drop]
  have e : (tilQ (s.drop (i + p.length))).length = (s.drop (i + p.length)).length ↔ i + p.length + (tilQ (s.drop (i + p.length))).length = s.length := by
    rw [List.length_drop]; omega
  simp only [e]
  rw [show i + (p.length + ((tilQ (s.drop (i + p.length))).length + 1)) = i + p.length + (tilQ (s.drop (i + p.length))).length + 1 by omega]
theorem betA_len : ∀ (n : Nat) (p s : List UInt8), s.length ≤ n → (betA p s).length ≤ s.length
  | 0, p, s, h => by
    rw [betA_no (fun h2 => by have := cut_len1 (by simp) h2.2; have := cut_len s p; omega)]; simp
  | n + 1, p, s, h => by
    by_cases h2 : (Lib.cut s p).2.2 = true ∧ (Lib.cut (Lib.cut s p).2.1 [34]).2.2 = true
    · have k1 := cut_len1 (by simp) h2.2
      have k2 := cut_len s p
      rw [betA_go h2.1 h2.2]
      have := betA_len n p (Lib.cut (Lib.cut s p).2.1 [34]).2.1 (by omega)
      simp only [List.length_cons]; omega
    · rw [betA_no h2]; simp
theorem til_go {s : List UInt8} {a e : Nat} (hae : a ≤ e) (he : e < s.length) (h : e + (tilQ (s.drop e)).length = a + (tilQ (s.drop a)).length) (hc : s.getD e 0 ≠ 34) : e + 1 + (tilQ (s.drop (e + 1))).length = a + (tilQ (s.drop a)).length := by
  rw [List.drop_eq_getElem_cons he, tilQ_cons] at h
  have hc' : s[e] ≠ 34 := by rwa [List.getD_eq_getElem?_getD, List.getElem?_eq_getElem he] at hc
  rw [if_neg hc'] at h
  simp only [List.length_cons] at h
  omega
theorem til_stop {s : List UInt8} {e : Nat} (he : e < s.length) (hc : s.getD e 0 = 34) : tilQ (s.drop e) = [] := by
  rw [List.drop_eq_getElem_cons he, tilQ_cons]
  have hc' : s[e] = 34 := by rwa [List.getD_eq_getElem?_getD, List.getElem?_eq_getElem he] at hc
  rw [if_pos hc']
theorem til_slice {s : List UInt8} {a : Nat} : (s.take (a + (tilQ (s.drop a)).length)).drop a = tilQ (s.drop a) := by
  rw [List.drop_take, show a + (tilQ (s.drop a)).length - a = (tilQ (s.drop a)).length by omega, tilQ_take]
/-- Those that are not empty. -/
def nonE (l : List (List UInt8)) : List (List UInt8) := l.filter (· != [])
theorem nonE_nil : nonE [] = [] := rfl
theorem nonE_app (l : List (List UInt8)) (x : List UInt8) : nonE (l ++ [x]) = if x = [] then nonE l else nonE l ++ [x] := by
  unfold nonE
  rw [List.filter_append]
  by_cases h : x = []
  · subst h; simp
  · simp [h]
theorem nonE_len (l : List (List UInt8)) : (nonE l).length ≤ l.length := List.length_filter_le _ _
end Go.Proofs.Ytopegdkhoafajaa
