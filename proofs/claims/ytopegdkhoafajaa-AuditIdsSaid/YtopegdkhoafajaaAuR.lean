/- Ids that are written are read: in plain Lean. Own work. -/
import Derived.Test.YtopegdkhoafajaaAuO
namespace Go.Proofs.Ytopegdkhoafajaa
open Go.Sv
set_option linter.unusedSimpArgs false
set_option linter.unusedVariables false
set_option maxRecDepth 100000

/-- The ids: one byte for the place, one for the number. -/
def idsL : List Int → Nat → List (List UInt8)
  | [], _ => []
  | w :: r, i => [105, UInt8.ofNat (97 + i), UInt8.ofNat (97 + (w % 26).toNat)] :: idsL r (i + 1)
def pieceI (x : List UInt8) : List UInt8 := [60, 97, 32, 105, 100, 61, 34] ++ x ++ ([34, 62, 60, 47, 97, 62, 60, 98, 32, 104, 114, 101, 102, 61, 34, 35] ++ (x ++ [34, 62]))
def textI (l : List (List UInt8)) : List UInt8 := l.flatMap pieceI
/-- What the ids are like: neither " nor = in them. -/
def IdLike (x : List UInt8) : Prop := ∃ b c : UInt8, x = [105, b, c] ∧ b ≠ 34 ∧ c ≠ 34 ∧ b ≠ 61 ∧ c ≠ 61
theorem tilQ_q (a b c : UInt8) (r : List UInt8) (ha : a ≠ 34) (hb : b ≠ 34) (hc : c ≠ 34) : tilQ (a :: b :: c :: 34 :: r) = [a, b, c] := by
  rw [tilQ_cons, if_neg ha, tilQ_cons, if_neg hb, tilQ_cons, if_neg hc, tilQ_cons, if_pos rfl]
theorem bet_hit3 {p r : List UInt8} {a b c : UInt8} (ha : a ≠ 34) (hb : b ≠ 34) (hc : c ≠ 34) : betA p (p ++ (a :: b :: c :: 34 :: r)) = [a, b, c] :: betA p r := by
  have h1 : (p ++ (a :: b :: c :: 34 :: r)).drop p.length = a :: b :: c :: 34 :: r := List.drop_left' rfl
  have h2 := betA_hit (p := p) (s := p ++ (a :: b :: c :: 34 :: r)) (List.isPrefixOf_iff_prefix.2 ⟨_, rfl⟩)
  rw [h1, tilQ_q a b c r ha hb hc] at h2
  rw [h2, if_neg (by simp only [List.length_cons, List.length_nil]; omega)]
  congr 2
  rw [← List.drop_drop, h1]
  rfl
theorem pre_c (a b : UInt8) (p s : List UInt8) : (a :: p).isPrefixOf (b :: s) = (a == b && p.isPrefixOf s) := rfl
theorem skip_id {c : UInt8} {s : List UInt8} (h : ((105 : UInt8) == c && ([100, 61, 34] : List UInt8).isPrefixOf s) = false) : betA idW (c :: s) = betA idW s := betA_skip h
theorem skip_hr {c : UInt8} {s : List UInt8} (h : ((104 : UInt8) == c && ([114, 101, 102, 61, 34, 35] : List UInt8).isPrefixOf s) = false) : betA hrefW (c :: s) = betA hrefW s := betA_skip h
theorem id_piece {x : List UInt8} (hx : IdLike x) (r : List UInt8) : betA idW (pieceI x ++ r) = x :: betA idW r := by
  obtain ⟨b, c, rfl, hb, hc, hb1, hc1⟩ := hx
  have e : pieceI [105, b, c] ++ r = 60 :: 97 :: 32 :: (idW ++ (105 :: b :: c :: 34 :: (62 :: 60 :: 47 :: 97 :: 62 :: 60 :: 98 :: 32 :: 104 :: 114 :: 101 :: 102 :: 61 :: 34 :: 35 :: 105 :: b :: c :: 34 :: 62 :: r))) := by
    simp [pieceI, idW]
  rw [e]
  have hc' : ((61 : UInt8) == c) = false := beq_eq_false_iff_ne.2 (Ne.symm hc1)
  rw [skip_id rfl, skip_id rfl, skip_id rfl, bet_hit3 (by decide) hb hc]
  rw [skip_id rfl, skip_id rfl, skip_id rfl, skip_id rfl, skip_id rfl, skip_id rfl, skip_id rfl, skip_id rfl, skip_id rfl, skip_id rfl, skip_id rfl, skip_id rfl, skip_id rfl, skip_id rfl, skip_id rfl]
  rw [skip_id (by simp [pre_c, hc'])]
  rw [skip_id (by simp [pre_c]), skip_id (by simp [pre_c]), skip_id rfl, skip_id rfl]
theorem hr_piece {x : List UInt8} (hx : IdLike x) (r : List UInt8) : betA hrefW (pieceI x ++ r) = x :: betA hrefW r := by
  obtain ⟨b, c, rfl, hb, hc, hb1, hc1⟩ := hx
  have e : pieceI [105, b, c] ++ r = 60 :: 97 :: 32 :: 105 :: 100 :: 61 :: 34 :: 105 :: b :: c :: 34 :: 62 :: 60 :: 47 :: 97 :: 62 :: 60 :: 98 :: 32 :: (hrefW ++ (105 :: b :: c :: 34 :: (62 :: r))) := by
    simp [pieceI, hrefW]
  rw [e]
  rw [skip_hr rfl, skip_hr rfl, skip_hr rfl, skip_hr rfl, skip_hr rfl, skip_hr rfl, skip_hr rfl, skip_hr rfl]
  rw [skip_hr (by simp [pre_c]), skip_hr (by simp [pre_c])]
  rw [skip_hr rfl, skip_hr rfl, skip_hr rfl, skip_hr rfl, skip_hr rfl, skip_hr rfl, skip_hr rfl, skip_hr rfl, skip_hr rfl, bet_hit3 (by decide) hb hc, skip_hr rfl]
theorem bet_nil (p : List UInt8) : betA p [] = [] := betA_no (fun h => by have h1 := cut_len1 (by simp) h.2; have h2 := cut_len [] p; simp only [List.length_nil] at h2; omega)
theorem id_text : ∀ {l : List (List UInt8)}, (∀ x ∈ l, IdLike x) → idA (textI l) = l
  | [], _ => bet_nil _
  | x :: l, h => by
    show betA idW (pieceI x ++ textI l) = x :: l
    rw [id_piece (h x (by simp))]
    congr 1
    exact id_text (fun y hy => h y (by simp [hy]))
theorem hr_text0 : ∀ {l : List (List UInt8)}, (∀ x ∈ l, IdLike x) → betA hrefW (textI l) = l
  | [], _ => bet_nil _
  | x :: l, h => by
    show betA hrefW (pieceI x ++ textI l) = x :: l
    rw [hr_piece (h x (by simp))]
    congr 1
    exact hr_text0 (fun y hy => h y (by simp [hy]))
theorem hr_text {l : List (List UInt8)} (h : ∀ x ∈ l, IdLike x) : hrefA (textI l) = l := by
  unfold hrefA
  rw [hr_text0 h]
  unfold nonE
  rw [List.filter_eq_self]
  intro x hx
  obtain ⟨b, c, rfl, _⟩ := h x hx
  rfl
theorem u8_of {n : Nat} (h : n < 256) : (UInt8.ofNat n).toNat = n := by
  rw [UInt8.toNat_ofNat']
  exact Nat.mod_eq_of_lt h
theorem ne_of_nat {n : Nat} {k : UInt8} (h : n < 256) (hk : n ≠ k.toNat) : UInt8.ofNat n ≠ k := by
  intro e
  have := congrArg UInt8.toNat e
  rw [u8_of h] at this
  exact hk this
theorem ids_like : ∀ (l : List Int) (i : Nat), i + l.length ≤ 12 → ∀ x ∈ idsL l i, IdLike x
  | [], i, _, x, hx => absurd hx (by simp [idsL])
  | w :: r, i, hi, x, hx => by
    simp only [List.length_cons] at hi
    simp only [idsL, List.mem_cons] at hx
    rcases hx with rfl | hx
    · have hm : (w % 26).toNat < 26 := by have := Int.emod_nonneg w (by decide : (26 : Int) ≠ 0); have := Int.emod_lt_of_pos w (by decide : (0 : Int) < 26); omega
      exact ⟨_, _, rfl, ne_of_nat (by omega) (by show _ ≠ 34; omega), ne_of_nat (by omega) (by show _ ≠ 34; omega), ne_of_nat (by omega) (by show _ ≠ 61; omega), ne_of_nat (by omega) (by show _ ≠ 61; omega)⟩
    · exact ids_like r (i + 1) (by omega) x hx
theorem ids_second : ∀ (l : List Int) (i : Nat), i + l.length ≤ 12 → ∀ x ∈ idsL l i, 97 + i ≤ (x.getD 1 0).toNat
  | [], i, _, x, hx => absurd hx (by simp [idsL])
  | w :: r, i, hi, x, hx => by
    simp only [List.length_cons] at hi
    simp only [idsL, List.mem_cons] at hx
    rcases hx with rfl | hx
    · show _ ≤ (UInt8.ofNat (97 + i)).toNat
      rw [u8_of (by omega)]; exact Nat.le_refl _
    · have := ids_second r (i + 1) (by omega) x hx
      omega
theorem ids_nodup : ∀ (l : List Int) (i : Nat), i + l.length ≤ 12 → (idsL l i).Nodup
  | [], i, _ => List.nodup_nil
  | w :: r, i, hi => by
    simp only [List.length_cons] at hi
    simp only [idsL]
    rw [List.nodup_cons]
    refine ⟨fun hm => ?_, ids_nodup r (i + 1) (by omega)⟩
    have := ids_second r (i + 1) (by omega) _ hm
    have e : (UInt8.ofNat (97 + i)).toNat = 97 + i := u8_of (by omega)
    change 97 + (i + 1) ≤ (UInt8.ofNat (97 + i)).toNat at this
    omega
theorem ids_length : ∀ (l : List Int) (i : Nat), (idsL l i).length = l.length
  | [], i => rfl
  | w :: r, i => by simp only [idsL, List.length_cons, ids_length r (i + 1)]
theorem ids_snocL : ∀ (l : List Int) (i : Nat) (w : Int), idsL (l ++ [w]) i = idsL l i ++ [[105, UInt8.ofNat (97 + (i + l.length)), UInt8.ofNat (97 + (w % 26).toNat)]]
  | [], i, w => rfl
  | v :: r, i, w => by
    simp only [List.cons_append, idsL, List.length_cons]
    rw [ids_snocL r (i + 1) w, show i + 1 + r.length = i + (r.length + 1) by omega]
theorem text_snoc (l : List (List UInt8)) (x : List UInt8) : textI (l ++ [x]) = textI l ++ pieceI x := by simp [textI]
theorem text_len : ∀ {l : List (List UInt8)}, (∀ x ∈ l, IdLike x) → (textI l).length = 31 * l.length
  | [], _ => rfl
  | x :: l, h => by
    have h1 := text_len (fun y hy => h y (by simp [hy]) : ∀ y ∈ l, IdLike y)
    obtain ⟨b, c, rfl, _⟩ := h x (by simp)
    show (pieceI _ ++ textI l).length = _
    rw [List.length_append, h1]
    simp only [pieceI, List.length_append, List.length_cons, List.length_nil]
    omega
/-- They are linked. -/
theorem link_ids {l : List (List UInt8)} (h : ∀ x ∈ l, IdLike x) (hn : l.Nodup) : linkV [([], textI l, ())] = true := by
  refine link_yes ?_ ?_
  · show ([textI l].flatMap idA).Nodup
    simp only [List.flatMap_cons, List.flatMap_nil, List.append_nil, id_text h]; exact hn
  · intro x hx
    have hx' : x ∈ [textI l].flatMap hrefA := hx
    simp only [List.flatMap_cons, List.flatMap_nil, List.append_nil, hr_text h] at hx'
    show x ∈ [textI l].flatMap idA
    simp only [List.flatMap_cons, List.flatMap_nil, List.append_nil, id_text h]; exact hx'
/-- One that is there twice. -/
theorem link_id2 {l : List (List UInt8)} (h : ∀ x ∈ l, IdLike x) {x : List UInt8} (hx : x ∈ l) : linkV [([], textI l, ()), ([], [105, 100, 61, 34] ++ x ++ [34], ())] = false := by
  have hi : idA ([105, 100, 61, 34] ++ x ++ [34]) = [x] := by
    obtain ⟨b, c, rfl, hb, hc, _⟩ := h x hx
    show betA idW (idW ++ (105 :: b :: c :: 34 :: [])) = _
    rw [bet_hit3 (by decide) hb hc, bet_nil]
  have hn : ¬ (idsOf [([], textI l, ()), ([], [105, 100, 61, 34] ++ x ++ [34], ())]).Nodup := by
    intro hn
    have hn' : ([textI l, [105, 100, 61, 34] ++ x ++ [34]].flatMap idA).Nodup := hn
    simp only [List.flatMap_cons, List.flatMap_nil, List.append_nil, id_text h, hi] at hn'
    exact (List.nodup_append.1 hn').2.2 x hx x (by simp) rfl
  unfold linkV
  rw [decide_eq_false hn, Bool.false_and]
theorem kz : hrefA [104, 114, 101, 102, 61, 34, 35, 122, 34] = [[122]] := by rw [hrefA_F]; decide +kernel
theorem kz2 : idA [104, 114, 101, 102, 61, 34, 35, 122, 34] = [] := by rw [idA_F]; decide +kernel
/-- One that leads nowhere. -/
theorem link_z {l : List (List UInt8)} (h : ∀ x ∈ l, IdLike x) : linkV [([], textI l, ()), ([], [104, 114, 101, 102, 61, 34, 35, 122, 34], ())] = false := by
  refine link_none (x := [122]) ?_ ?_
  · show _ ∈ [textI l, [104, 114, 101, 102, 61, 34, 35, 122, 34]].flatMap hrefA
    simp only [List.flatMap_cons, List.flatMap_nil, List.append_nil, kz]
    simp
  · intro hm
    have hm' : ([122] : List UInt8) ∈ [textI l, [104, 114, 101, 102, 61, 34, 35, 122, 34]].flatMap idA := hm
    simp only [List.flatMap_cons, List.flatMap_nil, List.append_nil, kz2, id_text h] at hm'
    obtain ⟨b, c, e, _⟩ := h _ hm'
    simp at e
end Go.Proofs.Ytopegdkhoafajaa
