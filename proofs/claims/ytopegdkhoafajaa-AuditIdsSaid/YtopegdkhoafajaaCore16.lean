/-
  The runes of a text, as lists. Own work. Nothing here is trusted.
-/
import Derived.Test.YtopegdkhoafajaaCore15
namespace Go.Sv
set_option linter.unusedSimpArgs false
set_option linter.unusedVariables false

/-- A text's runes. -/
def vr (s : List UInt8) : List Int := if h : s = [] then [] else ((decL s).1 : Int) :: vr (s.drop (decL s).2)
termination_by s.length
decreasing_by
  have := decL_pos s
  have hp : 0 < s.length := List.length_pos_iff.2 h
  rw [List.length_drop]; omega
theorem vr_nil : vr [] = [] := by rw [vr, dif_pos rfl]
theorem vr_ne {s : List UInt8} (h : s ≠ []) : vr s = ((decL s).1 : Int) :: vr (s.drop (decL s).2) := by rw [vr, dif_neg h]
theorem vr_cons (c : UInt8) (t : List UInt8) : vr (c :: t) = ((decL (c :: t)).1 : Int) :: vr ((c :: t).drop (decL (c :: t)).2) := by rw [vr, dif_neg (by simp)]
theorem decL_small {c : UInt8} {t : List UInt8} (h : c.toNat < 128) : decL (c :: t) = (c.toNat, 1) := by
  unfold decL
  simp only [List.getD_cons_zero]
  rw [if_pos h]

theorem valid_small {n : Nat} (h : n < 55296) : Utf8.valid (n : Int) = true := by
  unfold Utf8.valid
  rw [Bool.or_eq_true, Bool.and_eq_true, decide_eq_true_eq, decide_eq_true_eq]
  omega
theorem valid_bad : Utf8.valid ((65533 : Nat) : Int) = true := by decide
theorem decL_valid (s : List UInt8) : Utf8.valid ((decL s).1 : Int) = true := by
  have key : ∀ p : Nat × Nat, p = decL s → Utf8.valid (p.1 : Int) = true := by
    intro p hp
    unfold decL at hp
    dsimp only at hp
    split at hp
    · rw [hp]; refine valid_small ?_; dsimp only; omega
    split at hp
    · split at hp
      · rw [hp]; refine valid_small ?_; dsimp only; omega
      · rw [hp]; exact valid_bad
    split at hp
    · split at hp
      · rename_i h4
        rw [Bool.and_eq_true] at h4
        rw [hp]; exact h4.2
      · rw [hp]; exact valid_bad
    split at hp
    · split at hp
      · rename_i h5
        rw [Bool.and_eq_true] at h5
        rw [hp]; exact h5.2
      · rw [hp]; exact valid_bad
    · rw [hp]; exact valid_bad
  exact key _ rfl

theorem dec_enc {c : Nat} (hv : Utf8.valid (c : Int) = true) (t : List UInt8) : decL (runeBytes c ++ t) = (c, (runeBytes c).length) := by
  have hle := valid_le hv
  rw [runeBytes_eq]
  simp only [hv, if_true, Int.toNat_natCast]
  by_cases h1 : c < 128
  · rw [if_pos h1]
    have e0 : (UInt8.ofNat c).toNat = c := by rw [UInt8.toNat_ofNat']; omega
    rw [List.singleton_append, decL_small (by rw [e0]; exact h1), e0]
    rfl
  rw [if_neg h1]
  by_cases h2 : c < 2048
  · rw [if_pos h2]
    have e0 : (UInt8.ofNat (192 + c / 64)).toNat = 192 + c / 64 := by rw [UInt8.toNat_ofNat']; omega
    have e1 : (UInt8.ofNat (128 + c % 64)).toNat = 128 + c % 64 := by rw [UInt8.toNat_ofNat']; omega
    unfold decL
    simp only [List.cons_append, List.nil_append, List.getD_cons_zero, List.getD_cons_succ, e0, e1, List.length_cons]
    rw [if_neg (by omega), if_pos (by simp only [Bool.and_eq_true, beq_iff_eq, decide_eq_true_eq]; omega), if_pos (by omega)]
    exact Prod.ext (by dsimp only; omega) rfl
  rw [if_neg h2]
  by_cases h3 : c < 65536
  · rw [if_pos h3]
    have e0 : (UInt8.ofNat (224 + c / 4096)).toNat = 224 + c / 4096 := by rw [UInt8.toNat_ofNat']; omega
    have e1 : (UInt8.ofNat (128 + c / 64 % 64)).toNat = 128 + c / 64 % 64 := by rw [UInt8.toNat_ofNat']; omega
    have e2 : (UInt8.ofNat (128 + c % 64)).toNat = 128 + c % 64 := by rw [UInt8.toNat_ofNat']; omega
    unfold decL
    simp only [List.cons_append, List.nil_append, List.getD_cons_zero, List.getD_cons_succ, e0, e1, e2, List.length_cons]
    have hc : (224 + c / 4096) % 16 * 4096 + (128 + c / 64 % 64) % 64 * 64 + (128 + c % 64) % 64 = c := by omega
    rw [if_neg (by omega), if_neg (by simp only [Bool.and_eq_true, beq_iff_eq, decide_eq_true_eq]; omega), if_pos (by simp only [Bool.and_eq_true, beq_iff_eq, decide_eq_true_eq]; omega), hc, if_pos (by rw [hv, Bool.and_true, decide_eq_true_eq]; omega)]
    rfl
  rw [if_neg h3]
  have e0 : (UInt8.ofNat (240 + c / 262144)).toNat = 240 + c / 262144 := by rw [UInt8.toNat_ofNat']; omega
  have e1 : (UInt8.ofNat (128 + c / 4096 % 64)).toNat = 128 + c / 4096 % 64 := by rw [UInt8.toNat_ofNat']; omega
  have e2 : (UInt8.ofNat (128 + c / 64 % 64)).toNat = 128 + c / 64 % 64 := by rw [UInt8.toNat_ofNat']; omega
  have e3 : (UInt8.ofNat (128 + c % 64)).toNat = 128 + c % 64 := by rw [UInt8.toNat_ofNat']; omega
  unfold decL
  simp only [List.cons_append, List.nil_append, List.getD_cons_zero, List.getD_cons_succ, e0, e1, e2, e3, List.length_cons]
  have hc : (240 + c / 262144) % 8 * 262144 + (128 + c / 4096 % 64) % 64 * 4096 + (128 + c / 64 % 64) % 64 * 64 + (128 + c % 64) % 64 = c := by omega
  rw [if_neg (by omega), if_neg (by simp only [Bool.and_eq_true, beq_iff_eq, decide_eq_true_eq]; omega), if_neg (by simp only [Bool.and_eq_true, beq_iff_eq, decide_eq_true_eq]; omega), if_pos (by simp only [Bool.and_eq_true, beq_iff_eq, decide_eq_true_eq]; omega), hc,
    if_pos (by rw [hv, Bool.and_true, decide_eq_true_eq]; omega)]
  rfl

theorem vr_valid (s : List UInt8) : ∀ r ∈ vr s, ∃ n : Nat, r = n ∧ Utf8.valid (n : Int) = true := by
  intro r hr
  match s with
  | [] => rw [vr_nil] at hr; simp at hr
  | c :: t =>
    rw [vr_cons] at hr
    rcases List.mem_cons.1 hr with rfl | hr
    · exact ⟨_, rfl, decL_valid _⟩
    · exact vr_valid _ r hr
termination_by s.length
decreasing_by rw [List.length_drop]; have := decL_pos (c :: t); simp only [List.length_cons]; omega
theorem vr_enc : ∀ (l : List Int), (∀ r ∈ l, ∃ n : Nat, r = n ∧ Utf8.valid (n : Int) = true) → vr (l.flatMap runeBytes) = l
  | [], _ => vr_nil
  | r :: l, h => by
    obtain ⟨n, rfl, hv⟩ := h r (by simp)
    have ih := vr_enc l fun r hr => h r (by simp [hr])
    have hd := dec_enc hv (l.flatMap runeBytes)
    have hp := (runeBytes_len (n : Int)).1
    rw [List.flatMap_cons]
    generalize runeBytes (n : Int) = b at hd hp ⊢
    match b with
    | [] => simp at hp
    | c :: b =>
      rw [List.cons_append] at hd ⊢
      rw [vr_cons, hd]
      dsimp only
      rw [← List.cons_append, List.drop_left, ih]
theorem vr_len (s : List UInt8) : (vr s).length ≤ s.length := by
  match s with
  | [] => rw [vr_nil]; exact Nat.le_refl _
  | c :: t =>
    have ih := vr_len ((c :: t).drop (decL (c :: t)).2)
    have h1 := decL_pos (c :: t)
    rw [List.length_drop] at ih
    rw [vr_cons, List.length_cons]
    simp only [List.length_cons] at ih ⊢
    omega
termination_by s.length
decreasing_by rw [List.length_drop]; have := decL_pos (c :: t); simp only [List.length_cons]; omega
def validL (s : List UInt8) : List UInt8 := (vr s).flatMap runeBytes
theorem vr_validL (s : List UInt8) : vr (validL s) = vr s := vr_enc _ (vr_valid s)

def big (c : UInt8) : Bool := decide (128 ≤ c.toNat)
theorem decL_tw (c : UInt8) (t : List UInt8) : decL (c :: t) = decL (c :: t.takeWhile big) := by
  rcases t with _ | ⟨x, t⟩
  · rfl
  have nb : ∀ {x : UInt8}, big x = false → (x.toNat / 64 == 2) = false := by
    intro x h
    unfold big at h
    rw [decide_eq_false_iff_not] at h
    rw [beq_eq_false_iff_ne]
    omega
  cases hx : big x
  · have := nb hx
    simp [decL, List.takeWhile_cons, hx, this]
  rcases t with _ | ⟨y, t⟩
  · simp [List.takeWhile_cons, hx]
  cases hy : big y
  · have := nb hy
    simp [decL, List.takeWhile_cons, hx, hy, this]
  rcases t with _ | ⟨z, t⟩
  · simp [List.takeWhile_cons, hx, hy]
  cases hz : big z
  · have := nb hz
    simp [decL, List.takeWhile_cons, hx, hy, hz, this]
  simp [decL, List.takeWhile_cons, hx, hy, hz]

theorem getD_drop' (s : List UInt8) (a k : Nat) : (s.drop a).getD k 0 = s.getD (a + k) 0 := by
  rw [List.getD_eq_getElem?_getD, List.getD_eq_getElem?_getD, List.getElem?_drop]
theorem runes_len : ∀ (l : List Int), (l.flatMap runeBytes).length ≤ 4 * l.length
  | [] => by simp
  | c :: s => by
    have h1 := runes_len s
    have h2 := runeBytes_len c
    rw [List.flatMap_cons, List.length_append, List.length_cons, Nat.mul_succ]
    omega
theorem validL_len (s : List UInt8) : (validL s).length ≤ 4 * s.length := by
  have h1 := runes_len (vr s)
  have h2 := vr_len s
  unfold validL; omega
/-- Runes that may be. -/
def OkR (r : Int) : Prop := ∃ n : Nat, r = n ∧ Utf8.valid (n : Int) = true
theorem vr_ok (s : List UInt8) : ∀ r ∈ vr s, OkR r := vr_valid s
theorem vr_enc_append : ∀ (l : List Int) (t : List UInt8), (∀ r ∈ l, OkR r) → vr (l.flatMap runeBytes ++ t) = l ++ vr t
  | [], t, _ => rfl
  | r :: l, t, h => by
    obtain ⟨n, rfl, hv⟩ := h r (by simp)
    have ih := vr_enc_append l t fun r hr => h r (by simp [hr])
    have hd := dec_enc hv (l.flatMap runeBytes ++ t)
    have hp := (runeBytes_len (n : Int)).1
    rw [List.flatMap_cons, List.append_assoc]
    generalize runeBytes (n : Int) = b at hd hp ⊢
    match b with
    | [] => simp at hp
    | c :: b =>
      rw [List.cons_append] at hd ⊢
      rw [vr_cons, hd]
      dsimp only
      rw [← List.cons_append, List.drop_left, ih, List.cons_append]
theorem vr_step {s : List UInt8} {pos : Nat} (h : pos < s.length) : vr (s.drop pos) = ((decU s pos).1 : Int) :: vr (s.drop (pos + (decU s pos).2)) := by
  rw [vr_ne (s := s.drop pos) (by rw [Ne, List.drop_eq_nil_iff]; omega), decU_list, List.drop_drop]
theorem vr_end {s : List UInt8} {pos : Nat} (h : ¬ pos < s.length) : vr (s.drop pos) = [] := by
  rw [List.drop_eq_nil_of_le (by omega), vr_nil]
theorem decU_ok (s : List UInt8) (pos : Nat) : OkR (decU s pos).1 := ⟨_, rfl, by rw [decU_list]; exact decL_valid _⟩
theorem OkR.le {r : Int} (h : OkR r) : 0 ≤ r ∧ r ≤ 1114111 := by
  obtain ⟨n, rfl, h⟩ := h
  have := valid_le h
  omega
/-- What is made of runes is theirs. -/
theorem validL_enc (l : List Int) (h : ∀ r ∈ l, OkR r) : validL (l.flatMap runeBytes) = l.flatMap runeBytes := by
  unfold validL
  rw [vr_enc l h]
/-- The same, by a count. -/
def vrF : Nat → List UInt8 → List Int
  | 0, _ => []
  | _ + 1, [] => []
  | n + 1, c :: t => ((decL (c :: t)).1 : Int) :: vrF n ((c :: t).drop (decL (c :: t)).2)
theorem vr_fuel : ∀ (n : Nat) (s : List UInt8), s.length ≤ n → vr s = vrF n s
  | 0, [], _ => vr_nil
  | 0, c :: t, h => by simp at h
  | n + 1, [], _ => vr_nil
  | n + 1, c :: t, h => by
    have h1 := decL_pos (c :: t)
    rw [vr_cons, vrF, vr_fuel n _ (by rw [List.length_drop]; omega)]
/-! ### tables -/
theorem seal_of_cell {w : World} {b j : Nat} {v : Value} (h : w.cell? ⟨b, j, none⟩ = some v) : j < sealAll w b := by
  unfold sealAll
  simp only [World.cell?] at h
  cases hb : w.heap[b]? with
  | none => rw [hb] at h; simp at h
  | some o =>
    rw [hb] at h
    cases o with
    | cells arr ty fz =>
      simp only at h ⊢
      rcases Nat.lt_or_ge j arr.size with h' | h'
      · exact h'
      · rw [Array.getElem?_eq_none h'] at h; simp at h
    | _ => simp at h
theorem tabAt_seal {T : List (Nat × List Value)} {w : World} (h : ∀ q ∈ T, ∀ j v, q.2[j]? = some v → w.cell? ⟨q.1, j, none⟩ = some v) : TabAt T w (sealAll w) := by
  intro q hq
  refine ⟨?_, h q hq⟩
  rcases Nat.eq_zero_or_pos q.2.length with h0 | h0
  · omega
  · have hv : q.2[q.2.length - 1]? = some q.2[q.2.length - 1] := List.getElem?_eq_getElem (by omega)
    have := seal_of_cell (h q hq _ _ hv)
    omega
theorem TabAt.cell {T : List (Nat × List Value)} {w : World} {S : Seal} {q : Nat × List Value} {j : Nat} {v : Value} (h : TabAt T w S) (hq : q ∈ T) (hv : q.2[j]? = some v) : w.cell? ⟨q.1, j, none⟩ = some v := (h q hq).2 j v hv
theorem repStr {w : World} {S : Seal} {s : List UInt8} {vs : Array Value} (h : RepL w S [.str s] vs.toList) : vs = #[.string ⟨s.toArray⟩] := by
  simp only [RepL, Rep] at h
  obtain ⟨v, vr, e, rfl, rfl⟩ := h
  exact Array.ext' (by simpa [strV] using e)
theorem rep2 {w : World} {S : Seal} {x y : AVal} {vs : Array Value} (h : RepL w S [x, y] vs.toList) : ∃ u v, vs = #[u, v] ∧ Rep w S x u ∧ Rep w S y v := by
  simp only [RepL] at h
  obtain ⟨u, _, e, hu, v, _, rfl, hv, rfl⟩ := h
  exact ⟨u, v, Array.ext' (by simpa using e), hu, hv⟩
theorem u8_back (c : UInt8) : ((c.toNat : Int).toNat).toUInt8 = c := by simp
/-! ### a Builder beside something else that the call owns -/
theorem Buf.frame {e : TypeId} {H0 h : Hp} {o : Own} {l : List UInt8} {c : Nat} {y : Option AObj} (hb : Buf e H0 h o l) (hc : h c = none) : Buf e (H0.set c y) (h.set c y) o l := by
  rcases hb with ⟨h1, h2, h3⟩ | ⟨d, h1, h2, h3⟩
  · subst h3; exact .inl ⟨h1, h2, rfl⟩
  · subst h3
    have hdc : d ≠ c := fun e => by subst e; simp [Hp.set] at hc
    refine .inr ⟨d, h1, by rw [Hp.set_ne hdc]; exact h2, ?_⟩
    funext k
    simp only [Hp.set]
    by_cases k1 : k = c
    · subst k1; rw [if_pos rfl, if_neg (Ne.symm hdc), if_pos rfl]
    · rw [if_neg k1, if_neg k1]
theorem Buf.unframe {e : TypeId} {H0 h' : Hp} {o : Own} {l : List UInt8} {c : Nat} {y : AObj} (hb : Buf e (H0.set c (some y)) h' o l) (hc : H0 c = none) : ∃ h, Buf e H0 h o l ∧ h c = none ∧ h' = h.set c (some y) := by
  rcases hb with ⟨h1, h2, h3⟩ | ⟨d, h1, h2, h3⟩
  · exact ⟨H0, .inl ⟨h1, h2, rfl⟩, hc, h3⟩
  · have hdc : d ≠ c := fun e => by subst e; simp [Hp.set] at h2
    rw [Hp.set_ne hdc] at h2
    refine ⟨H0.set d (some (.grow e .u8 l.length)), .inr ⟨d, h1, h2, rfl⟩, by rw [Hp.set_ne (Ne.symm hdc)]; exact hc, ?_⟩
    rw [h3]
    funext k
    simp only [Hp.set]
    by_cases k1 : k = c
    · subst k1; rw [if_neg (Ne.symm hdc), if_pos rfl, if_pos rfl]
    · rw [if_neg k1, if_neg k1]
theorem Bld.frame {T e : TypeId} {H0 h : Hp} {b c : Nat} {l : List UInt8} {y : Option AObj} (hB : Bld T e H0 h b l) (hc : h c = none) : Bld T e (H0.set c y) (h.set c y) b l := by
  obtain ⟨p, o, h1, hp, hb, h0, h1b, rfl⟩ := hB
  have hcb : c ≠ b := fun e => by subst e; simp [Hp.set] at hc
  rw [Hp.set_ne hcb] at hc
  refine ⟨p, o, h1.set c y, hp, hb.frame hc, by rw [Hp.set_ne (Ne.symm hcb)]; exact h0, by rw [Hp.set_ne (Ne.symm hcb)]; exact h1b, ?_⟩
  funext k
  simp only [Hp.set]
  by_cases k1 : k = c
  · subst k1; rw [if_pos rfl, if_neg hcb, if_pos rfl]
  · rw [if_neg k1, if_neg k1]
theorem Bld.unframe {T e : TypeId} {H0 h' : Hp} {b c : Nat} {l : List UInt8} {y : AObj} (hB : Bld T e (H0.set c (some y)) h' b l) (hc : H0 c = none) : ∃ h, Bld T e H0 h b l ∧ h c = none ∧ h' = h.set c (some y) := by
  obtain ⟨p, o, h1, hp, hb, h0, h1b, rfl⟩ := hB
  have hcb : c ≠ b := fun e => by subst e; simp [Hp.set] at h0
  rw [Hp.set_ne (Ne.symm hcb)] at h0
  obtain ⟨h2, k1, k2, rfl⟩ := hb.unframe hc
  rw [Hp.set_ne (Ne.symm hcb)] at h1b
  refine ⟨h2.set b (some (.cells T [.ptr p, .sl .u8 l o])), ⟨p, o, h2, hp, k1, h0, h1b, rfl⟩, by rw [Hp.set_ne hcb]; exact k2, ?_⟩
  funext k
  simp only [Hp.set]
  by_cases k1 : k = b
  · subst k1; rw [if_pos rfl, if_neg (Ne.symm hcb), if_pos rfl]
  · rw [if_neg k1, if_neg k1]
theorem Bld.none {T e : TypeId} {H0 h : Hp} {b c : Nat} {l : List UInt8} (hB : Bld T e H0 h b l) (hc : h c = none) : H0 c = none := by
  have := hB.le
  cases hk : H0 c with
  | none => rfl
  | some x => have := this c x hk; rw [hc] at this; exact absurd this (by simp)
end Go.Sv
