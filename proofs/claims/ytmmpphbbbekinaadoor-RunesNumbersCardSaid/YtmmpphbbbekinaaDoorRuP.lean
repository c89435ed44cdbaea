/- Runes: what folding does, in plain words. Own work; printed from wip/law2/p.in by pre.py. -/
import Derived.Test.YtmmpphbbbekinaaDoorRuB
namespace Go.Proofs.YtmmpphbbbekinaaDoor
open Go.Sv
set_option linter.unusedSimpArgs false
set_option linter.unusedVariables false

/-! ### reading -/
theorem t0_ok {r : Int} (h : OkR r) : OkR (t0 r) := by
  unfold t0
  split
  · exact ⟨65533, rfl, by decide⟩
  · exact h
theorem t0_ne (r : Int) : t0 r ≠ 0 := by
  unfold t0
  split
  · decide
  · assumption
theorem t0_idem (r : Int) : t0 (t0 r) = t0 r := by
  have := t0_ne r
  generalize t0 r = x at *
  unfold t0
  rw [if_neg this]
theorem map_t0_ok {l : List Int} (h : ∀ r ∈ l, OkR r) : ∀ r ∈ l.map t0, OkR r := by
  intro r hr
  obtain ⟨x, hx, rfl⟩ := List.mem_map.1 hr
  exact t0_ok (h x hx)
theorem vr_textL (s : List UInt8) : vr (textL s) = (vr s).map t0 := vr_enc _ (map_t0_ok (vr_ok s))
theorem text_text (s : List UInt8) : textL (textL s) = textL s := by
  unfold textL
  rw [vr_enc _ (map_t0_ok (vr_ok s)), List.map_map]
  congr 1
  exact List.map_congr_left fun r _ => t0_idem r
theorem text_enc {l : List Int} (h : ∀ r ∈ l, OkR r) (h0 : ∀ r ∈ l, r ≠ 0) : textL (l.flatMap runeBytes) = l.flatMap runeBytes := by
  unfold textL
  rw [vr_enc _ h]
  congr 1
  conv => rhs; rw [← List.map_id l]
  exact List.map_congr_left fun r hr => by unfold t0; rw [if_neg (h0 r hr)]; rfl
theorem text_count (s : List UInt8) : (vr (textL s)).length = (vr s).length := by rw [vr_textL, List.length_map]
theorem text_no0 (s : List UInt8) : ∀ c ∈ textL s, c ≠ 0 := by
  intro c hc e
  subst e
  unfold textL at hc
  obtain ⟨r, hr, hc⟩ := List.mem_flatMap.1 hc
  obtain ⟨x, _, rfl⟩ := List.mem_map.1 hr
  have := (runeBytes_small hc (by decide)).1
  exact t0_ne x this
theorem textL_len (s : List UInt8) : (textL s).length ≤ 4 * s.length := by
  have h1 := runes_len ((vr s).map t0)
  have h2 := vr_len s
  rw [List.length_map] at h1
  unfold textL; omega
/-- What a sign of sixteen bits is written as. -/
def fixR (n : Int) : Int := if 55296 ≤ n ∧ n ≤ 57343 then 65533 else n
theorem fix_bytes {n : Int} (h0 : 0 ≤ n) (h1 : n ≤ 65535) : runeBytes n = runeBytes (fixR n) := by
  unfold fixR
  split
  · obtain ⟨c, rfl⟩ := Int.eq_ofNat_of_zero_le h0
    rw [rune_bad (by omega) (by omega)]
    decide
  · rfl
theorem fix_ok {n : Int} (h0 : 0 ≤ n) (h1 : n ≤ 65535) : OkR (fixR n) := by
  unfold fixR
  split
  · exact ⟨65533, rfl, by decide⟩
  · obtain ⟨c, rfl⟩ := Int.eq_ofNat_of_zero_le h0
    refine ⟨c, rfl, ?_⟩
    unfold Utf8.valid
    simp only [Bool.or_eq_true, Bool.and_eq_true, decide_eq_true_eq]
    omega
theorem fix_ne {n : Int} (h : n ≠ 0) : fixR n ≠ 0 := by
  unfold fixR
  split
  · decide
  · exact h

/-! ### folding -/
def badF (last r : Int) : Bool := (blankR r && (r != 32 || last == 32)) || (decide (65 ≤ r) && decide (r ≤ 90))
def okF : Int → List Int → Bool
  | _, [] => true
  | last, r :: l => !badF last r && okF r l
def lastF : Int → List Int → Int
  | last, [] => last
  | _, r :: l => lastF r l
theorem blank32 : blankR 32 = true := by decide
theorem low_blank {r : Int} (h : blankR r = false) : blankR (lowR r) = false := by
  unfold lowR
  split
  · unfold blankR at h ⊢
    rw [decide_eq_false_iff_not] at h ⊢
    omega
  · exact h
theorem low_up (r : Int) : ¬ (65 ≤ lowR r ∧ lowR r ≤ 90) := by
  unfold lowR
  split <;> omega
theorem low_ne {r : Int} (h : blankR r = false) : lowR r ≠ 32 := by
  intro e
  have := low_blank h
  rw [e, blank32] at this
  cases this
theorem bad_low {r last : Int} (h : blankR r = false) : badF last (lowR r) = false := by
  unfold badF
  rw [low_blank h, Bool.false_and, Bool.false_or]
  have := low_up r
  by_cases h1 : 65 ≤ lowR r
  · rw [decide_eq_false (show ¬ lowR r ≤ 90 by omega), Bool.and_false]
  · rw [decide_eq_false h1, Bool.false_and]
theorem bad_gap {last : Int} (h : last ≠ 32) : badF last 32 = false := by
  unfold badF
  rw [beq_eq_false_iff_ne.2 h]
  decide
theorem fold_ok : ∀ (l : List Int) (g n : Bool) (last : Int), (n = false → g = false) → (n = true → last ≠ 32) → okF last (foldR l g n) = true
  | [], _, _, _, _, _ => rfl
  | r :: l, g, n, last, h1, h2 => by
    cases hb : blankR r
    · have ih := fold_ok l false true (lowR r) (fun h => rfl) (fun _ => low_ne hb)
      cases g
      · rw [foldR_run hb, okF, bad_low hb, ih]; rfl
      · have hn : n = true := by cases n; exact absurd (h1 rfl) (by decide); rfl
        rw [foldR_gap hb, okF, okF, bad_gap (h2 hn), bad_low hb, ih]; rfl
    · rw [foldR_blank hb]
      exact fold_ok l n n last id h2
theorem fold_last : ∀ (l : List Int) (g n : Bool) (last : Int), (n = true → last ≠ 32) → foldR l g n = [] ∨ lastF last (foldR l g n) ≠ 32
  | [], _, _, _, _ => .inl rfl
  | r :: l, g, n, last, h2 => by
    cases hb : blankR r
    · right
      have hl : lastF (lowR r) (foldR l false true) ≠ 32 := by
        rcases fold_last l false true (lowR r) (fun _ => low_ne hb) with h | h
        · rw [h]; exact low_ne hb
        · exact h
      cases g
      · rw [foldR_run hb]; exact hl
      · rw [foldR_gap hb]; exact hl
    · rw [foldR_blank hb]
      exact fold_last l n n last h2
theorem fold_count : ∀ (l : List Int) (g n : Bool), (foldR l g n).length ≤ l.length + (if g = true then 1 else 0)
  | [], _, _ => by simp [foldR]
  | r :: l, g, n => by
    have h1 := fold_count l n n
    have h2 := fold_count l false true
    simp only [Bool.false_eq_true, if_false] at h2
    cases hb : blankR r
    · cases g
      · rw [foldR_run hb]; simp only [List.length_cons]; omega
      · rw [foldR_gap hb]; simp only [List.length_cons, if_true]; omega
    · rw [foldR_blank hb]
      have : (if n = true then 1 else 0) ≤ 1 := by split <;> omega
      rw [List.length_cons]
      omega
theorem not_bad {last r : Int} (h : badF last r = false) : (blankR r = true → r = 32 ∧ last ≠ 32) ∧ lowR r = r := by
  unfold badF at h
  rw [Bool.or_eq_false_iff] at h
  refine ⟨fun hb => ?_, ?_⟩
  · have h1 := h.1
    rw [hb, Bool.true_and, Bool.or_eq_false_iff] at h1
    exact ⟨by simpa using h1.1, by simpa using h1.2⟩
  · unfold lowR
    rw [if_neg]
    intro k
    have h2 := h.2
    rw [decide_eq_true k.1, decide_eq_true k.2] at h2
    cases h2
theorem fold_same : ∀ (L : List Int) (n : Bool) (last : Int), okF last L = true → (n = false → last = 32) → (L = [] ∨ lastF last L ≠ 32) → foldR L false n = L
  | [], _, _, _, _, _ => rfl
  | r :: l, n, last, h, hn, hl => by
    rw [okF, Bool.and_eq_true, Bool.not_eq_true'] at h
    obtain ⟨hb1, hlow⟩ := not_bad h.1
    have hl' : lastF r l ≠ 32 := hl.resolve_left (by simp)
    cases hb : blankR r
    · rw [foldR_run hb, hlow, fold_same l true r h.2 (fun h => by cases h) (.inr hl')]
    · obtain ⟨rfl, hne⟩ := hb1 hb
      have hnt : n = true := by cases n; exact absurd (hn rfl) hne; rfl
      subst hnt
      rw [foldR_blank hb]
      match l, h.2, hl' with
      | [], _, hl' => exact absurd rfl hl'
      | r2 :: l2, h2, hl' =>
        rw [okF, Bool.and_eq_true, Bool.not_eq_true'] at h2
        obtain ⟨hc1, hlow2⟩ := not_bad h2.1
        cases hb2 : blankR r2
        · rw [foldR_gap hb2, hlow2, fold_same l2 true r2 h2.2 (fun h => by cases h) (.inr hl')]
        · exact absurd rfl (hc1 hb2).2
theorem low_ok {r : Int} (h : OkR r) : OkR (lowR r) := by
  unfold lowR
  split
  · obtain ⟨n, rfl, _⟩ := h
    exact ⟨n + 32, by omega, valid_small (by omega)⟩
  · exact h
theorem fold_okR : ∀ (l : List Int) (g n : Bool), (∀ r ∈ l, OkR r) → ∀ r ∈ foldR l g n, OkR r
  | [], _, _, _ => by simp [foldR]
  | x :: l, g, n, h => by
    have hx := low_ok (h x (by simp))
    have hl : ∀ r ∈ l, OkR r := fun r hr => h r (by simp [hr])
    intro r hr
    cases hb : blankR x
    · cases g
      · rw [foldR_run hb] at hr
        rcases List.mem_cons.1 hr with rfl | hr
        · exact hx
        · exact fold_okR l _ _ hl r hr
      · rw [foldR_gap hb] at hr
        rcases List.mem_cons.1 hr with rfl | hr
        · exact ⟨32, rfl, by decide⟩
        rcases List.mem_cons.1 hr with rfl | hr
        · exact hx
        · exact fold_okR l _ _ hl r hr
    · rw [foldR_blank hb] at hr
      exact fold_okR l _ _ hl r hr
theorem foldS_ok (s : List UInt8) : ∀ r ∈ foldS s, OkR r := fold_okR _ _ _ (vr_ok s)
theorem vr_foldL (s : List UInt8) : vr (foldL s) = foldS s := vr_enc _ (foldS_ok s)
theorem foldS_okF (s : List UInt8) : okF 32 (foldS s) = true := fold_ok _ _ _ _ (fun _ => rfl) (fun h => by cases h)
theorem foldS_last (s : List UInt8) : foldS s = [] ∨ lastF 32 (foldS s) ≠ 32 := fold_last _ _ _ _ (fun h => by cases h)
theorem fold_fold (s : List UInt8) : foldL (foldL s) = foldL s := by
  unfold foldL
  rw [show foldS ((foldS s).flatMap runeBytes) = foldS s by
    rw [show (foldS s).flatMap runeBytes = foldL s from rfl]
    unfold foldS
    rw [vr_foldL]
    exact fold_same _ _ 32 (foldS_okF s) (fun _ => rfl) (foldS_last s)]
theorem foldS_count (s : List UInt8) : (vr (foldL s)).length ≤ (vr s).length := by
  rw [vr_foldL]
  exact fold_count _ _ _
theorem foldL_len (s : List UInt8) : (foldL s).length ≤ 4 * s.length := by
  have h1 := runes_len (foldS s)
  have h2 : (foldS s).length ≤ (vr s).length := fold_count _ _ _
  have h3 := vr_len s
  unfold foldL; omega
theorem foldL_nil (s : List UInt8) : foldL s = [] ↔ foldS s = [] := by
  constructor
  · intro h
    have := vr_foldL s
    rw [h, vr_nil] at this
    exact this.symm
  · intro h; unfold foldL; rw [h]; rfl
/-- A text is read as it is if its runes are. -/
theorem text_iff {l : List Int} (h : ∀ r ∈ l, OkR r) : (decide (vr (l.flatMap runeBytes) = vr (textL (l.flatMap runeBytes)))) = (textL (l.flatMap runeBytes) == l.flatMap runeBytes) := by
  rw [vr_textL, vr_enc _ h, Bool.eq_iff_iff, decide_eq_true_eq, beq_iff_eq]
  constructor
  · intro e
    unfold textL
    rw [vr_enc _ h, ← e]
  · intro e
    have := congrArg vr e
    rw [vr_textL, vr_enc _ h] at this
    exact this.symm
theorem kinds_law (x : Int) : ¬ ((if blankR x = true then 1 else 0) + (if punctR x = true then 1 else 0) + (if letterR x = true then 1 else 0) > 1) ∧ ((x > 32 ∧ x < 127 ∧ (x < 48 ∨ x > 57)) → (if blankR x = true then 1 else 0) + (if punctR x = true then 1 else 0) + (if letterR x = true then 1 else 0) ≠ 0) := by
  have h1 : blankR x = true ↔ ((9 ≤ x ∧ x ≤ 13) ∨ x = 32 ∨ x = 160 ∨ x = 8195 ∨ x = 12288) := decide_eq_true_iff
  have h2 : punctR x = true ↔ ((33 ≤ x ∧ x ≤ 47) ∨ (58 ≤ x ∧ x ≤ 64) ∨ (91 ≤ x ∧ x ≤ 96) ∨ (123 ≤ x ∧ x ≤ 126) ∨ x = 161 ∨ x = 167 ∨ x = 12289 ∨ x = 12290 ∨ (8208 ≤ x ∧ x ≤ 8231)) := decide_eq_true_iff
  have h3 : letterR x = true ↔ ((97 ≤ x ∧ x ≤ 122) ∨ (65 ≤ x ∧ x ≤ 90) ∨ (192 ≤ x ∧ blankR x = false ∧ punctR x = false ∧ x ≠ 65533)) := decide_eq_true_iff
  cases e1 : blankR x <;> cases e2 : punctR x <;> cases e3 : letterR x <;> simp only [e1, e2, e3, true_iff, false_iff, Bool.false_eq_true, if_true, if_false, reduceCtorEq, true_and, and_true, false_and, and_false, or_false] at h1 h2 h3 ⊢ <;> omega
end Go.Proofs.YtmmpphbbbekinaaDoor
