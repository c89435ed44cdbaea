/- Signs: what is quoted is plain as it was. Own work; printed from wip/law8/g.in by pre.py. -/
import Derived.Test.YtognfedcnciafaaEscE
namespace Go.Proofs.Ytognfedcnciafaa
open Go.Sv
set_option linter.unusedSimpArgs false
set_option linter.unusedVariables false

def big (c : UInt8) : Bool := decide (128 ≤ c.toNat)
theorem decL_tw (c : UInt8) (t : List UInt8) : decL (c :: t) = decL (c :: t.takeWhile big) := by
  rcases t with _ | ⟨x, t⟩
  · rfl
  have nb : ∀ {x : UInt8}, big x = false → (x.toNat / 64 == 2) = false := by
    intro x h
    unfold big at h
    rw [decide_eq_false_iff_not] at h
    rw [beq_eq_false_iff_ne]
    omega
  cases hx : big x
  · have := nb hx
    simp [decL, List.takeWhile_cons, hx, this]
  rcases t with _ | ⟨y, t⟩
  · simp [List.takeWhile_cons, hx]
  cases hy : big y
  · have := nb hy
    simp [decL, List.takeWhile_cons, hx, hy, this]
  rcases t with _ | ⟨z, t⟩
  · simp [List.takeWhile_cons, hx, hy]
  cases hz : big z
  · have := nb hz
    simp [decL, List.takeWhile_cons, hx, hy, hz, this]
  simp [decL, List.takeWhile_cons, hx, hy, hz]

/-- Quoting leaves what is no sign's byte. -/
theorem quote_big {c : UInt8} (h : big c = true) : quoteC c = [c] := by
  unfold big at h
  rw [decide_eq_true_eq] at h
  unfold quoteC
  rw [if_neg]
  unfold asciiP
  rw [decide_eq_true_eq]
  omega
theorem quote_tw : ∀ t : List UInt8, (quoteL t).takeWhile big = t.takeWhile big
  | [] => rfl
  | c :: t => by
    have ih := quote_tw t
    unfold quoteL at ih ⊢
    rw [List.flatMap_cons]
    cases hb : big c
    · unfold quoteC
      split
      · simp [List.takeWhile_cons, hb]; decide
      · simp [List.takeWhile_cons, hb]
    · rw [quote_big hb]
      simp [List.takeWhile_cons, hb, ih]
theorem decL_quote (c : UInt8) (t : List UInt8) : decL (c :: quoteL t) = decL (c :: t) := by rw [decL_tw, quote_tw, ← decL_tw]
/-- What a rune takes behind its first byte is no sign's. -/
theorem decL_tail (c : UInt8) (t : List UInt8) : ((decL (c :: t)).2 - 1) ≤ (t.takeWhile big).length := by
  rw [decL_tw]
  have := decL_le (c :: t.takeWhile big) (by simp)
  rw [List.length_cons] at this
  omega
theorem quote_drop : ∀ (n : Nat) (t : List UInt8), n ≤ (t.takeWhile big).length → (quoteL t).drop n = quoteL (t.drop n)
  | 0, _, _ => rfl
  | n + 1, [], h => by simp at h
  | n + 1, c :: t, h => by
    cases hb : big c
    · simp [List.takeWhile_cons, hb] at h
    · simp only [List.takeWhile_cons, hb, if_true, List.length_cons] at h
      have ih := quote_drop n t (by omega)
      unfold quoteL at ih ⊢
      rw [List.flatMap_cons, quote_big hb]
      simpa using ih

/-- The runes of a text. -/
def vr (s : List UInt8) : List Int := if h : s = [] then [] else ((decL s).1 : Int) :: vr (s.drop (decL s).2)
termination_by s.length
decreasing_by
  have := decL_pos s
  have hp : 0 < s.length := List.length_pos_iff.2 h
  rw [List.length_drop]; omega
theorem vr_nil : vr [] = [] := by rw [vr, dif_pos rfl]
theorem vr_ne {s : List UInt8} (h : s ≠ []) : vr s = ((decL s).1 : Int) :: vr (s.drop (decL s).2) := by rw [vr, dif_neg h]
theorem vr_cons (c : UInt8) (t : List UInt8) : vr (c :: t) = ((decL (c :: t)).1 : Int) :: vr ((c :: t).drop (decL (c :: t)).2) := by rw [vr, dif_neg (by simp)]
/-- The runes of a text, signs that mean themselves as one. -/
def prSign : List UInt8 → Bool
  | 92 :: c :: _ => asciiP c.toNat
  | _ => false
def pr (s : List UInt8) : List Int :=
  if h : s = [] then [] else if prSign s = true then ((s.getD 1 0).toNat : Int) :: pr (s.drop 2) else ((decL s).1 : Int) :: pr (s.drop (decL s).2)
termination_by s.length
decreasing_by
  · have hp : 0 < s.length := List.length_pos_iff.2 h
    rw [List.length_drop]; omega
  · have := decL_pos s
    have hp : 0 < s.length := List.length_pos_iff.2 h
    rw [List.length_drop]; omega
theorem pr_nil : pr [] = [] := by rw [pr, dif_pos rfl]
theorem pr_sign {s : List UInt8} (h : prSign s = true) : pr s = ((s.getD 1 0).toNat : Int) :: pr (s.drop 2) := by
  rw [pr, dif_neg (by rintro rfl; simp [prSign] at h), if_pos h]
theorem pr_rune {s : List UInt8} (h0 : s ≠ []) (h : ¬ prSign s = true) : pr s = ((decL s).1 : Int) :: pr (s.drop (decL s).2) := by
  rw [pr, dif_neg h0, if_neg h]

theorem decL_small {c : UInt8} {t : List UInt8} (h : c.toNat < 128) : decL (c :: t) = (c.toNat, 1) := by
  unfold decL
  simp only [List.getD_cons_zero]
  rw [if_pos h]

theorem pr_quote (s : List UInt8) : pr (quoteL s) = vr s := by
  match s with
  | [] => rw [vr_nil]; exact pr_nil
  | c :: t =>
    cases hp : asciiP c.toNat
    · have hq : quoteL (c :: t) = c :: quoteL t := by
        unfold quoteL
        rw [List.flatMap_cons]
        unfold quoteC
        rw [hp, if_neg (by simp)]
        rfl
      have hc : c ≠ 92 := by rintro rfl; simp [asciiP] at hp
      have hn : ¬ prSign (c :: quoteL t) = true := by
        unfold prSign
        split
        · rename_i h; exact absurd (List.cons.inj h).1 hc
        · simp
      have h1 := decL_pos (c :: t)
      have h2 := decL_tail c t
      have ih := pr_quote ((c :: t).drop (decL (c :: t)).2)
      rw [hq, pr_rune (by simp) hn, decL_quote, vr_cons]
      congr 1
      obtain ⟨m, hm⟩ : ∃ m, (decL (c :: t)).2 = m + 1 := ⟨(decL (c :: t)).2 - 1, by omega⟩
      rw [hm] at h2 ih ⊢
      rw [List.drop_succ_cons] at ih ⊢
      rw [List.drop_succ_cons, quote_drop m t (by omega)]
      exact ih
    · have hq : quoteL (c :: t) = 92 :: c :: quoteL t := by
        unfold quoteL
        rw [List.flatMap_cons]
        unfold quoteC
        rw [hp, if_pos rfl]
        rfl
      have hs : c.toNat < 128 := by unfold asciiP at hp; rw [decide_eq_true_eq] at hp; omega
      have ih := pr_quote t
      rw [hq, pr_sign (by simpa [prSign] using hp), vr_cons, decL_small hs]
      simpa using ih
termination_by s.length
decreasing_by
  · rw [List.length_drop]; have := decL_pos (c :: t); simp only [List.length_cons]; omega
  · simp
theorem valid_small {n : Nat} (h : n < 55296) : Utf8.valid (n : Int) = true := by
  unfold Utf8.valid
  rw [Bool.or_eq_true, Bool.and_eq_true, decide_eq_true_eq, decide_eq_true_eq]
  omega
theorem valid_bad : Utf8.valid ((65533 : Nat) : Int) = true := by decide
theorem decL_valid (s : List UInt8) : Utf8.valid ((decL s).1 : Int) = true := by
  have key : ∀ p : Nat × Nat, p = decL s → Utf8.valid (p.1 : Int) = true := by
    intro p hp
    unfold decL at hp
    dsimp only at hp
    split at hp
    · rw [hp]; refine valid_small ?_; dsimp only; omega
    split at hp
    · split at hp
      · rw [hp]; refine valid_small ?_; dsimp only; omega
      · rw [hp]; exact valid_bad
    split at hp
    · split at hp
      · rename_i h4
        rw [Bool.and_eq_true] at h4
        rw [hp]; exact h4.2
      · rw [hp]; exact valid_bad
    split at hp
    · split at hp
      · rename_i h5
        rw [Bool.and_eq_true] at h5
        rw [hp]; exact h5.2
      · rw [hp]; exact valid_bad
    · rw [hp]; exact valid_bad
  exact key _ rfl

theorem dec_enc {c : Nat} (hv : Utf8.valid (c : Int) = true) (t : List UInt8) : decL (runeBytes c ++ t) = (c, (runeBytes c).length) := by
  have hle := valid_le hv
  rw [runeBytes_eq]
  simp only [hv, if_true, Int.toNat_natCast]
  by_cases h1 : c < 128
  · rw [if_pos h1]
    have e0 : (UInt8.ofNat c).toNat = c := by rw [UInt8.toNat_ofNat']; omega
    rw [List.singleton_append, decL_small (by rw [e0]; exact h1), e0]
    rfl
  rw [if_neg h1]
  by_cases h2 : c < 2048
  · rw [if_pos h2]
    have e0 : (UInt8.ofNat (192 + c / 64)).toNat = 192 + c / 64 := by rw [UInt8.toNat_ofNat']; omega
    have e1 : (UInt8.ofNat (128 + c % 64)).toNat = 128 + c % 64 := by rw [UInt8.toNat_ofNat']; omega
    unfold decL
    simp only [List.cons_append, List.nil_append, List.getD_cons_zero, List.getD_cons_succ, e0, e1, List.length_cons]
    rw [if_neg (by omega), if_pos (by simp only [Bool.and_eq_true, beq_iff_eq, decide_eq_true_eq]; omega), if_pos (by omega)]
    exact Prod.ext (by dsimp only; omega) rfl
  rw [if_neg h2]
  by_cases h3 : c < 65536
  · rw [if_pos h3]
    have e0 : (UInt8.ofNat (224 + c / 4096)).toNat = 224 + c / 4096 := by rw [UInt8.toNat_ofNat']; omega
    have e1 : (UInt8.ofNat (128 + c / 64 % 64)).toNat = 128 + c / 64 % 64 := by rw [UInt8.toNat_ofNat']; omega
    have e2 : (UInt8.ofNat (128 + c % 64)).toNat = 128 + c % 64 := by rw [UInt8.toNat_ofNat']; omega
    unfold decL
    simp only [List.cons_append, List.nil_append, List.getD_cons_zero, List.getD_cons_succ, e0, e1, e2, List.length_cons]
    have hc : (224 + c / 4096) % 16 * 4096 + (128 + c / 64 % 64) % 64 * 64 + (128 + c % 64) % 64 = c := by omega
    rw [if_neg (by omega), if_neg (by simp only [Bool.and_eq_true, beq_iff_eq, decide_eq_true_eq]; omega), if_pos (by simp only [Bool.and_eq_true, beq_iff_eq, decide_eq_true_eq]; omega), hc, if_pos (by rw [hv, Bool.and_true, decide_eq_true_eq]; omega)]
    rfl
  rw [if_neg h3]
  have e0 : (UInt8.ofNat (240 + c / 262144)).toNat = 240 + c / 262144 := by rw [UInt8.toNat_ofNat']; omega
  have e1 : (UInt8.ofNat (128 + c / 4096 % 64)).toNat = 128 + c / 4096 % 64 := by rw [UInt8.toNat_ofNat']; omega
  have e2 : (UInt8.ofNat (128 + c / 64 % 64)).toNat = 128 + c / 64 % 64 := by rw [UInt8.toNat_ofNat']; omega
  have e3 : (UInt8.ofNat (128 + c % 64)).toNat = 128 + c % 64 := by rw [UInt8.toNat_ofNat']; omega
  unfold decL
  simp only [List.cons_append, List.nil_append, List.getD_cons_zero, List.getD_cons_succ, e0, e1, e2, e3, List.length_cons]
  have hc : (240 + c / 262144) % 8 * 262144 + (128 + c / 4096 % 64) % 64 * 4096 + (128 + c / 64 % 64) % 64 * 64 + (128 + c % 64) % 64 = c := by omega
  rw [if_neg (by omega), if_neg (by simp only [Bool.and_eq_true, beq_iff_eq, decide_eq_true_eq]; omega), if_neg (by simp only [Bool.and_eq_true, beq_iff_eq, decide_eq_true_eq]; omega), if_pos (by simp only [Bool.and_eq_true, beq_iff_eq, decide_eq_true_eq]; omega), hc,
    if_pos (by rw [hv, Bool.and_true, decide_eq_true_eq]; omega)]
  rfl

theorem vr_valid (s : List UInt8) : ∀ r ∈ vr s, ∃ n : Nat, r = n ∧ Utf8.valid (n : Int) = true := by
  intro r hr
  match s with
  | [] => rw [vr_nil] at hr; simp at hr
  | c :: t =>
    rw [vr_cons] at hr
    rcases List.mem_cons.1 hr with rfl | hr
    · exact ⟨_, rfl, decL_valid _⟩
    · exact vr_valid _ r hr
termination_by s.length
decreasing_by rw [List.length_drop]; have := decL_pos (c :: t); simp only [List.length_cons]; omega
theorem vr_enc : ∀ (l : List Int), (∀ r ∈ l, ∃ n : Nat, r = n ∧ Utf8.valid (n : Int) = true) → vr (l.flatMap runeBytes) = l
  | [], _ => vr_nil
  | r :: l, h => by
    obtain ⟨n, rfl, hv⟩ := h r (by simp)
    have ih := vr_enc l fun r hr => h r (by simp [hr])
    have hd := dec_enc hv (l.flatMap runeBytes)
    have hp := (runeBytes_len (n : Int)).1
    rw [List.flatMap_cons]
    generalize runeBytes (n : Int) = b at hd hp ⊢
    match b with
    | [] => simp at hp
    | c :: b =>
      rw [List.cons_append] at hd ⊢
      rw [vr_cons, hd]
      dsimp only
      rw [← List.cons_append, List.drop_left, ih]
theorem vr_len (s : List UInt8) : (vr s).length ≤ s.length := by
  match s with
  | [] => rw [vr_nil]; exact Nat.le_refl _
  | c :: t =>
    have ih := vr_len ((c :: t).drop (decL (c :: t)).2)
    have h1 := decL_pos (c :: t)
    rw [List.length_drop] at ih
    rw [vr_cons, List.length_cons]
    simp only [List.length_cons] at ih ⊢
    omega
termination_by s.length
decreasing_by rw [List.length_drop]; have := decL_pos (c :: t); simp only [List.length_cons]; omega
def validL (s : List UInt8) : List UInt8 := (vr s).flatMap runeBytes
theorem vr_validL (s : List UInt8) : vr (validL s) = vr s := vr_enc _ (vr_valid s)

theorem prSign_iff (l : List UInt8) : prSign l = true ↔ (l.getD 0 0 = 92 ∧ 1 < l.length ∧ asciiP (l.getD 1 0).toNat = true) := by
  match l with
  | [] => simp [prSign]
  | [x] => simp [prSign]
  | x :: y :: r =>
    by_cases h : x = 92
    · subst h; simp [prSign]
    · have hn : prSign (x :: y :: r) = false := by
        unfold prSign
        split
        · rename_i h'; exact absurd (List.cons.inj h').1 h
        · rfl
      rw [hn]
      simp [h]
theorem getD_drop' (s : List UInt8) (a k : Nat) : (s.drop a).getD k 0 = s.getD (a + k) 0 := by
  rw [List.getD_eq_getElem?_getD, List.getD_eq_getElem?_getD, List.getElem?_drop]
theorem runes_pr (s : List UInt8) (a : Nat) : runesFrom s a = pr (s.drop a) := by
  by_cases h : a < s.length
  · have hg := nextA_gt s a h
    have ih := runes_pr s (nextA s a).2.1
    have hiff := prSign_iff (s.drop a)
    rw [getD_drop', getD_drop', List.length_drop, Nat.add_zero] at hiff
    rw [runesFrom_pos h]
    by_cases hsg : s.getD a 0 = 92 ∧ a + 1 < s.length ∧ asciiP (s.getD (a + 1) 0).toNat = true
    · rw [nextA_sign h hsg] at ih ⊢
      rw [pr_sign (hiff.2 ⟨hsg.1, by omega, hsg.2.2⟩), getD_drop', List.drop_drop, ih]
    · rw [nextA_rune h hsg] at ih ⊢
      rw [pr_rune (by rw [Ne, List.drop_eq_nil_iff]; omega) (fun e => hsg (by have := hiff.1 e; exact ⟨this.1, by omega, this.2.2⟩)), List.drop_drop, ih]
  · rw [runesFrom_neg h, List.drop_eq_nil_of_le (by omega), pr_nil]
termination_by s.length - a
theorem plain_quote (s : List UInt8) : plainL (quoteL s) = validL s := by
  unfold plainL validL
  rw [runes_pr, List.drop_zero, pr_quote]
theorem plain_quote_valid (s : List UInt8) : plainL (quoteL (validL s)) = validL s := by
  rw [plain_quote]
  unfold validL
  rw [vr_enc _ (vr_valid s)]
theorem validL_len (s : List UInt8) : (validL s).length ≤ 4 * s.length := by
  have h1 := runes_len (vr s)
  have h2 := vr_len s
  unfold validL; omega
theorem html_mem (s : List UInt8) : ∀ c ∈ htmlL s, c ≠ 60 ∧ c ≠ 62 ∧ c ≠ 34 := by
  intro c hc
  unfold htmlL at hc
  rw [List.mem_flatMap] at hc
  obtain ⟨x, _, hc⟩ := hc
  unfold htmlC at hc
  split at hc
  · revert c; decide
  split at hc
  · revert c; decide
  split at hc
  · revert c; decide
  split at hc
  · revert c; decide
  · rw [List.mem_singleton] at hc; subst hc
    exact ⟨by assumption, by assumption, by assumption⟩
theorem html_ge : ∀ s : List UInt8, s.length ≤ (htmlL s).length
  | [] => Nat.le_refl _
  | c :: s => by
    have ih := html_ge s
    have hc : 1 ≤ (htmlC c).length := by
      unfold htmlC
      split
      · decide
      split
      · decide
      split
      · decide
      split
      · decide
      · simp
    unfold htmlL at ih ⊢
    rw [List.flatMap_cons, List.length_append, List.length_cons]
    omega
end Go.Proofs.Ytognfedcnciafaa
