/- Fences, in plain words. Own work; printed from wip/law4/p.in by pre.py. -/
import Derived.Test.YtoncjokijkjliaaDoorPaA
import Derived.Lib.SlTrimSet
import Derived.Lib.Bytealg
namespace Go.Proofs.YtoncjokijkjliaaDoor
open Go.Sv
set_option linter.unusedSimpArgs false
set_option linter.unusedVariables false

/-- How many of a sign stand at a text's beginning. -/
def runL (c : UInt8) : List UInt8 → Nat
  | [] => 0
  | x :: t => if x = c then runL c t + 1 else 0
theorem runL_le (c : UInt8) : ∀ s : List UInt8, runL c s ≤ s.length
  | [] => Nat.le_refl _
  | x :: t => by
    have := runL_le c t
    unfold runL
    split <;> simp only [List.length_cons] <;> omega
theorem run_go {c : UInt8} {s : List UInt8} {n : Nat} (h : n < s.length) (he : s.getD n 0 = c) : runL c (s.drop n) = runL c (s.drop (n + 1)) + 1 := by
  rw [drop_cons s n h, runL, if_pos he]
theorem run_stop {c : UInt8} {s : List UInt8} {n : Nat} (h : n < s.length) (he : ¬ s.getD n 0 = c) : runL c (s.drop n) = 0 := by
  rw [drop_cons s n h, runL, if_neg he]
theorem run_end {c : UInt8} {s : List UInt8} {n : Nat} (h : ¬ n < s.length) : runL c (s.drop n) = 0 := by
  rw [List.drop_eq_nil_of_le (by omega)]; rfl
theorem run_rep (c : UInt8) (t : List UInt8) (ht : runL c t = 0) : ∀ m : Nat, runL c (List.replicate m c ++ t) = m
  | 0 => by simpa using ht
  | m + 1 => by rw [List.replicate_succ, List.cons_append, runL, if_pos rfl, run_rep c t ht m]
theorem run_ge (c : UInt8) (t : List UInt8) : ∀ m : Nat, m ≤ runL c (List.replicate m c ++ t)
  | 0 => Nat.zero_le _
  | m + 1 => by
    have := run_ge c t m
    rw [List.replicate_succ, List.cons_append, runL, if_pos rfl]; omega

/-! ### without what is around it -/
def backL (s : List UInt8) : List UInt8 := (s.reverse.dropWhile white).reverse
def trimL (s : List UInt8) : List UInt8 := backL (s.dropWhile white)
theorem back_cons (c : UInt8) (t : List UInt8) : backL (c :: t) = if backL t = [] then (if white c = true then [] else [c]) else c :: backL t := by
  unfold backL
  rw [List.reverse_cons, List.dropWhile_append]
  cases h : t.reverse.dropWhile white with
  | nil =>
    simp only [List.isEmpty_nil, if_true, List.reverse_nil]
    cases hw : white c <;> simp [List.dropWhile_cons, hw]
  | cons a r =>
    simp [List.isEmpty_cons]
theorem trim_comm : ∀ s : List UInt8, (backL s).dropWhile white = trimL s
  | [] => rfl
  | c :: t => by
    have ih := trim_comm t
    unfold trimL at ih ⊢
    rw [back_cons, List.dropWhile_cons]
    cases hw : white c
    · simp only [Bool.false_eq_true, if_false]
      rw [back_cons, hw]
      simp only [Bool.false_eq_true, if_false]
      split
      · simp [List.dropWhile_cons, hw]
      · simp [List.dropWhile_cons, hw]
    · simp only [if_true]
      rw [← ih]
      split
      · rename_i h; rw [h]
      · simp [List.dropWhile_cons, hw]
theorem lib_trim (s : List UInt8) : Lib.trimS s [32, 9] = trimL s := by
  rw [← trim_comm]
  have hf : (fun x => [(32 : UInt8), 9].contains x) = white := by
    funext x
    unfold white
    rw [Bool.eq_iff_iff]
    simp
  unfold Lib.trimS Lib.trimLeftS Lib.trimRightS backL
  rw [hf]
theorem trim_len (s : List UInt8) : (trimL s).length ≤ s.length := by
  unfold trimL backL
  have h1 := (List.dropWhile_sublist white (l := (s.dropWhile white).reverse)).length_le
  have h2 := (List.dropWhile_sublist white (l := s)).length_le
  rw [List.length_reverse] at h1 ⊢
  omega
theorem back_go {t : List UInt8} (h : t ≠ []) (hw : white (t.getD (t.length - 1) 0) = true) : backL (t.take (t.length - 1)) = backL t := by
  obtain ⟨l, c, rfl⟩ : ∃ l c, t = l ++ [c] := ⟨_, _, (List.dropLast_concat_getLast h).symm⟩
  have e : (l ++ [c]).length - 1 = l.length := by simp
  rw [e, List.take_left]
  rw [e, List.getD_eq_getElem?_getD, List.getElem?_append_right (Nat.le_refl _)] at hw
  simp only [Nat.sub_self, List.getElem?_cons_zero, Option.getD_some] at hw
  unfold backL
  rw [List.reverse_append]
  simp [List.dropWhile_cons, hw]
theorem back_end {t : List UInt8} (h : t ≠ []) (hw : white (t.getD (t.length - 1) 0) = false) : backL t = t := by
  obtain ⟨l, c, rfl⟩ : ∃ l c, t = l ++ [c] := ⟨_, _, (List.dropLast_concat_getLast h).symm⟩
  have e : (l ++ [c]).length - 1 = l.length := by simp
  rw [e, List.getD_eq_getElem?_getD, List.getElem?_append_right (Nat.le_refl _)] at hw
  simp only [Nat.sub_self, List.getElem?_cons_zero, Option.getD_some] at hw
  unfold backL
  rw [List.reverse_append]
  simp [List.dropWhile_cons, hw]
theorem index_has (c : UInt8) : ∀ s : List UInt8, decide (Lib.indexByte s c ≥ 0) = s.contains c
  | [] => by simp [Lib.indexByte]
  | x :: t => by
    have ih := index_has c t
    have hge := Lib.indexByte_ge t c
    unfold Lib.indexByte
    rw [List.contains_cons]
    by_cases h : x = c
    · subst h; simp
    · rw [beq_eq_false_iff_ne.2 h, beq_eq_false_iff_ne.2 (Ne.symm h), Bool.false_or, ← ih]
      simp only [Bool.false_eq_true, if_false]
      by_cases h1 : Lib.indexByte t c = -1
      · rw [h1]; simp
      · rw [beq_eq_false_iff_ne.2 h1]
        simp only [Bool.false_eq_true, if_false]
        rw [decide_eq_decide]
        omega

/-! ### what a fence is -/
theorem ind_zero (s : List UInt8) : indFrom s 0 0 = indT 0 s := by
  rw [ind_list s 0 0 (Nat.zero_le _), List.drop_zero, Nat.zero_add]
def beginsL (s : List UInt8) : Option (UInt8 × Nat × Nat × List UInt8) :=
  if 3 < (indT 0 s).1 ∨ (indT 0 s).2 = s.length ∨ (s.getD (indT 0 s).2 0 ≠ 96 ∧ s.getD (indT 0 s).2 0 ≠ 126) then none
  else if runL (s.getD (indT 0 s).2 0) (s.drop (indT 0 s).2) < 3 ∨ (s.getD (indT 0 s).2 0 = 96 ∧ (trimL (s.drop ((indT 0 s).2 + runL (s.getD (indT 0 s).2 0) (s.drop (indT 0 s).2)))).contains 96 = true) then none
  else some (s.getD (indT 0 s).2 0, runL (s.getD (indT 0 s).2 0) (s.drop (indT 0 s).2), (indT 0 s).1, trimL (s.drop ((indT 0 s).2 + runL (s.getD (indT 0 s).2 0) (s.drop (indT 0 s).2))))
def openV : Option (UInt8 × Nat × Nat × List UInt8) → AVal
  | some (c, n, k, i) => .agg [.u8 c, .int .i64 n, .int .i64 k, .str i]
  | none => .agg [.u8 0, .int .i64 0, .int .i64 0, .str []]
def endsL (c : UInt8) (n : Int) (s : List UInt8) : Bool :=
  decide ((indT 0 s).1 ≤ 3) && (decide (0 < n) && (decide (n ≤ runL c (s.drop (indT 0 s).2)) && emptyL (s.drop ((indT 0 s).2 + runL c (s.drop (indT 0 s).2)))))
theorem indT_le (s : List UInt8) : (indT 0 s).2 ≤ s.length ∧ (indT 0 s).2 ≤ (indT 0 s).1 ∧ (indT 0 s).1 ≤ 4 * (indT 0 s).2 := by
  have := ind_le s 0 0 (Nat.zero_le _)
  rw [ind_zero] at this
  omega

/-! ### the longest row -/
def maxRun : List UInt8 → Nat
  | [] => 0
  | c :: t => max (runL 96 (c :: t)) (maxRun t)
theorem maxRun_jump : ∀ s : List UInt8, maxRun s = max (runL 96 s) (maxRun (s.drop (runL 96 s + 1)))
  | [] => rfl
  | c :: t => by
    have ih := maxRun_jump t
    by_cases h : c = 96
    · rw [maxRun, runL, if_pos h, List.drop_succ_cons]
      omega
    · rw [maxRun, runL, if_neg h, List.drop_succ_cons, List.drop_zero]
theorem maxRun_ge (x : List UInt8) : ∀ n, runL 96 (x.drop n) ≤ maxRun x := by
  induction x with
  | nil => intro n; simp [runL]
  | cons c t ih =>
    intro n
    cases n with
    | zero => rw [List.drop_zero, maxRun]; omega
    | succ n =>
      have := ih n
      rw [List.drop_succ_cons, maxRun]; omega
theorem maxRun_le : ∀ x : List UInt8, maxRun x ≤ x.length
  | [] => Nat.le_refl _
  | c :: t => by
    have h1 := maxRun_le t
    have h2 := runL_le 96 (c :: t)
    rw [maxRun]
    simp only [List.length_cons] at h2 ⊢
    omega
theorem maxRun_skip : ∀ (t : List UInt8) (k : Nat), k ≤ (t.takeWhile big).length → maxRun t = maxRun (t.drop k)
  | t, 0, _ => by rw [List.drop_zero]
  | [], k + 1, h => by simp at h
  | c :: t, k + 1, h => by
    rw [List.takeWhile_cons] at h
    cases hb : big c
    · rw [hb] at h; simp at h
    · rw [hb] at h
      simp only [if_true, List.length_cons] at h
      have hc : c ≠ 96 := by rintro rfl; revert hb; decide
      rw [maxRun, runL, if_neg hc, List.drop_succ_cons, ← maxRun_skip t k (by omega)]
      omega
theorem decL_tail (c : UInt8) (t : List UInt8) : ((decL (c :: t)).2 - 1) ≤ (t.takeWhile big).length := by
  rw [decL_tw]
  have := decL_le (c :: t.takeWhile big) (by simp)
  rw [List.length_cons] at this
  omega
theorem maxRun_rune {s : List UInt8} {pos : Nat} (h : pos < s.length) : maxRun (s.drop pos) = max (runL 96 (s.drop pos)) (maxRun (s.drop (pos + (decU s pos).2))) := by
  have hd := drop_cons s pos h
  rw [decU_list]
  have hp := decL_pos (s.drop pos)
  have ht := decL_tail (s.getD pos 0) (s.drop (pos + 1))
  rw [← hd] at ht
  have hs := maxRun_skip _ _ ht
  rw [List.drop_drop] at hs
  rw [show pos + 1 + ((decL (s.drop pos)).2 - 1) = pos + (decL (s.drop pos)).2 by omega] at hs
  rw [← hs]
  conv => lhs; rw [hd, maxRun, ← hd]
def longStep (m : Nat) (s : List UInt8) : Nat := max m (maxRun s + 1)
def longL (l : List (List UInt8)) : Nat := l.foldl longStep 3
theorem long_fold_ge : ∀ (l : List (List UInt8)) (m : Nat), m ≤ l.foldl longStep m ∧ ∀ x ∈ l, maxRun x + 1 ≤ l.foldl longStep m
  | [], m => ⟨Nat.le_refl _, by simp⟩
  | s :: l, m => by
    obtain ⟨h1, h2⟩ := long_fold_ge l (longStep m s)
    have h3 : m ≤ longStep m s ∧ maxRun s + 1 ≤ longStep m s := by unfold longStep; omega
    rw [List.foldl_cons]
    refine ⟨by omega, fun x hx => ?_⟩
    rcases List.mem_cons.1 hx with rfl | hx
    · omega
    · exact h2 x hx
theorem long_fold_le : ∀ (l : List (List UInt8)) (m b : Nat), m ≤ b → (∀ x ∈ l, x.length + 1 ≤ b) → l.foldl longStep m ≤ b
  | [], m, b, h, _ => h
  | s :: l, m, b, h, hl => by
    rw [List.foldl_cons]
    refine long_fold_le l _ b ?_ fun x hx => hl x (by simp [hx])
    have h1 := maxRun_le s
    have h2 := hl s (by simp)
    unfold longStep
    omega
theorem long_ge (l : List (List UInt8)) : 3 ≤ longL l := (long_fold_ge l 3).1
theorem long_mem {l : List (List UInt8)} {x : List UInt8} (h : x ∈ l) : maxRun x < longL l := (long_fold_ge l 3).2 x h
theorem long_le {l : List (List UInt8)} {b : Nat} (hb : 3 ≤ b) (h : ∀ x ∈ l, x.length + 1 ≤ b) : longL l ≤ b := long_fold_le l 3 b hb h

/-! ### fences of so many signs -/
theorem white_sign {c : UInt8} (h : c = 96 ∨ c = 126) : white c = false := by rcases h with rfl | rfl <;> decide
theorem indT_blank : ∀ (k col : Nat) (t : List UInt8), indT col (List.replicate k 32 ++ t) = ((indT (col + k) t).1, (indT (col + k) t).2 + k)
  | 0, col, t => by simp
  | k + 1, col, t => by
    have ih := indT_blank k (col + 1) t
    rw [List.replicate_succ, List.cons_append, indT, if_pos (by decide), show stepC col 32 = col + 1 by unfold stepC; rw [if_neg (by decide)], ih, show col + 1 + k = col + (k + 1) by omega]
    rfl
theorem indT_stop (col : Nat) {c : UInt8} (t : List UInt8) (h : white c = false) : indT col (c :: t) = (col, 0) := by rw [indT, h]; rfl
/-- Some blanks, some signs, something behind. -/
def mk (k m : Nat) (c : UInt8) (t : List UInt8) : List UInt8 := List.replicate k 32 ++ (List.replicate m c ++ t)
theorem mk_ind {k m : Nat} {c : UInt8} {t : List UInt8} (hc : c = 96 ∨ c = 126) (hm : 0 < m) : indT 0 (mk k m c t) = (k, k) := by
  obtain ⟨m, rfl⟩ : ∃ j, m = j + 1 := ⟨m - 1, by omega⟩
  unfold mk
  rw [indT_blank, List.replicate_succ, List.cons_append, indT_stop _ _ (white_sign hc)]
  simp
theorem mk_drop (k m : Nat) (c : UInt8) (t : List UInt8) : (mk k m c t).drop k = List.replicate m c ++ t := by
  unfold mk
  have := List.drop_left (l₁ := List.replicate k (32 : UInt8)) (l₂ := List.replicate m c ++ t)
  rwa [List.length_replicate] at this
theorem mk_drop2 (k m : Nat) (c : UInt8) (t : List UInt8) : (mk k m c t).drop (k + m) = t := by
  rw [← List.drop_drop, mk_drop]
  have := List.drop_left (l₁ := List.replicate m c) (l₂ := t)
  rwa [List.length_replicate] at this
theorem mk_get {k m : Nat} {c : UInt8} {t : List UInt8} (hm : 0 < m) : (mk k m c t).getD k 0 = c := by
  have h := mk_drop k m c t
  rw [List.getD_eq_getElem?_getD]
  have h2 : ((mk k m c t).drop k)[0]? = some c := by
    rw [h]
    obtain ⟨m, rfl⟩ : ∃ j, m = j + 1 := ⟨m - 1, by omega⟩
    rfl
  rw [List.getElem?_drop, Nat.add_zero] at h2
  rw [h2]; rfl
theorem mk_len (k m : Nat) (c : UInt8) (t : List UInt8) : (mk k m c t).length = k + (m + t.length) := by
  unfold mk; simp
theorem begins_mk {k m : Nat} {c : UInt8} {t : List UInt8} (hc : c = 96 ∨ c = 126) (hk : k ≤ 3) (hm : 3 ≤ m) (ht : runL c t = 0) (hi : c = 96 → (trimL t).contains 96 = false) : beginsL (mk k m c t) = some (c, m, k, trimL t) := by
  unfold beginsL
  rw [mk_ind hc (by omega)]
  dsimp only
  rw [mk_get (by omega), mk_drop, run_rep c t ht, mk_drop2]
  rw [if_neg, if_neg]
  · rintro (h | ⟨h1, h2⟩)
    · omega
    · rw [hi h1] at h2; cases h2
  · rintro (h | h | ⟨h1, h2⟩)
    · omega
    · rw [mk_len] at h; omega
    · rcases hc with h | h
      · exact h1 h
      · exact h2 h
theorem begins_bad {k m : Nat} {t : List UInt8} (hm : 3 ≤ m) (ht : runL 96 t = 0) (hi : (trimL t).contains 96 = true) : beginsL (mk k m 96 t) = none := by
  unfold beginsL
  rw [mk_ind (.inl rfl) (by omega)]
  dsimp only
  rw [mk_get (by omega), mk_drop, run_rep 96 t ht, mk_drop2]
  split
  · rfl
  · rw [if_pos (.inr ⟨rfl, hi⟩)]
theorem ends_mk {k m : Nat} {c : UInt8} {t : List UInt8} {n : Int} (hc : c = 96 ∨ c = 126) (hm : 0 < m) (ht : runL c t = 0) : endsL c n (mk k m c t) = (decide (k ≤ 3) && (decide (0 < n) && (decide (n ≤ m) && emptyL t))) := by
  unfold endsL
  rw [mk_ind hc hm]
  dsimp only
  rw [mk_drop, run_rep c t ht, mk_drop2]
theorem ends_long {c : UInt8} {n : Nat} {x : List UInt8} (hc : c = 96) (h : maxRun x < n) : endsL c n x = false := by
  subst hc
  have := maxRun_ge x (indT 0 x).2
  unfold endsL
  rw [decide_eq_false (show ¬ ((n : Int) ≤ (runL 96 (x.drop (indT 0 x).2) : Nat)) by omega), Bool.false_and, Bool.and_false, Bool.and_false]
end Go.Proofs.YtoncjokijkjliaaDoor
