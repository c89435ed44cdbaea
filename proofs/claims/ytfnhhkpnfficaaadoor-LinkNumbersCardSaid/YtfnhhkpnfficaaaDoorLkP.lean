/- Links: the plain law. Own work; printed from wip/law11/p.in by pre2.py. -/
import Derived.Test.YtfnhhkpnfficaaaDoorCoP
import Derived.Test.YtfnhhkpnfficaaaDoorLkPl
namespace Go.Proofs.YtfnhhkpnfficaaaDoor
open Go.Sv
set_option linter.unusedSimpArgs false
set_option linter.unusedVariables false
set_option maxRecDepth 100000

/-! ### runes at a place -/
theorem decL_first (c : UInt8) (t : List UInt8) : (decL (c :: t)).1 < 128 → decL (c :: t) = (c.toNat, 1) := by
  by_cases h : c.toNat < 128
  · intro _; exact decL_small h
  · intro h1
    exfalso
    have key : ∀ p : Nat × Nat, p = decL (c :: t) → 128 ≤ p.1 := by
      intro p hp
      unfold decL at hp
      dsimp only at hp
      simp only [List.getD_cons_zero] at hp
      rw [if_neg h] at hp
      split at hp
      · split at hp
        · rw [hp]; dsimp only; omega
        · rw [hp]; decide
      split at hp
      · split at hp
        · rename_i h4
          rw [Bool.and_eq_true, decide_eq_true_eq] at h4
          rw [hp]; dsimp only; omega
        · rw [hp]; decide
      split at hp
      · split at hp
        · rename_i h5
          rw [Bool.and_eq_true, decide_eq_true_eq] at h5
          rw [hp]; dsimp only; omega
        · rw [hp]; decide
      · rw [hp]; decide
    have := key _ rfl
    omega
theorem dec_at {s : List UInt8} {i : Nat} (h : i < s.length) (h1 : (decL (s.drop i)).1 < 128) : decL (s.drop i) = ((s.getD i 0).toNat, 1) := by
  rw [drop_cons s i h] at h1 ⊢
  exact decL_first _ _ h1
theorem dec_small_at {s : List UInt8} {i : Nat} (h : i < s.length) (h1 : (s.getD i 0).toNat < 128) : decL (s.drop i) = ((s.getD i 0).toNat, 1) := by
  rw [drop_cons s i h]
  exact decL_small h1
/-! ### between < and > -/
def lowB (c : UInt8) : Bool := decide (97 ≤ c.toNat ∧ c.toNat ≤ 122)
/-- How many small letters stand at a text's beginning. -/
def lowN : List UInt8 → Nat
  | [] => 0
  | x :: t => if lowB x = true then lowN t + 1 else 0
theorem low_go {s : List UInt8} {n : Nat} (h : n < s.length) (he : lowB (s.getD n 0) = true) : lowN (s.drop n) = lowN (s.drop (n + 1)) + 1 := by
  rw [drop_cons s n h, lowN, if_pos he]
theorem low_stop {s : List UInt8} {n : Nat} (h : n < s.length) (he : ¬ lowB (s.getD n 0) = true) : lowN (s.drop n) = 0 := by
  rw [drop_cons s n h, lowN, if_neg he]
theorem low_end {s : List UInt8} {n : Nat} (h : ¬ n < s.length) : lowN (s.drop n) = 0 := by
  rw [List.drop_eq_nil_of_le (by omega)]; rfl
theorem low_le : ∀ s : List UInt8, lowN s ≤ s.length
  | [] => Nat.le_refl _
  | x :: t => by
    have := low_le t
    unfold lowN
    split <;> simp only [List.length_cons] <;> omega
/-- From a place on, rune by rune: where the first '>' is; none, if a '<' or a blank comes first. -/
def angF (s : List UInt8) : Nat → Nat → Option Nat
  | 0, _ => none
  | f + 1, i => if i < s.length then (if (decL (s.drop i)).1 = 62 then some i else if (decL (s.drop i)).1 = 60 ∨ blankR ((decL (s.drop i)).1 : Nat) = true then none else angF s f (i + (decL (s.drop i)).2)) else none
theorem angF_more (s : List UInt8) : ∀ (f g i : Nat), s.length < i + f → s.length < i + g → angF s f i = angF s g i
  | 0, g, i, h1, h2 => by
    cases g with
    | zero => rfl
    | succ g => simp only [angF]; rw [if_neg (by omega)]
  | f + 1, 0, i, h1, h2 => by simp only [angF]; rw [if_neg (by omega)]
  | f + 1, g + 1, i, h1, h2 => by
    have hp := decL_pos (s.drop i)
    simp only [angF]
    split
    · split
      · rfl
      · split
        · rfl
        · exact angF_more s f g _ (by omega) (by omega)
    · rfl
def angI (s : List UInt8) (i : Nat) : Option Nat := angF s (s.length + 1) i
theorem angI_out {s : List UInt8} {i : Nat} (h : ¬ i < s.length) : angI s i = none := by
  unfold angI; simp only [angF]; rw [if_neg h]
theorem angI_hit {s : List UInt8} {i : Nat} (h : i < s.length) (h1 : (decL (s.drop i)).1 = 62) : angI s i = some i := by
  unfold angI; simp only [angF]; rw [if_pos h, if_pos h1]
theorem angI_stop {s : List UInt8} {i : Nat} (h : i < s.length) (h1 : ¬ (decL (s.drop i)).1 = 62) (h2 : (decL (s.drop i)).1 = 60 ∨ blankR ((decL (s.drop i)).1 : Nat) = true) : angI s i = none := by
  unfold angI; simp only [angF]; rw [if_pos h, if_neg h1, if_pos h2]
theorem angI_go {s : List UInt8} {i : Nat} (h : i < s.length) (h1 : ¬ (decL (s.drop i)).1 = 62) (h2 : ¬ ((decL (s.drop i)).1 = 60 ∨ blankR ((decL (s.drop i)).1 : Nat) = true)) : angI s i = angI s (i + (decL (s.drop i)).2) := by
  have hp := decL_pos (s.drop i)
  unfold angI
  rw [angF, if_pos h, if_neg h1, if_neg h2]
  exact angF_more s _ _ _ (by omega) (by omega)
theorem ang_some {s : List UInt8} : ∀ {f i k : Nat}, angF s f i = some k → i ≤ k ∧ k < s.length ∧ (decL (s.drop k)).1 = 62
  | 0, _, _, h => by simp [angF] at h
  | f + 1, i, k, h => by
    simp only [angF] at h
    split at h
    · split at h
      · rename_i h1 h2; simp only [Option.some.injEq] at h; subst h; exact ⟨Nat.le_refl _, h1, h2⟩
      · split at h
        · cases h
        · have := ang_some h; exact ⟨by omega, this.2⟩
    · cases h
theorem ang_low {s : List UInt8} : ∀ (j i : Nat), j ≤ lowN (s.drop i) → angI s i = angI s (i + j)
  | 0, i, _ => rfl
  | j + 1, i, h => by
    have hi : i < s.length := by
      rcases Nat.lt_or_ge i s.length with h' | h'
      · exact h'
      · rw [low_end (by omega)] at h; omega
    by_cases hb : lowB (s.getD i 0) = true
    · rw [low_go hi hb] at h
      have hb' := hb
      unfold lowB at hb'
      rw [decide_eq_true_eq] at hb'
      have hd := dec_small_at hi (by omega)
      rw [angI_go hi (by rw [hd]; dsimp only; omega) (by rw [hd]; dsimp only; unfold blankR; rw [decide_eq_true_eq]; omega), hd]
      dsimp only
      rw [ang_low j (i + 1) (by omega)]
      congr 1; omega
    · rw [low_stop hi hb] at h; omega
def autoOk (s : List UInt8) (a : Int) : Prop :=
  0 ≤ a ∧ a < s.length ∧ s.getD a.toNat 0 = 60 ∧ 2 ≤ lowN (s.drop (a.toNat + 1)) ∧ lowN (s.drop (a.toNat + 1)) ≤ 12 ∧ a.toNat + 1 + lowN (s.drop (a.toNat + 1)) < s.length ∧ s.getD (a.toNat + 1 + lowN (s.drop (a.toNat + 1))) 0 = 58
instance (s : List UInt8) (a : Int) : Decidable (autoOk s a) := by unfold autoOk; infer_instance
def autoL (s : List UInt8) (a : Int) : List UInt8 × Int × Bool :=
  if autoOk s a then
    match angI s (a.toNat + 1) with
    | some i => ((s.take i).drop (a.toNat + 1), (i : Int) + 1, true)
    | none => ([], 0, false)
  else ([], 0, false)
theorem auto_no {s : List UInt8} {a : Int} (h : ¬ autoOk s a) : autoL s a = ([], 0, false) := if_neg h
theorem auto_none {s : List UInt8} {a : Int} (h : autoOk s a) (h1 : angI s (a.toNat + 1) = none) : autoL s a = ([], 0, false) := by unfold autoL; rw [if_pos h, h1]
theorem auto_some {s : List UInt8} {a : Int} {i : Nat} (h : autoOk s a) (h1 : angI s (a.toNat + 1) = some i) : autoL s a = ((s.take i).drop (a.toNat + 1), (i : Int) + 1, true) := by unfold autoL; rw [if_pos h, h1]
/-! ### what is passed by whole -/
def passL (s : List UInt8) (i : Nat) : Option Nat :=
  if s.getD i 0 = 96 then (if (spanL s i).2.2 = true then some (spanL s i).2.1.toNat else some (i + runL 96 (s.drop i)))
  else if (autoL s i).2.2 = true then some (autoL s i).2.1.toNat else none
theorem span_end {s : List UInt8} {a : Int} (h : (spanL s a).2.2 = true) : a < (spanL s a).2.1 ∧ (spanL s a).2.1 ≤ s.length := by
  unfold spanL at h ⊢
  by_cases ho : spanOk s a
  · rw [if_pos ho] at h ⊢
    obtain ⟨h1, h2, h3, _⟩ := ho
    cases hi : spanI s (runL 96 (s.drop a.toNat)) (a.toNat + runL 96 (s.drop a.toNat)) with
    | none => rw [hi] at h; simp at h
    | some i =>
      have hw := whole_law (by omega) h3 rfl hi
      dsimp only
      omega
  · rw [if_neg ho] at h; simp at h
theorem auto_end {s : List UInt8} {a : Int} (h : (autoL s a).2.2 = true) : a < (autoL s a).2.1 ∧ (autoL s a).2.1 ≤ s.length := by
  by_cases ho : autoOk s a
  · cases hi : angI s (a.toNat + 1) with
    | none => rw [auto_none ho hi] at h; simp at h
    | some i =>
      rw [auto_some ho hi]
      have := ang_some hi
      have h0 := ho.1
      dsimp only
      omega
  · rw [auto_no ho] at h; simp at h
theorem pass_some {s : List UInt8} {i e : Nat} (hi : i < s.length) (h : passL s i = some e) : i < e ∧ e ≤ s.length := by
  unfold passL at h
  split at h
  · rename_i h96
    split at h
    · rename_i hs
      have := span_end hs
      simp only [Option.some.injEq] at h
      omega
    · have h1 := runL_le 96 (s.drop i)
      rw [List.length_drop] at h1
      have h2 := run_go hi h96
      simp only [Option.some.injEq] at h
      omega
  · split at h
    · rename_i hs
      have := auto_end hs
      simp only [Option.some.injEq] at h
      omega
    · cases h
theorem pass_none {s : List UInt8} {i : Nat} (h1 : s.getD i 0 ≠ 96) (h2 : s.getD i 0 ≠ 60) : passL s i = none := by
  unfold passL
  rw [if_neg h1, auto_no (fun h => h2 (by have := h.2.2.1; rwa [Int.toNat_natCast] at this))]
  rfl
/-! ### where a bracket closes -/
def closeF (s : List UInt8) : Nat → Nat → Nat → Option Nat
  | 0, _, _ => none
  | f + 1, i, d => if i < s.length then
      match passL s i with
      | some e => closeF s f e d
      | none =>
        if (nextA s i).2.2 = false ∧ (nextA s i).1 = 91 then closeF s f (nextA s i).2.1 (d + 1)
        else if (nextA s i).2.2 = false ∧ (nextA s i).1 = 93 then (if d = 0 then some i else closeF s f (nextA s i).2.1 (d - 1))
        else closeF s f (nextA s i).2.1 d
    else none
theorem closeF_more (s : List UInt8) : ∀ (f g i d : Nat), s.length < i + f → s.length < i + g → closeF s f i d = closeF s g i d
  | 0, g, i, d, h1, h2 => by
    cases g with
    | zero => rfl
    | succ g => simp only [closeF]; rw [if_neg (by omega)]
  | f + 1, 0, i, d, h1, h2 => by simp only [closeF]; rw [if_neg (by omega)]
  | f + 1, g + 1, i, d, h1, h2 => by
    simp only [closeF]
    split
    · rename_i hi
      have hn := nextA_gt s i hi
      cases hp : passL s i with
      | some e =>
        have := pass_some hi hp
        exact closeF_more s f g _ _ (by omega) (by omega)
      | none =>
        dsimp only
        split
        · exact closeF_more s f g _ _ (by omega) (by omega)
        · split
          · split
            · rfl
            · exact closeF_more s f g _ _ (by omega) (by omega)
          · exact closeF_more s f g _ _ (by omega) (by omega)
    · rfl
def closeI (s : List UInt8) (i d : Nat) : Option Nat := closeF s (s.length + 1) i d
theorem closeI_out {s : List UInt8} {i d : Nat} (h : ¬ i < s.length) : closeI s i d = none := by
  unfold closeI; simp only [closeF]; rw [if_neg h]
theorem closeI_pass {s : List UInt8} {i d e : Nat} (h : i < s.length) (hp : passL s i = some e) : closeI s i d = closeI s e d := by
  have := pass_some h hp
  unfold closeI
  rw [closeF, if_pos h, hp]
  exact closeF_more s _ _ _ _ (by omega) (by omega)
theorem closeI_up {s : List UInt8} {i d : Nat} (h : i < s.length) (hp : passL s i = none) (h1 : (nextA s i).2.2 = false) (h2 : (nextA s i).1 = 91) : closeI s i d = closeI s (nextA s i).2.1 (d + 1) := by
  have := nextA_gt s i h
  unfold closeI
  rw [closeF, if_pos h, hp]
  dsimp only
  rw [if_pos ⟨h1, h2⟩]
  exact closeF_more s _ _ _ _ (by omega) (by omega)
theorem closeI_hit {s : List UInt8} {i : Nat} (h : i < s.length) (hp : passL s i = none) (h1 : (nextA s i).2.2 = false) (h2 : (nextA s i).1 = 93) : closeI s i 0 = some i := by
  unfold closeI
  rw [closeF, if_pos h, hp]
  dsimp only
  rw [if_neg (by rw [h2]; rintro ⟨_, h⟩; cases h), if_pos ⟨h1, h2⟩, if_pos rfl]
theorem closeI_down {s : List UInt8} {i d : Nat} (h : i < s.length) (hp : passL s i = none) (h1 : (nextA s i).2.2 = false) (h2 : (nextA s i).1 = 93) : closeI s i (d + 1) = closeI s (nextA s i).2.1 d := by
  have := nextA_gt s i h
  unfold closeI
  rw [closeF, if_pos h, hp]
  dsimp only
  rw [if_neg (by rw [h2]; rintro ⟨_, h⟩; cases h), if_pos ⟨h1, h2⟩, if_neg (by omega), Nat.add_sub_cancel]
  exact closeF_more s _ _ _ _ (by omega) (by omega)
theorem closeI_own {s : List UInt8} {i d : Nat} (h : i < s.length) (hp : passL s i = none) (h1 : (nextA s i).2.2 = true) : closeI s i d = closeI s (nextA s i).2.1 d := by
  have := nextA_gt s i h
  unfold closeI
  rw [closeF, if_pos h, hp]
  dsimp only
  rw [if_neg (by rw [h1]; rintro ⟨h, _⟩; cases h), if_neg (by rw [h1]; rintro ⟨h, _⟩; cases h)]
  exact closeF_more s _ _ _ _ (by omega) (by omega)
theorem closeI_go {s : List UInt8} {i d : Nat} (h : i < s.length) (hp : passL s i = none) (h2 : (nextA s i).1 ≠ 91) (h3 : (nextA s i).1 ≠ 93) : closeI s i d = closeI s (nextA s i).2.1 d := by
  have := nextA_gt s i h
  unfold closeI
  rw [closeF, if_pos h, hp]
  dsimp only
  rw [if_neg (fun h => h2 h.2), if_neg (fun h => h3 h.2)]
  exact closeF_more s _ _ _ _ (by omega) (by omega)
def closeL (s : List UInt8) (a : Int) : Int × Bool :=
  if 0 ≤ a ∧ a < s.length ∧ s.getD a.toNat 0 = 91 then
    match closeI s (a.toNat + 1) 0 with
    | some i => ((i : Int), true)
    | none => (0, false)
  else (0, false)
theorem close_no {s : List UInt8} {a : Int} (h : ¬ (0 ≤ a ∧ a < s.length ∧ s.getD a.toNat 0 = 91)) : closeL s a = (0, false) := if_neg h
theorem close_none {s : List UInt8} {a : Int} (h : 0 ≤ a ∧ a < s.length ∧ s.getD a.toNat 0 = 91) (h1 : closeI s (a.toNat + 1) 0 = none) : closeL s a = (0, false) := by unfold closeL; rw [if_pos h, h1]
theorem close_some {s : List UInt8} {a : Int} {i : Nat} (h : 0 ≤ a ∧ a < s.length ∧ s.getD a.toNat 0 = 91) (h1 : closeI s (a.toNat + 1) 0 = some i) : closeL s a = ((i : Int), true) := by unfold closeL; rw [if_pos h, h1]
/-- What the rune at a place is, if it is a small one. -/
theorem next_small {s : List UInt8} {i : Nat} (hi : i < s.length) (h1 : (nextA s i).2.2 = false) (h2 : (nextA s i).1 < 128) : nextA s i = ((s.getD i 0).toNat, i + 1, false) := by
  by_cases hs : s.getD i 0 = 92 ∧ i + 1 < s.length ∧ asciiP (s.getD (i + 1) 0).toNat = true
  · rw [nextA_sign hi hs] at h1; cases h1
  · rw [nextA_rune hi hs] at h2 ⊢
    rw [dec_at hi h2]
theorem next_plain {s : List UInt8} {i : Nat} (hi : i < s.length) (h0 : s.getD i 0 ≠ 92) (h1 : (s.getD i 0).toNat < 128) : nextA s i = ((s.getD i 0).toNat, i + 1, false) := by
  rw [nextA_rune hi (fun h => h0 h.1), dec_small_at hi h1]
/-! ### what stands between ( and ) -/
def destF (s : List UInt8) : Nat → Nat → Option Nat
  | 0, _ => none
  | f + 1, i => if i < s.length then
      (if (nextA s i).2.2 = false ∧ (nextA s i).1 = 41 then some i
       else if (nextA s i).2.2 = false ∧ ((nextA s i).1 = 40 ∨ blankR ((nextA s i).1 : Nat) = true) then none
       else destF s f (nextA s i).2.1)
    else none
theorem destF_more (s : List UInt8) : ∀ (f g i : Nat), s.length < i + f → s.length < i + g → destF s f i = destF s g i
  | 0, g, i, h1, h2 => by
    cases g with
    | zero => rfl
    | succ g => simp only [destF]; rw [if_neg (by omega)]
  | f + 1, 0, i, h1, h2 => by simp only [destF]; rw [if_neg (by omega)]
  | f + 1, g + 1, i, h1, h2 => by
    simp only [destF]
    split
    · rename_i hi
      have hn := nextA_gt s i hi
      split
      · rfl
      · split
        · rfl
        · exact destF_more s f g _ (by omega) (by omega)
    · rfl
def destI (s : List UInt8) (i : Nat) : Option Nat := destF s (s.length + 1) i
theorem destI_out {s : List UInt8} {i : Nat} (h : ¬ i < s.length) : destI s i = none := by
  unfold destI; simp only [destF]; rw [if_neg h]
theorem destI_hit {s : List UInt8} {i : Nat} (h : i < s.length) (h1 : (nextA s i).2.2 = false) (h2 : (nextA s i).1 = 41) : destI s i = some i := by
  unfold destI; simp only [destF]; rw [if_pos h, if_pos ⟨h1, h2⟩]
theorem destI_stop {s : List UInt8} {i : Nat} (h : i < s.length) (h1 : (nextA s i).2.2 = false) (h2 : (nextA s i).1 ≠ 41) (h3 : (nextA s i).1 = 40 ∨ blankR ((nextA s i).1 : Nat) = true) : destI s i = none := by
  unfold destI; simp only [destF]; rw [if_pos h, if_neg (fun h => h2 h.2), if_pos ⟨h1, h3⟩]
theorem destI_own {s : List UInt8} {i : Nat} (h : i < s.length) (h1 : (nextA s i).2.2 = true) : destI s i = destI s (nextA s i).2.1 := by
  have := nextA_gt s i h
  unfold destI
  rw [destF, if_pos h, if_neg (by rw [h1]; rintro ⟨h, _⟩; cases h), if_neg (by rw [h1]; rintro ⟨h, _⟩; cases h)]
  exact destF_more s _ _ _ (by omega) (by omega)
theorem destI_go {s : List UInt8} {i : Nat} (h : i < s.length) (h2 : (nextA s i).1 ≠ 41) (h3 : ¬ ((nextA s i).1 = 40 ∨ blankR ((nextA s i).1 : Nat) = true)) : destI s i = destI s (nextA s i).2.1 := by
  have := nextA_gt s i h
  unfold destI
  rw [destF, if_pos h, if_neg (fun h => h2 h.2), if_neg (fun h => h3 h.2)]
  exact destF_more s _ _ _ (by omega) (by omega)
def destOk (s : List UInt8) (a : Int) : Prop := 0 ≤ a ∧ a < s.length ∧ s.getD a.toNat 0 = 40
instance (s : List UInt8) (a : Int) : Decidable (destOk s a) := by unfold destOk; infer_instance
def destL (s : List UInt8) (a : Int) : List UInt8 × Int × Bool :=
  if destOk s a then
    match destI s (a.toNat + 1) with
    | some i => (plainL ((s.take i).drop (a.toNat + 1)), (i : Int) + 1, true)
    | none => ([], 0, false)
  else ([], 0, false)
theorem dest_no {s : List UInt8} {a : Int} (h : ¬ destOk s a) : destL s a = ([], 0, false) := if_neg h
theorem dest_none {s : List UInt8} {a : Int} (h : destOk s a) (h1 : destI s (a.toNat + 1) = none) : destL s a = ([], 0, false) := by unfold destL; rw [if_pos h, h1]
theorem dest_some {s : List UInt8} {a : Int} {i : Nat} (h : destOk s a) (h1 : destI s (a.toNat + 1) = some i) : destL s a = (plainL ((s.take i).drop (a.toNat + 1)), (i : Int) + 1, true) := by unfold destL; rw [if_pos h, h1]
/-! ### whether a link may be followed -/
def lowC (c : UInt8) : UInt8 := if 65 ≤ c.toNat ∧ c.toNat ≤ 90 then c + 32 else c
def schemeL (l : List UInt8) : List UInt8 := (l.map lowC).filter lowB
def javaL : List UInt8 := [106, 97, 118, 97, 115, 99, 114, 105, 112, 116]
def dataL : List UInt8 := [100, 97, 116, 97]
def aheadL (s : List UInt8) : List UInt8 := s.takeWhile (fun c => !(c == 58))
def safeL (s : List UInt8) : Bool :=
  if s.getD 0 0 = 35 then false else if (58 : UInt8) ∈ s then (!(schemeL (aheadL s) == javaL) && !(schemeL (aheadL s) == dataL)) else true
/-! ### a bracket that closes is not escaped -/
/-- How many of the sign \ stand right ahead of a place. -/
def backN (s : List UInt8) (k : Nat) : Nat := runL 92 (s.take k).reverse
theorem back_succ {s : List UInt8} {k : Nat} (h : k < s.length) : backN s (k + 1) = if s.getD k 0 = 92 then backN s k + 1 else 0 := by
  unfold backN
  rw [List.take_add_one, List.getElem?_eq_getElem h, List.reverse_append]
  have e : s.getD k 0 = s[k] := by rw [List.getD_eq_getElem?_getD, List.getElem?_eq_getElem h]; rfl
  rw [e]
  rfl
theorem back_zero {s : List UInt8} {k : Nat} (h : k < s.length) (h1 : s.getD k 0 ≠ 92) : backN s (k + 1) = 0 := by rw [back_succ h, if_neg h1]
/-- The last byte of a rune of more than one is none of the small ones. -/
theorem decL_last (s : List UInt8) : ∀ j, 0 < j → j < (decL s).2 → 128 ≤ (s.getD j 0).toNat := by
  intro j h0 h
  have key : ∀ p : Nat × Nat, p = decL s → j < p.2 → 128 ≤ (s.getD j 0).toNat := by
    intro p hp hj
    unfold decL at hp
    dsimp only at hp
    split at hp
    · rw [hp] at hj; dsimp only at hj; omega
    split at hp
    · rename_i h1
      simp only [Bool.and_eq_true, beq_iff_eq, decide_eq_true_eq] at h1
      split at hp
      · rw [hp] at hj; dsimp only at hj
        obtain rfl : j = 1 := by omega
        omega
      · rw [hp] at hj; dsimp only at hj; omega
    split at hp
    · rename_i h1
      simp only [Bool.and_eq_true, beq_iff_eq, decide_eq_true_eq] at h1
      split at hp
      · rw [hp] at hj; dsimp only at hj
        have hj2 : j = 1 ∨ j = 2 := by omega
        rcases hj2 with rfl | rfl <;> omega
      · rw [hp] at hj; dsimp only at hj; omega
    split at hp
    · rename_i h1
      simp only [Bool.and_eq_true, beq_iff_eq, decide_eq_true_eq] at h1
      split at hp
      · rw [hp] at hj; dsimp only at hj
        have hj2 : j = 1 ∨ j = 2 ∨ j = 3 := by omega
        rcases hj2 with rfl | rfl | rfl <;> omega
      · rw [hp] at hj; dsimp only at hj; omega
    · rw [hp] at hj; dsimp only at hj; omega
  exact key _ rfl h
def evenAt (s : List UInt8) (i : Nat) : Prop := backN s i % 2 = 0 ∨ ¬ (i < s.length ∧ asciiP (s.getD i 0).toNat = true)
theorem even_next {s : List UInt8} {i : Nat} (hi : i < s.length) (h : evenAt s i) : evenAt s (nextA s i).2.1 := by
  by_cases hs : s.getD i 0 = 92 ∧ i + 1 < s.length ∧ asciiP (s.getD (i + 1) 0).toNat = true
  · rw [nextA_sign hi hs]
    obtain ⟨h1, h2, h3⟩ := hs
    left
    show backN s (i + 1 + 1) % 2 = 0
    rw [back_succ h2]
    split
    · rw [back_succ hi, if_pos h1]
      rcases h with h | h
      · omega
      · exact absurd ⟨hi, by rw [h1]; decide⟩ h
    · rfl
  · rw [nextA_rune hi hs]
    have hp := decL_pos (s.drop i)
    have hle := decL_le (s.drop i) (by rw [Ne, List.drop_eq_nil_iff]; omega)
    rw [List.length_drop] at hle
    show evenAt s (i + (decL (s.drop i)).2)
    by_cases h1 : s.getD i 0 = 92
    · have hd := dec_small_at hi (by rw [h1]; decide)
      rw [hd]
      right
      rintro ⟨h2, h3⟩
      exact hs ⟨h1, h2, h3⟩
    · left
      obtain ⟨m, hm⟩ : ∃ m, (decL (s.drop i)).2 = m + 1 := ⟨(decL (s.drop i)).2 - 1, by omega⟩
      rw [hm] at hle ⊢
      rw [← Nat.add_assoc, back_zero (by omega)]
      rcases Nat.eq_zero_or_pos m with h0 | h0
      · rw [h0, Nat.add_zero]; exact h1
      · have := decL_last (s.drop i) m h0 (by omega)
        rw [getD_drop'] at this
        intro he
        rw [he] at this
        exact absurd this (by decide)
theorem close_law {s : List UInt8} : ∀ (f i d k : Nat), closeF s f i d = some k → i ≤ k ∧ k < s.length ∧ s.getD k 0 = 93 ∧ (evenAt s i → (∀ j, j < k → s.getD j 0 ≠ 96 ∧ s.getD j 0 ≠ 60) → backN s k % 2 = 0)
  | 0, i, d, k, h => by simp [closeF] at h
  | f + 1, i, d, k, h => by
    simp only [closeF] at h
    split at h
    · rename_i hi
      have hn := nextA_gt s i hi
      cases hp : passL s i with
      | some e =>
        rw [hp] at h
        have hpe := pass_some hi hp
        obtain ⟨g1, g2, g3, g4⟩ := close_law f e d k h
        refine ⟨by omega, g2, g3, fun _ hno => ?_⟩
        have := hno i (by omega)
        rw [pass_none this.1 this.2] at hp
        cases hp
      | none =>
        rw [hp] at h
        dsimp only at h
        split at h
        · obtain ⟨g1, g2, g3, g4⟩ := close_law f _ _ k h
          exact ⟨by omega, g2, g3, fun he hno => g4 (even_next hi he) hno⟩
        · split at h
          · rename_i hc
            split at h
            · simp only [Option.some.injEq] at h
              subst h
              have hx := next_small hi hc.1 (by rw [hc.2]; decide)
              rw [hx] at hc
              have h93 : s.getD i 0 = 93 := UInt8.toNat_inj.1 hc.2
              refine ⟨Nat.le_refl _, hi, h93, fun he _ => ?_⟩
              rcases he with he | he
              · exact he
              · exact absurd ⟨hi, by rw [h93]; decide⟩ he
            · obtain ⟨g1, g2, g3, g4⟩ := close_law f _ _ k h
              exact ⟨by omega, g2, g3, fun he hno => g4 (even_next hi he) hno⟩
          · obtain ⟨g1, g2, g3, g4⟩ := close_law f _ _ k h
            exact ⟨by omega, g2, g3, fun he hno => g4 (even_next hi he) hno⟩
    · cases h
/-- Where a bracket closes. -/
theorem closeL_law {s : List UInt8} (h91 : s.getD 0 0 = 91) {k : Int} (h : closeL s 0 = (k, true)) : ∃ n : Nat, k = n ∧ 1 ≤ n ∧ n < s.length ∧ s.getD n 0 = 93 ∧ ((∀ j, j < n → s.getD j 0 ≠ 96 ∧ s.getD j 0 ≠ 60) → backN s n % 2 = 0) := by
  by_cases ho : 0 ≤ (0 : Int) ∧ (0 : Int) < s.length ∧ s.getD (0 : Int).toNat 0 = 91
  · have hl : 0 < s.length := by omega
    cases hi : closeI s ((0 : Int).toNat + 1) 0 with
    | none => rw [close_none ho hi] at h; cases h
    | some n =>
      rw [close_some ho hi] at h
      obtain ⟨g1, g2, g3, g4⟩ := close_law _ _ _ _ hi
      have hk : k = n := by have := congrArg Prod.fst h; exact this.symm
      refine ⟨n, hk, by simpa using g1, g2, g3, g4 (.inl ?_)⟩
      show backN s (0 + 1) % 2 = 0
      rw [back_zero hl (by rw [h91]; decide)]
  · rw [close_no ho] at h; cases h
theorem closeL_false {s : List UInt8} {a k : Int} (h : closeL s a = (k, false)) : k = 0 := by
  unfold closeL at h
  split at h
  · split at h
    · cases h
    · exact (congrArg Prod.fst h).symm
  · exact (congrArg Prod.fst h).symm
/-! ### what is escaped comes back -/
def qOne (r : Int) : List UInt8 := (if asciiP r = true then [92] else []) ++ runeBytes r
def qAll (l : List Int) : List UInt8 := l.flatMap qOne
theorem small_bytes {r : Nat} (h : r < 128) : runeBytes (r : Int) = [UInt8.ofNat r] := by
  rw [runeBytes_eq]
  simp only [valid_small (show r < 55296 by omega), if_true, Int.toNat_natCast]
  rw [if_pos h]
theorem next_q {p rest : List UInt8} {r : Int} (hr : OkR r) : nextA (p ++ (qOne r ++ rest)) p.length = (r.toNat, p.length + (qOne r).length, asciiP r) := by
  obtain ⟨n, rfl, hv⟩ := hr
  have hbl := (runeBytes_len (n : Int)).1
  by_cases ha : asciiP (n : Int) = true
  · have hn : n < 128 := by unfold asciiP at ha; rw [decide_eq_true_eq] at ha; omega
    have e0 : (UInt8.ofNat n).toNat = n := by rw [UInt8.toNat_ofNat']; omega
    have hq : qOne (n : Int) = [92, UInt8.ofNat n] := by unfold qOne; rw [if_pos ha, small_bytes hn]; rfl
    rw [hq, ha]
    have hl : p.length < (p ++ ([92, UInt8.ofNat n] ++ rest)).length := by simp
    have h2 : (p ++ ([92, UInt8.ofNat n] ++ rest)).getD (p.length + 1) 0 = UInt8.ofNat n := by
      rw [List.getD_eq_getElem?_getD, List.getElem?_append_right (by omega), Nat.add_sub_cancel_left]; rfl
    rw [nextA_sign hl ⟨by rw [List.getD_eq_getElem?_getD, List.getElem?_append_right (by omega), Nat.sub_self]; rfl, by simp, by rw [h2, e0]; exact ha⟩, h2, e0]
    rfl
  · have ha' : asciiP (n : Int) = false := by simpa using ha
    have hq : qOne (n : Int) = runeBytes (n : Int) := by unfold qOne; rw [if_neg ha, List.nil_append]
    rw [hq, ha']
    have hd := dec_enc hv rest
    have hdr : (p ++ (runeBytes (n : Int) ++ rest)).drop p.length = runeBytes (n : Int) ++ rest := List.drop_left
    have hl : p.length < (p ++ (runeBytes (n : Int) ++ rest)).length := by simp only [List.length_append]; omega
    rw [nextA_rune hl, hdr, hd]
    · rw [Int.toNat_natCast]
    · rintro ⟨h1, _⟩
      have hsm := dec_small_at hl (by rw [h1]; decide)
      rw [hdr, hd, h1] at hsm
      have hn92 : n = 92 := congrArg Prod.fst hsm
      rw [hn92] at ha
      exact ha (by decide)
theorem dest_q : ∀ (l : List Int) (p : List UInt8), (∀ r ∈ l, OkR r ∧ blankR r = false) → destI (p ++ (qAll l ++ [41, 120])) p.length = some (p.length + (qAll l).length)
  | [], p, _ => by
    have hl : p.length < (p ++ ((qAll []) ++ [41, 120])).length := by simp [qAll]
    have h0 : (p ++ ((qAll []) ++ [41, 120])).getD p.length 0 = 41 := by
      rw [List.getD_eq_getElem?_getD, List.getElem?_append_right (Nat.le_refl _), Nat.sub_self]; rfl
    have hx := next_plain hl (by rw [h0]; decide) (by rw [h0]; decide)
    rw [destI_hit hl (by rw [hx]) (by rw [hx, h0]; rfl)]
    rfl
  | r :: l, p, h => by
    obtain ⟨hr, hb⟩ := h r (by simp)
    have hle := hr.le
    have e : qAll (r :: l) = qOne r ++ qAll l := by unfold qAll; rw [List.flatMap_cons]
    have hx := next_q (p := p) (rest := qAll l ++ [41, 120]) hr
    have hbl : 1 ≤ (qOne r).length := by have := (runeBytes_len r).1; unfold qOne; rw [List.length_append]; omega
    have hl : p.length < (p ++ (qOne r ++ (qAll l ++ [41, 120]))).length := by simp only [List.length_append]; omega
    have ih := dest_q l (p ++ qOne r) (fun r hr => h r (by simp [hr]))
    rw [List.append_assoc, List.length_append] at ih
    rw [e, List.append_assoc]
    have hgo : destI (p ++ (qOne r ++ (qAll l ++ [41, 120]))) p.length = destI (p ++ (qOne r ++ (qAll l ++ [41, 120]))) (p.length + (qOne r).length) := by
      by_cases ha : asciiP r = true
      · rw [destI_own hl (by rw [hx]; exact ha), hx]
      · have hrt : ((r.toNat : Nat) : Int) = r := by omega
        have h41 : r.toNat ≠ 41 := by rintro he; have : r = 41 := by omega
                                      rw [this] at ha; exact ha (by decide)
        have h40 : r.toNat ≠ 40 := by rintro he; have : r = 40 := by omega
                                      rw [this] at ha; exact ha (by decide)
        rw [destI_go hl (by rw [hx]; exact h41) (by rw [hx]; dsimp only; rw [hrt, hb]; rintro (h | h); exact h40 h; cases h), hx]
    rw [hgo, ih, List.length_append, Nat.add_assoc]
theorem runes_q : ∀ (l : List Int) (p : List UInt8), (∀ r ∈ l, OkR r) → runesFrom (p ++ qAll l) p.length = l
  | [], p, _ => by rw [runesFrom_neg (by simp [qAll])]
  | r :: l, p, h => by
    have hr := h r (by simp)
    have hle := hr.le
    have e : qAll (r :: l) = qOne r ++ qAll l := by unfold qAll; rw [List.flatMap_cons]
    have hx := next_q (p := p) (rest := qAll l) hr
    have hbl : 1 ≤ (qOne r).length := by have := (runeBytes_len r).1; unfold qOne; rw [List.length_append]; omega
    have ih := runes_q l (p ++ qOne r) (fun r hr => h r (by simp [hr]))
    rw [List.append_assoc, List.length_append] at ih
    rw [e, runesFrom_pos (by simp only [List.length_append]; omega), hx]
    dsimp only
    rw [ih]
    congr 1
    omega
theorem plain_q (l : List Int) (h : ∀ r ∈ l, OkR r) : plainL (qAll l) = l.flatMap runeBytes := by
  have := runes_q l [] h
  rw [List.nil_append] at this
  unfold plainL
  rw [show (0 : Nat) = ([] : List UInt8).length from rfl, this]
theorem destL_law (l : List Int) (h : ∀ r ∈ l, OkR r ∧ blankR r = false) : destL ([40] ++ qAll l ++ [41, 120]) 0 = (l.flatMap runeBytes, ((qAll l).length : Int) + 2, true) := by
  have hd := dest_q l [40] h
  rw [List.append_assoc, dest_some (i := 1 + (qAll l).length) ⟨Int.le_refl _, by simp; omega, rfl⟩ hd]
  refine Prod.ext ?_ (Prod.ext ?_ rfl)
  · show plainL ((([40] ++ (qAll l ++ [41, 120])).take (1 + (qAll l).length)).drop 1) = _
    rw [← plain_q l (fun r hr => (h r hr).1)]
    congr 1
    rw [List.singleton_append, Nat.add_comm, List.take_succ_cons, List.drop_succ_cons, List.drop_zero, List.take_left']
    rfl
  · show ((1 + (qAll l).length : Nat) : Int) + 1 = ((qAll l).length : Int) + 2
    omega
end Go.Proofs.YtfnhhkpnfficaaaDoor
