/- Code: the plain law of spans. Own work; printed from wip/law9/p.in by pre2.py. -/
import Derived.Test.YtfnhhkpnfficaaaDoorCoB
namespace Go.Proofs.YtfnhhkpnfficaaaDoor
open Go.Sv
set_option linter.unusedSimpArgs false
set_option linter.unusedVariables false
set_option maxRecDepth 100000

/-! ### spans -/
/-- From a place on: where a row of just n signs begins. -/
def spanF (s : List UInt8) (n : Nat) : Nat → Nat → Option Nat
  | 0, _ => none
  | f + 1, i => if i < s.length then (if runL 96 (s.drop i) = n then some i else spanF s n f (i + max (runL 96 (s.drop i)) 1)) else none
theorem spanF_more (s : List UInt8) (n : Nat) : ∀ (f g i : Nat), s.length < i + f → s.length < i + g → spanF s n f i = spanF s n g i
  | 0, g, i, h1, h2 => by
    cases g with
    | zero => rfl
    | succ g => simp only [spanF]; rw [if_neg (by omega)]
  | f + 1, 0, i, h1, h2 => by simp only [spanF]; rw [if_neg (by omega)]
  | f + 1, g + 1, i, h1, h2 => by
    simp only [spanF]
    split
    · split
      · rfl
      · exact spanF_more s n f g _ (by omega) (by omega)
    · rfl
def spanI (s : List UInt8) (n i : Nat) : Option Nat := spanF s n (s.length + 1) i
theorem spanI_out {s : List UInt8} {n i : Nat} (h : ¬ i < s.length) : spanI s n i = none := by
  unfold spanI; simp only [spanF]; rw [if_neg h]
theorem spanI_hit {s : List UInt8} {n i : Nat} (h : i < s.length) (hr : runL 96 (s.drop i) = n) : spanI s n i = some i := by
  unfold spanI; simp only [spanF]; rw [if_pos h, if_pos hr]
theorem spanI_go {s : List UInt8} {n i : Nat} (h : i < s.length) (hr : runL 96 (s.drop i) ≠ n) : spanI s n i = spanI s n (i + max (runL 96 (s.drop i)) 1) := by
  unfold spanI
  rw [spanF, if_pos h, if_neg hr]
  exact spanF_more s n _ _ _ (by omega) (by omega)
def nl (c : UInt8) : UInt8 := if c = 10 then 32 else c
def isB (c : UInt8) : Bool := c == 32
def cleanL (s : List UInt8) : List UInt8 :=
  if (s.map nl).all isB = false ∧ (s.map nl).getD 0 0 = 32 ∧ (s.map nl).getD (s.length - 1) 0 = 32 then ((s.map nl).take (s.length - 1)).drop 1 else s.map nl
def spanOk (s : List UInt8) (a : Int) : Prop := 0 ≤ a ∧ a < s.length ∧ s.getD a.toNat 0 = 96 ∧ ¬ (0 < a ∧ s.getD (a - 1).toNat 0 = 96)
instance (s : List UInt8) (a : Int) : Decidable (spanOk s a) := by unfold spanOk; infer_instance
def spanL (s : List UInt8) (a : Int) : List UInt8 × Int × Bool :=
  if spanOk s a then
    match spanI s (runL 96 (s.drop a.toNat)) (a.toNat + runL 96 (s.drop a.toNat)) with
    | some i => (cleanL ((s.take i).drop (a.toNat + runL 96 (s.drop a.toNat))), (i : Int) + runL 96 (s.drop a.toNat), true)
    | none => ([], 0, false)
  else ([], 0, false)
theorem spanI_some {s : List UInt8} {n : Nat} : ∀ {f i k : Nat}, spanF s n f i = some k → i ≤ k ∧ k < s.length ∧ runL 96 (s.drop k) = n
  | 0, _, _, h => by simp [spanF] at h
  | f + 1, i, k, h => by
    simp only [spanF] at h
    split at h
    · split at h
      · rename_i h1 h2; simp only [Option.some.injEq] at h; subst h; exact ⟨Nat.le_refl _, h1, h2⟩
      · have := spanI_some h; exact ⟨by omega, this.2⟩
    · cases h
/-- A place where a row may begin: the start, or behind another byte. -/
def Begins (s : List UInt8) (i : Nat) : Prop := s.getD (i - 1) 0 ≠ 96 ∨ (i < s.length → s.getD i 0 ≠ 96)
theorem runL_at {s : List UInt8} {i : Nat} (h : i < s.length) : runL 96 (s.drop i) = if s.getD i 0 = 96 then runL 96 (s.drop (i + 1)) + 1 else 0 := by
  by_cases he : s.getD i 0 = 96
  · rw [if_pos he]; exact run_go h he
  · rw [if_neg he]; exact run_stop h he
/-- Within a row each byte is the sign; behind it is none. -/
theorem run_in (s : List UInt8) : ∀ (k i j : Nat), runL 96 (s.drop i) = k → j < k → s.getD (i + j) 0 = 96 ∧ i + j < s.length
  | 0, i, j, _, h => by omega
  | k + 1, i, j, hk, h => by
    have hi : i < s.length := by
      rcases Nat.lt_or_ge i s.length with h' | h'
      · exact h'
      · rw [run_end (by omega)] at hk; omega
    rw [runL_at hi] at hk
    split at hk
    · rename_i he
      cases j with
      | zero => exact ⟨he, hi⟩
      | succ j =>
        have := run_in s k (i + 1) j (by omega) (by omega)
        rw [show i + (j + 1) = i + 1 + j by omega]
        exact this
    · omega
theorem run_behind (s : List UInt8) : ∀ (k i : Nat), runL 96 (s.drop i) = k → i + k < s.length → s.getD (i + k) 0 ≠ 96
  | 0, i, hk, h => by
    intro he
    rw [Nat.add_zero] at he h
    rw [run_go (by omega) he] at hk; omega
  | k + 1, i, hk, h => by
    have hi : i < s.length := by omega
    rw [runL_at hi] at hk
    split at hk
    · have := run_behind s k (i + 1) (by omega) (by omega)
      rw [show i + (k + 1) = i + 1 + k by omega]
      exact this
    · omega
/-- What is found: no other row of so many stands ahead of it, and a byte that is no sign stands ahead of it. -/
theorem span_first {s : List UInt8} {n : Nat} (hn : 0 < n) : ∀ {f i k : Nat}, 0 < i → (i < s.length → s.getD i 0 = 96 → s.getD (i - 1) 0 ≠ 96) → spanF s n f i = some k →
    (s.getD (k - 1) 0 ≠ 96) ∧ ∀ j, i ≤ j → j < k → ¬ (s.getD (j - 1) 0 ≠ 96 ∧ runL 96 (s.drop j) = n)
  | 0, _, _, _, _, h => by simp [spanF] at h
  | f + 1, i, k, hi0, hb, h => by
    simp only [spanF] at h
    split at h
    · rename_i hil
      split at h
      · rename_i hr
        simp only [Option.some.injEq] at h
        subst h
        refine ⟨?_, fun j h1 h2 => by omega⟩
        have := run_in s n i 0 hr hn
        exact hb hil (by simpa using this.1)
      · rename_i hr
        have hlt := spanI_some h
        have hnx : ∀ m, m = runL 96 (s.drop i) → (i + max m 1 < s.length → s.getD (i + max m 1) 0 = 96 → s.getD (i + max m 1 - 1) 0 ≠ 96) := by
          intro m hm h1 h2
          by_cases hm0 : m = 0
          · rw [hm0] at h2 ⊢
            rw [show i + max 0 1 - 1 = i by omega]
            have hz : runL 96 (s.drop i) = 0 := by omega
            intro he
            rw [run_go hil he] at hz; omega
          · rw [show max m 1 = m by omega] at h1 h2
            exact absurd h2 (run_behind s m i hm.symm h1)
        have ih := span_first hn (f := f) (i := i + max (runL 96 (s.drop i)) 1) (k := k) (by omega) (hnx _ rfl) h
        refine ⟨ih.1, fun j h1 h2 hj => ?_⟩
        rcases Nat.lt_or_ge j (i + max (runL 96 (s.drop i)) 1) with h3 | h3
        · rcases Nat.lt_or_ge i j with h4 | h4
          · have hm0 : j - 1 - i < runL 96 (s.drop i) := by omega
            have := run_in s _ i (j - 1 - i) rfl hm0
            rw [show i + (j - 1 - i) = j - 1 by omega] at this
            exact hj.1 this.1
          · obtain rfl : j = i := by omega
            exact hr hj.2
        · exact ih.2 j h3 h2 hj
    · cases h
/-- Where a row of so many stands, and no other ahead of it. -/
theorem span_find {s : List UInt8} {n k : Nat} (hk : k < s.length) (hr : runL 96 (s.drop k) = n) : ∀ (f i : Nat), s.length < i + f → i ≤ k → (∀ j, i ≤ j → j < k → runL 96 (s.drop j) ≠ n ∧ j + max (runL 96 (s.drop j)) 1 ≤ k) → spanF s n f i = some k
  | 0, i, hf, hi, h => by omega
  | f + 1, i, hf, hi, h => by
    simp only [spanF]
    rw [if_pos (by omega)]
    by_cases he : i = k
    · subst he; rw [if_pos hr]
    · have h1 := h i (Nat.le_refl _) (by omega)
      rw [if_neg h1.1]
      exact span_find hk hr f _ (by omega) h1.2 (fun j hj hjk => h j (by omega) hjk)
theorem runL_app_stop (a b : List UInt8) (x : UInt8) (hx : x ≠ 96) : runL 96 (a ++ x :: b) = runL 96 (a ++ [x]) := by
  induction a with
  | nil => simp [runL, hx]
  | cons y a ih =>
    simp only [List.cons_append, runL]
    split
    · rw [ih]
    · rfl
theorem runL_le' (c : UInt8) : ∀ s : List UInt8, runL c s ≤ s.length
  | [] => Nat.le_refl _
  | x :: t => by
    have := runL_le' c t
    unfold runL
    split <;> simp only [List.length_cons] <;> omega
theorem runL_app_le (a : List UInt8) (x : UInt8) (hx : x ≠ 96) : runL 96 (a ++ [x]) ≤ a.length := by
  induction a with
  | nil => simp [runL, hx]
  | cons y a ih =>
    simp only [List.cons_append, runL, List.length_cons]
    split <;> omega
/-- A text between two longer rows. -/
theorem span_wrap (f : Nat) (m tl : List UInt8) (x : UInt8) (hx : x ≠ 96) (hf0 : 0 < f) (hm : ∀ j, j ≤ m.length → runL 96 (m.drop j ++ [x]) < f) (ht : runL 96 tl = 0) :
    spanI (List.replicate f 96 ++ (m ++ [x]) ++ (List.replicate f 96 ++ tl)) f f = some (f + m.length + 1) := by
  have hrep : runL 96 (List.replicate f 96 ++ tl) = f := run_rep 96 tl ht f
  have hd : ∀ j, f ≤ j → j ≤ f + m.length → (List.replicate f 96 ++ (m ++ [x]) ++ (List.replicate f 96 ++ tl)).drop j = (m.drop (j - f)) ++ x :: (List.replicate f 96 ++ tl) := by
    intro j h1 h2
    rw [List.append_assoc, List.drop_append, List.drop_of_length_le (by rw [List.length_replicate]; exact h1), List.nil_append, List.length_replicate, List.append_assoc, List.drop_append_of_le_length (by omega)]
    rfl
  have hk : (List.replicate f 96 ++ (m ++ [x]) ++ (List.replicate f 96 ++ tl)).drop (f + m.length + 1) = List.replicate f 96 ++ tl := by
    rw [List.drop_append_of_le_length (by simp; omega)]
    rw [List.drop_of_length_le (by simp; omega), List.nil_append]
  have hlen : (List.replicate f (96 : UInt8) ++ (m ++ [x]) ++ (List.replicate f 96 ++ tl)).length = f + (m.length + 1) + (f + tl.length) := by simp; omega
  refine span_find (by rw [hlen]; omega) (by rw [hk]; exact hrep) _ _ (by omega) (by omega) ?_
  intro j h1 h2
  rw [hd j h1 (by omega), runL_app_stop _ _ _ hx]
  have := runL_app_le (m.drop (j - f)) x hx
  have hmj := hm (j - f) (by omega)
  rw [List.length_drop] at this
  constructor
  · omega
  · omega
theorem whole_law {s : List UInt8} {k i n : Nat} (hk : k < s.length) (h96 : s.getD k 0 = 96) (hn : runL 96 (s.drop k) = n) (h : spanI s n (k + n) = some i) :
    0 < n ∧ i + n ≤ s.length ∧ k + n + 1 ≤ i ∧ runL 96 (s.drop i) = n ∧ s.getD (i - 1) 0 ≠ 96 ∧ ∀ j, k + n ≤ j → j < i → ¬ (s.getD (j - 1) 0 ≠ 96 ∧ runL 96 (s.drop j) = n) := by
  have h1 := spanI_some h
  have hp : 0 < n := by rw [← hn, run_go hk h96]; omega
  have hin := run_in s n i (n - 1) h1.2.2 (by omega)
  have hne : i ≠ k + n := by
    rintro rfl
    have h2 := run_behind s n k hn h1.2.1
    have := run_in s n (k + n) 0 h1.2.2 hp
    exact h2 (by simpa using this.1)
  have hf := span_first hp (by omega) (fun h2 h3 => absurd h3 (run_behind s n k hn h2)) h
  exact ⟨hp, by omega, by omega, h1.2.2, hf.1, hf.2⟩
def tick26 : List UInt8 := [96, 96, 96, 96, 96, 96, 96, 96, 96, 96, 96, 96, 96, 96, 96, 96, 96, 96, 96, 96, 96, 96, 96, 96, 96, 96]
theorem tick26_rep : tick26 = List.replicate 26 96 := rfl
theorem all_false_of {l : List UInt8} {x : UInt8} (h : x ∈ l) (hx : isB x = false) : l.all isB = false := by
  rw [List.all_eq_false]
  exact ⟨x, h, by rw [hx]; simp⟩
theorem cleanL_x (m : List UInt8) : cleanL (120 :: (m ++ [120])) = (120 :: (m ++ [120])).map nl := by
  unfold cleanL
  rw [if_neg]
  rintro ⟨_, h, _⟩
  rw [List.map_cons, List.getD_cons_zero] at h
  exact absurd h (by decide)
theorem cleanL_sp (m : List UInt8) : cleanL (32 :: ((120 :: (m ++ [120])) ++ [32])) = (120 :: (m ++ [120])).map nl := by
  generalize hX : (120 :: (m ++ [120]) : List UInt8) = X
  have hmem : (120 : UInt8) ∈ X := by rw [← hX]; simp
  have hm : (32 :: (X ++ [32])).map nl = 32 :: (X.map nl ++ [32]) := by rw [List.map_cons, List.map_append]; rfl
  unfold cleanL
  rw [hm, if_pos]
  · rw [List.length_cons, List.length_append, List.length_singleton]
    rw [show X.length + 1 + 1 - 1 = (X.map nl).length + 1 by rw [List.length_map]; omega, List.take_succ_cons, List.drop_succ_cons, List.drop_zero, List.take_left']
    rfl
  · refine ⟨all_false_of (x := 120) ?_ (by decide), rfl, ?_⟩
    · exact List.mem_cons_of_mem _ (List.mem_append_left _ (List.mem_map.2 ⟨120, hmem, by decide⟩))
    · rw [List.length_cons, List.length_append, List.length_singleton, show X.length + 1 + 1 - 1 = (X.map nl).length + 1 by rw [List.length_map]; omega, List.getD_cons_succ]
      rw [List.getD_eq_getElem?_getD, List.getElem?_append_right (Nat.le_refl _), Nat.sub_self]
      rfl
theorem wrap_span (m tl : List UInt8) (x : UInt8) (hx : x ≠ 96) (hm : ∀ j, j ≤ m.length → runL 96 (m.drop j ++ [x]) < 26) (h0 : runL 96 (m ++ [x]) = 0) (ht : runL 96 tl = 0) :
    spanL (tick26 ++ (m ++ [x]) ++ (tick26 ++ tl)) 0 = (cleanL (m ++ [x]), ((m.length : Nat) : Int) + 53, true) := by
  have hS : spanI (List.replicate 26 96 ++ (m ++ [x]) ++ (List.replicate 26 96 ++ tl)) 26 26 = some (26 + m.length + 1) := span_wrap 26 m tl x hx (by decide) hm ht
  rw [tick26_rep]
  generalize hs : (List.replicate 26 (96 : UInt8) ++ (m ++ [x]) ++ (List.replicate 26 96 ++ tl)) = s at *
  have hr : runL 96 (s.drop (0 : Int).toNat) = 26 := by
    rw [show (0 : Int).toNat = 0 from rfl, List.drop_zero, ← hs, List.append_assoc]
    refine run_rep 96 _ ?_ 26
    rw [List.append_assoc, List.singleton_append, runL_app_stop _ _ _ hx]
    exact h0
  have hlen : s.length = 26 + (m.length + 1) + (26 + tl.length) := by rw [← hs]; simp; omega
  have hok : spanOk s 0 := by
    refine ⟨Int.le_refl _, by rw [hlen]; omega, ?_, by omega⟩
    rw [← hs]; rfl
  unfold spanL
  rw [if_pos hok, hr]
  simp only [show (0 : Int).toNat + 26 = 26 from rfl, hS]
  refine Prod.ext ?_ (Prod.ext ?_ rfl)
  · show cleanL ((s.take (26 + m.length + 1)).drop 26) = _
    congr 1
    rw [← hs, List.take_append_of_le_length (by simp; omega), List.take_of_length_le (by simp; omega), List.drop_left' (by simp)]
  · show ((26 + m.length + 1 : Nat) : Int) + (26 : Nat) = ((m.length : Nat) : Int) + 53
    omega
theorem clean_law1 (m : List UInt8) (hm : m.length ≤ 24) : spanL (tick26 ++ (120 :: (m ++ [120])) ++ tick26) 0 = ((120 :: (m ++ [120])).map nl, ((m.length : Nat) : Int) + 54, true) := by
  have h := wrap_span (120 :: m) [] 120 (by decide) (fun j hj => by
    cases j with
    | zero => simp [runL]
    | succ j => rw [List.drop_succ_cons]; have := runL_app_le (m.drop j) 120 (by decide); rw [List.length_drop] at this; omega) (by simp [runL]) rfl
  rw [List.append_nil, List.cons_append, cleanL_x] at h
  rw [h, List.length_cons, List.map_cons, List.map_append]
  refine Prod.ext rfl (Prod.ext ?_ rfl)
  show ((m.length + 1 : Nat) : Int) + 53 = ((m.length : Nat) : Int) + 54
  omega
theorem clean_law2 (m : List UInt8) (hm : m.length ≤ 24) : spanL (tick26 ++ (32 :: ((120 :: (m ++ [120])) ++ [32])) ++ (tick26 ++ [121])) 0 = ((120 :: (m ++ [120])).map nl, ((m.length : Nat) : Int) + 56, true) := by
  have h := wrap_span (32 :: (120 :: (m ++ [120]))) [121] 32 (by decide) (fun j hj => by
    match j with
    | 0 => simp [runL]
    | 1 => simp [runL]
    | j + 2 =>
      rw [List.drop_succ_cons, List.drop_succ_cons]
      rcases Nat.lt_or_ge m.length j with h1 | h1
      · rw [List.drop_eq_nil_of_le (by simp; omega)]; simp [runL]
      · rw [List.drop_append_of_le_length h1, List.append_assoc, List.singleton_append, runL_app_stop _ _ _ (by decide)]
        have := runL_app_le (m.drop j) 120 (by decide)
        rw [List.length_drop] at this; omega) (by simp [runL]) (by simp [runL])
  rw [List.cons_append, cleanL_sp] at h
  rw [h]
  refine Prod.ext rfl (Prod.ext ?_ rfl)
  simp only [List.length_cons, List.length_append, List.length_nil]
  omega
end Go.Proofs.YtfnhhkpnfficaaaDoor
