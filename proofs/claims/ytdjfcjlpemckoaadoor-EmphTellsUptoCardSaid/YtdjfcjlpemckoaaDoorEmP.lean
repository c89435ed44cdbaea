/- Emphasis: the plain law: which runs are a pair, and what is so of all pairs. Own work; printed from wip/law10/p.in by pre.py. -/
import Derived.Test.YtdjfcjlpemckoaaDoorCore24
namespace Go.Proofs.YtdjfcjlpemckoaaDoor
open Go.Sv
set_option linter.unusedSimpArgs false
set_option linter.unusedVariables false

abbrev runT : Ty := .cons .u8 (.cons (.int .i64) (.cons .bool (.cons .bool .nil)))
abbrev pairT : Ty := .cons (.int .i64) (.cons (.int .i64) (.cons (.int .i64) .nil))
def heldN (n : Int) : Int := max 0 (min n 100)
def fitP (a b : runT.den) (m n : Int) : Bool := if m % 3 = 0 ∧ n % 3 = 0 then true else (!(a.2.2.1 && a.2.2.2.1 || b.2.2.1 && b.2.2.2.1)) || decide ((m + n) % 3 ≠ 0)
abbrev r0 : runT.den := ((0 : UInt8), (0 : Int), false, false, ())
def okP (l : List runT.den) (left : List Int) (i k : Nat) : Bool :=
  (l.getD k r0).2.2.1 && ((l.getD k r0).1 == (l.getD i r0).1) && decide (0 < left.getD k 0) && fitP (l.getD k r0) (l.getD i r0) (heldN (l.getD k r0).2.1) (heldN (l.getD i r0).2.1)
/-- The last place ahead of n. -/
def findK (ok : Nat → Bool) : Nat → Option Nat
  | 0 => none
  | k + 1 => if ok k then some k else findK ok k
theorem findK_some {ok : Nat → Bool} : ∀ {n k : Nat}, findK ok n = some k → k < n ∧ ok k = true
  | 0, _, h => by simp [findK] at h
  | n + 1, k, h => by
    simp only [findK] at h
    split at h
    · rename_i h1; simp only [Option.some.injEq] at h; subst h; exact ⟨Nat.lt_succ_self _, h1⟩
    · have := findK_some h; exact ⟨by omega, this.2⟩

theorem ext_getD {l m : List Int} (hl : l.length = m.length) (h : ∀ j, l.getD j 0 = m.getD j 0) : l = m := by
  refine List.ext_getElem hl fun i h1 h2 => ?_
  have := h i
  rw [List.getD_eq_getElem?_getD, List.getD_eq_getElem?_getD, List.getElem?_eq_getElem h1, List.getElem?_eq_getElem h2] at this
  simpa using this
theorem getD_len {l : List Int} {j : Nat} (h : l.length ≤ j) : l.getD j 0 = 0 := by
  rw [List.getD_eq_getElem?_getD, List.getElem?_eq_none h]; rfl
theorem set_getD {l : List Int} {k j : Nat} {v : Int} (hk : k < l.length) : (l.set k v).getD j 0 = if k = j then v else l.getD j 0 := by
  rw [List.getD_eq_getElem?_getD, List.getElem?_set, List.getD_eq_getElem?_getD]
  split
  · rename_i h; subst h; simp [hk]
  · rfl
def zeroB (left : List Int) (a b : Nat) : List Int := (List.range left.length).map fun j => if a ≤ j ∧ j < b then 0 else left.getD j 0
theorem zeroB_len {left : List Int} {a b : Nat} : (zeroB left a b).length = left.length := by simp [zeroB]
theorem zeroB_get {left : List Int} {a b j : Nat} : (zeroB left a b).getD j 0 = if a ≤ j ∧ j < b then 0 else left.getD j 0 := by
  by_cases h : j < left.length
  · unfold zeroB
    rw [List.getD_eq_getElem?_getD, List.getElem?_map, List.getElem?_range h]; rfl
  · rw [getD_len (by rw [zeroB_len]; omega), getD_len (by omega)]; split <;> rfl
theorem zeroB_none {left : List Int} {a : Nat} : zeroB left a a = left := ext_getD zeroB_len fun j => by
  rw [zeroB_get, if_neg (by omega)]
theorem zeroB_next {left : List Int} {a b : Nat} (h : a ≤ b) (hb : b < left.length) : (zeroB left a b).set b 0 = zeroB left a (b + 1) := ext_getD (by rw [List.length_set, zeroB_len, zeroB_len]) fun j => by
  rw [set_getD (by rw [zeroB_len]; exact hb), zeroB_get, zeroB_get]
  by_cases h1 : b = j
  · rw [if_pos h1, if_pos (by omega)]
  · rw [if_neg h1]
    by_cases h2 : a ≤ j ∧ j < b
    · rw [if_pos h2, if_pos (by omega)]
    · rw [if_neg h2, if_neg (by omega)]
def takeB (left : List Int) (k i : Nat) (z : Int) : List Int := zeroB ((left.set k (left.getD k 0 - z)).set i (left.getD i 0 - z)) (k + 1) i
theorem takeB_len {left : List Int} {k i : Nat} {z : Int} : (takeB left k i z).length = left.length := by unfold takeB; rw [zeroB_len, List.length_set, List.length_set]
theorem takeB_get {left : List Int} {k i : Nat} {z : Int} (hk : k < i) (hi : i < left.length) (j : Nat) : (takeB left k i z).getD j 0 = if k < j ∧ j < i then 0 else if i = j then left.getD i 0 - z else if k = j then left.getD k 0 - z else left.getD j 0 := by
  unfold takeB
  rw [zeroB_get, set_getD (by rw [List.length_set]; exact hi), set_getD (by omega)]
  by_cases h : k < j ∧ j < i
  · rw [if_pos (by omega), if_pos h]
  · rw [if_neg (by omega), if_neg h]
def sizeZ (left : List Int) (k i : Nat) : Int := min (min 2 (left.getD k 0)) (left.getD i 0)

def inner (l : List runT.den) (i : Nat) (left : List Int) (out : List pairT.den) : List Int × List pairT.den :=
  if h : (l.getD i r0).2.2.2.1 = true ∧ 0 < left.getD i 0 then
    match hk : findK (okP l left i) i with
    | none => (left, out)
    | some k => inner l i (takeB left k i (sizeZ left k i)) (out ++ [((k : Int), (i : Int), sizeZ left k i, ())])
  else (left, out)
termination_by (left.getD i 0).toNat
decreasing_by
  obtain ⟨h1, h2⟩ := findK_some hk
  have h3 : 0 < left.getD k 0 := by
    unfold okP at h2
    simp only [Bool.and_eq_true, decide_eq_true_eq] at h2
    exact h2.1.2
  have h4 : i < left.length := by
    rcases Nat.lt_or_ge i left.length with h' | h'
    · exact h'
    · rw [getD_len h'] at h; omega
  rw [takeB_get h1 h4, if_neg (by omega), if_pos rfl]
  unfold sizeZ
  omega
theorem ok_left {l : List runT.den} {left : List Int} {i k : Nat} (h : okP l left i k = true) : (l.getD k r0).2.2.1 = true ∧ (l.getD k r0).1 = (l.getD i r0).1 ∧ 0 < left.getD k 0 := by
  unfold okP at h
  simp only [Bool.and_eq_true, decide_eq_true_eq, beq_iff_eq] at h
  exact ⟨h.1.1.1, h.1.1.2, h.1.2⟩
theorem inner_stop {l : List runT.den} {i : Nat} {left : List Int} {out : List pairT.den} (h : ¬ ((l.getD i r0).2.2.2.1 = true ∧ 0 < left.getD i 0)) : inner l i left out = (left, out) := by
  rw [inner, dif_neg h]
theorem inner_none {l : List runT.den} {i : Nat} {left : List Int} {out : List pairT.den} (h : findK (okP l left i) i = none) : inner l i left out = (left, out) := by
  rw [inner]
  split
  · split
    · rfl
    · rename_i k hk; rw [h] at hk; cases hk
  · rfl
theorem inner_some {l : List runT.den} {i k : Nat} {left : List Int} {out : List pairT.den} (h1 : (l.getD i r0).2.2.2.1 = true) (h2 : 0 < left.getD i 0) (h : findK (okP l left i) i = some k) :
    inner l i left out = inner l i (takeB left k i (sizeZ left k i)) (out ++ [((k : Int), (i : Int), sizeZ left k i, ())]) := by
  rw [inner, dif_pos ⟨h1, h2⟩]
  split
  · rename_i hk; rw [h] at hk; cases hk
  · rename_i k' hk
    rw [h] at hk
    cases hk
    rfl
def countsL (l : List runT.den) : List Int := l.map fun r => heldN r.2.1
def outerS (l : List runT.den) : Nat → List Int × List pairT.den
  | 0 => (countsL l, [])
  | i + 1 => inner l i (outerS l i).1 (outerS l i).2
def matchL (l : List runT.den) : List pairT.den := (outerS l l.length).2
theorem counts_len (l : List runT.den) : (countsL l).length = l.length := by simp [countsL]
theorem counts_get {l : List runT.den} {i : Nat} (h : i < l.length) : (countsL l).getD i 0 = heldN (l.getD i r0).2.1 := by
  unfold countsL
  rw [List.getD_eq_getElem?_getD, List.getElem?_map, List.getElem?_eq_getElem h, List.getD_eq_getElem?_getD, List.getElem?_eq_getElem h]; rfl
theorem held_nat (n : Int) : 0 ≤ heldN n ∧ heldN n ≤ 100 := by unfold heldN; omega
theorem counts_le (l : List runT.den) (i : Nat) : 0 ≤ (countsL l).getD i 0 ∧ (countsL l).getD i 0 ≤ 100 := by
  rcases Nat.lt_or_ge i l.length with h | h
  · rw [counts_get h]; exact held_nat _
  · rw [getD_len (by rw [counts_len]; exact h)]; omega

/-! ### what is so of all pairs -/
def usedAt (out : List pairT.den) (j : Nat) : Int := (out.map fun y : pairT.den => (if y.1 = (j : Int) then y.2.2.1 else 0) + (if y.2.1 = (j : Int) then y.2.2.1 else 0)).sum
theorem used_snoc (out : List pairT.den) (y : pairT.den) (j : Nat) : usedAt (out ++ [y]) j = usedAt out j + ((if y.1 = (j : Int) then y.2.2.1 else 0) + (if y.2.1 = (j : Int) then y.2.2.1 else 0)) := by
  simp [usedAt]
def crossB (y x : pairT.den) : Prop := (y.1 < x.1 ∧ x.1 < y.2.1 ∧ y.2.1 < x.2.1) ∨ (x.1 < y.1 ∧ y.1 < x.2.1 ∧ x.2.1 < y.2.1)
structure PairOk (l : List runT.den) (n : Nat) (left : List Int) (y : pairT.den) : Prop where
  ex : ∃ a b : Nat, y.1 = a ∧ y.2.1 = b ∧ a < b ∧ b < n ∧ 1 ≤ y.2.2.1 ∧ y.2.2.1 ≤ 2 ∧ (l.getD a r0).2.2.1 = true ∧ (l.getD b r0).2.2.2.1 = true ∧ (l.getD a r0).1 = (l.getD b r0).1 ∧ ∀ j, a < j → j < b → left.getD j 0 = 0
structure Good (l : List runT.den) (n : Nat) (left : List Int) (out : List pairT.den) : Prop where
  len : left.length = l.length
  nn : ∀ j, 0 ≤ left.getD j 0 ∧ left.getD j 0 ≤ 100
  used : ∀ j, left.getD j 0 + usedAt out j ≤ (countsL l).getD j 0
  all : ∀ y ∈ out, PairOk l n left y
  cross : out.Pairwise fun y x => ¬ crossB y x
theorem PairOk.up {l : List runT.den} {n m : Nat} {left : List Int} {y : pairT.den} (h : PairOk l n left y) (hm : n ≤ m) : PairOk l m left y := by
  obtain ⟨a, b, h1, h2, h3, h4, h5⟩ := h.ex
  exact ⟨a, b, h1, h2, h3, by omega, h5⟩
theorem size_pos {left : List Int} {k i : Nat} (h1 : 0 < left.getD k 0) (h2 : 0 < left.getD i 0) : 1 ≤ sizeZ left k i ∧ sizeZ left k i ≤ 2 ∧ sizeZ left k i ≤ left.getD k 0 ∧ sizeZ left k i ≤ left.getD i 0 := by
  unfold sizeZ; omega
theorem Good.step {l : List runT.den} {i k : Nat} {left : List Int} {out : List pairT.den} (hi : i < l.length) (g : Good l (i + 1) left out) (h1 : (l.getD i r0).2.2.2.1 = true) (h2 : 0 < left.getD i 0) (hk : findK (okP l left i) i = some k) :
    Good l (i + 1) (takeB left k i (sizeZ left k i)) (out ++ [((k : Int), (i : Int), sizeZ left k i, ())]) := by
  obtain ⟨k1, k2⟩ := findK_some hk
  obtain ⟨q1, q2, q3⟩ := ok_left k2
  obtain ⟨z1, z2, z3, z4⟩ := size_pos q3 h2
  have hil : i < left.length := by rw [g.len]; exact hi
  have hg := takeB_get (z := sizeZ left k i) k1 hil
  refine ⟨by rw [takeB_len]; exact g.len, fun j => ?_, fun j => ?_, ?_, ?_⟩
  · have := g.nn j
    have nk := g.nn k
    have ni := g.nn i
    rw [hg]
    split
    · omega
    · split
      · rename_i h; omega
      · split
        · omega
        · omega
  · have := g.used j
    have nj := g.nn j
    rw [hg, used_snoc]
    simp only
    by_cases e1 : i = j
    · subst e1
      rw [if_neg (show ¬ (k < i ∧ i < i) by omega), if_pos (show i = i from rfl), if_neg (show ¬ (k : Int) = (i : Int) by omega), if_pos (show (i : Int) = (i : Int) from rfl)]
      omega
    · by_cases e2 : k = j
      · subst e2
        rw [if_neg (show ¬ (k < k ∧ k < i) by omega), if_neg e1, if_pos (show k = k from rfl), if_pos (show (k : Int) = (k : Int) from rfl), if_neg (show ¬ (i : Int) = (k : Int) by omega)]
        omega
      · rw [if_neg (show ¬ (k : Int) = (j : Int) by omega), if_neg (show ¬ (i : Int) = (j : Int) by omega)]
        split
        · omega
        · first | omega | (rw [if_neg e1, if_neg e2]; omega)
  · intro y hy
    rw [List.mem_append, List.mem_singleton] at hy
    rcases hy with hy | rfl
    · obtain ⟨a, b, p1, p2, p3, p4, p5, p6, p7, p8, p9, p10⟩ := (g.all y hy).ex
      refine ⟨a, b, p1, p2, p3, p4, p5, p6, p7, p8, p9, fun j j1 j2 => ?_⟩
      have hz := p10 j j1 j2
      rw [hg]
      split
      · rfl
      · rw [if_neg (by omega)]
        rw [if_neg (fun e => by subst e; omega)]
        exact hz
    · refine ⟨k, i, rfl, rfl, k1, by omega, z1, z2, q1, h1, q2, fun j j1 j2 => ?_⟩
      rw [hg, if_pos ⟨j1, j2⟩]
  · rw [List.pairwise_append]
    refine ⟨g.cross, by simp, ?_⟩
    intro y hy x hx
    rw [List.mem_singleton] at hx
    subst hx
    obtain ⟨a, b, p1, p2, p3, p4, p5, p6, p7, p8, p9, p10⟩ := (g.all y hy).ex
    unfold crossB
    rw [p1, p2]
    simp only
    rintro (⟨c1, c2, c3⟩ | ⟨c1, c2, c3⟩)
    · have d1 : (a : Int) < (k : Int) := c1
      have d2 : (k : Int) < (b : Int) := c2
      have := p10 k (by omega) (by omega)
      omega
    · have d1 : (i : Int) < (b : Int) := c3
      omega
theorem inner_good {l : List runT.den} {i : Nat} (hi : i < l.length) (left : List Int) (out : List pairT.den) (g : Good l (i + 1) left out) : Good l (i + 1) (inner l i left out).1 (inner l i left out).2 := by
  by_cases h : (l.getD i r0).2.2.2.1 = true ∧ 0 < left.getD i 0
  · cases hk : findK (okP l left i) i with
    | none => rw [inner_none hk]; exact g
    | some k =>
      have gs := g.step hi h.1 h.2 hk
      rw [inner_some h.1 h.2 hk]
      exact inner_good hi _ _ gs
  · rw [inner_stop h]; exact g
termination_by (left.getD i 0).toNat
decreasing_by
  obtain ⟨k1, k2⟩ := findK_some hk
  obtain ⟨q1, q2, q3⟩ := ok_left k2
  obtain ⟨z1, z2, z3, z4⟩ := size_pos q3 h.2
  rw [takeB_get k1 (by rw [g.len]; exact hi), if_neg (by omega), if_pos rfl]
  omega
theorem Good.up {l : List runT.den} {n : Nat} {left : List Int} {out : List pairT.den} (g : Good l n left out) : Good l (n + 1) left out :=
  ⟨g.len, g.nn, g.used, fun y hy => (g.all y hy).up (by omega), g.cross⟩
theorem outer_good (l : List runT.den) : ∀ i, i ≤ l.length → Good l i (outerS l i).1 (outerS l i).2
  | 0, _ => ⟨counts_len l, counts_le l, fun j => by simp [outerS, usedAt], fun y hy => by simp [outerS] at hy, by simp [outerS]⟩
  | i + 1, h => inner_good (by omega) _ _ (outer_good l i (by omega)).up
theorem match_good (l : List runT.den) : Good l l.length (outerS l l.length).1 (matchL l) := outer_good l _ (Nat.le_refl _)

/-! ### two runs -/
theorem two_inner (c : UInt8) (k : Int) : ∀ (n : Nat) (out : List pairT.den), (inner [(c, k, true, false, ()), (c, k, false, true, ())] 1 [(n : Int), (n : Int)] out).2 = out ++ (List.replicate (n / 2) ((0 : Int), (1 : Int), (2 : Int), ())) ++ (if n % 2 = 0 then [] else [((0 : Int), (1 : Int), (1 : Int), ())])
  | 0, out => by
    rw [inner_stop (by simp)]; simp
  | n + 1, out => by
    have hf : findK (okP [(c, k, true, false, ()), (c, k, false, true, ())] [((n + 1 : Nat) : Int), ((n + 1 : Nat) : Int)] 1) 1 = some 0 := by
      have : okP [(c, k, true, false, ()), (c, k, false, true, ())] [((n + 1 : Nat) : Int), ((n + 1 : Nat) : Int)] 1 0 = true := by
        unfold okP fitP
        simp
      unfold findK
      rw [if_pos this]
    have hp : (0 : Int) < ((n + 1 : Nat) : Int) := by omega
    rw [inner_some (by simp) (show 0 < List.getD [((n + 1 : Nat) : Int), ((n + 1 : Nat) : Int)] 1 0 from hp) hf]
    cases n with
    | zero =>
      rw [inner_stop]
      · simp [sizeZ]; rfl
      · rw [takeB_get (by omega) (by simp)]
        simp [sizeZ]
        decide
    | succ m =>
      have e : takeB [((m + 1 + 1 : Nat) : Int), ((m + 1 + 1 : Nat) : Int)] 0 1 (sizeZ [((m + 1 + 1 : Nat) : Int), ((m + 1 + 1 : Nat) : Int)] 0 1) = [(m : Int), (m : Int)] := by
        refine ext_getD (by rw [takeB_len]; rfl) fun j => ?_
        rw [takeB_get (by omega) (by simp)]
        match j with
        | 0 => simp [sizeZ]; omega
        | 1 => simp [sizeZ]; omega
        | j + 2 => simp
      have e2 : sizeZ [((m + 1 + 1 : Nat) : Int), ((m + 1 + 1 : Nat) : Int)] 0 1 = 2 := by simp [sizeZ]; omega
      rw [e, e2]
      rw [two_inner c k m]
      have e3 : (m + 1 + 1) / 2 = m / 2 + 1 := by omega
      have e4 : (m + 1 + 1) % 2 = m % 2 := by omega
      rw [e3, e4, List.replicate_succ]
      simp
theorem two_match (c : UInt8) (n : Nat) (h : n ≤ 100) : matchL [(c, (n : Int), true, false, ()), (c, (n : Int), false, true, ())] = List.replicate (n / 2) ((0 : Int), (1 : Int), (2 : Int), ()) ++ (if n % 2 = 0 then [] else [((0 : Int), (1 : Int), (1 : Int), ())]) := by
  have hc : countsL [(c, (n : Int), true, false, ()), (c, (n : Int), false, true, ())] = [(n : Int), (n : Int)] := by
    have : heldN n = n := by unfold heldN; omega
    simp [countsL, this]
  unfold matchL
  show (inner _ 1 (inner _ 0 (countsL _) []).1 (inner _ 0 (countsL _) []).2).2 = _
  rw [hc, inner_stop (i := 0) (by simp)]
  rw [two_inner c n n]
  simp
theorem two_other (c d : UInt8) (hcd : c ≠ d) (n : Int) : matchL [(c, n, true, false, ()), (d, n, false, true, ())] = [] := by
  unfold matchL
  show (inner _ 1 (inner _ 0 (countsL _) []).1 (inner _ 0 (countsL _) []).2).2 = _
  rw [inner_stop (i := 0) (by simp)]
  rw [inner_none]
  have : okP [(c, n, true, false, ()), (d, n, false, true, ())] (countsL [(c, n, true, false, ()), (d, n, false, true, ())]) 1 0 = false := by
    unfold okP
    simp [hcd]
  simp [findK, this]
end Go.Proofs.YtdjfcjlpemckoaaDoor
