/- Ids once each, references that lead to them, in plain Lean; maps of texts and numbers. Own work. -/
import Derived.Test.YtopegdkhoafajaaAuE
namespace Go.Proofs.Ytopegdkhoafajaa
open Go.Sv
set_option linter.unusedSimpArgs false
set_option linter.unusedVariables false

theorem findS_val (s : List UInt8) : ∀ (es : List (List UInt8 × Int × Nat)) (i j : Nat), (findS es s i).map (·.2.1) = (findS es s j).map (·.2.1)
  | [], i, j => rfl
  | e :: r, i, j => by
    unfold findS
    split
    · rfl
    · exact findS_val s r _ _
theorem look_nil (s : List UInt8) : lookS [] s = 0 := rfl
theorem look_cons (e : List UInt8 × Int × Nat) (r : List (List UInt8 × Int × Nat)) (s : List UInt8) : lookS (e :: r) s = if s = e.1 then e.2.1 else lookS r s := by
  unfold lookS
  conv => lhs; unfold findS
  split
  · rfl
  · rw [findS_val s r 1 0]
theorem look_upd (k : Nat) (s : List UInt8) (v : Int) (t : List UInt8) : ∀ es : List (List UInt8 × Int × Nat), lookS (updS es k s v) t = if t = s then v else lookS es t
  | [] => by rw [updS, look_cons]
  | e :: r => by
    unfold updS
    by_cases h : s = e.1
    · rw [if_pos h, look_cons, look_cons]
      by_cases h2 : t = s
      · simp [h2]
      · simp [h2, ← h]
    · rw [if_neg h, look_cons, look_cons, look_upd k s v t r]
      by_cases h2 : t = s
      · subst h2; simp [h]
      · simp [h2]
abbrev SourceT : Ty := .cons .str (.cons (.sl .u8) .nil)
abbrev Src : Type := List UInt8 × List UInt8 × Unit
def datas (l : List Src) : List (List UInt8) := l.map (·.2.1)
def idsOf (l : List Src) : List (List UInt8) := (datas l).flatMap idA
def refsOf (l : List Src) : List (List UInt8) := (datas l).flatMap hrefA
def linkV (l : List Src) : Bool := decide (idsOf l).Nodup && (refsOf l).all (fun x => decide (x ∈ idsOf l))
/-- A map that counts: each of a row once. -/
def Cnt (es : List (List UInt8 × Int × Nat)) (seen : List (List UInt8)) : Prop := seen.Nodup ∧ ∀ k, lookS es k = if k ∈ seen then 1 else 0
theorem cnt_nil : Cnt [] [] := ⟨List.nodup_nil, fun k => by simp [look_nil]⟩
theorem cnt_add {es : List (List UInt8 × Int × Nat)} {seen : List (List UInt8)} {v : List UInt8} {k : Nat} (h : Cnt es seen) (hv : v ∉ seen) : Cnt (updS es k v 1) (seen ++ [v]) := by
  refine ⟨?_, fun t => ?_⟩
  · rw [List.nodup_append]
    refine ⟨h.1, by simp, ?_⟩
    intro a ha b hb hab
    simp only [List.mem_singleton] at hb
    subst hab; subst hb; exact hv ha
  · rw [look_upd, h.2 t]
    by_cases ht : t = v
    · simp [ht]
    · simp [ht]
theorem take_getD {α : Type} (l : List α) (d : α) (i : Nat) (h : i < l.length) : l.take (i + 1) = l.take i ++ [l.getD i d] := by
  rw [List.take_add_one, List.getD_eq_getElem?_getD, List.getElem?_eq_getElem h]; rfl
theorem ids_snoc {l : List Src} {i : Nat} (h : i < l.length) : idsOf (l.take (i + 1)) = idsOf (l.take i) ++ idA (l.getD i ([], [], ())).2.1 := by
  rw [take_getD l ([], [], ()) i h]
  unfold idsOf datas
  simp
theorem ids_pre {l : List Src} {i : Nat} : idsOf (l.take i) ++ idsOf (l.drop i) = idsOf l := by
  unfold idsOf datas
  rw [← List.flatMap_append, ← List.map_append, List.take_append_drop]
theorem refs_pre {l : List Src} {i : Nat} : refsOf (l.take i) ++ refsOf (l.drop i) = refsOf l := by
  unfold refsOf datas
  rw [← List.flatMap_append, ← List.map_append, List.take_append_drop]
/-- An id that is there already. -/
theorem link_twice {l : List Src} {i j : Nat} (h : i < l.length) (hj : j < (idA (l.getD i ([], [], ())).2.1).length) (hm : (idA (l.getD i ([], [], ())).2.1).getD j [] ∈ idsOf (l.take i) ++ (idA (l.getD i ([], [], ())).2.1).take j) : linkV l = false := by
  have hn : ¬ (idsOf l).Nodup := by
    intro hn
    rw [← ids_pre (i := i + 1), ids_snoc h] at hn
    have h1 := (List.nodup_append.1 hn).1
    rw [← List.take_append_drop (j + 1) (idA _), take_getD _ [] j hj, ← List.append_assoc, ← List.append_assoc] at h1
    have h2 := (List.nodup_append.1 h1).1
    exact (List.nodup_append.1 h2).2.2 _ hm _ (List.mem_singleton.2 rfl) rfl
  unfold linkV
  rw [decide_eq_false hn, Bool.false_and]
theorem link_none {l : List Src} {x : List UInt8} (hx : x ∈ refsOf l) (hn : x ∉ idsOf l) : linkV l = false := by
  have : (refsOf l).all (fun x => decide (x ∈ idsOf l)) = false := by
    rw [Bool.eq_false_iff]
    intro h
    have := List.all_eq_true.1 h x hx
    exact hn (by simpa using this)
  unfold linkV
  rw [this, Bool.and_false]
theorem refs_mem {l : List Src} {i j : Nat} (h : i < l.length) (hj : j < (hrefA (l.getD i ([], [], ())).2.1).length) : (hrefA (l.getD i ([], [], ())).2.1).getD j [] ∈ refsOf l := by
  unfold refsOf datas
  rw [List.mem_flatMap]
  refine ⟨(l.getD i ([], [], ())).2.1, ?_, ?_⟩
  · rw [List.mem_map]
    refine ⟨_, ?_, rfl⟩
    rw [List.getD_eq_getElem?_getD, List.getElem?_eq_getElem h]; exact List.getElem_mem h
  · rw [List.getD_eq_getElem?_getD (l := hrefA _), List.getElem?_eq_getElem hj]; exact List.getElem_mem hj
theorem link_yes {l : List Src} (h : (idsOf l).Nodup) (hr : ∀ x ∈ refsOf l, x ∈ idsOf l) : linkV l = true := by
  unfold linkV
  rw [decide_eq_true h, Bool.true_and, List.all_eq_true]
  intro x hx
  simpa using hr x hx
theorem refs_snoc {l : List Src} {i : Nat} (h : i < l.length) : refsOf (l.take (i + 1)) = refsOf (l.take i) ++ hrefA (l.getD i ([], [], ())).2.1 := by
  rw [take_getD l ([], [], ()) i h]
  unfold refsOf datas
  simp
theorem hd_of {l : List Src} {i : Nat} (hd : ∀ e ∈ l, e.2.1.length ≤ 1000000000) (h : i < l.length) : (l.getD i ([], [], ())).2.1.length ≤ 1000000000 := by
  rw [List.getD_eq_getElem?_getD, List.getElem?_eq_getElem h]
  exact hd _ (List.getElem_mem h)
theorem id_len (s : List UInt8) : (idA s).length ≤ s.length := betA_len _ _ _ (Nat.le_refl _)
theorem href_len (s : List UInt8) : (hrefA s).length ≤ s.length := Nat.le_trans (nonE_len _) (betA_len _ _ _ (Nat.le_refl _))
end Go.Proofs.Ytopegdkhoafajaa
