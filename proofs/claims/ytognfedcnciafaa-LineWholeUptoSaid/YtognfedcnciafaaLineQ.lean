/- Lines: what LineEnds computes. Own work; printed from wip/law1/q.in by pre.py. -/
import Derived.Test.YtognfedcnciafaaLineP
namespace Go.Proofs.Ytognfedcnciafaa
open Go.Sv
set_option linter.unusedSimpArgs false
set_option linter.unusedVariables false
set_option maxRecDepth 100000

theorem lines_feed {p : List UInt8} (hp : ∀ c ∈ p, noEnd c = true) (s : List UInt8) : lines (p ++ 10 :: s) = (p, [10]) :: lines s := by
  rw [lines_ne (by simp), List.takeWhile_append_of_pos hp, List.dropWhile_append_of_pos hp]
  simp [noEnd, endOf]
theorem lines_back {p : List UInt8} (hp : ∀ c ∈ p, noEnd c = true) (s : List UInt8) : lines (p ++ 13 :: 10 :: s) = (p, [13, 10]) :: lines s := by
  rw [lines_ne (by simp), List.takeWhile_append_of_pos hp, List.dropWhile_append_of_pos hp]
  simp [noEnd, endOf]
theorem lines_rest {p : List UInt8} (hp : ∀ c ∈ p, noEnd c = true) : lines p = if p = [] then [] else [(p, [])] := by
  by_cases h : p = []
  · subst h; simp [lines_nil]
  · rw [if_neg h, lines_ne h]
    have h1 : p.takeWhile noEnd = p := by simpa using List.takeWhile_append_of_pos (l₂ := []) hp
    have h2 : p.dropWhile noEnd = [] := by simpa using List.dropWhile_append_of_pos (l₂ := []) hp
    rw [h1, h2]
    simp [endOf, lines_nil]

def feeds (T : List Bool) : List UInt8 := T.flatMap fun t => if t then [10] else [120]
def backs (T : List Bool) : List UInt8 := T.flatMap fun t => if t then [13, 10] else [120]
def more (s : List UInt8) : Nat := match s.getLast? with
  | some c => if c = 10 then 0 else 1
  | none => 0
def trues (T : List Bool) : Nat := T.count true

theorem ends_pure : ∀ (T : List Bool) (p : List UInt8), (∀ c ∈ p, noEnd c = true) → (lines (p ++ feeds T)).map (·.1) = (lines (p ++ backs T)).map (·.1) ∧ (lines (p ++ feeds T)).length = trues T + more (p ++ feeds T) ∧
    (trues T ≠ 0 → ∃ r x, lines (p ++ backs T) = (x, [13, 10]) :: r)
  | [], p, hp => by
    simp only [feeds, backs, List.flatMap_nil, List.append_nil, trues, List.count_nil, Nat.zero_add, true_and]
    refine ⟨?_, fun h => absurd rfl h⟩
    rw [lines_rest hp, more]
    split
    · rename_i h; subst h; rfl
    · rename_i h
      obtain ⟨c, hc⟩ : ∃ c, p.getLast? = some c := by
        cases hg : p.getLast? with
        | none => rw [List.getLast?_eq_none_iff] at hg; exact absurd hg h
        | some c => exact ⟨c, rfl⟩
      have := hp c (List.mem_of_getLast? hc)
      rw [hc]
      simp only
      rw [if_neg (fun e => by subst e; simp [noEnd] at this)]
      rfl
  | true :: T, p, hp => by
    obtain ⟨h1, h2, h3⟩ := ends_pure T [] (by simp)
    have hf : feeds (true :: T) = 10 :: feeds T := rfl
    have hb : backs (true :: T) = 13 :: 10 :: backs T := rfl
    rw [hf, hb, lines_feed hp, lines_back hp]
    simp only [List.nil_append] at h1 h2
    refine ⟨by rw [List.map_cons, List.map_cons, h1], ?_, fun _ => ⟨_, _, rfl⟩⟩
    rw [List.length_cons, h2]
    have hm : more (p ++ 10 :: feeds T) = more (feeds T) := by
      unfold more
      rw [List.getLast?_append, List.getLast?_cons]
      cases (feeds T).getLast? <;> simp
    rw [hm]
    simp [trues]
    omega
  | false :: T, p, hp => by
    obtain ⟨h1, h2, h3⟩ := ends_pure T (p ++ [120]) (by
      intro c hc
      rcases List.mem_append.1 hc with hc | hc
      · exact hp c hc
      · simp at hc; subst hc; rfl)
    have hf : p ++ feeds (false :: T) = p ++ [120] ++ feeds T := by simp [feeds]
    have hb : p ++ backs (false :: T) = p ++ [120] ++ backs T := by simp [backs]
    have ht : trues (false :: T) = trues T := by simp [trues]
    rw [hf, hb, ht]
    exact ⟨h1, h2, h3⟩

theorem ends_texts (T : List Bool) : textsOf (feeds T) = textsOf (backs T) := by
  rw [texts_lines, texts_lines]
  simpa using (ends_pure T [] (by simp)).1
theorem ends_count (T : List Bool) : (splitFrom (feeds T) 0).length = trues T + more (feeds T) := by
  rw [count_lines]
  simpa using (ends_pure T [] (by simp)).2.1
theorem ends_last (T : List Bool) (h : trues T ≠ 0) : lastOf (backs T) = [13, 10] := by
  obtain ⟨r, x, hx⟩ := (ends_pure T [] (by simp)).2.2 h
  simp only [List.nil_append] at hx
  rw [last_lines, hx]
theorem more_eq (s : List UInt8) : more s = if s.length ≠ 0 ∧ s.getD (s.length - 1) 0 ≠ 10 then 1 else 0 := by
  unfold more
  rw [List.getLast?_eq_getElem?]
  by_cases h : s.length = 0
  · have : s = [] := List.eq_nil_of_length_eq_zero h
    subst this; rfl
  · rw [List.getElem?_eq_getElem (by omega)]
    simp only
    rw [List.getD_eq_getElem?_getD, List.getElem?_eq_getElem (by omega)]
    simp only [Option.getD_some]
    by_cases hc : s[s.length - 1]'(by omega) = 10
    · rw [if_pos hc, if_neg (fun h' => h'.2 hc)]
    · rw [if_neg hc, if_pos ⟨h, hc⟩]
theorem feeds_snoc (T : List Bool) (t : Bool) : feeds (T ++ [t]) = feeds T ++ if t then [10] else [120] := by simp [feeds]
theorem backs_snoc (T : List Bool) (t : Bool) : backs (T ++ [t]) = backs T ++ if t then [13, 10] else [120] := by simp [backs]
theorem trues_snoc (T : List Bool) (t : Bool) : trues (T ++ [t]) = trues T + if t then 1 else 0 := by cases t <;> simp [trues]
end Go.Proofs.Ytognfedcnciafaa
