/-
  A row that the call may write is given up: from then on it stays as it is. Own work. Nothing here is trusted.
-/
import Derived.Test.YtopegdkhoafajaaCore27
namespace Go.Sv
set_option linter.unusedVariables false

theorem seal_row {B0 : Base} {w : World} {S : Seal} {H : Hp} {b n : Nat} {e : TypeId} {ty : Ty} {l : List ty.den} (hi : Inv B0 w S H) (hb : H b = some (.row e ty l)) : Ext B0 S (S.set b (n * ty.size)) w w ∧ Inv B0 w (S.set b (n * ty.size)) (H.set b none) := by
  obtain ⟨hB, hS, arr, hh, qs, rest, hqs, hfl⟩ := hi.obj b _ hb
  have hlt := lt_of_heap hh
  have ex : Ext B0 S (S.set b (n * ty.size)) w w := by
    refine ⟨.refl _ _, fun c => ?_, fun _ _ _ => rfl, fun _ _ h => h⟩
    simp only [Seal.set]
    split
    · rename_i hc; subst hc; rw [hS]; exact Nat.zero_le _
    · exact Nat.le_refl _
  refine ⟨ex, hi.base, fun c hc => ?_, fun c y hy => ?_, hi.tab.ext ex⟩
  · simp only [Seal.set, Hp.set]
    rw [if_neg (by omega), if_neg (by omega)]
    exact hi.top c hc
  · simp only [Hp.set] at hy
    split at hy
    · simp at hy
    · rename_i hcb
      obtain ⟨k1, k2⟩ := hi.obj c y hy
      exact ⟨k1, k2.keep ex rfl (by simp [Seal.set, hcb])⟩

/-- A result that may be written is given up. -/
theorem FnC.giveUp {P : Program} {B0 : Base} {f : FuncId} {args : List AVal} {H : Hp} {K : AVal → Hp → Prop}
    (h : FnC P B0 f args H (fun x H' => (∃ (t : Ty) (l : List t.den) (o : Own), x = .sl t l o ∧ K (.sl t l .no) H') ∨ (∃ (b n : Nat) (e : TypeId) (t : Ty) (l : List t.den), x = .rs b t.size n ∧ H' b = some (.row e t l) ∧ n ≤ l.length ∧ K (.sl t (l.take n) .no) (H'.set b none)))) : FnC P B0 f args H K := by
  refine ⟨h.1, fun w S vs hi ha => (h.2 w S vs hi ha).mono ?_⟩
  rintro e w' ⟨v, x, S', H', h1, h2, h3, h4, h5⟩
  rcases h5 with ⟨t, l, o, rfl, h5⟩ | ⟨b, n, et, t, l, rfl, hb, hn, h5⟩
  · refine ⟨v, _, S', H', h1, h2, h3, ?_, h5⟩
    simp only [Rep] at h4 ⊢
    obtain ⟨a, cap, e1, e2, e3, _⟩ := h4
    exact ⟨a, cap, e1, e2, e3, trivial⟩
  · obtain ⟨ex, hi'⟩ := seal_row (n := n) h3 hb
    obtain ⟨hB, hS, arr, hh, qs, rest, hqs, hfl⟩ := h3.obj b _ hb
    refine ⟨v, _, _, _, h1, h2.trans ex, hi', ?_, h5⟩
    simp only [Rep] at h4 ⊢
    obtain ⟨cap, rfl, hcap, ty', hsh⟩ := h4
    have hlt : (l.take n).length = n := by rw [List.length_take]; omega
    have hRl : ∀ (y : t.den) (c : List Value), RepD w' S' t y c → c.length = t.size := fun _ _ h => h.length
    have hql := Flat.length hRl hfl
    have hft := Flat.take hRl n hfl
    refine ⟨some ⟨b, 0, none⟩, cap, by rw [hlt], by rw [hlt]; exact hcap, .inr ⟨b, 0, rfl, qs.take (n * t.size), hft.imp fun _ _ h => RepD.ext ex h, ?_, fun j y hj => ?_⟩, trivial⟩
    · rw [List.length_take, Nat.zero_add]
      simp only [Seal.set, if_true]
      exact Nat.min_le_left _ _
    · rw [Nat.zero_add, cell_of_heap hh]
      rw [List.getElem?_take] at hj
      split at hj
      · have hjq : j < qs.length := by
          rcases Nat.lt_or_ge j qs.length with h | h
          · exact h
          · rw [List.getElem?_eq_none h] at hj; simp at hj
        rw [← Array.getElem?_toList, hqs, List.getElem?_append_left hjq]
        exact hj
      · simp at hj
theorem at1_rt (b s i n : Nat) (k : AVal → Prop) : @at1 (.rt b s i n) ⟨k⟩ = k (.rt b s i n) := by unfold at1; rfl
theorem at1_rs (b s n : Nat) (k : AVal → Prop) : @at1 (.rs b s n) ⟨k⟩ = k (.rs b s n) := by unfold at1; rfl
attribute [go_sem] at1_rt at1_rs
end Go.Sv
