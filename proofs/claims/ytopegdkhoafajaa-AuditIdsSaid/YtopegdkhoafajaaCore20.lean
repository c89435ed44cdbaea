/-
  Rows that may be written, and grow. Own work. Nothing here is trusted.
-/
import Derived.Test.YtopegdkhoafajaaCore19
namespace Go.Sv
set_option linter.unusedSimpArgs false
set_option linter.unusedVariables false

/-- A row's header; none: there is no row yet. -/
def rowV (ty : Ty) : Option Nat → Nat → AVal
  | none, _ => .sl ty [] .exact
  | some b, n => .rs b ty.size n
def hpRow (e : TypeId) (ty : Ty) (H : Hp) (l : List ty.den) : Option Nat → Hp
  | none => H
  | some b => H.set b (some (.row e ty l))
/-- A row of the call's own, or none yet. -/
def RowOk (H : Hp) {ty : Ty} (l : List ty.den) : Option Nat → Prop
  | none => l = []
  | some b => H b = none ∧ l ≠ []

section
variable {P : Program} {t t2 e : TypeId} {ty : Ty} {l xs : List ty.den} {x : AVal} {H : Hp} {K : AVal → Hp → Prop} {b : Nat}
theorem wAppend_row0 {o : Own} (ho : o.isEx = true) (hn : newsA ty x = some xs) (hxs : xs ≠ []) (he : AppE P t ty) (hu : tyOf P 8 t2 = some (.sl ty) ∨ tyOf P 8 t2 = some .str)
    (hb : (0 + xs.length) * elBytes P t ≤ 140737488355328) (h63 : 0 + xs.length ≤ 9223372036854775807) (hk : ∀ b, H b = none → K (.rs b ty.size xs.length) (H.set b (some (.row (elTy P t) ty xs)))) : @wAppend P t t2 (.sl ty [] o) x H ⟨K⟩ := by
  unfold wAppend
  simp only [hn]
  refine ⟨he, hu, hb, h63, ?_⟩
  rw [if_neg hxs]
  refine .inr ⟨ho, fun b hb => ?_⟩
  exact hk b hb
/-- A row's elements, as a row of their own. -/
theorem wAppend_rs {e' : TypeId} {o : Own} {sz n : Nat} (ho : o.isEx = true) (hH : H b = some (.row e' ty xs)) (hs : sz = ty.size) (hl : n = xs.length) (hxs : xs ≠ []) (he : AppE P t ty) (hu : tyOf P 8 t2 = some (.sl ty))
    (hb : (0 + xs.length) * elBytes P t ≤ 140737488355328) (h63 : 0 + xs.length ≤ 9223372036854775807) (hk : ∀ b', H b' = none → K (.rs b' ty.size xs.length) (H.set b' (some (.row (elTy P t) ty xs)))) : @wAppend P t t2 (.sl ty [] o) (.rs b sz n) H ⟨K⟩ := by
  subst hs hl
  have hn : newsA ty (.rs b ty.size xs.length) = none := by unfold newsA; rfl
  unfold wAppend
  simp only [hn]
  unfold wAppR
  simp only [hH]
  refine ⟨trivial, trivial, trivial, ho, he, hu, hb, h63, ?_⟩
  rw [if_neg hxs]
  exact hk
theorem wAppend_rs0 {e' : TypeId} {o : Own} {sz : Nat} (ho : o.isEx = true) (hH : H b = some (.row e' ty [])) (hs : sz = ty.size) (he : AppE P t ty) (hu : tyOf P 8 t2 = some (.sl ty)) (hk : K (.sl ty [] o) H) : @wAppend P t t2 (.sl ty [] o) (.rs b sz 0) H ⟨K⟩ := by
  subst hs
  have hn : newsA ty (.rs b ty.size 0) = none := by unfold newsA; rfl
  unfold wAppend
  simp only [hn]
  unfold wAppR
  simp only [hH]
  refine ⟨trivial, trivial, rfl, ho, he, hu, by simp, by simp, ?_⟩
  rw [if_pos trivial]
  exact hk
theorem wAppend_row {sz n : Nat} (hH : H b = some (.row e ty l)) (hty : tyOf P 8 t = some (.sl ty)) (hs : sz = ty.size) (hl : n = l.length) (hel : elTy P t = e) (hn : newsA ty x = some xs) (he : AppE P t ty) (hu : tyOf P 8 t2 = some (.sl ty) ∨ tyOf P 8 t2 = some .str)
    (hb : (l.length + xs.length) * elBytes P t ≤ 140737488355328) (h63 : l.length + xs.length ≤ 9223372036854775807) (hk : ∀ b', (H.set b none) b' = none → K (.rs b' ty.size (l ++ xs).length) ((H.set b none).set b' (some (.row e ty (l ++ xs))))) : @wAppend P t t2 (.rs b sz n) x H ⟨K⟩ := by
  subst hs hl
  unfold wAppend
  simp only [hty, hH]
  refine ⟨trivial, ?_⟩
  simp only [hn]
  refine ⟨hel.symm, trivial, trivial, he, hu, hb, h63, fun b' hb' => ?_⟩
  rw [hel]
  exact hk b' hb'
end

/-- A row's new place, beside something else that the call owns. -/
theorem row_beside {H : Hp} {b c b' : Nat} {r r' y : AObj} (hb : H b = none) (hc : (H.set b (some r)) c = none) (hb' : (((H.set b (some r)).set c (some y)).set b none) b' = none) :
    H b' = none ∧ (H.set b' (some r')) c = none ∧ (((H.set b (some r)).set c (some y)).set b none).set b' (some r') = (H.set b' (some r')).set c (some y) := by
  have hcb : c ≠ b := fun e => by subst e; simp [Hp.set] at hc
  have hc0 : H c = none := by rw [Hp.set_ne hcb] at hc; exact hc
  have hbc : b' ≠ c := fun e => by
    subst e
    simp [Hp.set, hcb] at hb'
  have hb0 : H b' = none := by
    by_cases h : b' = b
    · rw [h]; exact hb
    · rw [Hp.set_ne h, Hp.set_ne hbc, Hp.set_ne h] at hb'; exact hb'
  refine ⟨hb0, by rw [Hp.set_ne (Ne.symm hbc)]; exact hc0, ?_⟩
  funext k
  simp only [Hp.set]
  by_cases k1 : k = b'
  · subst k1; rw [if_pos rfl, if_neg hbc, if_pos rfl]
  · rw [if_neg k1]
    by_cases k2 : k = b
    · subst k2; rw [if_pos rfl, if_neg (Ne.symm hcb), if_neg k1, hb]
    · rw [if_neg k2]
      by_cases k3 : k = c
      · rw [if_pos k3, if_pos k3]
      · rw [if_neg k3, if_neg k3, if_neg k2, if_neg k1]
theorem row_alone {H : Hp} {b b' : Nat} {r r' : AObj} (hb : H b = none) (hb' : ((H.set b (some r)).set b none) b' = none) :
    H b' = none ∧ ((H.set b (some r)).set b none).set b' (some r') = H.set b' (some r') := by
  have e : (H.set b (some r)).set b none = H := by
    rw [Hp.set_set]
    funext k
    simp only [Hp.set]
    split
    · rename_i h; subst h; exact hb.symm
    · rfl
  rw [e] at hb' ⊢
  exact ⟨hb', rfl⟩
end Go.Sv
