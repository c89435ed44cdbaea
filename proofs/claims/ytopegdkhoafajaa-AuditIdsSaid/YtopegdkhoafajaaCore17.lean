/-
  Growing slices beside something else that the call owns. Own work. Nothing here is trusted.
-/
import Derived.Test.YtopegdkhoafajaaCore16
namespace Go.Sv
set_option linter.unusedSimpArgs false
set_option linter.unusedVariables false

theorem Ap.unframe2 {H0 H : Hp} {o : Own} {t : Ty} {n c : Nat} {y : AObj} (h : Ap (H0.set c (some y)) H o t n) (hc : H0 c = Option.none) : ∃ H', Ap H0 H' o t n ∧ H' c = Option.none ∧ H = H'.set c (some y) := by
  rcases h with ⟨h1, rfl⟩ | ⟨b, e, rfl, hb, rfl⟩
  · exact ⟨H0, .inl ⟨h1, rfl⟩, hc, rfl⟩
  · have hbc : b ≠ c := fun e => by subst e; simp [Hp.set] at hb
    rw [Hp.set_ne hbc] at hb
    refine ⟨H0.set b (some (.grow e t n)), .inr ⟨b, e, rfl, hb, rfl⟩, by rw [Hp.set_ne (Ne.symm hbc)]; exact hc, ?_⟩
    funext k
    simp only [Hp.set]
    by_cases k1 : k = c
    · subst k1; rw [if_neg (Ne.symm hbc), if_pos rfl, if_pos rfl]
    · rw [if_neg k1, if_neg k1]
end Go.Sv
