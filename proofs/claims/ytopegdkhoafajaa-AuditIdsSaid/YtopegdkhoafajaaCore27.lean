/-
  A scope through which the run goes without a jump. Own work. Nothing here is trusted.
-/
import Derived.Test.YtopegdkhoafajaaCore26
import Derived.Scope
namespace Go.Sv
set_option linter.unusedVariables false

def noGo (Q : Exit → Env → Hp → Prop) : Exit → Env → Hp → Prop
  | .goto _, _, _ => False
  | .normal, σ, H => Q .normal σ H
  | .exit i, σ, H => Q (.exit i) σ H
  | .ret, σ, H => Q .ret σ H
  | e, σ, H => Q e σ H
theorem tr_scope {P : Program} {B0 : Base} {n : Nat} {σ : Env} {H : Hp} {Q : Exit → Env → Hp → Prop} {c : Code} (h : Tr P B0 n c σ H (noGo Q)) : Tr P B0 n (.scope c) σ H Q := by
  unfold Tr at h ⊢
  intro w S a hs
  refine wp_scope_straight (wp_mono (h w S a hs) ?_)
  rintro e a' w' ⟨S', σ', H', e', hs', hq⟩
  cases e <;> first | exact hq.elim | exact ⟨S', σ', H', e', hs', hq⟩
theorem noGo_normal {Q : Exit → Env → Hp → Prop} {σ : Env} {H : Hp} (h : Q .normal σ H) : noGo Q .normal σ H := h
attribute [go_sem] noGo wClo
end Go.Sv
