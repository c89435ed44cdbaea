/-
  A part of a function's code, told by its place, so that it may be walked by itself. Own work. Nothing here is trusted.
-/
import Derived.Test.YtopegdkhoafajaaCore22
namespace Go.Sv
def subCode : List Nat → Code → Option Code
  | [], c => some c
  | 0 :: p, .seq x _ => subCode p x
  | 1 :: p, .seq _ y => subCode p y
  | 0 :: p, .loop c => subCode p c
  | 0 :: p, .block _ c => subCode p c
  | 0 :: p, .cond _ x _ => subCode p x
  | 1 :: p, .cond _ _ y => subCode p y
  | _, _ => none
def fnCode (fn : Func) (p : List Nat) : Option Code := fn.body.bind (subCode p)
theorem code_eq {fn : Func} {p : List Nat} {c c' : Code} (h : fnCode fn p = some c) (h' : fnCode fn p = some c') : c = c' := by
  rw [h] at h'; exact Option.some.inj h'
/-- A round: it goes on, or leaves by the exit. -/
def rnd (id : Nat) (A B : Env → Hp → Prop) : Exit → Env → Hp → Prop
  | .normal, σ, H => A σ H
  | .exit i, σ, H => i = id ∧ B σ H
  | _, _, _ => False
theorem rnd_normal {id : Nat} {A B : Env → Hp → Prop} {σ : Env} {H : Hp} (h : A σ H) : rnd id A B .normal σ H := h
theorem rnd_exit {id : Nat} {A B : Env → Hp → Prop} {σ : Env} {H : Hp} (h : B σ H) : rnd id A B (.exit id) σ H := ⟨rfl, h⟩
theorem tr_rnd {P : Program} {B0 : Base} {n id : Nat} {c : Code} {σ : Env} {H : Hp} {A B : Env → Hp → Prop} {Q : Exit → Env → Hp → Prop} (h : Tr P B0 n c σ H (rnd id A B)) : Tr P B0 n c σ H (andThen A (inBlock id (andThen B Q))) := by
  refine h.mono ?_
  intro e σ' H' hq
  cases e with
  | normal => exact hq
  | exit i =>
    obtain ⟨rfl, hb⟩ := hq
    simp only [andThen, inBlock, if_true]
    exact hb
  | _ => exact hq.elim
theorem tr_rnd2 {P : Program} {B0 : Base} {n id id2 : Nat} {c : Code} {σ : Env} {H : Hp} {A B : Env → Hp → Prop} {Q : Exit → Env → Hp → Prop} (h : Tr P B0 n c σ H (rnd id A B)) : Tr P B0 n c σ H (andThen A (inBlock id (inBlock id2 (andThen B Q)))) := by
  refine h.mono ?_
  intro e σ' H' hq
  cases e with
  | normal => exact hq
  | exit i =>
    obtain ⟨rfl, hb⟩ := hq
    simp only [andThen, inBlock, if_true]
    exact hb
  | _ => exact hq.elim
end Go.Sv
