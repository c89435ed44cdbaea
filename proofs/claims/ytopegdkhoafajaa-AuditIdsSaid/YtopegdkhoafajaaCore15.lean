/-
  A contract out of one of the kit's: a call that leaves all old blocks as they are. Own work. Nothing here is trusted.
-/
import Derived.Test.YtopegdkhoafajaaCore13
namespace Go.Sv
set_option linter.unusedSimpArgs false
set_option linter.unusedVariables false

theorem Ext.of_below {B0 : Base} {S : Seal} {w w' : World} {H : Hp} (hi : Inv B0 w S H) (hb : Go.RowKit.Below w.heap.size w w') : Ext B0 S S w w' ∧ Inv B0 w' S H := by
  have hsame : ∀ b : Nat, b < w.heap.size → w'.heap[b]? = w.heap[b]? := fun b h => hb.block b h
  have ex : Ext B0 S S w w' := by
    refine ⟨hb.mono hi.base, fun _ => Nat.le_refl _, fun b i h => ?_, fun b x hx => ?_⟩
    · refine cell_of_other (hsame b ?_)
      rcases Nat.lt_or_ge b w.heap.size with h' | h'
      · exact h'
      · rw [(hi.top b h').1] at h; omega
    · have hlt : b < w.heap.size := by
        rcases Nat.lt_or_ge b w.heap.size with h' | h'
        · exact h'
        · simp [World.shape?, Array.getElem?_eq_none h'] at hx
      rw [shape_of_other (hsame b hlt)]; exact hx
  refine ⟨ex, Nat.le_trans hi.base hb.size, fun b h => hi.top b (Nat.le_trans hb.size h), fun b o ho => ?_, hi.tab.ext ex⟩
  obtain ⟨k1, k2⟩ := hi.obj b o ho
  have hlt : b < w.heap.size := by
    rcases Nat.lt_or_ge b w.heap.size with h' | h'
    · exact h'
    · rw [(hi.top b h').2] at ho; simp at ho
  exact ⟨k1, k2.keep ex (hsame b hlt) rfl⟩

/-- A library's contract (the kit's shelf tells it so), as one of ours: the answer reads as x in whatever world. -/
theorem FnC_of_calls {P : Program} {B0 : Base} {f : FuncId} {fn : Func} {args : List AVal} {H : Hp} {K : AVal → Hp → Prop} {x : AVal} {v : Value} (hf : P.funcs[f]? = some fn) (hn : (fn.name == "runtime.NumGoroutine") = false) (hb : fn.body.isNone = false)
    (hv : ∀ w S, Rep w S x v) (hc : ∀ (w : World) (S : Seal) (vs : Array Value), Inv B0 w S H → RepL w S args vs.toList → Calls P f vs w fun e w' => e = .returned v ∧ Go.RowKit.Below w.heap.size w w') (hk : K x H) : FnC P B0 f args H K := by
  refine ⟨⟨fn, hf, hn, hb⟩, fun w S vs hi ha => (hc w S vs hi ha).mono ?_⟩
  rintro e w' ⟨rfl, hb⟩
  obtain ⟨h1, h2⟩ := Ext.of_below hi hb
  exact ⟨v, x, S, H, rfl, h1, h2, hv _ _, hk⟩
end Go.Sv
