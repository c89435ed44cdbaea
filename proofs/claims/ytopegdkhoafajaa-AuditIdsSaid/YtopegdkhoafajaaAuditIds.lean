/- AuditIds holds: its row, closed by its contract. Own work; printed from wip/law25/ids.in by pre3.py. -/
import Derived.Test.YtopegdkhoafajaaAuS
import Derived.Test.YtopegdkhoafajaaCore11
import Derived.HandedShaped
import Derived.ProofKit
namespace Go.Proofs.Ytopegdkhoafajaa.auditIds
open Go.ChangeShapes Go.WideShapes Go.ChangeAt Go.RowKit Go.Sv
set_option linter.unusedVariables false
set_option linter.unusedSimpArgs false

theorem own : ownKnob Try.prog.godebug = none := by kernel_rfl
theorem laidOut : laidOutB Try.prog = true := by kernel_rfl
theorem bulk (H : Type) : Bulk (H := H) Rows.uptoBulk Rows.uptoBulkAll :=
  ⟨fun s => by simp only [Rows.uptoBulk], fun l => by cases l <;> simp [Rows.uptoBulk], by simp only [Rows.uptoBulk], fun e s => by simp only [Rows.uptoBulk], by simp only [Rows.uptoBulkAll], fun d r => by simp only [Rows.uptoBulkAll]⟩
/-- The one number that the library chose: whatever it is. -/
theorem max_shaped {W : World} (h : W.ShapedOpen Try.prog) : ∃ m, W.cell? ⟨0, 0, none⟩ = some (.int .i64 m) :=
  Go.Proofs.cell_of_shapedOpen_int (zero := #[.int .i64 0]) (t := 3) h (of_decide_eq_true (by kernel_rfl)) (by kernel_rfl) rfl (by kernel_rfl) (by kernel_rfl) Try.underlying3
theorem tab_row {m : Int} {W : World} (hm : W.cell? ⟨0, 0, none⟩ = some (.int .i64 m)) : TabAt (T0 m) W (sealAll W) := by
  refine tabAt_seal fun q hq j v hv => ?_
  simp only [T0, List.mem_singleton] at hq
  subst hq
  match j, hv with
  | 0, hv => simp only [List.getElem?_cons_zero, Option.some.injEq] at hv; subst hv; exact hm
  | j + 1, hv => simp at hv

set_option maxRecDepth 100000 in
theorem contract (H : Type) (enc : TypeId × Value → H) (W : World) (base : Nat) (args : Array Value) (ds gs : List (DataW H)) (before : List MemPlace)
    (hval : ∀ (j : Nat) t v, Try.f4.params[j]? = some t → args[j]? = some v → Value.okWide Try.prog W .any base t v)
    (hW : DataW.Whole enc Try.prog Try.f4.params.toList Rows.auditIdsSpec.vars false W args.toList ds gs before) (hsh : W.ShapedOpen Try.prog) :
    Calls Try.prog 4 args W fun e W' => ∃ v, e = .returned v ∧ Rows.auditIdsSpec.post enc Try.prog Try.f4 false true false false W args v W' := by
  have hW' := hW
  obtain ⟨p, q, hA0, hV, rfl, hfz, hnd⟩ := hW
  have hA : DataW.TrodAll enc Try.prog W 0 (fun _ => true) true Try.f4.params.toList args.toList ds p := hA0
  have hAk := hA
  rw [Try.params4] at hA hval
  obtain ⟨v0, vs0, d0, ds0, p0, q0, hargs, rfl, rfl, h0, r0⟩ := trodAll_cons hA
  obtain ⟨v1, vs1, d1, ds1, p1, q1, rfl, rfl, rfl, h1, r1⟩ := trodAll_cons r0
  obtain ⟨rfl, rfl, rfl⟩ := trodAll_nil r1
  obtain rfl : args = #[v0, v1] := by apply Array.ext'; simpa using hargs
  obtain ⟨rfl, rfl⟩ := trodVars_none hV
  obtain ⟨mx, hmx⟩ := max_shaped hsh
  obtain ⟨x0, a0, b0, f0⟩ := open_arg (bulk H) tyF30 rfl (by kernel_rfl) (hval 0 30 v0 rfl rfl) h0
  obtain ⟨x1, a1, b1, f1⟩ := open_arg (bulk H) tyF3 rfl (by kernel_rfl) (hval 1 3 v1 rfl rfl) h1
  clear hA0
  simp only [List.append_nil] at hW'
  have hlt : ∀ x ∈ (p0 ++ (p1 ++ []) : List MemPlace), x.block < W.heap.size := fun x hx => hW'.lt x (by simpa using hx)
  have hw0 : ∀ x ∈ x0, 0 ≤ x ∧ x ≤ 65535 := fun x hx => by have := f0 x hx; simpa [fitT, Lit.wf, IntKind.min, IntKind.max, IntKind.signed, IntKind.bits] using this
  refine (law_callsT (tab_row hmx) (ids4 hw0 fun _ _ => rfl) ⟨v0, _, rfl, a0, v1, _, rfl, a1, rfl⟩).mono fun e W' ⟨he, hb⟩ => ?_
  subst he
  exact ⟨_, rfl, post_below (ds := [d0, d1]) (gs := []) (pa := p0 ++ (p1 ++ [])) (pv := []) (by simpa using hW') hb (fun _ _ _ => (trodAll_cons_mk (shut_bool Try.underlying4 _) trodAll_mk0))
    (fun sp hsp => trodAll_below laidOut hb (by rw [Try.params4]; decide +kernel) hAk hlt (fun x hx => hsp x (by simpa using hx))) (fun _ _ => rfl) (by simp) (ok_one (by kernel_rfl) rfl (okWide_bool_mk Try.underlying4 _))⟩

set_option maxRecDepth 100000 in
theorem lifted (os : Os) (started : os.Started) (H : Type) (enc : TypeId × Value → H) :
    ReturnsInHanded {} Try.checked os 4 .any (Rows.auditIdsSpec.pre6 enc Try.prog Try.f4 Rows.auditIdsRow.domain false) (Rows.auditIdsSpec.post enc Try.prog Try.f4 false true false false) := by
  refine returnsInHanded_of_change_shaped (C := Try.checked) own started (by kernel_rfl) Try.func4
    (ChangeSpec.witness6 (enc := enc) (C := Try.checked) false ⟨#[], #[.slice none 0 0, .int .i64 0], []⟩ 8 (by kernel_rfl) (by kernel_rfl) (by kernel_rfl) (by kernel_rfl)) ?_
  intro W base args ds gs before hval hW _ _ hsh _
  exact contract H enc W base args ds gs before hval hW hsh

theorem proved : Rows.AuditIdsSaid :=
  OpenClaim.holds_of_wide 4 Try.f4 rfl rfl rfl rfl rfl rfl rfl ⟨rfl, rfl, rfl, rfl, rfl⟩ rfl rfl rfl rfl rfl (by kernel_rfl) Try.func4 (by kernel_rfl)
    (of_decide_eq_true (by kernel_rfl)) (by unfold Func.isWrapper; first | (rw [if_pos (by decide +kernel)]; kernel_rfl) | (rw [if_neg (by decide +kernel)]; exact ⟨rfl, rfl⟩))
    (fun os started H enc _ => lifted os started H enc)
end Go.Proofs.Ytopegdkhoafajaa.auditIds
