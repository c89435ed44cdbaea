/- LineJoined holds, where what it reads is of bulk at most 1048576: its row, closed by its contract. Own work; printed by close.py and pre.py. -/
import Derived.Test.YtognfedcnciafaaLineJ
import Derived.Test.YtognfedcnciafaaCore11
namespace Go.Proofs.Ytognfedcnciafaa.lineJoined
open Go.ChangeShapes Go.WideShapes Go.ChangeAt Go.RowKit Go.Sv
set_option linter.unusedVariables false
set_option linter.unusedSimpArgs false

theorem own : ownKnob Try.prog.godebug = none := by kernel_rfl
theorem laidOut : laidOutB Try.prog = true := by kernel_rfl
theorem bulk (H : Type) : Bulk (H := H) Rows.uptoBulk Rows.uptoBulkAll :=
  ⟨fun s => by simp only [Rows.uptoBulk], fun l => by cases l <;> simp [Rows.uptoBulk], by simp only [Rows.uptoBulk], fun e s => by simp only [Rows.uptoBulk], by simp only [Rows.uptoBulkAll], fun d r => by simp only [Rows.uptoBulkAll]⟩

theorem joinL_bulk : ∀ (l : List (List UInt8)) (e : List UInt8), (joinL l e).length ≤ (l.map (bulkT .str)).sum + l.length * e.length
  | [], e => by simp [joinL_nil]
  | s :: l, e => by
    have := joinL_bulk l e
    have hj : joinL (s :: l) e = s ++ e ++ joinL l e := by simp [joinL]
    have hs : bulkT .str s = s.length + 1 := rfl
    rw [hj]
    simp only [List.length_append, List.map_cons, List.sum_cons, List.length_cons, Nat.succ_mul]
    omega

theorem contract (H : Type) (enc : TypeId × Value → H) (W : World) (base : Nat) (args : Array Value) (ds gs : List (DataW H)) (before : List MemPlace)
    (hval : ∀ (j : Nat) t v, Try.f7.params[j]? = some t → args[j]? = some v → Value.okWide Try.prog W .any base t v)
    (hW : DataW.Whole enc Try.prog Try.f7.params.toList Rows.lineJoinedSpec.vars false W args.toList ds gs before) (hk : Rows.uptoSmall H (ds ++ gs) = true) :
    Calls Try.prog 7 args W fun e W' => ∃ v, e = .returned v ∧ Rows.lineJoinedSpec.post enc Try.prog Try.f7 false true false false W args v W' := by
  have hW' := hW
  obtain ⟨p, q, hA0, hV, rfl, hfz, hnd⟩ := hW
  have hA : DataW.TrodAll enc Try.prog W 0 (fun _ => true) true Try.f7.params.toList args.toList ds p := hA0
  have hAk := hA
  rw [Try.params7] at hA hval
  obtain ⟨v0, vs0, d0, ds0, p0, q0, hargs, rfl, rfl, h0, r0⟩ := trodAll_cons hA
  obtain ⟨v1, vs1, d1, ds1, p1, q1, rfl, rfl, rfl, h1, r1⟩ := trodAll_cons r0
  obtain ⟨v2, vs2, d2, ds2, p2, q2, rfl, rfl, rfl, h2, r2⟩ := trodAll_cons r1
  obtain ⟨rfl, rfl, rfl⟩ := trodAll_nil r2
  obtain rfl : args = #[v0, v1, v2] := by apply Array.ext'; simpa using hargs
  obtain ⟨rfl, rfl⟩ := trodVars_none hV
  obtain ⟨x0, a0, b0, f0⟩ := open_arg (bulk H) tyF25 rfl (by kernel_rfl) (hval 0 25 v0 rfl rfl) h0
  obtain ⟨x1, a1, b1, f1⟩ := open_arg (bulk H) tyF25 rfl (by kernel_rfl) (hval 1 25 v1 rfl rfl) h1
  obtain ⟨x2, a2, b2, f2⟩ := open_arg (bulk H) tyF9 rfl (by kernel_rfl) (hval 2 9 v2 rfl rfl) h2
  clear hA0
  simp only [List.append_nil] at hW' hk
  have hlt : ∀ x ∈ (p0 ++ (p1 ++ (p2 ++ [])) : List MemPlace), x.block < W.heap.size := fun x hx => hW'.lt x (by simpa using hx)
  have hk' : Rows.uptoBulkAll [d0, d1, d2] ≤ 1048576 := of_decide_eq_true hk
  simp only [Rows.uptoBulkAll] at hk'
  have s0 := bulk_sl (t := .str) rfl x0
  have s1 := bulk_sl (t := .str) rfl x1
  have s2 : x2.length + 1 ≤ bulkT .str x2 := Nat.le_refl _
  have hj0 := joinL_bulk x0 x2
  have hj1 := joinL_bulk x1 x2
  have hm0 : x0.length * x2.length ≤ 1048576 * 1048576 := Nat.mul_le_mul (by omega) (by omega)
  have hm1 : x1.length * x2.length ≤ 1048576 * 1048576 := Nat.mul_le_mul (by omega) (by omega)
  have hs0 : bulkT (.sl .str) x0 = (x0.map (bulkT .str)).sum + 1 := rfl
  have hs1 : bulkT (.sl .str) x1 = (x1.map (bulkT .str)).sum + 1 := rfl
  refine (law_calls (joined7 (by omega) (by omega) (by omega) (by omega) rfl) ⟨v0, _, rfl, a0, v1, _, rfl, a1, v2, _, rfl, a2, rfl⟩).mono fun e W' ⟨he, hb⟩ => ?_
  subst he
  exact ⟨_, rfl, post_below (ds := [d0, d1, d2]) (gs := []) (pa := p0 ++ (p1 ++ (p2 ++ []))) (pv := []) (by simpa using hW') hb (fun _ _ _ => (trodAll_cons_mk (shut_bool Try.underlying4 _) trodAll_mk0))
    (fun sp hsp => trodAll_below laidOut hb (by rw [Try.params7]; decide +kernel) hAk hlt (fun x hx => hsp x (by simpa using hx))) (fun _ _ => rfl) (by simp) (ok_one (by kernel_rfl) rfl (okWide_bool_mk Try.underlying4 _))⟩

set_option maxRecDepth 100000 in
theorem lifted (os : Os) (started : os.Started) (H : Type) (enc : TypeId × Value → H) (F : Stop.Interp) :
    ReturnsInHanded {} Try.checked os 7 .any ((Rows.OpenSpec.upto Rows.lineJoinedSpec).pre6 enc Try.prog Try.f7 Rows.lineJoinedUptoRow.domain false) (((Rows.OpenSpec.upto Rows.lineJoinedSpec).at F).post enc Try.prog Try.f7 false true false false) := by
  refine returnsInHanded_of_cond (C := Try.checked) (s := Rows.OpenSpec.upto Rows.lineJoinedSpec) (k := Rows.uptoSmall) rfl own started (by kernel_rfl) Try.func7
    (OpenSpec.witness (enc := enc) (C := Try.checked) (s := Rows.OpenSpec.upto Rows.lineJoinedSpec) (k := Rows.uptoSmall) rfl false ⟨#[], #[.slice none 0 0, .slice none 0 0, .string ⟨#[]⟩], []⟩ 8 (by kernel_rfl) (by kernel_rfl) (by kernel_rfl)
      (x := ([.nil, .nil, .lit (.string [])], [], [])) (by kernel_rfl) rfl (by kernel_rfl)) ?_
  intro W base args ds gs before hval hW _ hk _
  exact contract H enc W base args ds gs before hval hW hk

theorem proved : Rows.LineJoinedUptoSaid :=
  OpenClaim.holds_of_cond 7 Try.f7 rfl rfl rfl rfl rfl rfl rfl ⟨rfl, rfl, rfl, rfl, rfl⟩ rfl rfl rfl rfl rfl (by kernel_rfl) Try.func7 (by kernel_rfl)
    (of_decide_eq_true (by kernel_rfl)) (by unfold Func.isWrapper; first | (rw [if_pos (by decide +kernel)]; kernel_rfl) | (rw [if_neg (by decide +kernel)]; exact ⟨rfl, rfl⟩))
    (fun os started H enc _ F => lifted os started H enc F)
end Go.Proofs.Ytognfedcnciafaa.lineJoined
