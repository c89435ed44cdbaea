/- PatchNothing holds, where what it reads is of bulk at most 1048576: its row, and its card, closed by its contract. Own work; printed by close2.py and pre.py. -/
import Derived.Test.YtoncjokijkjliaaDoorPaR
import Derived.Test.YtoncjokijkjliaaDoorPaV
import Derived.Test.YtoncjokijkjliaaDoorPaCard
namespace Go.Proofs.YtoncjokijkjliaaDoor.patchNothing
open Go.ChangeShapes Go.WideShapes Go.ChangeAt Go.RowKit Go.Sv
set_option linter.unusedVariables false
set_option linter.unusedSimpArgs false

theorem contract (H : Type) (enc : TypeId × Value → H) (W : World) (base : Nat) (args : Array Value) (ds gs : List (DataW H)) (before : List MemPlace)
    (hval : ∀ (j : Nat) t v, Tryd.f6.params[j]? = some t → args[j]? = some v → Value.okWide Tryd.prog W .any base t v)
    (hW : DataW.Whole enc Tryd.prog Tryd.f6.params.toList Rows.patchNothingSpec.vars false W args.toList ds gs before) (hk : Rows.uptoSmall H (ds ++ gs) = true) (hL : laidMetH Tryd.prog laidL W) :
    Calls Tryd.prog 6 args W fun e W' => ∃ v, e = .returned v ∧ Rows.patchNothingSpec.post enc Tryd.prog Tryd.f6 false true false false W args v W' := by
  have hW' := hW
  obtain ⟨p, q, hA0, hV, rfl, hfz, hnd⟩ := hW
  have hA : DataW.TrodAll enc Tryd.prog W 0 (fun _ => true) true Tryd.f6.params.toList args.toList ds p := hA0
  have hAk := hA
  rw [Tryd.params6] at hA hval
  obtain ⟨v0, vs0, d0, ds0, p0, q0, hargs, rfl, rfl, h0, r0⟩ := trodAll_cons hA
  obtain ⟨v1, vs1, d1, ds1, p1, q1, rfl, rfl, rfl, h1, r1⟩ := trodAll_cons r0
  obtain ⟨v2, vs2, d2, ds2, p2, q2, rfl, rfl, rfl, h2, r2⟩ := trodAll_cons r1
  obtain ⟨rfl, rfl, rfl⟩ := trodAll_nil r2
  obtain rfl : args = #[v0, v1, v2] := by apply Array.ext'; simpa using hargs
  obtain ⟨rfl, rfl⟩ := trodVars_none hV
  obtain ⟨x0, a0, b0, f0⟩ := open_arg (bulk H) tyF22 rfl (by kernel_rfl) (hval 0 22 v0 rfl rfl) h0
  obtain ⟨x1, a1, b1, f1⟩ := open_arg (bulk H) tyF3 rfl (by kernel_rfl) (hval 1 3 v1 rfl rfl) h1
  obtain ⟨x2, a2, b2, f2⟩ := open_arg (bulk H) tyF3 rfl (by kernel_rfl) (hval 2 3 v2 rfl rfl) h2
  clear hA0
  simp only [List.append_nil] at hW' hk
  have hlt : ∀ x ∈ (p0 ++ (p1 ++ (p2 ++ [])) : List MemPlace), x.block < W.heap.size := fun x hx => hW'.lt x (by simpa using hx)
  have hk' : Rows.uptoBulkAll [d0, d1, d2] ≤ 1048576 := of_decide_eq_true hk
  simp only [Rows.uptoBulkAll] at hk'
  have s0 := bulk_sl (t := .u8) rfl x0
  refine (law_callsT (tabs_row hL) (nothing6 (by omega) rfl) ⟨v0, _, rfl, a0, v1, _, rfl, a1, v2, _, rfl, a2, rfl⟩).mono fun e W' ⟨he, hb⟩ => ?_
  subst he
  exact ⟨_, rfl, post_below (ds := [d0, d1, d2]) (gs := []) (pa := p0 ++ (p1 ++ (p2 ++ []))) (pv := []) (by simpa using hW') hb (fun _ _ _ => (trodAll_cons_mk (shut_bool Tryd.underlying4 _) trodAll_mk0))
    (fun sp hsp => trodAll_below laidOut hb (by rw [Tryd.params6]; decide +kernel) hAk hlt (fun x hx => hsp x (by simpa using hx))) (fun _ _ => rfl) (by simp) (ok_one (by kernel_rfl) rfl (okWide_bool_mk Tryd.underlying4 _))⟩

set_option maxRecDepth 100000 in
theorem lifted (os : Os) (started : os.Started) (H : Type) (enc : TypeId × Value → H) (F : Stop.Interp) :
    ReturnsInHanded {} Tryd.checked os 6 .any ((Rows.OpenSpec.upto Rows.patchNothingSpec).preRow enc Tryd.prog Tryd.f6 Rows.patchNothingUptoRow.domain false laidL) (((Rows.OpenSpec.upto Rows.patchNothingSpec).at F).post enc Tryd.prog Tryd.f6 false true false false) := by
  refine returnsInHanded_of_row (C := Tryd.checked) (s := Rows.OpenSpec.upto Rows.patchNothingSpec) own started (by kernel_rfl) Tryd.func6
    ⟨World.laidAll Tryd.prog os laidL, fun _ _ => 0, ⟨#[], #[.slice none 0 0, .int .i64 0, .int .i64 0], []⟩, World.laidAll_os _ _ _, shaped_world os _, rfl, (Input.okWide_of_okWideB (base := 0) (by kernel_rfl)).2,
      ⟨⟨(OpenSpec.pre_some (k := Rows.uptoSmall) rfl _ false _ _).2 ⟨[.nil, .lit (.int .i64 0), .lit (.int .i64 0)], [], [], DataW.Whole_of_whole (x := ([.nil, .lit (.int .i64 0), .lit (.int .i64 0)], [], [])) (fuel := 8) (by kernel_rfl), rfl, by kernel_rfl⟩, laid_world os _⟩, sizedMet_of_sizedB (fuel := 8) (by kernel_rfl)⟩, by
      simp only [Assume.holds]
      exact ⟨by simp, by simp, fun _ => Modest.zero, by simp, by simp⟩⟩ ?_
  intro W base args ds gs before hval hW _ hk _ hL _ _
  exact contract H enc W base args ds gs before hval hW (hk _ rfl) hL

theorem row_holds : Rows.PatchNothingUptoSaid :=
  OpenClaim.holds_of_cond 6 Tryd.f6 rfl rfl rfl rfl rfl rfl rfl ⟨rfl, rfl, rfl, rfl, rfl⟩ rfl rfl rfl rfl rfl (by kernel_rfl) Tryd.func6 (by kernel_rfl)
    (of_decide_eq_true (by kernel_rfl)) (by unfold Func.isWrapper; first | (rw [if_pos (by decide +kernel)]; kernel_rfl) | (rw [if_neg (by decide +kernel)]; exact ⟨rfl, rfl⟩))
    (fun os started H enc _ F => by rw [OpenClaim.pre_eq_preRow]; exact lifted os started H enc F)

theorem proved : Rows.PatchNothingUptoCardSaid :=
  Claim7.holds_tied_plain_at .later [] [.data, .pinned] true (true, "c7e2667d07419a9b0ee83f387270b36115acc8ce3b4bce5fce528490fd431f9f") false
    row_holds (fun _ h => by cases h) (by kernel_rfl) (fun _ h => by cases h) patchNothingUpto_row_tie rfl ⟨rfl, rfl⟩ (by kernel_rfl) rfl
    (fun f fn hf hfn => by
      obtain rfl : f = 6 := Option.some.inj ((show Tryd.prog.funcNamed Rows.patchNothingUptoRow.func = some 6 by kernel_rfl).symm.trans hf) |>.symm
      obtain rfl : fn = Tryd.f6 := (Option.some.inj (Tryd.func6.symm.trans hfn)).symm
      refine ⟨by kernel_rfl, fun j t ht => ?_⟩
      rw [Tryd.params6] at ht
      exact no_stand (k := 6) (by kernel_rfl) j t ht)
    (by kernel_rfl)
end Go.Proofs.YtoncjokijkjliaaDoor.patchNothing
