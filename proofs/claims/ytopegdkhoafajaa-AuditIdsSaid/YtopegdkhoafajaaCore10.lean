/-
  From a contract to a row: a law that answers true, and leaves what was there as it was. Own work. Nothing here is trusted.
-/
import Derived.Test.YtopegdkhoafajaaCore9
import Derived.ProofKit
import Derived.OpenShut
import Derived.JoinedCond
namespace Go.Sv
open Go.ChangeShapes Go.WideShapes Go.ChangeAt Go.RowKit
set_option linter.unusedSimpArgs false
set_option linter.unusedVariables false

/-- All that is there is sealed. -/
def sealAll (w : World) : Seal := fun b => match w.heap[b]? with
  | some (.cells c _ _) => c.size
  | _ => 0
def noHp : Hp := fun _ => none

theorem inv_start (w : World) {T : List (Nat × List Value)} (hT : TabAt T w (sealAll w)) : Inv ⟨w.heap.size, T⟩ w (sealAll w) noHp := by
  refine ⟨Nat.le_refl _, fun b hb => ⟨?_, rfl⟩, fun b o h => by simp [noHp] at h, hT⟩
  unfold sealAll
  rw [Array.getElem?_eq_none hb]

theorem law_callsT {P : Program} {f : FuncId} {xs : List AVal} {W : World} {args : Array Value} {T : List (Nat × List Value)} (hT : TabAt T W (sealAll W)) (h : FnC P ⟨W.heap.size, T⟩ f xs noHp (fun x _ => x = .bool true)) (ha : RepL W (sealAll W) xs args.toList) :
    Calls P f args W fun e W' => e = .returned (.bool true) ∧ Below W.heap.size W W' := by
  refine (h.2 W (sealAll W) args (inv_start W hT) ha).mono ?_
  rintro e w' ⟨v, x, S', H', rfl, k1, k2, k3, rfl⟩
  simp only [Rep] at k3
  subst k3
  exact ⟨rfl, k1.below⟩
/-- Where no tables are asked for. -/
theorem law_calls {P : Program} {f : FuncId} {xs : List AVal} {W : World} {args : Array Value} (h : FnC P ⟨W.heap.size, []⟩ f xs noHp (fun x _ => x = .bool true)) (ha : RepL W (sealAll W) xs args.toList) :
    Calls P f args W fun e W' => e = .returned (.bool true) ∧ Below W.heap.size W W' := law_callsT (fun q hq => by simp at hq) h ha

section
variable {H : Type} {enc : TypeId × Value → H} {P : Program}
/-- What a row asks behind the call, where nothing that was there has turned. -/
theorem post_below {f : Func} {s : ChangeSpec} {apart fresh handsOn again : Bool} {W W' : World} {args : Array Value} {v : Value} {ds gs : List (DataW H)} {before pa pv : List MemPlace}
    (hW : DataW.Whole enc P f.params.toList s.vars apart W args.toList ds gs before) (hb : Below W.heap.size W W')
    (hres : ∀ (b : Nat) (sp : Nat → Bool) (hd : Bool), DataW.TrodAll enc P W' b sp hd f.resultTypes.toList (v.resultList f.resultTypes.size) (s.fn H (ds ++ gs)).results [])
    (hargs : ∀ sp : Nat → Bool, (∀ p ∈ before, sp p.block = true) → DataW.TrodAll enc P W' 0 sp true f.params.toList args.toList (s.fn H (ds ++ gs)).args pa)
    (hvars : ∀ sp : Nat → Bool, (∀ p ∈ before, sp p.block = true) → DataW.TrodVars enc P W' sp s.vars (s.fn H (ds ++ gs)).vars pv)
    (hps : before = pa ++ pv)
    (hok : ∀ (j : Nat) (t : TypeId) (r : Value), f.resultTypes[j]? = some t → (v.resultList f.resultTypes.size)[j]? = some r → Value.okWide P W' .any 0 t r) :
    s.post enc P f apart fresh handsOn again W args v W' := by
  have hlt := fun p hp => hW.lt p hp
  refine ⟨ds, gs, before, [], pa, pv, hW, hres _ _ _, hargs _ (fun p hp => by simpa using hlt p hp), hvars _ (fun p hp => by simpa using hlt p hp), World.keptBut_mono (fun p hp => ⟨hp, ?_⟩) (hb.frame (· ∈ before)), fun _ => ?_⟩
  · rw [hps] at hp
    exact .inr (List.mem_append.1 hp)
  · obtain ⟨_, _, _, _, _, hz, hn⟩ := hW
    refine ⟨hok, _, _, ([] ++ pa) ++ pv, ⟨[] ++ pa, pv, trodAll_append (hargs _ (fun _ _ => rfl)) (hres _ _ _), hvars _ (fun _ _ => rfl), rfl, fun b off hp => ?_, fun ha => ?_⟩, fun p hp _ => ?_⟩
    · have hp' : MemPlace.cell b off ∈ before := by rw [hps]; simpa using hp
      rw [hb.frozen (hlt _ hp')]
      exact hz b off hp'
    · simpa [hps] using hn ha
    · rw [hps]; simpa using hp
end

end Go.Sv
