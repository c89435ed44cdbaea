/-
  Regions whose order is open but for their last two operations. Own work. Nothing here is trusted.
-/
import Derived.Test.YtopegdkhoafajaaCore18
namespace Go.Sv
set_option linter.unusedSimpArgs false
set_option linter.unusedVariables false

theorem lastOk_guard {ops : Array Oper} {ol : Oper} (hok : lastOk ops = true) (hol : ops[ops.size - 1]? = some ol) : ol.guard = none := by
  unfold lastOk at hok
  rw [hol] at hok
  simp only [Bool.and_eq_true] at hok
  simpa using hok.1.1.1
theorem last_size {ops : Array Oper} {ol : Oper} (hol : ops[ops.size - 1]? = some ol) : 0 < ops.size := by
  rcases Nat.eq_zero_or_pos ops.size with h | h
  · rw [Array.getElem?_eq_none (by omega)] at hol; simp at hol
  · exact h
theorem rep_push {ops : Array Oper} (h : 0 < ops.size) : (Array.replicate ops.size false) = (Array.replicate ops.pop.size false).push false := by
  rw [Array.size_pop]
  conv => lhs; rw [show ops.size = (ops.size - 1) + 1 by omega]
  rw [Array.replicate_succ]

/-- All but the last two in any order; then these. -/
theorem tr_drawl2 {P : Program} {B0 : Base} {n : Nat} {ops : Array Oper} {σ : Env} {H : Hp} {id : Nat} {Q : Exit → Env → Hp → Prop} {o1 o2 : Oper} (hm : P.follows .mixedOrders = true) (hd : drawOk ops.pop.pop = true) (hok : lastOk ops = true) (hok1 : lastOk ops.pop = true) (hol : ops[ops.size - 1]? = some o2) (hol1 : ops.pop[ops.pop.size - 1]? = some o1)
    (he : ∀ e ∈ o1.after, e.on < ops.pop.size - 1)
    (h : wopsD P B0 n ops.pop.pop ops.pop.pop.toList σ H fun σ' H' => @wop P B0 o1 σ' H' ⟨fun v H'' => @bindO n o1.dst v σ' ⟨fun σ'' => @wop P B0 o2 σ'' H'' ⟨fun v2 H3 => @bindO n o2.dst v2 σ'' ⟨fun σ3 => Q .normal σ3 H3⟩⟩⟩⟩) : Tr P B0 n (.region id ops true) σ H Q := by
  unfold Tr
  intro w S a hs
  obtain ⟨xs, ht, hq⟩ := told_of h
  have hsz := last_size hol
  have hsz1 := last_size hol1
  have hσ : ∀ t v, σ.get t = some v → t < n := fun t v h => by have := (hs.env t v h).1; rw [hs.size] at this; exact this
  have hg2 := lastOk_guard hok hol
  have hg1 := lastOk_guard hok1 hol1
  refine wp_region_any hm ?_
  rw [rep_push hsz]
  have hps : ops.pop.size = ops.size - 1 := Array.size_pop
  have hf : ops.size = ops.pop.size + 1 := by omega
  rw [hf]
  have hedge : ∀ (j : Nat) (o : Oper), ops.pop[j]? = some o → ∀ e ∈ o.after, Region.binds .any e = true → e.on < j := by
    intro j o hj e hem hbe
    rcases Nat.lt_or_ge j (ops.pop.size - 1) with h' | h'
    · exact (drawOk_spec hd (j := j) (o := o) (by rw [pop_get h']; exact hj)).1 e hem hbe
    · have hjs : j < ops.pop.size := by
        rcases Nat.lt_or_ge j ops.pop.size with h2 | h2
        · exact h2
        · rw [Array.getElem?_eq_none h2] at hj; simp at hj
      obtain rfl : j = ops.pop.size - 1 := by omega
      rw [hol1] at hj; cases hj
      exact he e hem
  refine wpAny_last hok (fun j o hj e he hb => hedge j o hj e he hb) _ _ a _ (by simp) (fun i o ho hl => (no_false hl).elim) ?_
  rw [rep_push hsz1]
  have hps1 : ops.pop.pop.size = ops.pop.size - 1 := Array.size_pop
  have hf1 : ops.pop.size = ops.pop.pop.size + 1 := by omega
  rw [hf1]
  refine wpAny_last hok1 (fun j o hj e he hb => (drawOk_spec hd hj).1 e he hb) _ _ a _ (by simp) (fun i o ho hl => (no_false hl).elim) ?_
  refine taken_all (S0 := S) (w0 := w) hd ht hσ ?_ ops.pop.pop.size _ a _ ?_ ?_
  · intro listed a' w' hT hall
    obtain ⟨S', e, hi, hval⟩ := hT.st
    have henv : EnvAt w' S' (xs.reverse ++ σ) a'.tmps := by
      intro t v hg
      have hv : Val xs σ listed t v := by
        rcases get_append hg with h' | ⟨h1, h2⟩
        · rw [List.mem_reverse, List.mem_iff_getElem] at h'
          obtain ⟨i, hi', he⟩ := h'
          refine .inl ⟨i, by rw [List.getElem?_eq_getElem hi', he], hall i ?_⟩
          have := (told_get ht).1
          simp at this
          omega
        · refine .inr ⟨fun i x hx => ?_, h2⟩
          exact absurd (List.mem_reverse.2 (List.mem_of_getElem? hx)) (h1 x)
      obtain ⟨h1, h2⟩ := hval t v hv
      exact ⟨by rw [hT.tmps]; exact h1, h2⟩
    have hst : St B0 n w' S' H (xs.reverse ++ σ) a' := ⟨hi, henv, hT.tmps, hT.defers⟩
    show wpOp P ops.pop _ (ops.pop.size - 1) _ a' w'
    unfold wpOp
    rw [hol1]
    simp only
    rw [if_pos (by simp [Region.wanted, hg1])]
    refine .inl (Oper.wp_mono ?_ (wop_sound hq hi henv))
    rintro a2 w2 ⟨v, y, S2, H2, rfl, e2, hi2, hrep2, hk⟩
    obtain ⟨σ2, hs2, hq2⟩ := hst.put e2 hi2 hrep2 hk
    show wpOp P ops _ (ops.size - 1) _ _ w2
    unfold wpOp
    rw [hol]
    simp only
    rw [if_pos (by simp [Region.wanted, hg2])]
    refine .inl (Oper.wp_mono ?_ (wop_sound hq2 hi2 hs2.env))
    rintro a3 w3 ⟨v3, y3, S3, H3, rfl, e3, hi3, hrep3, hk3⟩
    obtain ⟨σ3, hs3, hq3⟩ := hs2.put e3 hi3 hrep3 hk3
    exact ⟨S3, σ3, H3, (e.trans e2).trans e3, hs3, hq3⟩
  · simp
  · refine ⟨fun i o ho hl => (no_false hl).elim, by simp, ⟨S, Ext.drew _ _ _, ⟨hs.inv.base, hs.inv.top, fun b o hb => ?_, hs.inv.tab.ext (Ext.drew B0 S w)⟩, fun t v hv => ?_⟩, hs.size, hs.defers⟩
    · obtain ⟨k1, k2⟩ := hs.inv.obj b o hb
      exact ⟨k1, k2.keep (Ext.drew B0 S w) rfl rfl⟩
    · rcases hv with ⟨i, hi, hl⟩ | ⟨_, h2⟩
      · exact (no_false hl).elim
      · obtain ⟨k1, k2⟩ := hs.env t v h2
        exact ⟨hσ t v h2, k2.ext (Ext.drew B0 S w)⟩

class TL2 : Type where
  run : List Oper → Oper → Oper → Prop
def splitLast2 : List Oper → List Oper → [TL2] → Prop
  | _, [], _ => False
  | _, [_], _ => False
  | acc, [o, p], k => k.run acc o p
  | acc, o :: p :: q :: r, k => @splitLast2 (acc ++ [o]) (p :: q :: r) k
theorem splitLast2_spec {k : TL2} : ∀ {l acc : List Oper}, @splitLast2 acc l k → ∃ l' o p, l = l' ++ [o, p] ∧ k.run (acc ++ l') o p
  | [], _, h => by simp only [splitLast2] at h
  | [o], acc, h => by simp only [splitLast2] at h
  | [o, p], acc, h => by simp only [splitLast2] at h; exact ⟨[], o, p, rfl, by simpa using h⟩
  | o :: p :: q :: r, acc, h => by
    simp only [splitLast2] at h
    obtain ⟨l', a, b, h1, h2⟩ := splitLast2_spec h
    refine ⟨o :: l', a, b, by rw [h1]; rfl, ?_⟩
    rw [List.append_assoc] at h2
    exact h2
theorem splitLast2_ops {k : TL2} {ops : Array Oper} (h : @splitLast2 [] ops.toList k) : ∃ o p, ops[ops.size - 1]? = some p ∧ ops.pop[ops.pop.size - 1]? = some o ∧ k.run ops.pop.pop.toList o p := by
  obtain ⟨l', o, p, h1, h2⟩ := splitLast2_spec h
  have e : ops = (l' ++ [o, p]).toArray := by rw [← h1]
  have e2 : ops.pop = (l' ++ [o]).toArray := by
    rw [e]
    apply Array.ext'
    simp
  have e3 : ops.pop.pop = l'.toArray := by
    rw [e2]
    apply Array.ext'
    simp
  refine ⟨o, p, ?_, ?_, ?_⟩
  · rw [e]; simp
  · rw [e2]; simp
  · rw [e3]; simpa using h2
def edgesOk (ops : Array Oper) : Bool := match ops[ops.size - 1]? with
  | some o => o.after.all fun e => decide (e.on < ops.size - 1)
  | none => false
theorem edgesOk_spec {ops : Array Oper} {o : Oper} (h : edgesOk ops = true) (ho : ops[ops.size - 1]? = some o) : ∀ e ∈ o.after, e.on < ops.size - 1 := by
  unfold edgesOk at h
  rw [ho] at h
  simp only [Array.all_eq_true, decide_eq_true_eq] at h
  intro e he
  obtain ⟨k, hk, rfl⟩ := Array.getElem_of_mem he
  exact h k hk
theorem tr_drawl2s (nv : Nat) {P : Program} {B0 : Base} {n : Nat} {ops : Array Oper} {σ : Env} {H : Hp} {id : Nat} {y : Code} {Q : Exit → Env → Hp → Prop} (hm : P.follows .mixedOrders = true) (hd : drawOk ops.pop.pop = true) (hok : lastOk ops = true) (hok1 : lastOk ops.pop = true) (he : edgesOk ops.pop = true)
    (h : ∀ K : Env → Hp → Prop, KW K (fun σ' H' => Tr P B0 n y σ' H' Q) → @splitLast2 [] ops.toList ⟨fun init o1 o2 => wopsD P B0 n init.toArray init σ H fun σ' H' => @wop P B0 o1 σ' H' ⟨fun v H'' => @bindO n o1.dst v σ' ⟨fun σ'' => @wop P B0 o2 σ'' H'' ⟨fun v2 H3 => @bindO n o2.dst v2 σ'' ⟨fun σ3 => Kont K (σ3.keep nv) H3⟩⟩⟩⟩⟩) : Tr P B0 n (.seq (.region id ops true) y) σ H Q := by
  have h' := h (fun σ' H' => Tr P B0 n y σ' H' Q) (by unfold KW; exact fun _ _ h => h)
  obtain ⟨o1, o2, h2, h1, hk⟩ := splitLast2_ops h'
  have e : ops.pop.pop.toList.toArray = ops.pop.pop := Array.toArray_toList
  have ht : Tr P B0 n (.region id ops true) σ H (onlyN fun σ'' H'' => Kont (fun σ' H' => Tr P B0 n y σ' H' Q) (σ''.keep nv) H'') := tr_drawl2 hm hd hok hok1 h2 h1 (edgesOk_spec he h1) (by rw [← e]; exact hk)
  refine tr_seq (tr_weaken ht ?_)
  rintro w S e a' w' ⟨S', σ', H', hx, hs', hq⟩
  cases e with
  | normal =>
    refine ⟨S', σ', H', hx, hs', ?_⟩
    have hk : Tr P B0 n y (σ'.keep nv) H' Q := by unfold onlyN Kont at hq; exact hq
    exact tr_forget (fun t v ht => keep_get ht) (Hp.Le.refl _) hk
  | _ => exact hq.elim
theorem tr_drawl2e (nv : Nat) {P : Program} {B0 : Base} {n : Nat} {ops : Array Oper} {σ : Env} {H : Hp} {id : Nat} {Q : Exit → Env → Hp → Prop} (hm : P.follows .mixedOrders = true) (hd : drawOk ops.pop.pop = true) (hok : lastOk ops = true) (hok1 : lastOk ops.pop = true) (he : edgesOk ops.pop = true)
    (h : ∀ K : Env → Hp → Prop, KW K (Q .normal) → @splitLast2 [] ops.toList ⟨fun init o1 o2 => wopsD P B0 n init.toArray init σ H fun σ' H' => @wop P B0 o1 σ' H' ⟨fun v H'' => @bindO n o1.dst v σ' ⟨fun σ'' => @wop P B0 o2 σ'' H'' ⟨fun v2 H3 => @bindO n o2.dst v2 σ'' ⟨fun σ3 => Kont K (σ3.keep nv) H3⟩⟩⟩⟩⟩) : Tr P B0 n (.region id ops true) σ H Q := by
  have h' := h (Q .normal) (by unfold KW; exact fun _ _ h => h)
  obtain ⟨o1, o2, h2, h1, hk⟩ := splitLast2_ops h'
  have e : ops.pop.pop.toList.toArray = ops.pop.pop := Array.toArray_toList
  have ht : Tr P B0 n (.region id ops true) σ H (onlyN fun σ'' H'' => Kont (Q .normal) (σ''.keep nv) H'') := tr_drawl2 hm hd hok hok1 h2 h1 (edgesOk_spec he h1) (by rw [← e]; exact hk)
  refine tr_weaken ht ?_
  rintro w S e a' w' ⟨S', σ', H', hx, hs', hq⟩
  cases e with
  | normal => exact ⟨S', _, H', hx, ⟨hs'.inv, fun t v ht => hs'.env t v (keep_get ht), hs'.size, hs'.defers⟩, by unfold onlyN Kont at hq; exact hq⟩
  | _ => exact hq.elim
end Go.Sv
