/-
  Regions whose order is open but for their last operation; results that lie in memory. Own work. Nothing here is trusted.
-/
import Derived.Test.YtopegdkhoafajaaCore17
namespace Go.Sv
set_option linter.unusedSimpArgs false
set_option linter.unusedVariables false

/-! ### the last operation comes last -/
def edgeB (ops : Array Oper) (j i : Nat) : Bool := match ops[j]? with
  | some o => o.after.any fun e => e.on == i && Region.binds .any e
  | none => false
/-- The operation m waits for i, directly or through others. -/
def covB (ops : Array Oper) (m : Nat) : Nat → Nat → Bool
  | 0, _ => false
  | f + 1, i => (List.range ops.size).any fun j => edgeB ops j i && (j == m || covB ops m f j)
def lastOk (ops : Array Oper) : Bool :=
  match ops[ops.size - 1]? with
  | some o => o.guard.isNone && o.after.all (fun e => decide (e.on < ops.size - 1)) && ((List.range (ops.size - 1)).all fun i => covB ops (ops.size - 1) ops.size i) && (List.range (ops.size - 1)).all fun i => match ops[i]? with
    | some q => match q.guard with
      | some (g, _) => decide (g < ops.size - 1)
      | none => true
    | none => true
  | none => false

section
variable {P : Program} {ops : Array Oper} {Q : Exit → Act → World → Prop}

/-- What must hold where all but the last are done. -/
def lastQ (P : Program) (ops : Array Oper) (Q : Exit → Act → World → Prop) : Exit → Act → World → Prop
  | .normal, a, w => wpOp P ops Q (ops.size - 1) (fun a w => Q .normal a w) a w
  | e, a, w => Q e a w

theorem wp_lastQ {o : Oper} {a : Act} {w : World} {K : Act → World → Prop} (hh : o.wp P a w K (lastQ P ops Q)) : o.wp P a w K Q := by
  unfold Oper.wp at *
  generalize (execOp a.eval o).run P w = r at *
  cases r with
  | ok n w' =>
    cases n <;> simp only [Oper.upon] at hh ⊢ <;>
      first
        | exact hh
        | exact Calls.mono hh (fun e w'' he => by cases e <;> exact he)
        | exact Rows.mono hh (fun _ _ he => he)
  | halt x w' => cases x <;> simp only [Oper.upon] at hh ⊢ <;> exact hh

def Down (ops : Array Oper) (listed : Array Bool) : Prop := ∀ (i : Nat) (o : Oper), ops[i]? = some o → listed.getD i false = true → ∀ e ∈ o.after, Region.binds .any e = true → listed.getD e.on false = true

theorem cov_listed {listed : Array Bool} {m : Nat} {om : Oper} (hm : ops[m]? = some om) (hd : Down ops listed) (hr : ∀ e ∈ om.after, Region.binds .any e = true → listed.getD e.on false = true) : ∀ (f i : Nat), covB ops m f i = true → listed.getD i false = true
  | 0, i, h => by simp [covB] at h
  | f + 1, i, h => by
    simp only [covB, List.any_eq_true, Bool.and_eq_true, Bool.or_eq_true, beq_iff_eq] at h
    obtain ⟨j, _, he, hj⟩ := h
    unfold edgeB at he
    cases hoj : ops[j]? with
    | none => rw [hoj] at he; simp at he
    | some o =>
      rw [hoj] at he
      simp only [Array.any_eq_true] at he
      obtain ⟨k, hk, he⟩ := he
      rw [Bool.and_eq_true, beq_iff_eq] at he
      have hmem : o.after[k] ∈ o.after := Array.getElem_mem hk
      rcases hj with rfl | hj
      · rw [hm] at hoj; cases hoj
        rw [← he.1]; exact hr _ hmem he.2
      · rw [← he.1]; exact hd j o hoj (cov_listed hm hd hr f j hj) _ hmem he.2

theorem pop_get {i : Nat} (hi : i < ops.size - 1) : ops.pop[i]? = ops[i]? := by
  rw [Array.getElem?_pop]; rw [if_pos hi]

theorem getD_push {l : Array Bool} {i : Nat} : (l.push false).getD i false = l.getD i false := by
  rw [Array.getD_eq_getD_getElem?, Array.getD_eq_getD_getElem?, Array.getElem?_push]
  split
  · rename_i h; subst h; rw [Array.getElem?_eq_none (Nat.le_refl _)]; rfl
  · rfl

theorem ready_push {l : Array Bool} (hl : l.size = ops.size - 1) {i : Nat} (hi : i ∈ Region.ready .any ops (l.push false)) (hne : i ≠ ops.size - 1) : i ∈ Region.ready .any ops.pop l := by
  obtain ⟨o, ho, h1, h2, h3⟩ := ready_spec hi
  have him : i < ops.size - 1 := by omega
  unfold Region.ready at hi ⊢
  simp only [List.mem_filter, List.mem_range, Bool.and_eq_true, Bool.not_eq_true'] at hi ⊢
  obtain ⟨_, h5, h6⟩ := hi
  refine ⟨by simpa using him, ?_, ?_⟩
  · have := (getD_push (l := l) (i := i))
    simp only [Array.getD_eq_getD_getElem?] at this h5 ⊢
    have hil : i < l.size := by omega
    simp only [Array.getElem?_push, if_neg (show i ≠ l.size by omega)] at h5
    simpa using h5
  · rw [pop_get him, ho]
    rw [ho] at h6
    simp only [Option.map_some, Option.getD_some, Array.all_eq_true] at h6 ⊢
    intro k hk
    have := h6 k hk
    rw [getD_push] at this
    exact this

theorem yielded_pop {tmps : Array Value} {g : Nat} (h : g < ops.size - 1) : yielded ops.pop tmps g = yielded ops tmps g := by
  unfold yielded
  rw [pop_get h]

/-- What is not done yet, and waits for earlier ones alone, comes up. -/
theorem ready_nil {ops : Array Oper} (he : ∀ (j : Nat) (o : Oper), ops[j]? = some o → ∀ e ∈ o.after, Region.binds .any e = true → e.on < j) {l : Array Bool} (hl : l.size = ops.size) (hr : Region.ready .any ops l = []) : ∀ i, i < ops.size → l.getD i false = true := by
  have : ∀ k i, i < k → i < ops.size → l.getD i false = true := by
    intro k
    induction k with
    | zero => intro i h; omega
    | succ k ih =>
      intro i hik hi
      cases hli : l.getD i false with
      | true => rfl
      | false =>
        exfalso
        have hmem : i ∈ Region.ready .any ops l := by
          unfold Region.ready
          simp only [List.mem_filter, List.mem_range, Bool.and_eq_true, Bool.not_eq_true']
          have his : i < l.size := by rw [hl]; exact hi
          refine ⟨hi, ?_, ?_⟩
          · simp only [Array.getD_eq_getD_getElem?, Array.getElem?_eq_getElem his, Option.getD_some] at hli ⊢
            exact hli
          · rw [Array.getElem?_eq_getElem hi]
            simp only [Option.map_some, Option.getD_some, Array.all_eq_true]
            intro k' hk'
            cases hb : Region.binds .any ops[i].after[k'] with
            | false => simp
            | true =>
              have hlt := he i ops[i] (Array.getElem?_eq_getElem hi) _ (Array.getElem_mem hk') hb
              have hih := ih (ops[i].after[k'].on) (by omega) (by omega)
              rw [hih]
              simp
        rw [hr] at hmem
        simp at hmem
  exact fun i hi => this (i + 1) i (by omega) hi
theorem all_ready_nil {l : Array Bool} (hl : l.size = ops.size) (hall : ∀ i, i < ops.size → l.getD i false = true) : Region.ready .any ops l = [] := by
  rw [List.eq_nil_iff_forall_not_mem]
  intro i hi
  obtain ⟨o, ho, h1, h2, h3⟩ := ready_spec hi
  have hf := getD_true_false (by rw [hl]; exact h1) h2
  rw [hall i h1] at hf
  simp at hf
theorem wpAny_done {l : Array Bool} {a : Act} {w : World} (hr : Region.ready .any ops l = []) (hq : Q .normal a w) : ∀ fuel, wpAny P .any ops Q fuel l a w
  | 0 => ⟨hr, hq⟩
  | fuel + 1 => ⟨fun _ => hq, fun i hi => by rw [hr] at hi; simp at hi⟩

theorem wpOp_pop {i : Nat} (hi : i < ops.size - 1) (hg : ∀ (q : Oper), ops[i]? = some q → ∀ g b, q.guard = some (g, b) → g < ops.size - 1) {a : Act} {w : World} {K : Act → World → Prop} (h : wpOp P ops.pop (lastQ P ops Q) i K a w) : wpOp P ops Q i K a w := by
  unfold wpOp at h ⊢
  rw [pop_get hi] at h
  split
  · rename_i hn; rw [hn] at h; exact h
  · rename_i o ho
    rw [ho] at h
    simp only at h
    have hw : Region.wanted o (yielded ops.pop a.tmps) = Region.wanted o (yielded ops a.tmps) := by
      unfold Region.wanted
      cases hgo : o.guard with
      | none => rfl
      | some p =>
        obtain ⟨g, b⟩ := p
        simp only
        rw [yielded_pop (hg o ho g b hgo)]
    rw [hw] at h
    split
    · rename_i hwt
      rw [if_pos hwt] at h
      exact h.imp wp_lastQ id
    · rename_i hwt
      rw [if_neg hwt] at h
      exact h

theorem wpAny_last (hok : lastOk ops = true) (hpop : ∀ (j : Nat) (o : Oper), ops.pop[j]? = some o → ∀ e ∈ o.after, Region.binds .any e = true → e.on < j) : ∀ (fuel : Nat) (l : Array Bool) (a : Act) (w : World), l.size = ops.size - 1 → Down ops l → wpAny P .any ops.pop (lastQ P ops Q) fuel l a w → wpAny P .any ops Q (fuel + 1) (l.push false) a w := by
  unfold lastOk at hok
  cases hm : ops[ops.size - 1]? with
  | none => rw [hm] at hok; simp at hok
  | some om =>
  rw [hm] at hok
  simp only [Bool.and_eq_true, List.all_eq_true, List.mem_range] at hok
  obtain ⟨⟨⟨hg, haf⟩, hcov⟩, hgu⟩ := hok
  have hsz : 0 < ops.size := by
    rcases Nat.eq_zero_or_pos ops.size with h | h
    · rw [Array.getElem?_eq_none (by omega)] at hm; simp at hm
    · exact h
  have hpopsz : ops.pop.size = ops.size - 1 := Array.size_pop
  have hedge : ∀ (j : Nat) (o : Oper), ops[j]? = some o → ∀ e ∈ o.after, Region.binds .any e = true → e.on < j := by
    intro j o hj e he hb
    rcases Nat.lt_or_ge j (ops.size - 1) with h | h
    · exact hpop j o (by rw [pop_get h]; exact hj) e he hb
    · have hjs : j < ops.size := by
        rcases Nat.lt_or_ge j ops.size with h' | h'
        · exact h'
        · rw [Array.getElem?_eq_none h'] at hj; simp at hj
      obtain rfl : j = ops.size - 1 := by omega
      rw [hm] at hj; cases hj
      simp only [Array.all_eq_true, decide_eq_true_eq] at haf
      obtain ⟨k, hk, rfl⟩ := Array.getElem_of_mem he
      exact haf k hk
  have hgu' : ∀ i, i < ops.size - 1 → ∀ (q : Oper), ops[i]? = some q → ∀ g b, q.guard = some (g, b) → g < ops.size - 1 := by
    intro i hi q hq g b hgb
    have := hgu i hi
    rw [hq] at this
    simp only [hgb, decide_eq_true_eq] at this
    exact this
  have notdone : ∀ (l : Array Bool), l.size = ops.size - 1 → Region.ready .any ops (l.push false) ≠ [] := by
    intro l hl hr
    have := ready_nil hedge (by rw [Array.size_push]; omega) hr (ops.size - 1) (by omega)
    rw [getD_push, Array.getD_eq_getD_getElem?, Array.getElem?_eq_none (by omega)] at this
    simp at this
  -- the last one
  have last : ∀ (fuel : Nat) (l : Array Bool) (a : Act) (w : World), l.size = ops.size - 1 → (∀ i, i < ops.size - 1 → l.getD i false = true) → lastQ P ops Q .normal a w → wpOp P ops Q (ops.size - 1) (wpAny P .any ops Q fuel ((l.push false).setIfInBounds (ops.size - 1) true)) a w := by
    intro fuel l a w hl hall hq
    refine wpOp_mono (fun a' w' h => ?_) hq
    refine wpAny_done (all_ready_nil (by simp; omega) fun i hi => ?_) h fuel
    rw [getD_set (by rw [Array.size_push]; omega)]
    split
    · rfl
    · rw [getD_push]; exact hall i (by omega)
  have alll : ∀ (l : Array Bool), l.size = ops.size - 1 → Down ops l → ops.size - 1 ∈ Region.ready .any ops (l.push false) → ∀ i, i < ops.size - 1 → l.getD i false = true := by
    intro l hl hd hi i hil
    obtain ⟨o, ho, h1, h2, h3⟩ := ready_spec hi
    rw [hm] at ho; cases ho
    exact cov_listed hm hd (fun e he hb => by have := h3 e he hb; rwa [getD_push] at this) _ _ (hcov i hil)
  intro fuel
  induction fuel with
  | zero =>
    intro l a w hl hd h
    refine ⟨fun hr => absurd hr (notdone l hl), fun i hi => ?_⟩
    obtain ⟨h1, h2⟩ := h
    have hall := ready_nil hpop (by rw [hl, hpopsz]) h1
    rw [hpopsz] at hall
    by_cases him : i = ops.size - 1
    · subst him
      exact last 0 l a w hl hall h2
    · have := ready_push hl hi him
      rw [h1] at this
      simp at this
  | succ fuel ih =>
    intro l a w hl hd h
    refine ⟨fun hr => absurd hr (notdone l hl), fun i hi => ?_⟩
    obtain ⟨h1, h2⟩ := h
    by_cases him : i = ops.size - 1
    · subst him
      have hall := alll l hl hd hi
      exact last (fuel + 1) l a w hl hall (h1 (all_ready_nil (by rw [hl, hpopsz]) (by rw [hpopsz]; exact hall)))
    · have hr := ready_push hl hi him
      have hil : i < ops.size - 1 := by
        obtain ⟨o, ho, h1, _⟩ := ready_spec hi
        omega
      have := h2 i hr
      have e : (l.push false).setIfInBounds i true = (l.setIfInBounds i true).push false := by
        apply Array.ext_getElem?
        intro j
        simp only [Array.getElem?_setIfInBounds, Array.getElem?_push, Array.size_push, Array.size_setIfInBounds]
        by_cases hij : i = j
        · subst hij
          rw [if_pos rfl, if_pos (by omega), if_neg (by omega), if_pos rfl, if_pos (by omega)]
        · rw [if_neg hij]
          split <;> rfl
      rw [e]
      refine wpOp_pop hil (hgu' i hil) (wpOp_mono (fun a' w' h' => ih _ a' w' (by simpa using hl) ?_ h') this)
      intro j o ho hlj e' he hb
      have hjs : i < l.size := by omega
      rw [getD_set hjs] at hlj ⊢
      split
      · rfl
      · split at hlj
        · rename_i hij
          subst hij
          obtain ⟨o', ho', _, _, h3⟩ := ready_spec hi
          rw [ho] at ho'; cases ho'
          have := h3 e' he hb
          rwa [getD_push] at this
        · exact hd j o ho hlj e' he hb
end

/-- A region whose order is open; the last operation, which waits for all others, may do what it likes. -/
theorem tr_drawl {P : Program} {B0 : Base} {n : Nat} {ops : Array Oper} {σ : Env} {H : Hp} {id : Nat} {Q : Exit → Env → Hp → Prop} {ol : Oper} (hm : P.follows .mixedOrders = true) (hd : drawOk ops.pop = true) (hok : lastOk ops = true) (hol : ops[ops.size - 1]? = some ol)
    (h : wopsD P B0 n ops.pop ops.pop.toList σ H fun σ' H' => @wop P B0 ol σ' H' ⟨fun v H'' => @bindO n ol.dst v σ' ⟨fun σ'' => Q .normal σ'' H''⟩⟩) : Tr P B0 n (.region id ops true) σ H Q := by
  unfold Tr
  intro w S a hs
  obtain ⟨xs, ht, hq⟩ := told_of h
  have hsz : 0 < ops.size := by
    rcases Nat.eq_zero_or_pos ops.size with h | h
    · rw [Array.getElem?_eq_none (by omega)] at hol; simp at hol
    · exact h
  have hpopsz : ops.pop.size = ops.size - 1 := Array.size_pop
  have hσ : ∀ t v, σ.get t = some v → t < n := fun t v h => by have := (hs.env t v h).1; rw [hs.size] at this; exact this
  have hgl : ol.guard = none := by
    unfold lastOk at hok
    rw [hol] at hok
    simp only [Bool.and_eq_true] at hok
    simpa using hok.1.1.1
  refine wp_region_any hm ?_
  have hrep : (Array.replicate ops.size false) = (Array.replicate ops.pop.size false).push false := by
    rw [hpopsz]
    conv => lhs; rw [show ops.size = (ops.size - 1) + 1 by omega]
    rw [Array.replicate_succ]
  rw [hrep]
  have hf : ops.size = ops.pop.size + 1 := by omega
  rw [hf]
  refine wpAny_last hok (fun j o hj e he hb => (drawOk_spec hd hj).1 e he hb) _ _ a _ (by simp) (fun i o ho hl => (no_false hl).elim) ?_
  refine taken_all (S0 := S) (w0 := w) hd ht hσ ?_ ops.pop.size _ a _ ?_ ?_
  · intro listed a' w' hT hall
    obtain ⟨S', e, hi, hval⟩ := hT.st
    have henv : EnvAt w' S' (xs.reverse ++ σ) a'.tmps := by
      intro t v hg
      have hv : Val xs σ listed t v := by
        rcases get_append hg with h' | ⟨h1, h2⟩
        · rw [List.mem_reverse, List.mem_iff_getElem] at h'
          obtain ⟨i, hi', he⟩ := h'
          refine .inl ⟨i, by rw [List.getElem?_eq_getElem hi', he], hall i ?_⟩
          have := (told_get ht).1
          simp at this
          omega
        · refine .inr ⟨fun i x hx => ?_, h2⟩
          exact absurd (List.mem_reverse.2 (List.mem_of_getElem? hx)) (h1 x)
      obtain ⟨h1, h2⟩ := hval t v hv
      exact ⟨by rw [hT.tmps]; exact h1, h2⟩
    have hst : St B0 n w' S' H (xs.reverse ++ σ) a' := ⟨hi, henv, hT.tmps, hT.defers⟩
    show wpOp P ops _ (ops.size - 1) _ a' w'
    unfold wpOp
    rw [hol]
    simp only
    rw [if_pos (by simp [Region.wanted, hgl])]
    refine .inl (Oper.wp_mono ?_ (wop_sound hq hi henv))
    rintro a2 w2 ⟨v, y, S2, H2, rfl, e2, hi2, hrep2, hk⟩
    obtain ⟨σ2, hs2, hq2⟩ := hst.put e2 hi2 hrep2 hk
    exact ⟨S2, σ2, H2, e.trans e2, hs2, hq2⟩
  · simp
  · refine ⟨fun i o ho hl => (no_false hl).elim, by simp, ⟨S, Ext.drew _ _ _, ⟨hs.inv.base, hs.inv.top, fun b o hb => ?_, hs.inv.tab.ext (Ext.drew B0 S w)⟩, fun t v hv => ?_⟩, hs.size, hs.defers⟩
    · obtain ⟨k1, k2⟩ := hs.inv.obj b o hb
      exact ⟨k1, k2.keep (Ext.drew B0 S w) rfl rfl⟩
    · rcases hv with ⟨i, hi, hl⟩ | ⟨_, h2⟩
      · exact (no_false hl).elim
      · obtain ⟨k1, k2⟩ := hs.env t v h2
        exact ⟨hσ t v h2, k2.ext (Ext.drew B0 S w)⟩

def onlyN (R : Env → Hp → Prop) : Exit → Env → Hp → Prop
  | .normal, σ, H => R σ H
  | _, _, _ => False
theorem tr_weaken {P : Program} {B0 : Base} {n : Nat} {c : Code} {σ : Env} {H : Hp} {Q Q' : Exit → Env → Hp → Prop} (h : Tr P B0 n c σ H Q) (hq : ∀ w S e a' w', Post B0 n S w Q e a' w' → Post B0 n S w Q' e a' w') : Tr P B0 n c σ H Q' := by
  unfold Tr at h ⊢
  exact fun w S a hs => wp_mono (h w S a hs) (fun e a' w' hp => hq w S e a' w' hp)
theorem tr_drawlk (nv : Nat) {P : Program} {B0 : Base} {n : Nat} {ops : Array Oper} {σ : Env} {H : Hp} {id : Nat} {y : Code} {Q : Exit → Env → Hp → Prop} {ol : Oper} (hm : P.follows .mixedOrders = true) (hd : drawOk ops.pop = true) (hok : lastOk ops = true) (hol : ops[ops.size - 1]? = some ol)
    (h : ∀ K : Env → Hp → Prop, KW K (fun σ' H' => Tr P B0 n y σ' H' Q) → wopsD P B0 n ops.pop ops.pop.toList σ H fun σ' H' => @wop P B0 ol σ' H' ⟨fun v H'' => @bindO n ol.dst v σ' ⟨fun σ'' => Kont K (σ''.keep nv) H''⟩⟩) : Tr P B0 n (.seq (.region id ops true) y) σ H Q := by
  have h' := h (fun σ' H' => Tr P B0 n y σ' H' Q) (by unfold KW; exact fun _ _ h => h)
  have ht : Tr P B0 n (.region id ops true) σ H (onlyN fun σ'' H'' => Kont (fun σ' H' => Tr P B0 n y σ' H' Q) (σ''.keep nv) H'') := tr_drawl hm hd hok hol h'
  refine tr_seq (tr_weaken ht ?_)
  rintro w S e a' w' ⟨S', σ', H', hx, hs', hq⟩
  cases e with
  | normal =>
    refine ⟨S', σ', H', hx, hs', ?_⟩
    have hk : Tr P B0 n y (σ'.keep nv) H' Q := by unfold onlyN Kont at hq; exact hq
    exact tr_forget (fun t v ht => keep_get ht) (Hp.Le.refl _) hk
  | _ => exact hq.elim
theorem tr_drawle (nv : Nat) {P : Program} {B0 : Base} {n : Nat} {ops : Array Oper} {σ : Env} {H : Hp} {id : Nat} {Q : Exit → Env → Hp → Prop} {ol : Oper} (hm : P.follows .mixedOrders = true) (hd : drawOk ops.pop = true) (hok : lastOk ops = true) (hol : ops[ops.size - 1]? = some ol)
    (h : ∀ K : Env → Hp → Prop, KW K (Q .normal) → wopsD P B0 n ops.pop ops.pop.toList σ H fun σ' H' => @wop P B0 ol σ' H' ⟨fun v H'' => @bindO n ol.dst v σ' ⟨fun σ'' => Kont K (σ''.keep nv) H''⟩⟩) : Tr P B0 n (.region id ops true) σ H Q := by
  have h' := h (Q .normal) (by unfold KW; exact fun _ _ h => h)
  have ht : Tr P B0 n (.region id ops true) σ H (onlyN fun σ'' H'' => Kont (Q .normal) (σ''.keep nv) H'') := tr_drawl hm hd hok hol h'
  refine tr_weaken ht ?_
  rintro w S e a' w' ⟨S', σ', H', hx, hs', hq⟩
  cases e with
  | normal => exact ⟨S', _, H', hx, ⟨hs'.inv, fun t v ht => hs'.env t v (keep_get ht), hs'.size, hs'.defers⟩, by unfold onlyN Kont at hq; exact hq⟩
  | _ => exact hq.elim
/-- The last of some operations, and those ahead of it. -/
class TL : Type where
  run : List Oper → Oper → Prop
def splitLast : List Oper → List Oper → [TL] → Prop
  | _, [], _ => False
  | acc, [o], k => k.run acc o
  | acc, o :: p :: r, k => @splitLast (acc ++ [o]) (p :: r) k
theorem splitLast_spec {k : TL} : ∀ {l acc : List Oper}, @splitLast acc l k → ∃ o, l.getLast? = some o ∧ k.run (acc ++ l.dropLast) o
  | [], _, h => by simp only [splitLast] at h
  | [o], acc, h => by simp only [splitLast] at h; exact ⟨o, rfl, by simpa using h⟩
  | o :: p :: r, acc, h => by
    simp only [splitLast] at h
    obtain ⟨q, h1, h2⟩ := splitLast_spec h
    refine ⟨q, by simpa using h1, ?_⟩
    rw [List.append_assoc] at h2
    exact h2
theorem splitLast_ops {k : TL} {ops : Array Oper} (h : @splitLast [] ops.toList k) : ∃ o, ops[ops.size - 1]? = some o ∧ k.run ops.pop.toList o := by
  obtain ⟨o, h1, h2⟩ := splitLast_spec h
  refine ⟨o, ?_, ?_⟩
  · rw [List.getLast?_eq_getElem?] at h1
    rw [← Array.getElem?_toList]
    simpa using h1
  · rw [Array.toList_pop]; simpa using h2
theorem tr_drawks (nv : Nat) {P : Program} {B0 : Base} {n : Nat} {ops : Array Oper} {σ : Env} {H : Hp} {id : Nat} {y : Code} {Q : Exit → Env → Hp → Prop} (hm : P.follows .mixedOrders = true) (hd : drawOk ops.pop = true) (hok : lastOk ops = true)
    (h : ∀ K : Env → Hp → Prop, KW K (fun σ' H' => Tr P B0 n y σ' H' Q) → @splitLast [] ops.toList ⟨fun init ol => wopsD P B0 n init.toArray init σ H fun σ' H' => @wop P B0 ol σ' H' ⟨fun v H'' => @bindO n ol.dst v σ' ⟨fun σ'' => Kont K (σ''.keep nv) H''⟩⟩⟩) : Tr P B0 n (.seq (.region id ops true) y) σ H Q := by
  have h' := h (fun σ' H' => Tr P B0 n y σ' H' Q) (by unfold KW; exact fun _ _ h => h)
  obtain ⟨ol, hol, _⟩ := splitLast_ops h'
  refine tr_drawlk nv hm hd hok hol fun K hK => ?_
  obtain ⟨ol', hol', hk⟩ := splitLast_ops (h K hK)
  rw [hol] at hol'
  cases hol'
  have e : ops.pop.toList.toArray = ops.pop := Array.toArray_toList
  rw [← e]
  exact hk
theorem tr_drawes (nv : Nat) {P : Program} {B0 : Base} {n : Nat} {ops : Array Oper} {σ : Env} {H : Hp} {id : Nat} {Q : Exit → Env → Hp → Prop} (hm : P.follows .mixedOrders = true) (hd : drawOk ops.pop = true) (hok : lastOk ops = true)
    (h : ∀ K : Env → Hp → Prop, KW K (Q .normal) → @splitLast [] ops.toList ⟨fun init ol => wopsD P B0 n init.toArray init σ H fun σ' H' => @wop P B0 ol σ' H' ⟨fun v H'' => @bindO n ol.dst v σ' ⟨fun σ'' => Kont K (σ''.keep nv) H''⟩⟩⟩) : Tr P B0 n (.region id ops true) σ H Q := by
  have h' := h (Q .normal) (by unfold KW; exact fun _ _ h => h)
  obtain ⟨ol, hol, _⟩ := splitLast_ops h'
  refine tr_drawle nv hm hd hok hol fun K hK => ?_
  obtain ⟨ol', hol', hk⟩ := splitLast_ops (h K hK)
  rw [hol] at hol'
  cases hol'
  have e : ops.pop.toList.toArray = ops.pop := Array.toArray_toList
  rw [← e]
  exact hk
theorem Hp.le_set' {H h : Hp} {b : Nat} {x : Option AObj} (hb : H b = none) (hl : H.Le h) : H.Le (h.set b x) := by
  intro c o hc
  simp only [Hp.set]
  split
  · rename_i e; subst e; rw [hb] at hc; simp at hc
  · exact hl c o hc
theorem Hp.none_of_set {H : Hp} {b c : Nat} {x : AObj} (h : (H.set b (some x)) c = none) : H c = none := by
  simp only [Hp.set] at h
  split at h
  · simp at h
  · exact h
theorem Hp.ne_of_none {H : Hp} {b c : Nat} {x : AObj} (h : (H.set b (some x)) c = none) : c ≠ b ∧ b ≠ c := by
  have : c ≠ b := fun e => by subst e; simp [Hp.set] at h
  exact ⟨this, Ne.symm this⟩
theorem Hp.set_comm {H : Hp} {b c : Nat} {x y : Option AObj} (h : b ≠ c) : (H.set b x).set c y = (H.set c y).set b x := by
  funext k
  simp only [Hp.set]
  by_cases k1 : k = c
  · subst k1; rw [if_pos rfl, if_neg (Ne.symm h), if_pos rfl]
  · rw [if_neg k1, if_neg k1]

/-! ### results that lie in memory -/
def resV (P : Program) (σ : Env) (H : Hp) : ResultVar → Option AVal
  | .tmp a => σ.get a
  | .cell a t => (σ.get a).bind fun p => (ownA H p).bind fun q => (ldInfo P t).bind fun r => loadA r q.2.2.1 q.2.1
def resVs (P : Program) (σ : Env) (H : Hp) : List ResultVar → Option (List AVal)
  | [] => some []
  | r :: rs => (resV P σ H r).bind fun x => (resVs P σ H rs).map (x :: ·)
def resC (P : Program) (σ : Env) (H : Hp) (rs : List ResultVar) : Option AVal := (resVs P σ H rs).bind fun l => match l with
  | [x] => some x
  | l => some (.tup l)

def resRun (tmps : Array Value) : ResultVar → Sem Value
  | .tmp t => pure (tmps.getD t undef)
  | .cell a t => do loadVar t (← asAddr (tmps.getD a undef))
theorem results_eq (fn : Func) (tmps : Array Value) : results fn tmps = (do let vs ← fn.results.mapM (resRun tmps); pure (if h : vs.size = 1 then vs[0] else .tuple vs)) := by
  unfold results
  have : (fun r => match r with
    | .tmp t => pure (tmps.getD t undef)
    | .cell a t => do loadVar t (← asAddr (tmps.getD a undef)) : ResultVar → Sem Value) = resRun tmps := by funext r; cases r <;> rfl
  rw [← this]
  rfl
theorem resV_sound {P : Program} {B0 : Base} {w : World} {S : Seal} {H : Hp} {σ : Env} {tmps : Array Value} (hi : Inv B0 w S H) (he : EnvAt w S σ tmps) {r : ResultVar} {x : AVal} (h : resV P σ H r = some x) :
    ∃ v, (resRun tmps r).run P w = .ok v w ∧ Rep w S x v := by
  cases r with
  | tmp a => exact ⟨_, rfl, (he a x h).2⟩
  | cell a t =>
    simp only [resV, Option.bind_eq_some_iff] at h
    obtain ⟨p, hp, q, hq, r, hr, hx⟩ := h
    obtain ⟨e1, e2, e3, e4, arr, e5, e6⟩ := ownA_spec hi hq (he a p hp).2
    have hl := load_sound (P := P) (t := t) hr e6 (b := q.1) (o := 0) (off := q.2.1) (fun j v hj => by
      rw [Nat.zero_add, cell_of_heap e5, ← Array.getElem?_toList]; exact hj) hx
    obtain ⟨v, h1, h2⟩ := hl
    refine ⟨v, ?_, h2⟩
    simp only [resRun, e1, asAddr, Sem.run_bind, Sem.run_pure, Result.andThen_ok]
    simpa [Instr.loadAt, Instr.sureAddr] using h1
theorem resC_sound {P : Program} {B0 : Base} {w : World} {S : Seal} {H : Hp} {fn : Func} {σ : Env} {tmps : Array Value} {r : AVal} (hi : Inv B0 w S H) (he : EnvAt w S σ tmps) (h : resC P σ H fn.results.toList = some r) (hlen : fn.results.size ≤ 4) : ∃ v, (results fn tmps).run P w = .ok v w ∧ Rep w S r v := by
  have hres : ∀ l, fn.results.toList = l → fn.results = l.toArray := fun l hl => by rw [← hl]
  rw [results_eq]
  have hlen' : fn.results.toList.length ≤ 4 := by simpa using hlen
  match hl : fn.results.toList, hlen' with
  | [], _ =>
    rw [hl] at h
    simp only [resC, resVs, Option.bind_some, Option.some.injEq] at h
    subst h
    exact ⟨.tuple #[], by simp [hres _ hl], by simp only [Rep]; exact ⟨_, rfl, rfl⟩⟩
  | [a], _ =>
    rw [hl] at h
    simp only [resC, resVs, Option.bind_eq_some_iff, Option.map_eq_some_iff, Option.some.injEq] at h
    obtain ⟨l, ⟨x, hx, y, rfl, rfl⟩, h⟩ := h
    simp only [Option.some.injEq] at h
    subst h
    obtain ⟨v, h1, h2⟩ := resV_sound (P := P) hi he hx
    exact ⟨v, by simp [hres _ hl, h1], h2⟩
  | [a, b], _ =>
    rw [hl] at h
    simp only [resC, resVs, Option.bind_eq_some_iff, Option.map_eq_some_iff, Option.some.injEq] at h
    obtain ⟨l, ⟨x, hx, y, ⟨x2, hx2, y2, rfl, rfl⟩, rfl⟩, h⟩ := h
    simp only [Option.some.injEq] at h
    subst h
    obtain ⟨v, h1, h2⟩ := resV_sound (P := P) hi he hx
    obtain ⟨v2, h3, h4⟩ := resV_sound (P := P) hi he hx2
    exact ⟨.tuple #[v, v2], by simp [hres _ hl, h1, h3], by simp only [Rep]; exact ⟨_, rfl, _, _, rfl, h2, _, _, rfl, h4, rfl⟩⟩
  | [a, b, c], _ =>
    rw [hl] at h
    simp only [resC, resVs, Option.bind_eq_some_iff, Option.map_eq_some_iff, Option.some.injEq] at h
    obtain ⟨l, ⟨x, hx, y, ⟨x2, hx2, y2, ⟨x3, hx3, y3, rfl, rfl⟩, rfl⟩, rfl⟩, h⟩ := h
    simp only [Option.some.injEq] at h
    subst h
    obtain ⟨v, h1, h2⟩ := resV_sound (P := P) hi he hx
    obtain ⟨v2, h3, h4⟩ := resV_sound (P := P) hi he hx2
    obtain ⟨v3, h5, h6⟩ := resV_sound (P := P) hi he hx3
    exact ⟨.tuple #[v, v2, v3], by simp [hres _ hl, h1, h3, h5], by simp only [Rep]; exact ⟨_, rfl, _, _, rfl, h2, _, _, rfl, h4, _, _, rfl, h6, rfl⟩⟩
  | [a, b, c, d], _ =>
    rw [hl] at h
    simp only [resC, resVs, Option.bind_eq_some_iff, Option.map_eq_some_iff, Option.some.injEq] at h
    obtain ⟨l, ⟨x, hx, y, ⟨x2, hx2, y2, ⟨x3, hx3, y3, ⟨x4, hx4, y4, rfl, rfl⟩, rfl⟩, rfl⟩, rfl⟩, h⟩ := h
    simp only [Option.some.injEq] at h
    subst h
    obtain ⟨v, h1, h2⟩ := resV_sound (P := P) hi he hx
    obtain ⟨v2, h3, h4⟩ := resV_sound (P := P) hi he hx2
    obtain ⟨v3, h5, h6⟩ := resV_sound (P := P) hi he hx3
    obtain ⟨v4, h7, h8⟩ := resV_sound (P := P) hi he hx4
    exact ⟨.tuple #[v, v2, v3, v4], by simp [hres _ hl, h1, h3, h5, h7], by simp only [Rep]; exact ⟨_, rfl, _, _, rfl, h2, _, _, rfl, h4, _, _, rfl, h6, _, _, rfl, h8, rfl⟩⟩
  | _ :: _ :: _ :: _ :: _ :: _, h5 => simp at h5

/-- What a body must come to whose results lie in memory. -/
def EndsC (P : Program) (fn : Func) (K : AVal → Hp → Prop) (e : Exit) (σ : Env) (H : Hp) : Prop := (e = .normal ∨ e = .ret) ∧ ∃ r, resC P σ H fn.results.toList = some r ∧ ∃ H', H'.Le H ∧ K r H'

theorem fn_of_trc {P : Program} {B0 : Base} {f : FuncId} {fn : Func} {body : Code} {args : List AVal} {H : Hp} {K : AVal → Hp → Prop} (hf : P.funcs[f]? = some fn) (hb : fn.body = some body) (hn : (fn.name == "runtime.NumGoroutine") = false)
    (hs : args.length ≤ fn.ntmps) (hlen : fn.results.size ≤ 4) (h : Tr P B0 fn.ntmps body (initEnv 0 args) H (EndsC P fn K)) : FnC P B0 f args H K := by
  refine ⟨⟨fn, hf, hn, by simp [hb]⟩, fun w S vs hi ha => ?_⟩
  have hl := ha.length
  simp only [Array.length_toList] at hl
  unfold Tr at h
  refine calls_of_wp hf hb (wp_mono (h w S _ ⟨hi, ?_, ?_, rfl⟩) ?_)
  · refine initEnv_at ha fun j v hj => ?_
    rw [Array.getElem?_toList] at hj
    have : j < vs.size := by
      rcases Nat.lt_or_ge j vs.size with h | h
      · exact h
      · rw [Array.getElem?_eq_none h] at hj; simp at hj
    rw [Nat.zero_add, Array.getElem?_append_left this]
    exact hj
  · simp; omega
  · rintro e a' w' ⟨S', σ', H', hx, hst, he, r, hr, H'', hle, hk⟩
    obtain ⟨v, h1, h2⟩ := resC_sound (P := P) hst.inv hst.env hr hlen
    rcases he with rfl | rfl <;> exact ⟨hst.defers, v, h1, v, r, S', H'', rfl, hx, hst.inv.le hle, h2, hk⟩
/-- A return, wherever it stands. -/
theorem tr_returnc {P : Program} {B0 : Base} {n : Nat} {σ : Env} {H H' : Hp} {Q : Exit → Env → Hp → Prop} {fn : Func} {K : AVal → Hp → Prop} {r : AVal} (hQ : Q .ret = EndsC P fn K .ret) (hr : resC P σ H fn.results.toList = some r) (hle : H'.Le H) (hk : K r H') : Tr P B0 n .ret σ H Q :=
  tr_ret (by rw [hQ]; exact ⟨.inr rfl, r, hr, H', hle, hk⟩)
theorem endsc_normal {P : Program} {fn : Func} {K : AVal → Hp → Prop} {σ : Env} {H H' : Hp} {r : AVal} (hr : resC P σ H fn.results.toList = some r) (hle : H'.Le H) (hk : K r H') : EndsC P fn K .normal σ H := ⟨.inl rfl, r, hr, H', hle, hk⟩
end Go.Sv
