/-
  Regions whose order is open, in which memory is made, early or late, and which end with a store of it. Own work. Nothing here is trusted.
-/
import Derived.Test.YtopegdkhoafajaaCore21
namespace Go.Sv
set_option linter.unusedSimpArgs false
set_option linter.unusedVariables false

/-- The last operation but one makes memory: nothing else looks at its slot. -/
def prefOkA (ops : Array Oper) (us : List Nat) (ds : Nat) : Bool := prefOk0 ops us && (match ops[ops.size - 1]? with
  | none => false
  | some so => so.dst == some ds) && (List.range (ops.size - 1)).all fun j => match ops[j]? with
    | none => false
    | some o => o.dst != some ds && !(o.looksAt ops).contains ds
theorem prefOkA_spec {ops : Array Oper} {us : List Nat} {so : Oper} {ds : Nat} (h : prefOkA ops us ds = true) (hso : ops[ops.size - 1]? = some so) :
    PrefOk ops us so ∧ so.dst = some ds ∧ ∀ j o, j < ops.size - 1 → ops[j]? = some o → o.dst ≠ some ds ∧ ds ∉ o.looksAt ops := by
  unfold prefOkA at h
  rw [Bool.and_eq_true, Bool.and_eq_true, hso] at h
  obtain ⟨⟨h1, h2⟩, h3⟩ := h
  refine ⟨prefOk_spec h1 hso, by simpa using h2, fun j o hj ho => ?_⟩
  rw [List.all_eq_true] at h3
  have := h3 j (List.mem_range.2 hj)
  rw [ho] at this
  simp only [Bool.and_eq_true, bne_iff_ne, ne_eq, Bool.not_eq_true', List.contains_eq_mem, decide_eq_false_iff_not] at this
  exact this

section
variable {P : Program} {B0 : Base} {n : Nat} {ops : Array Oper} {us : List Nat} {so : Oper} {ds : Nat} {H : Hp} {σ : Env} {xs : List (Nat × AVal)} {R : AVal → Hp → Prop}

structure Taken4 (B0 : Base) (n : Nat) (ops : Array Oper) (ds : Nat) (H : Hp) (σ : Env) (xs : List (Nat × AVal)) (R : AVal → Hp → Prop) (S0 : Seal) (w0 : World) (listed : Array Bool) (a : Act) (w : World) : Prop where
  down : Down ops listed
  size : listed.size = ops.size
  st : ∃ S' h, Ext B0 S0 S' w0 w ∧ Inv B0 w S' h ∧ (∀ t v, Val xs σ listed t v → t < n ∧ Rep w S' v (a.tmps.getD t undef)) ∧ (listed.getD (ops.size - 1) false = false → h = H) ∧ (listed.getD (ops.size - 1) false = true → ∃ v, R v h ∧ Rep w S' v (a.tmps.getD ds undef))
  tmps : a.tmps.size = n
  defers : a.defers = []

theorem val_ne (hk : PrefOk ops us so) (hd : ∀ j o, j < ops.size - 1 → ops[j]? = some o → o.dst ≠ some ds ∧ ds ∉ o.looksAt ops) (hσd : σ.get ds = none) (ht : Told3 P B0 n ops H σ xs) {listed : Array Bool} {t : Nat} {v : AVal} (hv : Val xs σ listed t v) : t ≠ ds := by
  rintro rfl
  rcases hv with ⟨i, hi, _⟩ | ⟨_, h2⟩
  · obtain ⟨k1, q, k2, k3⟩ := key3 hk ht hi
    exact (hd i q k1 k2).1 k3
  · rw [hσd] at h2; cases h2

theorem taken4_step (hk : PrefOk ops us so) (hsd : so.dst = some ds) (hd : ∀ j o, j < ops.size - 1 → ops[j]? = some o → o.dst ≠ some ds ∧ ds ∉ o.looksAt ops) (hσd : σ.get ds = none) (hdn : ds < n) (hso : ops[ops.size - 1]? = some so) (ht : Told3 P B0 n ops H σ xs)
    (hstore : @wop P B0 so (xs.reverse ++ σ) H ⟨fun v h => R v h⟩) (hre : ∀ v h, R v h → Re P B0 ops us (xs.reverse ++ σ) h)
    {QQ : Exit → Act → World → Prop} {S0 : Seal} {w0 : World} {K : Array Bool → Act → World → Prop} {listed : Array Bool} {a : Act} {w : World} (hT : Taken4 B0 n ops ds H σ xs R S0 w0 listed a w) {j : Nat}
    (hj : j ∈ Region.ready .any ops listed) (hK : ∀ a' w', Taken4 B0 n ops ds H σ xs R S0 w0 (listed.setIfInBounds j true) a' w' → K (listed.setIfInBounds j true) a' w') : wpOp P ops QQ j (K (listed.setIfInBounds j true)) a w := by
  obtain ⟨o, ho, hjl, hjf0, hr⟩ := ready_spec hj
  have hjs : j < listed.size := by rw [hT.size]; exact hjl
  have hjf := getD_true_false hjs hjf0
  obtain ⟨S', h, hext, hinv, hval, hn0, hn1⟩ := hT.st
  let ts := o.looksAt ops
  let σf : Env := xs.reverse ++ σ
  have henv : EnvAt w S' (σf.only ts) a.tmps := by
    intro t v hg
    rw [only_get] at hg
    split at hg
    · rename_i hm
      obtain ⟨h1, h2⟩ := hval t v (look3 hk ht ho hjl hso hr (memN_iff.1 hm) hg)
      exact ⟨by rw [hT.tmps]; exact h1, h2⟩
    · simp at hg
  have hget : ∀ t, t ∈ ts → σf.get t = (σf.only ts).get t := fun t h => by rw [only_get, if_pos (memN_iff.2 h)]
  have hdown : Down ops (listed.setIfInBounds j true) := by
    intro i q hq hl e' he hb
    rw [getD_set hjs] at hl ⊢
    split
    · rfl
    · split at hl
      · rename_i hij
        subst hij
        rw [ho] at hq
        simp only [Option.some.injEq] at hq
        subst hq
        exact hr e' he hb
      · exact hT.down i q hq hl e' he hb
  have hlook : ∀ t, Operand.tmp t ∈ o.op.operands.toList → σf.get t = (σf.only ts).get t := fun t ht => hget t (by
    show t ∈ o.looksAt ops
    simp only [Oper.looksAt, List.mem_append, List.mem_filterMap]
    exact .inl ⟨_, ht, rfl⟩)
  unfold wpOp
  rw [ho]
  simp only
  rcases Nat.lt_or_ge j (ops.size - 1) with hjlt | hjge
  · obtain ⟨o', d, x, k1, k2, k3, k4, k5⟩ := ht.get j hjlt
    rw [ho] at k1; cases k1
    obtain ⟨o', d', h1, hg, h2, _, _, _, hcase⟩ := hk.each j hjlt
    rw [ho] at h1; cases h1
    rw [k3] at h2; cases h2
    rw [if_pos (by simp [Region.wanted, hg])]
    have hdd : d ≠ ds := fun e => (hd j o hjlt ho).1 (by rw [k3, e])
    have hw : @wop P B0 o σf h ⟨fun v H' => v = x ∧ H' = h⟩ := by
      cases hs : listed.getD (ops.size - 1) false with
      | false => rw [hn0 hs]; exact k5
      | true =>
        rcases hcase with hc | hc | hc
        · have := cov_listed hso hT.down (hT.down _ so hso hs) _ j hc
          rw [hjf] at this; simp at this
        · exact wop_pure0 hc k5
        · obtain ⟨vr, hr1, _⟩ := hn1 hs
          obtain ⟨x', e1, e2⟩ := hre vr h hr1 j hc o ho d k3
          have hx' : x' = x := by
            have hmem : (d, x') ∈ xs.reverse ∨ ((∀ y, (d, y) ∉ xs.reverse) ∧ σ.get d = some x') := get_append e1
            rcases hmem with hmem | ⟨hno, _⟩
            · rw [List.mem_reverse, List.mem_iff_getElem] at hmem
              obtain ⟨i, hi, he⟩ := hmem
              have hxi : xs[i]? = some (d, x') := by rw [List.getElem?_eq_getElem hi, he]
              obtain rfl := uniq3 hk ht hxi k2
              rw [hxi] at k2
              simp only [Option.some.injEq, Prod.mk.injEq, true_and] at k2
              exact k2
            · exact absurd (List.mem_reverse.2 (List.mem_of_getElem? k2)) (hno x)
          subst hx'
          exact e2
    have h2' := wop_eq (σ' := σf.only ts) hlook hw
    refine .inl (Oper.wp_mono ?_ (wop_sound h2' hinv henv))
    rintro a' w' ⟨v, y, S'', H', rfl, e, hi', hrep, rfl, rfl⟩
    refine hK _ _ ⟨hdown, by simpa using hT.size, ⟨S'', H', hext.trans e, hi', fun t z hz => ?_, fun hs => ?_, fun hs => ?_⟩, by rw [put_size]; exact hT.tmps, by rw [put_defers]; exact hT.defers⟩
    · rw [k3]
      rcases put3 hk ht hT.size hjlt k2 hz with ⟨rfl, rfl⟩ | ⟨hne, hv⟩
      · refine ⟨k4, ?_⟩
        simp only [Act.put, Array.getD_eq_getD_getElem?, Array.getElem?_setIfInBounds_self_of_lt (by rw [hT.tmps]; exact k4), Option.getD_some]
        exact hrep
      · obtain ⟨h1, h2⟩ := hval t z hv
        refine ⟨h1, ?_⟩
        simp only [Act.put, Array.getD_eq_getD_getElem?, Array.getElem?_setIfInBounds_ne (Ne.symm hne)] at h2 ⊢
        exact h2.ext e
    · rw [getD_set hjs, if_neg (by omega)] at hs
      exact hn0 hs
    · rw [getD_set hjs, if_neg (by omega)] at hs
      obtain ⟨v', m1, m2⟩ := hn1 hs
      refine ⟨v', m1, ?_⟩
      rw [k3]
      simp only [Act.put, Array.getD_eq_getD_getElem?, Array.getElem?_setIfInBounds_ne hdd] at m2 ⊢
      exact m2.ext e
  · obtain rfl : j = ops.size - 1 := by omega
    rw [ho] at hso; cases hso
    rw [if_pos (by simp [Region.wanted, hk.sg])]
    have hh := hn0 hjf
    subst hh
    have h2' := wop_eq (σ' := σf.only ts) hlook hstore
    refine .inl (Oper.wp_mono ?_ (wop_sound h2' hinv henv))
    rintro a' w' ⟨v, y, S'', H', rfl, e, hi', hrep, hR⟩
    refine hK _ _ ⟨hdown, by simpa using hT.size, ⟨S'', H', hext.trans e, hi', fun t z hz => ?_, fun hs => ?_, fun hs => ⟨y, hR, ?_⟩⟩, by rw [put_size]; exact hT.tmps, by rw [put_defers]; exact hT.defers⟩
    · have hv := last3 ht hT.size (by omega) hz
      have hne := val_ne hk hd hσd ht hv
      obtain ⟨h1, h2⟩ := hval t z hv
      refine ⟨h1, ?_⟩
      rw [hsd]
      simp only [Act.put, Array.getD_eq_getD_getElem?, Array.getElem?_setIfInBounds_ne (Ne.symm hne)] at h2 ⊢
      exact h2.ext e
    · rw [getD_set hjs, if_pos rfl] at hs
      simp at hs
    · rw [hsd]
      simp only [Act.put, Array.getD_eq_getD_getElem?, Array.getElem?_setIfInBounds_self_of_lt (by rw [hT.tmps]; exact hdn), Option.getD_some]
      exact hrep

theorem taken4_all (hk : PrefOk ops us so) (hsd : so.dst = some ds) (hd : ∀ j o, j < ops.size - 1 → ops[j]? = some o → o.dst ≠ some ds ∧ ds ∉ o.looksAt ops) (hσd : σ.get ds = none) (hdn : ds < n) (hso : ops[ops.size - 1]? = some so) (ht : Told3 P B0 n ops H σ xs)
    (hstore : @wop P B0 so (xs.reverse ++ σ) H ⟨fun v h => R v h⟩) (hre : ∀ v h, R v h → Re P B0 ops us (xs.reverse ++ σ) h)
    {QQ : Exit → Act → World → Prop} {S0 : Seal} {w0 : World}
    (hQ : ∀ listed a w, Taken4 B0 n ops ds H σ xs R S0 w0 listed a w → (∀ i, i < ops.size → listed.getD i false = true) → QQ .normal a w) : ∀ (fuel : Nat) (listed : Array Bool) (a : Act) (w : World), listed.toList.count false ≤ fuel → Taken4 B0 n ops ds H σ xs R S0 w0 listed a w →
    wpAny P .any ops QQ fuel listed a w := by
  have edges : ∀ (j : Nat) (o : Oper), ops[j]? = some o → ∀ e ∈ o.after, Region.binds .any e = true → e.on < j := by
    intro j o ho e he hb
    rcases Nat.lt_or_ge j (ops.size - 1) with h | h
    · obtain ⟨o', d', h1, _, _, h2, _⟩ := hk.each j h
      rw [ho] at h1; cases h1
      exact h2 e he hb
    · have hjs : j < ops.size := by
        rcases Nat.lt_or_ge j ops.size with h' | h'
        · exact h'
        · rw [Array.getElem?_eq_none h'] at ho; simp at ho
      obtain rfl : j = ops.size - 1 := by omega
      rw [ho] at hso; cases hso
      exact hk.sa e he hb
  have done : ∀ (listed : Array Bool) (a : Act) (w : World), Taken4 B0 n ops ds H σ xs R S0 w0 listed a w → Region.ready .any ops listed = [] → QQ .normal a w :=
    fun listed a w hT hr => hQ listed a w hT (ready_nil edges hT.size hr)
  intro fuel
  induction fuel with
  | zero =>
    intro listed a w hc hT
    have hr : Region.ready .any ops listed = [] := by
      rw [List.eq_nil_iff_forall_not_mem]
      intro i hi
      obtain ⟨o, _, h1, h2, _⟩ := ready_spec hi
      have := getD_true_false (by rw [hT.size]; exact h1) h2
      have := count_set (by rw [hT.size]; exact h1) this
      omega
    exact ⟨hr, done listed a w hT hr⟩
  | succ fuel ih =>
    intro listed a w hc hT
    refine ⟨fun hr => done listed a w hT hr, fun i hi => ?_⟩
    refine taken4_step (K := fun l => wpAny P .any ops QQ fuel l) hk hsd hd hσd hdn hso ht hstore hre hT hi fun a' w' hT' => ih _ a' w' ?_ hT'
    obtain ⟨o, _, h1, h2, _⟩ := ready_spec hi
    have := getD_true_false (by rw [hT.size]; exact h1) h2
    have := count_set (by rw [hT.size]; exact h1) this
    omega
end

theorem del_get {d t : Nat} : ∀ {σ : Env}, (Env.del d σ).get t = if t = d then none else σ.get t
  | [] => by simp [Env.del, Env.get]
  | (c, v) :: r => by
    simp only [Env.del]
    by_cases h : c = d
    · rw [if_pos h, del_get]
      by_cases h2 : t = d
      · rw [if_pos h2, if_pos h2]
      · rw [if_neg h2, if_neg h2]
        simp only [Env.get]
        rw [if_neg (fun e => h2 (e.trans h))]
    · rw [if_neg h]
      simp only [Env.get]
      by_cases h2 : t = c
      · rw [if_pos h2, if_pos h2, if_neg (fun e => h (h2.symm.trans e))]
      · rw [if_neg h2, if_neg h2]; exact del_get

/-- All but the last two in any order, memory made at any time among them; then the last one. -/
theorem tr_drawa {P : Program} {B0 : Base} {n : Nat} {ops : Array Oper} {σ : Env} {H : Hp} {id : Nat} {Q : Exit → Env → Hp → Prop} {so o1 : Oper} (us : List Nat) (ds : Nat) (hm : P.follows .mixedOrders = true) (hpre : prefOkA ops.pop us ds = true) (hus : us.all (fun j => decide (j < ops.pop.size - 1)) = true) (hok : lastOk ops = true) (hol : ops[ops.size - 1]? = some o1) (hol0 : ops.pop[ops.pop.size - 1]? = some so) (hdn : ds < n)
    (h : wopsD P B0 n ops.pop.pop ops.pop.pop.toList (σ.del ds) H fun σ' H' => @wop P B0 so σ' H' ⟨fun v h => reW P B0 ops.pop.pop.toList σ' h us ∧ @wop P B0 o1 ((ds, v) :: σ') h ⟨fun v2 H3 => @bindO n o1.dst v2 ((ds, v) :: σ') ⟨fun σ3 => Q .normal σ3 H3⟩⟩⟩) : Tr P B0 n (.region id ops true) σ H Q := by
  refine tr_forget (σ' := σ.del ds) (fun t v hg => ?_) (Hp.Le.refl _) ?_
  · rw [del_get] at hg
    split at hg
    · cases hg
    · exact hg
  have hσd : (σ.del ds).get ds = none := by rw [del_get, if_pos rfl]
  generalize σ.del ds = σ at *
  unfold Tr
  intro w S a hs
  obtain ⟨xs, ht, hq⟩ := told_of h
  obtain ⟨hk, hsd, hd⟩ := prefOkA_spec hpre hol0
  have ht3 := told3_of hk ht
  have hsz := last_size hol
  have hsz0 := last_size hol0
  have hσ : ∀ t v, σ.get t = some v → t < n := fun t v h => by have := (hs.env t v h).1; rw [hs.size] at this; exact this
  have hg1 := lastOk_guard hok hol
  have hus' : ∀ j ∈ us, j < ops.pop.size - 1 := by simpa using hus
  refine wp_region_any hm ?_
  rw [rep_push hsz]
  have hps : ops.pop.size = ops.size - 1 := Array.size_pop
  have hf : ops.size = ops.pop.size + 1 := by omega
  rw [hf]
  have hedge0 : ∀ (j : Nat) (o : Oper), ops.pop[j]? = some o → ∀ e ∈ o.after, Region.binds .any e = true → e.on < j := by
    intro j o ho e he hb
    rcases Nat.lt_or_ge j (ops.pop.size - 1) with h | h
    · obtain ⟨o', d', h1, _, _, h2, _⟩ := hk.each j h
      rw [ho] at h1; cases h1
      exact h2 e he hb
    · have hjs : j < ops.pop.size := by
        rcases Nat.lt_or_ge j ops.pop.size with h' | h'
        · exact h'
        · rw [Array.getElem?_eq_none h'] at ho; simp at ho
      obtain rfl : j = ops.pop.size - 1 := by omega
      rw [hol0] at ho; cases ho
      exact hk.sa e he hb
  refine wpAny_last hok hedge0 _ _ a _ (by simp) (fun i o ho hl => (no_false hl).elim) ?_
  have hstore : @wop P B0 so (xs.reverse ++ σ) H ⟨fun v h => reW P B0 ops.pop.pop.toList (xs.reverse ++ σ) h us ∧ @wop P B0 o1 ((ds, v) :: (xs.reverse ++ σ)) h ⟨fun v2 H3 => @bindO n o1.dst v2 ((ds, v) :: (xs.reverse ++ σ)) ⟨fun σ3 => Q .normal σ3 H3⟩⟩⟩ := hq
  refine taken4_all (S0 := S) (w0 := w) (R := fun v h => reW P B0 ops.pop.pop.toList (xs.reverse ++ σ) h us ∧ @wop P B0 o1 ((ds, v) :: (xs.reverse ++ σ)) h ⟨fun v2 H3 => @bindO n o1.dst v2 ((ds, v) :: (xs.reverse ++ σ)) ⟨fun σ3 => Q .normal σ3 H3⟩⟩) hk hsd hd hσd hdn hol0 ht3 hstore (fun v h hR => reW_spec hus' hR.1) ?_ ops.pop.size _ a _ ?_ ?_
  · intro listed a' w' hT hall
    obtain ⟨S', h, e, hi, hval, _, hR⟩ := hT.st
    obtain ⟨v, ⟨_, hq1⟩, hrv⟩ := hR (hall _ (by omega))
    have henv : EnvAt w' S' ((ds, v) :: (xs.reverse ++ σ)) a'.tmps := by
      intro t v' hg
      simp only [Env.get] at hg
      split at hg
      · rename_i htd
        subst htd
        cases hg
        exact ⟨by rw [hT.tmps]; exact hdn, hrv⟩
      · have hv : Val xs σ listed t v' := by
          rcases get_append hg with h' | ⟨h1, h2⟩
          · rw [List.mem_reverse, List.mem_iff_getElem] at h'
            obtain ⟨i, hi', he⟩ := h'
            refine .inl ⟨i, by rw [List.getElem?_eq_getElem hi', he], hall i ?_⟩
            have := ht3.len
            omega
          · refine .inr ⟨fun i x hx => ?_, h2⟩
            exact absurd (List.mem_reverse.2 (List.mem_of_getElem? hx)) (h1 x)
        obtain ⟨h1, h2⟩ := hval t v' hv
        exact ⟨by rw [hT.tmps]; exact h1, h2⟩
    have hst : St B0 n w' S' h ((ds, v) :: (xs.reverse ++ σ)) a' := ⟨hi, henv, hT.tmps, hT.defers⟩
    show wpOp P ops _ (ops.size - 1) _ a' w'
    unfold wpOp
    rw [hol]
    simp only
    rw [if_pos (by simp [Region.wanted, hg1])]
    refine .inl (Oper.wp_mono ?_ (wop_sound hq1 hi henv))
    rintro a2 w2 ⟨v2, y, S2, H2, rfl, e2, hi2, hrep2, hk2⟩
    obtain ⟨σ2, hs2, hq2⟩ := hst.put e2 hi2 hrep2 hk2
    exact ⟨S2, σ2, H2, e.trans e2, hs2, hq2⟩
  · simp
  · refine ⟨fun i o ho hl => (no_false hl).elim, by simp, ⟨S, H, Ext.drew _ _ _, ⟨hs.inv.base, hs.inv.top, fun b o hb => ?_, hs.inv.tab.ext (Ext.drew B0 S w)⟩, fun t v hv => ?_, fun _ => rfl, fun hl => (no_false hl).elim⟩, hs.size, hs.defers⟩
    · obtain ⟨k1, k2⟩ := hs.inv.obj b o hb
      exact ⟨k1, k2.keep (Ext.drew B0 S w) rfl rfl⟩
    · rcases hv with ⟨i, hi, hl⟩ | ⟨_, h2⟩
      · exact (no_false hl).elim
      · obtain ⟨k1, k2⟩ := hs.env t v h2
        exact ⟨hσ t v h2, k2.ext (Ext.drew B0 S w)⟩

theorem tr_drawas (nv : Nat) (us : List Nat) (ds : Nat) {P : Program} {B0 : Base} {n : Nat} {ops : Array Oper} {σ : Env} {H : Hp} {id : Nat} {y : Code} {Q : Exit → Env → Hp → Prop} (hm : P.follows .mixedOrders = true) (hpre : prefOkA ops.pop us ds = true) (hus : us.all (fun j => decide (j < ops.pop.size - 1)) = true) (hok : lastOk ops = true)
    (h : ∀ K : Env → Hp → Prop, KW K (fun σ' H' => Tr P B0 n y σ' H' Q) → ds < n ∧ @splitLast2 [] ops.toList ⟨fun init so o1 => wopsD P B0 n init.toArray init (σ.del ds) H fun σ' H' => @wop P B0 so σ' H' ⟨fun v h => reW P B0 init σ' h us ∧ @wop P B0 o1 ((ds, v) :: σ') h ⟨fun v2 H3 => @bindO n o1.dst v2 ((ds, v) :: σ') ⟨fun σ3 => Kont K (σ3.keep nv) H3⟩⟩⟩⟩) : Tr P B0 n (.seq (.region id ops true) y) σ H Q := by
  obtain ⟨hdn, h'⟩ := h (fun σ' H' => Tr P B0 n y σ' H' Q) (by unfold KW; exact fun _ _ h => h)
  obtain ⟨so, o1, h1, h0, hk⟩ := splitLast2_ops h'
  have e : ops.pop.pop.toList.toArray = ops.pop.pop := Array.toArray_toList
  have ht : Tr P B0 n (.region id ops true) σ H (onlyN fun σ'' H'' => Kont (fun σ' H' => Tr P B0 n y σ' H' Q) (σ''.keep nv) H'') := tr_drawa us ds hm hpre hus hok h1 h0 hdn (by rw [← e]; exact hk)
  refine tr_seq (tr_weaken ht ?_)
  rintro w S e a' w' ⟨S', σ', H', hx, hs', hq⟩
  cases e with
  | normal =>
    refine ⟨S', σ', H', hx, hs', ?_⟩
    have hk : Tr P B0 n y (σ'.keep nv) H' Q := by unfold onlyN Kont at hq; exact hq
    exact tr_forget (fun t v ht => keep_get ht) (Hp.Le.refl _) hk
  | _ => exact hq.elim
theorem tr_drawae (nv : Nat) (us : List Nat) (ds : Nat) {P : Program} {B0 : Base} {n : Nat} {ops : Array Oper} {σ : Env} {H : Hp} {id : Nat} {Q : Exit → Env → Hp → Prop} (hm : P.follows .mixedOrders = true) (hpre : prefOkA ops.pop us ds = true) (hus : us.all (fun j => decide (j < ops.pop.size - 1)) = true) (hok : lastOk ops = true)
    (h : ∀ K : Env → Hp → Prop, KW K (Q .normal) → ds < n ∧ @splitLast2 [] ops.toList ⟨fun init so o1 => wopsD P B0 n init.toArray init (σ.del ds) H fun σ' H' => @wop P B0 so σ' H' ⟨fun v h => reW P B0 init σ' h us ∧ @wop P B0 o1 ((ds, v) :: σ') h ⟨fun v2 H3 => @bindO n o1.dst v2 ((ds, v) :: σ') ⟨fun σ3 => Kont K (σ3.keep nv) H3⟩⟩⟩⟩) : Tr P B0 n (.region id ops true) σ H Q := by
  obtain ⟨hdn, h'⟩ := h (Q .normal) (by unfold KW; exact fun _ _ h => h)
  obtain ⟨so, o1, h1, h0, hk⟩ := splitLast2_ops h'
  have e : ops.pop.pop.toList.toArray = ops.pop.pop := Array.toArray_toList
  have ht : Tr P B0 n (.region id ops true) σ H (onlyN fun σ'' H'' => Kont (Q .normal) (σ''.keep nv) H'') := tr_drawa us ds hm hpre hus hok h1 h0 hdn (by rw [← e]; exact hk)
  refine tr_weaken ht ?_
  rintro w S e a' w' ⟨S', σ', H', hx, hs', hq⟩
  cases e with
  | normal => exact ⟨S', _, H', hx, ⟨hs'.inv, fun t v ht => hs'.env t v (keep_get ht), hs'.size, hs'.defers⟩, by unfold onlyN Kont at hq; exact hq⟩
  | _ => exact hq.elim
end Go.Sv
