/-
  Regions whose order is open, with two stores at their end, the first of which may come ahead of what looks at no memory that it writes. Own work. Nothing here is trusted.
-/
import Derived.Test.YtopegdkhoafajaaCore20
namespace Go.Sv
set_option linter.unusedSimpArgs false
set_option linter.unusedVariables false

/-- What reads no memory. -/
def pure0 : Op → Bool
  | .move _ | .assign _ | .pick _ _ _ | .binOp _ _ _ _ _ => true
  | _ => false
theorem wop_pure0 {P : Program} {B0 : Base} {o : Oper} {σ : Env} {H h : Hp} {x : AVal} (hp : pure0 o.op = true) (hw : @wop P B0 o σ H ⟨fun v H' => v = x ∧ H' = H⟩) : @wop P B0 o σ h ⟨fun v H' => v = x ∧ H' = h⟩ := by
  obtain ⟨dst, op, type, pos, after, guard⟩ := o
  unfold wop at hw ⊢
  cases op <;> simp only [pure0, Bool.false_eq_true] at hp <;> simp only at hw ⊢
  case move y => exact wv_mono (fun v hv => ⟨hv.1, rfl⟩) hw
  case assign y => exact wv_mono (fun v hv => ⟨hv.1, rfl⟩) hw
  case pick c y z =>
    obtain ⟨p, hc, hw⟩ := wv_some hw
    refine wv_intro hc ?_
    cases p <;> first | exact hw.elim | skip
    rename_i b
    cases b
    · exact wv_mono (fun v hv => ⟨hv.1, rfl⟩) hw
    · exact wv_mono (fun v hv => ⟨hv.1, rfl⟩) hw
  case binOp op t y z t' =>
    refine wv_mono (fun a ha => ?_) hw
    by_cases hnil : isNilC z = true
    · rw [if_pos hnil] at ha ⊢
      exact nilCmp_mono (fun v hv => ⟨hv.1, rfl⟩) ha
    · rw [if_neg hnil] at ha ⊢
      exact wv_mono (fun b hb => binAny_mono (fun v hv => ⟨hv.1, rfl⟩) hb) ha

/-- The last operation is a store; which of the others may come behind it: those that read no memory, and these. -/
def prefOk0 (ops : Array Oper) (us : List Nat) : Bool :=
  match ops[ops.size - 1]? with
  | none => false
  | some so => so.guard.isNone && so.after.all (fun e => !Region.binds .any e || decide (e.on < ops.size - 1)) &&
    (List.range (ops.size - 1)).all fun j => match ops[j]? with
      | none => false
      | some o => o.guard.isNone && o.dst.isSome && o.after.all (fun e => !Region.binds .any e || decide (e.on < j)) &&
        (match o.dst with
          | some t => !(so.looksAt ops).contains t || so.after.any (fun e => e.on == j && Region.binds .any e)
          | none => true) &&
        ((List.range (ops.size - 1)).all fun i => match ops[i]? with
          | none => false
          | some q => match q.dst with
            | none => false
            | some t => (i == j || q.dst != o.dst) && (!(o.looksAt ops).contains t || (decide (i < j) && o.after.any (fun e => e.on == i && Region.binds .any e)))) &&
        (covB ops (ops.size - 1) ops.size j || pure0 o.op || us.contains j)

def prefOk (ops : Array Oper) (us : List Nat) : Bool := prefOk0 ops us && (match ops[ops.size - 1]? with
  | none => false
  | some so => so.dst.isNone)
structure PrefOk (ops : Array Oper) (us : List Nat) (so : Oper) : Prop where
  sg : so.guard = none
  sa : ∀ e ∈ so.after, Region.binds .any e = true → e.on < ops.size - 1
  each : ∀ j, j < ops.size - 1 → ∃ o d, ops[j]? = some o ∧ o.guard = none ∧ o.dst = some d ∧ (∀ e ∈ o.after, Region.binds .any e = true → e.on < j) ∧
    (d ∈ so.looksAt ops → ∃ e ∈ so.after, e.on = j ∧ Region.binds .any e = true) ∧
    (∀ i q t, i < ops.size - 1 → ops[i]? = some q → q.dst = some t → (i = j ∨ t ≠ d) ∧ (t ∈ o.looksAt ops → i < j ∧ ∃ e ∈ o.after, e.on = i ∧ Region.binds .any e = true)) ∧
    (covB ops (ops.size - 1) ops.size j = true ∨ pure0 o.op = true ∨ j ∈ us)
theorem any_edge {a : Array Edge} {i : Nat} (h : a.any (fun e => e.on == i && Region.binds .any e) = true) : ∃ e ∈ a, e.on = i ∧ Region.binds .any e = true := by
  rw [Array.any_eq_true] at h
  obtain ⟨k, hk, hk'⟩ := h
  simp only [Bool.and_eq_true, beq_iff_eq] at hk'
  exact ⟨_, Array.getElem_mem hk, hk'.1, hk'.2⟩
theorem all_edge {a : Array Edge} {n : Nat} (h : a.all (fun e => !Region.binds .any e || decide (e.on < n)) = true) : ∀ e ∈ a, Region.binds .any e = true → e.on < n := by
  intro e he hb
  rw [Array.all_eq_true] at h
  obtain ⟨k, hk, rfl⟩ := Array.mem_iff_getElem.1 he
  have := h k hk
  simpa [hb] using this
theorem prefOk_spec {ops : Array Oper} {us : List Nat} {so : Oper} (h : prefOk0 ops us = true) (hso : ops[ops.size - 1]? = some so) : PrefOk ops us so := by
  unfold prefOk0 at h
  rw [hso] at h
  simp only [Bool.and_eq_true, List.all_eq_true, List.mem_range] at h
  obtain ⟨⟨h1, h3⟩, h4⟩ := h
  refine ⟨by simpa using h1, all_edge h3, fun j hj => ?_⟩
  have := h4 j hj
  cases ho : ops[j]? with
  | none => rw [ho] at this; simp at this
  | some o =>
    rw [ho] at this
    simp only [Bool.and_eq_true, List.all_eq_true, List.mem_range] at this
    obtain ⟨⟨⟨⟨⟨k1, k2⟩, k3⟩, k4⟩, k5⟩, k6⟩ := this
    obtain ⟨d, hd⟩ := Option.isSome_iff_exists.1 k2
    refine ⟨o, d, rfl, by simpa using k1, hd, all_edge k3, fun hm => ?_, fun i q t hi hq ht => ?_, ?_⟩
    · rw [hd] at k4
      simp only [Bool.or_eq_true, Bool.not_eq_true', List.contains_eq_mem, decide_eq_false_iff_not] at k4
      rcases k4 with k4 | k4
      · exact absurd hm k4
      · exact any_edge k4
    · have := k5 i hi
      rw [hq] at this
      simp only [ht, hd, Bool.and_eq_true, Bool.or_eq_true, Bool.not_eq_true', List.contains_eq_mem, decide_eq_false_iff_not, decide_eq_true_eq, beq_iff_eq, bne_iff_ne, ne_eq, Option.some.injEq] at this
      refine ⟨this.1, fun hm => ?_⟩
      rcases this.2 with k | ⟨ka, kb⟩
      · exact absurd hm k
      · exact ⟨ka, any_edge kb⟩
    · simp only [Bool.or_eq_true, List.contains_eq_mem, decide_eq_true_eq] at k6
      rcases k6 with (k6 | k6) | k6
      · exact .inl k6
      · exact .inr (.inl k6)
      · exact .inr (.inr k6)

section
variable {P : Program} {B0 : Base} {n : Nat} {ops : Array Oper} {us : List Nat} {so : Oper} {H : Hp} {σ : Env} {xs : List (Nat × AVal)} {R : Hp → Prop}

/-- What is known of each operation but the last. -/
structure Told3 (P : Program) (B0 : Base) (n : Nat) (ops : Array Oper) (H : Hp) (σ : Env) (xs : List (Nat × AVal)) : Prop where
  len : xs.length = ops.size - 1
  get : ∀ j, j < ops.size - 1 → ∃ o d x, ops[j]? = some o ∧ xs[j]? = some (d, x) ∧ o.dst = some d ∧ d < n ∧ @wop P B0 o (xs.reverse ++ σ) H ⟨fun v H' => v = x ∧ H' = H⟩
/-- These operations come to the same at another memory. -/
def Re (P : Program) (B0 : Base) (ops : Array Oper) (us : List Nat) (σ : Env) (h : Hp) : Prop :=
  ∀ j ∈ us, ∀ o, ops[j]? = some o → ∀ d, o.dst = some d → ∃ x, σ.get d = some x ∧ @wop P B0 o σ h ⟨fun v H' => v = x ∧ H' = h⟩

structure Taken3 (B0 : Base) (n : Nat) (ops : Array Oper) (H : Hp) (σ : Env) (xs : List (Nat × AVal)) (R : Hp → Prop) (S0 : Seal) (w0 : World) (listed : Array Bool) (a : Act) (w : World) : Prop where
  down : Down ops listed
  size : listed.size = ops.size
  st : ∃ S' h, Ext B0 S0 S' w0 w ∧ Inv B0 w S' h ∧ (∀ t v, Val xs σ listed t v → t < n ∧ Rep w S' v (a.tmps.getD t undef)) ∧ (listed.getD (ops.size - 1) false = false → h = H) ∧ (listed.getD (ops.size - 1) false = true → R h)
  tmps : a.tmps.size = n
  defers : a.defers = []

theorem key3 (hk : PrefOk ops us so) (ht : Told3 P B0 n ops H σ xs) {i d : Nat} {x : AVal} (hx : xs[i]? = some (d, x)) : i < ops.size - 1 ∧ ∃ q, ops[i]? = some q ∧ q.dst = some d := by
  have hi : i < ops.size - 1 := by
    rcases Nat.lt_or_ge i xs.length with h | h
    · rw [ht.len] at h; exact h
    · rw [List.getElem?_eq_none h] at hx; simp at hx
  obtain ⟨o, d', x', k1, k2, k3, _⟩ := ht.get i hi
  rw [hx] at k2
  simp only [Option.some.injEq, Prod.mk.injEq] at k2
  exact ⟨hi, o, k1, by rw [k3, k2.1]⟩
/-- Slots of the operations: no two are one. -/
theorem uniq3 (hk : PrefOk ops us so) (ht : Told3 P B0 n ops H σ xs) {i j d : Nat} {x y : AVal} (hx : xs[i]? = some (d, x)) (hy : xs[j]? = some (d, y)) : i = j := by
  obtain ⟨hi, q, hq, hqd⟩ := key3 hk ht hx
  obtain ⟨hj, q', hq', hqd'⟩ := key3 hk ht hy
  obtain ⟨o, d', h1, _, h2, _, _, h3, _⟩ := hk.each j hj
  rw [hq'] at h1; cases h1
  rw [hqd'] at h2; cases h2
  rcases (h3 i q d hi hq hqd).1 with h | h
  · exact h
  · exact absurd rfl h

/-- What an operation looks at is there. -/
theorem look3 (hk : PrefOk ops us so) (ht : Told3 P B0 n ops H σ xs) {listed : Array Bool} {j : Nat} {o : Oper} (ho : ops[j]? = some o) (hjl : j < ops.size) (hso : ops[ops.size - 1]? = some so)
    (hr : ∀ e ∈ o.after, Region.binds .any e = true → listed.getD e.on false = true) {t : Nat} {v : AVal} (hm : t ∈ o.looksAt ops) (hg : Env.get (xs.reverse ++ σ) t = some v) : Val xs σ listed t v := by
  have edge : ∀ i q, i < ops.size - 1 → ops[i]? = some q → q.dst = some t → ∃ e ∈ o.after, e.on = i ∧ Region.binds .any e = true := by
    intro i q hi hq hqt
    rcases Nat.lt_or_ge j (ops.size - 1) with hj | hj
    · obtain ⟨o', d', h1, _, _, _, _, h3, _⟩ := hk.each j hj
      rw [ho] at h1; cases h1
      exact ((h3 i q t hi hq hqt).2 hm).2
    · obtain rfl : j = ops.size - 1 := by omega
      rw [ho] at hso; cases hso
      obtain ⟨o', d', h1, _, h2, _, h4, _, _⟩ := hk.each i hi
      rw [hq] at h1; cases h1
      rw [hqt] at h2; cases h2
      exact h4 hm
  rcases get_append hg with h | ⟨h1, h2⟩
  · rw [List.mem_reverse, List.mem_iff_getElem] at h
    obtain ⟨i, hi, he⟩ := h
    have hx : xs[i]? = some (t, v) := by rw [List.getElem?_eq_getElem hi, he]
    obtain ⟨hi', q, hq, hqd⟩ := key3 hk ht hx
    obtain ⟨e, he1, he2, he3⟩ := edge i q hi' hq hqd
    exact .inl ⟨i, hx, by rw [← he2]; exact hr e he1 he3⟩
  · refine .inr ⟨fun i x hx => ?_, h2⟩
    exact absurd (List.mem_reverse.2 (List.mem_of_getElem? hx)) (h1 x)

theorem put3 (hk : PrefOk ops us so) (ht : Told3 P B0 n ops H σ xs) {listed : Array Bool} (hs : listed.size = ops.size) {j : Nat} (hj : j < ops.size - 1) {d : Nat} {x : AVal} (hx : xs[j]? = some (d, x)) {t : Nat} {v : AVal}
    (hv : Val xs σ (listed.setIfInBounds j true) t v) : (t = d ∧ v = x) ∨ (t ≠ d ∧ Val xs σ listed t v) := by
  by_cases htd : t = d
  · subst htd
    refine .inl ⟨rfl, ?_⟩
    rcases hv with ⟨i, hi, _⟩ | ⟨h1, _⟩
    · obtain rfl := uniq3 hk ht hi hx
      rw [hx] at hi
      simp only [Option.some.injEq, Prod.mk.injEq, true_and] at hi
      exact hi.symm
    · have := h1 j x hx
      rw [getD_set (by omega), if_pos rfl] at this
      simp at this
  · refine .inr ⟨htd, ?_⟩
    rcases hv with ⟨i, hi, hl⟩ | ⟨h1, h2⟩
    · refine .inl ⟨i, hi, ?_⟩
      rw [getD_set (by omega)] at hl
      split at hl
      · rename_i e
        subst e
        rw [hx] at hi
        simp only [Option.some.injEq, Prod.mk.injEq] at hi
        exact absurd hi.1.symm htd
      · exact hl
    · refine .inr ⟨fun i y hy => ?_, h2⟩
      have := h1 i y hy
      rw [getD_set (by omega)] at this
      split at this
      · simp at this
      · exact this
theorem last3 (ht : Told3 P B0 n ops H σ xs) {listed : Array Bool} (hs : listed.size = ops.size) (hp : 0 < ops.size) {t : Nat} {v : AVal} (hv : Val xs σ (listed.setIfInBounds (ops.size - 1) true) t v) : Val xs σ listed t v := by
  rcases hv with ⟨i, hi, hl⟩ | ⟨h1, h2⟩
  · refine .inl ⟨i, hi, ?_⟩
    rw [getD_set (by omega)] at hl
    have hil : i < xs.length := by
      rcases Nat.lt_or_ge i xs.length with h | h
      · exact h
      · rw [List.getElem?_eq_none h] at hi; simp at hi
    rw [if_neg (by rw [ht.len] at hil; omega)] at hl
    exact hl
  · refine .inr ⟨fun i y hy => ?_, h2⟩
    have := h1 i y hy
    rw [getD_set (by omega)] at this
    split at this
    · simp at this
    · exact this

theorem taken3_step (hk : PrefOk ops us so) (hsd : so.dst = none) (hso : ops[ops.size - 1]? = some so) (ht : Told3 P B0 n ops H σ xs) (hstore : @wop P B0 so (xs.reverse ++ σ) H ⟨fun _ h => R h⟩) (hre : ∀ h, R h → Re P B0 ops us (xs.reverse ++ σ) h)
    {QQ : Exit → Act → World → Prop} {S0 : Seal} {w0 : World} {K : Array Bool → Act → World → Prop} {listed : Array Bool} {a : Act} {w : World} (hT : Taken3 B0 n ops H σ xs R S0 w0 listed a w) {j : Nat}
    (hj : j ∈ Region.ready .any ops listed) (hK : ∀ a' w', Taken3 B0 n ops H σ xs R S0 w0 (listed.setIfInBounds j true) a' w' → K (listed.setIfInBounds j true) a' w') : wpOp P ops QQ j (K (listed.setIfInBounds j true)) a w := by
  obtain ⟨o, ho, hjl, hjf0, hr⟩ := ready_spec hj
  have hjs : j < listed.size := by rw [hT.size]; exact hjl
  have hjf := getD_true_false hjs hjf0
  obtain ⟨S', h, hext, hinv, hval, hn0, hn1⟩ := hT.st
  let ts := o.looksAt ops
  let σf : Env := xs.reverse ++ σ
  have henv : EnvAt w S' (σf.only ts) a.tmps := by
    intro t v hg
    rw [only_get] at hg
    split at hg
    · rename_i hm
      obtain ⟨h1, h2⟩ := hval t v (look3 hk ht ho hjl hso hr (memN_iff.1 hm) hg)
      exact ⟨by rw [hT.tmps]; exact h1, h2⟩
    · simp at hg
  have hget : ∀ t, t ∈ ts → σf.get t = (σf.only ts).get t := fun t h => by rw [only_get, if_pos (memN_iff.2 h)]
  have hdown : Down ops (listed.setIfInBounds j true) := by
    intro i q hq hl e' he hb
    rw [getD_set hjs] at hl ⊢
    split
    · rfl
    · split at hl
      · rename_i hij
        subst hij
        rw [ho] at hq
        simp only [Option.some.injEq] at hq
        subst hq
        exact hr e' he hb
      · exact hT.down i q hq hl e' he hb
  have hlook : ∀ t, Operand.tmp t ∈ o.op.operands.toList → σf.get t = (σf.only ts).get t := fun t ht => hget t (by
    show t ∈ o.looksAt ops
    simp only [Oper.looksAt, List.mem_append, List.mem_filterMap]
    exact .inl ⟨_, ht, rfl⟩)
  unfold wpOp
  rw [ho]
  simp only
  rcases Nat.lt_or_ge j (ops.size - 1) with hjlt | hjge
  · obtain ⟨o', d, x, k1, k2, k3, k4, k5⟩ := ht.get j hjlt
    rw [ho] at k1; cases k1
    obtain ⟨o', d', h1, hg, h2, _, _, _, hcase⟩ := hk.each j hjlt
    rw [ho] at h1; cases h1
    rw [k3] at h2; cases h2
    rw [if_pos (by simp [Region.wanted, hg])]
    have hw : @wop P B0 o σf h ⟨fun v H' => v = x ∧ H' = h⟩ := by
      cases hs : listed.getD (ops.size - 1) false with
      | false => rw [hn0 hs]; exact k5
      | true =>
        rcases hcase with hc | hc | hc
        · have := cov_listed hso hT.down (hT.down _ so hso hs) _ j hc
          rw [hjf] at this; simp at this
        · exact wop_pure0 hc k5
        · obtain ⟨x', e1, e2⟩ := hre h (hn1 hs) j hc o ho d k3
          have hx' : x' = x := by
            have hmem : (d, x') ∈ xs.reverse ∨ ((∀ y, (d, y) ∉ xs.reverse) ∧ σ.get d = some x') := get_append e1
            rcases hmem with hmem | ⟨hno, _⟩
            · rw [List.mem_reverse, List.mem_iff_getElem] at hmem
              obtain ⟨i, hi, he⟩ := hmem
              have hxi : xs[i]? = some (d, x') := by rw [List.getElem?_eq_getElem hi, he]
              obtain rfl := uniq3 hk ht hxi k2
              rw [hxi] at k2
              simp only [Option.some.injEq, Prod.mk.injEq, true_and] at k2
              exact k2
            · exact absurd (List.mem_reverse.2 (List.mem_of_getElem? k2)) (hno x)
          subst hx'
          exact e2
    have h2' := wop_eq (σ' := σf.only ts) hlook hw
    refine .inl (Oper.wp_mono ?_ (wop_sound h2' hinv henv))
    rintro a' w' ⟨v, y, S'', H', rfl, e, hi', hrep, rfl, rfl⟩
    refine hK _ _ ⟨hdown, by simpa using hT.size, ⟨S'', H', hext.trans e, hi', fun t z hz => ?_, fun hs => ?_, fun hs => ?_⟩, by rw [put_size]; exact hT.tmps, by rw [put_defers]; exact hT.defers⟩
    · rw [k3]
      rcases put3 hk ht hT.size hjlt k2 hz with ⟨rfl, rfl⟩ | ⟨hne, hv⟩
      · refine ⟨k4, ?_⟩
        simp only [Act.put, Array.getD_eq_getD_getElem?, Array.getElem?_setIfInBounds_self_of_lt (by rw [hT.tmps]; exact k4), Option.getD_some]
        exact hrep
      · obtain ⟨h1, h2⟩ := hval t z hv
        refine ⟨h1, ?_⟩
        simp only [Act.put, Array.getD_eq_getD_getElem?, Array.getElem?_setIfInBounds_ne (Ne.symm hne)] at h2 ⊢
        exact h2.ext e
    · rw [getD_set hjs, if_neg (by omega)] at hs
      exact hn0 hs
    · rw [getD_set hjs, if_neg (by omega)] at hs
      exact hn1 hs
  · obtain rfl : j = ops.size - 1 := by omega
    rw [ho] at hso; cases hso
    rw [if_pos (by simp [Region.wanted, hk.sg])]
    have hh := hn0 hjf
    subst hh
    have h2' := wop_eq (σ' := σf.only ts) hlook hstore
    refine .inl (Oper.wp_mono ?_ (wop_sound h2' hinv henv))
    rintro a' w' ⟨v, y, S'', H', rfl, e, hi', hrep, hR⟩
    refine hK _ _ ⟨hdown, by simpa using hT.size, ⟨S'', H', hext.trans e, hi', fun t z hz => ?_, fun hs => ?_, fun hs => hR⟩, by rw [put_size]; exact hT.tmps, by rw [put_defers]; exact hT.defers⟩
    · rw [hsd]
      obtain ⟨h1, h2⟩ := hval t z (last3 ht hT.size (by omega) hz)
      exact ⟨h1, by simpa [Act.put] using h2.ext e⟩
    · rw [getD_set hjs, if_pos rfl] at hs
      simp at hs

theorem taken3_all (hk : PrefOk ops us so) (hsd : so.dst = none) (hso : ops[ops.size - 1]? = some so) (ht : Told3 P B0 n ops H σ xs) (hstore : @wop P B0 so (xs.reverse ++ σ) H ⟨fun _ h => R h⟩) (hre : ∀ h, R h → Re P B0 ops us (xs.reverse ++ σ) h)
    {QQ : Exit → Act → World → Prop} {S0 : Seal} {w0 : World}
    (hQ : ∀ listed a w, Taken3 B0 n ops H σ xs R S0 w0 listed a w → (∀ i, i < ops.size → listed.getD i false = true) → QQ .normal a w) : ∀ (fuel : Nat) (listed : Array Bool) (a : Act) (w : World), listed.toList.count false ≤ fuel → Taken3 B0 n ops H σ xs R S0 w0 listed a w →
    wpAny P .any ops QQ fuel listed a w := by
  have edges : ∀ (j : Nat) (o : Oper), ops[j]? = some o → ∀ e ∈ o.after, Region.binds .any e = true → e.on < j := by
    intro j o ho e he hb
    rcases Nat.lt_or_ge j (ops.size - 1) with h | h
    · obtain ⟨o', d', h1, _, _, h2, _⟩ := hk.each j h
      rw [ho] at h1; cases h1
      exact h2 e he hb
    · have hjs : j < ops.size := by
        rcases Nat.lt_or_ge j ops.size with h' | h'
        · exact h'
        · rw [Array.getElem?_eq_none h'] at ho; simp at ho
      obtain rfl : j = ops.size - 1 := by omega
      rw [ho] at hso; cases hso
      exact hk.sa e he hb
  have done : ∀ (listed : Array Bool) (a : Act) (w : World), Taken3 B0 n ops H σ xs R S0 w0 listed a w → Region.ready .any ops listed = [] → QQ .normal a w :=
    fun listed a w hT hr => hQ listed a w hT (ready_nil edges hT.size hr)
  intro fuel
  induction fuel with
  | zero =>
    intro listed a w hc hT
    have hr : Region.ready .any ops listed = [] := by
      rw [List.eq_nil_iff_forall_not_mem]
      intro i hi
      obtain ⟨o, _, h1, h2, _⟩ := ready_spec hi
      have := getD_true_false (by rw [hT.size]; exact h1) h2
      have := count_set (by rw [hT.size]; exact h1) this
      omega
    exact ⟨hr, done listed a w hT hr⟩
  | succ fuel ih =>
    intro listed a w hc hT
    refine ⟨fun hr => done listed a w hT hr, fun i hi => ?_⟩
    refine taken3_step (K := fun l => wpAny P .any ops QQ fuel l) hk hsd hso ht hstore hre hT hi fun a' w' hT' => ih _ a' w' ?_ hT'
    obtain ⟨o, _, h1, h2, _⟩ := ready_spec hi
    have := getD_true_false (by rw [hT.size]; exact h1) h2
    have := count_set (by rw [hT.size]; exact h1) this
    omega
end

theorem get_skip {l σ : Env} {t : Nat} (h : ∀ x, (t, x) ∉ l) : Env.get (l ++ σ) t = σ.get t := by
  induction l with
  | nil => rfl
  | cons p r ih =>
    obtain ⟨d, x⟩ := p
    simp only [List.cons_append, Env.get]
    rw [if_neg (fun e => h x (by subst e; simp)), ih (fun y hy => h y (List.mem_cons_of_mem _ hy))]

/-- These operations come to the same at another memory. -/
def reW (P : Program) (B0 : Base) (ops : List Oper) (σ : Env) (h : Hp) : List Nat → Prop
  | [] => True
  | j :: r => (match ops[j]? with
    | some o => match o.dst with
      | some d => @wv (σ.get d) ⟨fun x => @wop P B0 o σ h ⟨fun v H' => v = x ∧ H' = h⟩⟩
      | none => False
    | none => False) ∧ reW P B0 ops σ h r
theorem reW_spec {P : Program} {B0 : Base} {ops : Array Oper} {σ : Env} {h : Hp} : ∀ {us : List Nat}, (∀ j ∈ us, j < ops.size - 1) → reW P B0 ops.pop.toList σ h us → Re P B0 ops us σ h
  | [], _, _ => fun j hj => by simp at hj
  | i :: r, hus, hw => fun j hj o ho d hd => by
    simp only [reW] at hw
    rcases List.mem_cons.1 hj with rfl | hj
    · have hlt := hus j (by simp)
      have ho' : ops.pop.toList[j]? = some o := by rw [Array.getElem?_toList, pop_get hlt]; exact ho
      rw [ho'] at hw
      simp only [hd] at hw
      obtain ⟨x, hx, hk⟩ := wv_some hw.1
      exact ⟨x, hx, hk⟩
    · exact reW_spec (fun k hk => hus k (by simp [hk])) hw.2 j hj o ho d hd

theorem told3_of {P : Program} {B0 : Base} {n : Nat} {ops : Array Oper} {us : List Nat} {so : Oper} {H : Hp} {σ : Env} {xs : List (Nat × AVal)} (hk : PrefOk ops us so) (ht : Told P B0 n ops.pop H ops.pop.toList σ xs) : Told3 P B0 n ops H σ xs := by
  obtain ⟨hlen, htold⟩ := told_get ht
  have hps : ops.pop.size = ops.size - 1 := Array.size_pop
  have hlen' : xs.length = ops.size - 1 := by rw [hlen, Array.length_toList, hps]
  refine ⟨hlen', fun j hj => ?_⟩
  obtain ⟨o, d, ho, hg, hd, _, _, hsl, _⟩ := hk.each j hj
  obtain ⟨d', x, k1, k2, k3, k4⟩ := htold j o (by rw [Array.getElem?_toList, pop_get hj]; exact ho)
  rw [hd] at k2; cases k2
  refine ⟨o, d, x, ho, k1, hd, k3, ?_⟩
  have hw : wantA ops.pop ((xs.take j).reverse ++ σ) o = some true := by unfold wantA; rw [hg]
  rcases k4 with ⟨_, k4⟩ | ⟨k4, _⟩
  · refine wop_eq (fun t htm => ?_) k4
    have hm : t ∈ o.looksAt ops := by
      simp only [Oper.looksAt, List.mem_append, List.mem_filterMap]
      exact .inl ⟨_, htm, rfl⟩
    have e : xs.reverse ++ σ = (xs.drop j).reverse ++ ((xs.take j).reverse ++ σ) := by
      rw [← List.append_assoc, ← List.reverse_append, List.take_append_drop]
    rw [e]
    refine (get_skip fun y hy => ?_).symm
    rw [List.mem_reverse, List.mem_iff_getElem] at hy
    obtain ⟨i, hi, he⟩ := hy
    rw [List.length_drop] at hi
    rw [List.getElem_drop] at he
    have hij : j + i < ops.size - 1 := by omega
    obtain ⟨o', d', ho', _, hd', _⟩ := hk.each (j + i) hij
    obtain ⟨d'', x'', m1, m2, _⟩ := htold (j + i) o' (by rw [Array.getElem?_toList, pop_get hij]; exact ho')
    rw [List.getElem?_eq_getElem (by omega), he] at m1
    simp only [Option.some.injEq, Prod.mk.injEq] at m1
    have := ((hsl (j + i) o' t hij ho' (by rw [m2, m1.1])).2 hm).1
    omega
  · rw [hw] at k4; simp at k4

/-- All but the last three in any order, and the first of these ahead of some of them; then the last two. -/
theorem tr_drawp {P : Program} {B0 : Base} {n : Nat} {ops : Array Oper} {σ : Env} {H : Hp} {id : Nat} {Q : Exit → Env → Hp → Prop} {so o1 o2 : Oper} (us : List Nat) (hm : P.follows .mixedOrders = true) (hpre : prefOk ops.pop.pop us = true) (hus : us.all (fun j => decide (j < ops.pop.pop.size - 1)) = true) (hok : lastOk ops = true) (hok1 : lastOk ops.pop = true) (hol : ops[ops.size - 1]? = some o2) (hol1 : ops.pop[ops.pop.size - 1]? = some o1) (hol0 : ops.pop.pop[ops.pop.pop.size - 1]? = some so)
    (he : ∀ e ∈ o1.after, e.on < ops.pop.size - 1)
    (h : wopsD P B0 n ops.pop.pop.pop ops.pop.pop.pop.toList σ H fun σ' H' => @wop P B0 so σ' H' ⟨fun _ h => reW P B0 ops.pop.pop.pop.toList σ' h us ∧ @wop P B0 o1 σ' h ⟨fun v H'' => @bindO n o1.dst v σ' ⟨fun σ'' => @wop P B0 o2 σ'' H'' ⟨fun v2 H3 => @bindO n o2.dst v2 σ'' ⟨fun σ3 => Q .normal σ3 H3⟩⟩⟩⟩⟩) : Tr P B0 n (.region id ops true) σ H Q := by
  unfold Tr
  intro w S a hs
  obtain ⟨xs, ht, hq⟩ := told_of h
  unfold prefOk at hpre
  rw [Bool.and_eq_true, hol0] at hpre
  have hsd : so.dst = none := by simpa using hpre.2
  have hk := prefOk_spec hpre.1 hol0
  have ht3 := told3_of hk ht
  have hsz := last_size hol
  have hsz1 := last_size hol1
  have hsz0 := last_size hol0
  have hσ : ∀ t v, σ.get t = some v → t < n := fun t v h => by have := (hs.env t v h).1; rw [hs.size] at this; exact this
  have hg2 := lastOk_guard hok hol
  have hg1 := lastOk_guard hok1 hol1
  have hus' : ∀ j ∈ us, j < ops.pop.pop.size - 1 := by simpa using hus
  refine wp_region_any hm ?_
  rw [rep_push hsz]
  have hps : ops.pop.size = ops.size - 1 := Array.size_pop
  have hf : ops.size = ops.pop.size + 1 := by omega
  rw [hf]
  have hps1 : ops.pop.pop.size = ops.pop.size - 1 := Array.size_pop
  have hedge0 : ∀ (j : Nat) (o : Oper), ops.pop.pop[j]? = some o → ∀ e ∈ o.after, Region.binds .any e = true → e.on < j := by
    intro j o ho e he hb
    rcases Nat.lt_or_ge j (ops.pop.pop.size - 1) with h | h
    · obtain ⟨o', d', h1, _, _, h2, _⟩ := hk.each j h
      rw [ho] at h1; cases h1
      exact h2 e he hb
    · have hjs : j < ops.pop.pop.size := by
        rcases Nat.lt_or_ge j ops.pop.pop.size with h' | h'
        · exact h'
        · rw [Array.getElem?_eq_none h'] at ho; simp at ho
      obtain rfl : j = ops.pop.pop.size - 1 := by omega
      rw [hol0] at ho; cases ho
      exact hk.sa e he hb
  have hedge : ∀ (j : Nat) (o : Oper), ops.pop[j]? = some o → ∀ e ∈ o.after, Region.binds .any e = true → e.on < j := by
    intro j o hj e hem hb
    rcases Nat.lt_or_ge j (ops.pop.size - 1) with h' | h'
    · exact hedge0 j o (by rw [pop_get h']; exact hj) e hem hb
    · have hjs : j < ops.pop.size := by
        rcases Nat.lt_or_ge j ops.pop.size with h2 | h2
        · exact h2
        · rw [Array.getElem?_eq_none h2] at hj; simp at hj
      obtain rfl : j = ops.pop.size - 1 := by omega
      rw [hol1] at hj; cases hj
      exact he e hem
  refine wpAny_last hok hedge _ _ a _ (by simp) (fun i o ho hl => (no_false hl).elim) ?_
  rw [rep_push hsz1]
  have hf1 : ops.pop.size = ops.pop.pop.size + 1 := by omega
  rw [hf1]
  refine wpAny_last hok1 hedge0 _ _ a _ (by simp) (fun i o ho hl => (no_false hl).elim) ?_
  have hstore : @wop P B0 so (xs.reverse ++ σ) H ⟨fun _ h => reW P B0 ops.pop.pop.pop.toList (xs.reverse ++ σ) h us ∧ @wop P B0 o1 (xs.reverse ++ σ) h ⟨fun v H'' => @bindO n o1.dst v (xs.reverse ++ σ) ⟨fun σ'' => @wop P B0 o2 σ'' H'' ⟨fun v2 H3 => @bindO n o2.dst v2 σ'' ⟨fun σ3 => Q .normal σ3 H3⟩⟩⟩⟩⟩ := hq
  refine taken3_all (S0 := S) (w0 := w) hk hsd hol0 ht3 hstore (fun h hR => reW_spec hus' hR.1) ?_ ops.pop.pop.size _ a _ ?_ ?_
  · intro listed a' w' hT hall
    obtain ⟨S', h, e, hi, hval, _, hR⟩ := hT.st
    obtain ⟨_, hq1⟩ := hR (hall _ (by omega))
    have henv : EnvAt w' S' (xs.reverse ++ σ) a'.tmps := by
      intro t v hg
      have hv : Val xs σ listed t v := by
        rcases get_append hg with h' | ⟨h1, h2⟩
        · rw [List.mem_reverse, List.mem_iff_getElem] at h'
          obtain ⟨i, hi', he⟩ := h'
          refine .inl ⟨i, by rw [List.getElem?_eq_getElem hi', he], hall i ?_⟩
          have := ht3.len
          omega
        · refine .inr ⟨fun i x hx => ?_, h2⟩
          exact absurd (List.mem_reverse.2 (List.mem_of_getElem? hx)) (h1 x)
      obtain ⟨h1, h2⟩ := hval t v hv
      exact ⟨by rw [hT.tmps]; exact h1, h2⟩
    have hst : St B0 n w' S' h (xs.reverse ++ σ) a' := ⟨hi, henv, hT.tmps, hT.defers⟩
    show wpOp P ops.pop _ (ops.pop.size - 1) _ a' w'
    unfold wpOp
    rw [hol1]
    simp only
    rw [if_pos (by simp [Region.wanted, hg1])]
    refine .inl (Oper.wp_mono ?_ (wop_sound hq1 hi henv))
    rintro a2 w2 ⟨v, y, S2, H2, rfl, e2, hi2, hrep2, hk2⟩
    obtain ⟨σ2, hs2, hq2⟩ := hst.put e2 hi2 hrep2 hk2
    show wpOp P ops _ (ops.size - 1) _ _ w2
    unfold wpOp
    rw [hol]
    simp only
    rw [if_pos (by simp [Region.wanted, hg2])]
    refine .inl (Oper.wp_mono ?_ (wop_sound hq2 hi2 hs2.env))
    rintro a3 w3 ⟨v3, y3, S3, H3, rfl, e3, hi3, hrep3, hk3⟩
    obtain ⟨σ3, hs3, hq3⟩ := hs2.put e3 hi3 hrep3 hk3
    exact ⟨S3, σ3, H3, (e.trans e2).trans e3, hs3, hq3⟩
  · simp
  · refine ⟨fun i o ho hl => (no_false hl).elim, by simp, ⟨S, H, Ext.drew _ _ _, ⟨hs.inv.base, hs.inv.top, fun b o hb => ?_, hs.inv.tab.ext (Ext.drew B0 S w)⟩, fun t v hv => ?_, fun _ => rfl, fun hl => (no_false hl).elim⟩, hs.size, hs.defers⟩
    · obtain ⟨k1, k2⟩ := hs.inv.obj b o hb
      exact ⟨k1, k2.keep (Ext.drew B0 S w) rfl rfl⟩
    · rcases hv with ⟨i, hi, hl⟩ | ⟨_, h2⟩
      · exact (no_false hl).elim
      · obtain ⟨k1, k2⟩ := hs.env t v h2
        exact ⟨hσ t v h2, k2.ext (Ext.drew B0 S w)⟩

class TL3 : Type where
  run : List Oper → Oper → Oper → Oper → Prop
def splitLast3 : List Oper → List Oper → [TL3] → Prop
  | _, [], _ => False
  | _, [_], _ => False
  | _, [_, _], _ => False
  | acc, [o, p, q], k => k.run acc o p q
  | acc, o :: p :: q :: r :: s, k => @splitLast3 (acc ++ [o]) (p :: q :: r :: s) k
theorem splitLast3_spec {k : TL3} : ∀ {l acc : List Oper}, @splitLast3 acc l k → ∃ l' o p q, l = l' ++ [o, p, q] ∧ k.run (acc ++ l') o p q
  | [], _, h => by simp only [splitLast3] at h
  | [o], acc, h => by simp only [splitLast3] at h
  | [o, p], acc, h => by simp only [splitLast3] at h
  | [o, p, q], acc, h => by simp only [splitLast3] at h; exact ⟨[], o, p, q, rfl, by simpa using h⟩
  | o :: p :: q :: r :: s, acc, h => by
    simp only [splitLast3] at h
    obtain ⟨l', a, b, c, h1, h2⟩ := splitLast3_spec h
    refine ⟨o :: l', a, b, c, by rw [h1]; rfl, ?_⟩
    rw [List.append_assoc] at h2
    exact h2
theorem splitLast3_ops {k : TL3} {ops : Array Oper} (h : @splitLast3 [] ops.toList k) : ∃ o p q, ops[ops.size - 1]? = some q ∧ ops.pop[ops.pop.size - 1]? = some p ∧ ops.pop.pop[ops.pop.pop.size - 1]? = some o ∧ k.run ops.pop.pop.pop.toList o p q := by
  obtain ⟨l', o, p, q, h1, h2⟩ := splitLast3_spec h
  have e : ops = (l' ++ [o, p, q]).toArray := by rw [← h1]
  have e1 : ops.pop = (l' ++ [o, p]).toArray := by
    rw [e]
    apply Array.ext'
    simp
  have e2 : ops.pop.pop = (l' ++ [o]).toArray := by
    rw [e1]
    apply Array.ext'
    simp
  have e3 : ops.pop.pop.pop = l'.toArray := by
    rw [e2]
    apply Array.ext'
    simp
  refine ⟨o, p, q, ?_, ?_, ?_, ?_⟩
  · rw [e]; simp
  · rw [e1]; simp
  · rw [e2]; simp
  · rw [e3]; simpa using h2
theorem tr_drawps (nv : Nat) (us : List Nat) {P : Program} {B0 : Base} {n : Nat} {ops : Array Oper} {σ : Env} {H : Hp} {id : Nat} {y : Code} {Q : Exit → Env → Hp → Prop} (hm : P.follows .mixedOrders = true) (hpre : prefOk ops.pop.pop us = true) (hus : us.all (fun j => decide (j < ops.pop.pop.size - 1)) = true) (hok : lastOk ops = true) (hok1 : lastOk ops.pop = true) (he : edgesOk ops.pop = true)
    (h : ∀ K : Env → Hp → Prop, KW K (fun σ' H' => Tr P B0 n y σ' H' Q) → @splitLast3 [] ops.toList ⟨fun init so o1 o2 => wopsD P B0 n init.toArray init σ H fun σ' H' => @wop P B0 so σ' H' ⟨fun _ h => reW P B0 init σ' h us ∧ @wop P B0 o1 σ' h ⟨fun v H'' => @bindO n o1.dst v σ' ⟨fun σ'' => @wop P B0 o2 σ'' H'' ⟨fun v2 H3 => @bindO n o2.dst v2 σ'' ⟨fun σ3 => Kont K (σ3.keep nv) H3⟩⟩⟩⟩⟩⟩) : Tr P B0 n (.seq (.region id ops true) y) σ H Q := by
  have h' := h (fun σ' H' => Tr P B0 n y σ' H' Q) (by unfold KW; exact fun _ _ h => h)
  obtain ⟨so, o1, o2, h2, h1, h0, hk⟩ := splitLast3_ops h'
  have e : ops.pop.pop.pop.toList.toArray = ops.pop.pop.pop := Array.toArray_toList
  have ht : Tr P B0 n (.region id ops true) σ H (onlyN fun σ'' H'' => Kont (fun σ' H' => Tr P B0 n y σ' H' Q) (σ''.keep nv) H'') := tr_drawp us hm hpre hus hok hok1 h2 h1 h0 (edgesOk_spec he h1) (by rw [← e]; exact hk)
  refine tr_seq (tr_weaken ht ?_)
  rintro w S e a' w' ⟨S', σ', H', hx, hs', hq⟩
  cases e with
  | normal =>
    refine ⟨S', σ', H', hx, hs', ?_⟩
    have hk : Tr P B0 n y (σ'.keep nv) H' Q := by unfold onlyN Kont at hq; exact hq
    exact tr_forget (fun t v ht => keep_get ht) (Hp.Le.refl _) hk
  | _ => exact hq.elim
theorem tr_drawpe (nv : Nat) (us : List Nat) {P : Program} {B0 : Base} {n : Nat} {ops : Array Oper} {σ : Env} {H : Hp} {id : Nat} {Q : Exit → Env → Hp → Prop} (hm : P.follows .mixedOrders = true) (hpre : prefOk ops.pop.pop us = true) (hus : us.all (fun j => decide (j < ops.pop.pop.size - 1)) = true) (hok : lastOk ops = true) (hok1 : lastOk ops.pop = true) (he : edgesOk ops.pop = true)
    (h : ∀ K : Env → Hp → Prop, KW K (Q .normal) → @splitLast3 [] ops.toList ⟨fun init so o1 o2 => wopsD P B0 n init.toArray init σ H fun σ' H' => @wop P B0 so σ' H' ⟨fun _ h => reW P B0 init σ' h us ∧ @wop P B0 o1 σ' h ⟨fun v H'' => @bindO n o1.dst v σ' ⟨fun σ'' => @wop P B0 o2 σ'' H'' ⟨fun v2 H3 => @bindO n o2.dst v2 σ'' ⟨fun σ3 => Kont K (σ3.keep nv) H3⟩⟩⟩⟩⟩⟩) : Tr P B0 n (.region id ops true) σ H Q := by
  have h' := h (Q .normal) (by unfold KW; exact fun _ _ h => h)
  obtain ⟨so, o1, o2, h2, h1, h0, hk⟩ := splitLast3_ops h'
  have e : ops.pop.pop.pop.toList.toArray = ops.pop.pop.pop := Array.toArray_toList
  have ht : Tr P B0 n (.region id ops true) σ H (onlyN fun σ'' H'' => Kont (Q .normal) (σ''.keep nv) H'') := tr_drawp us hm hpre hus hok hok1 h2 h1 h0 (edgesOk_spec he h1) (by rw [← e]; exact hk)
  refine tr_weaken ht ?_
  rintro w S e a' w' ⟨S', σ', H', hx, hs', hq⟩
  cases e with
  | normal => exact ⟨S', _, H', hx, ⟨hs'.inv, fun t v ht => hs'.env t v (keep_get ht), hs'.size, hs'.defers⟩, by unfold onlyN Kont at hq; exact hq⟩
  | _ => exact hq.elim
end Go.Sv
