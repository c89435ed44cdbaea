/-
  A region whose order is open, with two appends, the one on the other's result. Own work. Nothing here is trusted.
-/
import Derived.Test.YtopegdkhoafajaaCore13
namespace Go.Sv
set_option linter.unusedSimpArgs false
set_option linter.unusedVariables false

/-- What leaves memory as it is, whatever there is. -/
def pureOp : Op → Bool
  | .move _ | .assign _ | .pick _ _ _ | .binOp _ _ _ _ _ | .buildSlice _ _ _ => true
  | .convert _ _ _ => true
  | _ => false

theorem convM_pure {P : Program} {B0 : Base} {s d : TypeId} {a x : AVal} {H h : Hp} (hle : H.Le h) (hw : @convM P B0 s d a H ⟨fun v H' => v = x ∧ H' = H⟩) : @convM P B0 s d a h ⟨fun v H' => v = x ∧ H' = h⟩ := by
  unfold convM at hw ⊢
  split at hw
  · exact ⟨hw.1, hw.2.1, rfl⟩
  · exact ⟨hw.1, hw.2.1, hw.2.2.1, hw.2.2.2.1, rfl⟩
  · rename_i b sz n hd
    split at hw
    · rename_i e l hs hb
      simp only [hs, hle b _ hb]
      exact ⟨hw.1, hw.2.1, hw.2.2.1, trivial⟩
    · exact hw.elim
  · rename_i b off
    split at hw
    · rename_i ty vs hb
      rw [hle b _ hb]
      exact ⟨hw.1, hw.2.1, rfl⟩
    · exact hw.elim
  · exact ⟨hw.1, wv_mono (fun v hv => ⟨hv.1, rfl⟩) hw.2⟩

theorem wop_pure {P : Program} {B0 : Base} {o : Oper} {σ : Env} {H h : Hp} {x : AVal} (hle : H.Le h) (hp : pureOp o.op = true) (hw : @wop P B0 o σ H ⟨fun v H' => v = x ∧ H' = H⟩) : @wop P B0 o σ h ⟨fun v H' => v = x ∧ H' = h⟩ := by
  obtain ⟨dst, op, type, pos, after, guard⟩ := o
  unfold wop at hw ⊢
  cases op <;> simp only [pureOp, Bool.false_eq_true] at hp <;> simp only at hw ⊢
  case move y => exact wv_mono (fun v hv => ⟨hv.1, rfl⟩) hw
  case assign y => exact wv_mono (fun v hv => ⟨hv.1, rfl⟩) hw
  case pick c y z =>
    obtain ⟨p, hc, hw⟩ := wv_some hw
    refine wv_intro hc ?_
    cases p <;> first | exact hw.elim | skip
    rename_i b
    cases b
    · exact wv_mono (fun v hv => ⟨hv.1, rfl⟩) hw
    · exact wv_mono (fun v hv => ⟨hv.1, rfl⟩) hw
  case binOp op t y z t' =>
    refine wv_mono (fun a ha => ?_) hw
    by_cases hnil : isNilC z = true
    · rw [if_pos hnil] at ha ⊢
      exact nilCmp_mono (fun v hv => ⟨hv.1, rfl⟩) ha
    · rw [if_neg hnil] at ha ⊢
      exact wv_mono (fun b hb => binAny_mono (fun v hv => ⟨hv.1, rfl⟩) hb) ha
  case convert s d y => exact wv_mono (fun a ha => convM_pure hle ha) hw
  case buildSlice t len parts =>
    cases hx : inOrder 0 parts.toList with
    | none => rw [hx] at hw; exact hw.elim
    | some xs =>
      rw [hx] at hw
      simp only at hw ⊢
      split at hw
      · split at hw
        · exact ⟨hw.1, hw.2.1, hw.2.2.1, hw.2.2.2.1, hw.2.2.2.2.1, trivial⟩
        · exact hw.elim
      · exact hw.elim

section
variable {P : Program} {B0 : Base} {n : Nat} {ops : Array Oper} {H : Hp} {σ : Env} {xs : List (Nat × AVal)} {i1 i2 d1 : Nat} {ty : Ty} {l1 l2 : List ty.den}

/-- What is known of one operation. -/
def Told2 (P : Program) (B0 : Base) (n : Nat) (ops : Array Oper) (H : Hp) (σ : Env) (xs : List (Nat × AVal)) (i1 i2 d1 : Nat) (ty : Ty) (l1 l2 : List ty.den) (j : Nat) (o : Oper) : Prop :=
  ∃ d x, xs[j]? = some (d, x) ∧ o.dst = some d ∧ d < n ∧
    ((j = i1 ∧ d = d1 ∧ x = .sl ty l1 .no ∧ o.guard = none ∧ @wop P B0 o ((xs.take j).reverse ++ σ) H ⟨fun v h => ∃ o', v = .sl ty l1 o' ∧ Ap H h o' ty l1.length⟩) ∨
     (j = i2 ∧ x = .sl ty l2 .no ∧ o.guard = none ∧ d1 ∈ o.looksAt ops ∧ ∀ o' h, Ap H h o' ty l1.length → @wop P B0 o ((d1, .sl ty l1 o') :: ((xs.take j).reverse ++ σ)) h ⟨fun v h' => ∃ o'', v = .sl ty l2 o'' ∧ H.Le h'⟩) ∨
     (j ≠ i1 ∧ j ≠ i2 ∧ ((wantA ops ((xs.take j).reverse ++ σ) o = some true ∧ ∀ h, H.Le h → @wop P B0 o ((xs.take j).reverse ++ σ) h ⟨fun v H' => v = x ∧ H' = h⟩) ∨ (wantA ops ((xs.take j).reverse ++ σ) o = some false ∧ x = .tup []))))

structure Taken2 (B0 : Base) (n : Nat) (ops : Array Oper) (H : Hp) (σ : Env) (xs : List (Nat × AVal)) (i1 i2 d1 : Nat) (ty : Ty) (l1 : List ty.den) (S0 : Seal) (w0 : World) (listed : Array Bool) (a : Act) (w : World) : Prop where
  down : ∀ (i : Nat) (o : Oper), ops[i]? = some o → listed.getD i false = true → ∀ e ∈ o.after, Region.binds .any e = true → listed.getD e.on false = true
  size : listed.size = ops.size
  st : ∃ S' h, Ext B0 S0 S' w0 w ∧ Inv B0 w S' h ∧ H.Le h ∧ (∀ t v, Val xs σ listed t v → t < n ∧ Rep w S' v (a.tmps.getD t undef)) ∧
    ((listed.getD i1 false = true ∧ listed.getD i2 false = false) → ∃ o', Ap H h o' ty l1.length ∧ Rep w S' (.sl ty l1 o') (a.tmps.getD d1 undef)) ∧ (listed.getD i1 false = false → h = H)
  tmps : a.tmps.size = n
  defers : a.defers = []

theorem key2 (hlen : xs.length = ops.size) (ht : ∀ j o, ops[j]? = some o → Told2 P B0 n ops H σ xs i1 i2 d1 ty l1 l2 j o) {i d : Nat} {x : AVal} (hx : xs[i]? = some (d, x)) : ∃ q, ops[i]? = some q ∧ q.dst = some d := by
  have hi : i < ops.size := by
    rcases Nat.lt_or_ge i xs.length with h | h
    · omega
    · rw [List.getElem?_eq_none h] at hx; simp at hx
  obtain ⟨d', x', k1, k2, _⟩ := ht i _ (Array.getElem?_eq_getElem hi)
  rw [hx] at k1
  simp only [Option.some.injEq, Prod.mk.injEq] at k1
  exact ⟨ops[i], Array.getElem?_eq_getElem hi, by rw [k2, k1.1]⟩

theorem val_of_look2 (hd : drawOk ops = true) (hlen : xs.length = ops.size) (key : ∀ {i d : Nat} {x : AVal}, xs[i]? = some (d, x) → ∃ q, ops[i]? = some q ∧ q.dst = some d) {listed : Array Bool}
    (hdown : ∀ (i : Nat) (o : Oper), ops[i]? = some o → listed.getD i false = true → ∀ e ∈ o.after, Region.binds .any e = true → listed.getD e.on false = true) {j : Nat} {o : Oper} (ho : ops[j]? = some o)
    (hj : listed.getD j false = false) (hr : ∀ e ∈ o.after, Region.binds .any e = true → listed.getD e.on false = true) {t : Nat} {v : AVal} (hm : t ∈ o.looksAt ops) (hg : Env.get ((xs.take j).reverse ++ σ) t = some v) : Val xs σ listed t v := by
  rcases get_append hg with h | ⟨h1, h2⟩
  · rw [List.mem_reverse, List.mem_take_iff_getElem] at h
    obtain ⟨i, hi, he⟩ := h
    have hx : xs[i]? = some (t, v) := by rw [List.getElem?_eq_getElem (by omega), he]
    obtain ⟨q, hq, hqd⟩ := key hx
    have hij : i < j := by omega
    obtain ⟨_, _, hs⟩ := drawOk_spec hd ho
    obtain ⟨_, hs⟩ := hs i q t hq (by omega) hqd
    obtain ⟨e, he1, he2, he3⟩ := (hs hm).1 hij
    exact .inl ⟨i, hx, by rw [← he2]; exact hr e he1 he3⟩
  · refine .inr ⟨fun i x hx => ?_, h2⟩
    obtain ⟨q, hq, hqd⟩ := key hx
    rcases Nat.lt_trichotomy i j with hij | rfl | hji
    · exfalso
      apply h1 x
      rw [List.mem_reverse, List.mem_take_iff_getElem]
      have hi : i < xs.length := by
        rcases Nat.lt_or_ge i xs.length with h | h
        · exact h
        · rw [List.getElem?_eq_none h] at hx; simp at hx
      exact ⟨i, by omega, by rw [List.getElem?_eq_getElem hi] at hx; simpa using hx⟩
    · exact hj
    · obtain ⟨_, _, hs⟩ := drawOk_spec hd ho
      obtain ⟨_, hs⟩ := hs i q t hq (by omega) hqd
      obtain ⟨e, he1, he2, he3⟩ := (hs hm).2 hji
      cases hl : listed.getD i false with
      | false => rfl
      | true =>
        have := hdown i q hq hl e he1 he3
        rw [he2, hj] at this
        simp at this

theorem val_put2 (hd : drawOk ops = true) (key : ∀ {i d : Nat} {x : AVal}, xs[i]? = some (d, x) → ∃ q, ops[i]? = some q ∧ q.dst = some d) {listed : Array Bool} (hs : listed.size = ops.size) {j : Nat} {o : Oper} (ho : ops[j]? = some o) {d : Nat} {x : AVal} (hx : xs[j]? = some (d, x)) {t : Nat} {v : AVal}
    (hv : Val xs σ (listed.setIfInBounds j true) t v) : (t = d ∧ v = x) ∨ (t ≠ d ∧ Val xs σ listed t v) := by
  have hjl : j < ops.size := by
    rcases Nat.lt_or_ge j ops.size with h' | h'
    · exact h'
    · rw [Array.getElem?_eq_none h'] at ho; simp at ho
  have uniq : ∀ {i : Nat} {y : AVal}, xs[i]? = some (d, y) → i = j := by
    intro i y hy
    obtain ⟨q, hq, hqd⟩ := key hy
    obtain ⟨q', hq', hqd'⟩ := key hx
    rw [ho] at hq'
    simp only [Option.some.injEq] at hq'
    subst hq'
    rcases Nat.decEq i j with hne | he
    · obtain ⟨_, _, hs⟩ := drawOk_spec hd ho
      exact absurd hqd' (hs i q d hq hne hqd).1
    · exact he
  by_cases htd : t = d
  · subst htd
    refine .inl ⟨rfl, ?_⟩
    rcases hv with ⟨i, hi, _⟩ | ⟨h1, _⟩
    · obtain rfl := uniq hi
      rw [hx] at hi
      simp only [Option.some.injEq, Prod.mk.injEq, true_and] at hi
      exact hi.symm
    · have := h1 j x hx
      rw [getD_set (by omega), if_pos rfl] at this
      simp at this
  · refine .inr ⟨htd, ?_⟩
    rcases hv with ⟨i, hi, hl⟩ | ⟨h1, h2⟩
    · refine .inl ⟨i, hi, ?_⟩
      rw [getD_set (by omega)] at hl
      split at hl
      · rename_i e
        subst e
        rw [hx] at hi
        simp only [Option.some.injEq, Prod.mk.injEq] at hi
        exact absurd hi.1.symm htd
      · exact hl
    · refine .inr ⟨fun i y hy => ?_, h2⟩
      have := h1 i y hy
      rw [getD_set (by omega)] at this
      split at this
      · simp at this
      · exact this

theorem taken2_step (hd : drawOk ops = true) (hlen : xs.length = ops.size) (ht : ∀ j o, ops[j]? = some o → Told2 P B0 n ops H σ xs i1 i2 d1 ty l1 l2 j o) (h12 : i1 < i2) (hi1 : i1 < ops.size) {QQ : Exit → Act → World → Prop} {S0 : Seal} {w0 : World} {K : Array Bool → Act → World → Prop} {listed : Array Bool} {a : Act} {w : World}
    (hT : Taken2 B0 n ops H σ xs i1 i2 d1 ty l1 S0 w0 listed a w) {j : Nat} (hj : j ∈ Region.ready .any ops listed) (hK : ∀ a' w', Taken2 B0 n ops H σ xs i1 i2 d1 ty l1 S0 w0 (listed.setIfInBounds j true) a' w' → K (listed.setIfInBounds j true) a' w') : wpOp P ops QQ j (K (listed.setIfInBounds j true)) a w := by
  have key : ∀ {i d : Nat} {x : AVal}, xs[i]? = some (d, x) → ∃ q, ops[i]? = some q ∧ q.dst = some d := fun hx => key2 hlen ht hx
  obtain ⟨o, ho, hjl, hjf0, hr⟩ := ready_spec hj
  have hjs : j < listed.size := by rw [hT.size]; exact hjl
  have hjf := getD_true_false hjs hjf0
  obtain ⟨d, x, hx, hdst, hdn, hwhat⟩ := ht j o ho
  obtain ⟨S', h, hext, hinv, hle, hval, hpend, hnone⟩ := hT.st
  obtain ⟨o1, ho1⟩ : ∃ o1, ops[i1]? = some o1 := ⟨_, Array.getElem?_eq_getElem hi1⟩
  obtain ⟨dd, _, _, ho1d, _, hw1⟩ := ht i1 o1 ho1
  have hd1 : o1.dst = some d1 := by
    rcases hw1 with ⟨_, e, _⟩ | ⟨e, _⟩ | ⟨e, _⟩
    · rw [ho1d, e]
    · omega
    · exact absurd rfl e
  let ts := o.looksAt ops
  let σj : Env := (xs.take j).reverse ++ σ
  have henv : EnvAt w S' (σj.only ts) a.tmps := by
    intro t v hg
    rw [only_get] at hg
    split at hg
    · rename_i hm
      have hv := val_of_look2 hd hlen key hT.down ho hjf hr (memN_iff.1 hm) hg
      obtain ⟨h1, h2⟩ := hval t v hv
      exact ⟨by rw [hT.tmps]; exact h1, h2⟩
    · simp at hg
  have hget : ∀ t, t ∈ ts → σj.get t = (σj.only ts).get t := fun t h => by rw [only_get, if_pos (memN_iff.2 h)]
  -- after it
  have after : ∀ {v : Value} {w' : World} {S'' : Seal} {h' : Hp}, Ext B0 S' S'' w w' → Inv B0 w' S'' h' → H.Le h' → Rep w' S'' x v →
      (((listed.setIfInBounds j true).getD i1 false = true ∧ (listed.setIfInBounds j true).getD i2 false = false) → ∃ o', Ap H h' o' ty l1.length ∧ Rep w' S'' (.sl ty l1 o') ((a.put o.dst v).tmps.getD d1 undef)) →
      ((listed.setIfInBounds j true).getD i1 false = false → h' = H) → Taken2 B0 n ops H σ xs i1 i2 d1 ty l1 S0 w0 (listed.setIfInBounds j true) (a.put o.dst v) w' := by
    intro v w' S'' h' e hi' hle' hrep hp hn
    refine ⟨fun i q hq hl e' he hb => ?_, by simpa using hT.size, ⟨S'', h', hext.trans e, hi', hle', fun t y hy => ?_, hp, hn⟩, by rw [put_size]; exact hT.tmps, by rw [put_defers]; exact hT.defers⟩
    · rw [getD_set hjs] at hl ⊢
      split
      · rfl
      · split at hl
        · rename_i hij
          subst hij
          rw [ho] at hq
          simp only [Option.some.injEq] at hq
          subst hq
          exact hr e' he hb
        · exact hT.down i q hq hl e' he hb
    · rw [hdst]
      rcases val_put2 hd key hT.size ho hx hy with ⟨rfl, rfl⟩ | ⟨hne, hv⟩
      · refine ⟨hdn, ?_⟩
        simp only [Act.put, Array.getD_eq_getD_getElem?, Array.getElem?_setIfInBounds_self_of_lt (by rw [hT.tmps]; exact hdn), Option.getD_some]
        exact hrep
      · obtain ⟨h1, h2⟩ := hval t y hv
        refine ⟨h1, ?_⟩
        simp only [Act.put, Array.getD_eq_getD_getElem?, Array.getElem?_setIfInBounds_ne (Ne.symm hne)] at h2 ⊢
        exact h2.ext e
  -- the pending slice stays
  have stays : j ≠ i1 → ∀ {v : Value} {w' : World} {S'' : Seal} {o' : Own}, Ext B0 S' S'' w w' → Rep w S' (.sl ty l1 o') (a.tmps.getD d1 undef) → Rep w' S'' (.sl ty l1 o') ((a.put o.dst v).tmps.getD d1 undef) := by
    intro hne v w' S'' o' e hrep
    have hdd : d ≠ d1 := by
      rintro rfl
      obtain ⟨_, _, hs⟩ := drawOk_spec hd ho
      exact (hs i1 o1 d ho1 (Ne.symm hne) hd1).1 hdst
    rw [hdst]
    simp only [Act.put, Array.getD_eq_getD_getElem?, Array.getElem?_setIfInBounds_ne hdd] at hrep ⊢
    exact hrep.ext e
  have hwant : ∀ b, wantA ops σj o = some b → Region.wanted o (yielded ops a.tmps) = b := by
    intro b hb
    unfold wantA at hb
    cases hg : o.guard with
    | none => rw [hg] at hb; simp only [Option.some.injEq] at hb; simp [Region.wanted, hg, hb]
    | some p =>
      obtain ⟨g, want⟩ := p
      rw [hg] at hb
      simp only at hb
      by_cases hsk : skipA ops σj g = true
      · rw [if_pos hsk] at hb
        simp only [Option.some.injEq] at hb
        have hsk' : skipA ops (σj.only ts) g = true := by
          rw [← hsk]
          refine (skipA_eq fun t ht => hget t ?_).symm
          show t ∈ o.looksAt ops
          simp [Oper.looksAt, hg, ht]
        have := skipA_spec hsk' henv
        simp [Region.wanted, hg, this, ← hb]
      rw [if_neg hsk] at hb
      simp only [Option.map_eq_some_iff] at hb
      obtain ⟨c, hc, rfl⟩ := hb
      have hc' : guardA ops (σj.only ts) g = some c := by
        rw [← hc]
        refine (guardA_eq fun t ht => hget t ?_).symm
        show t ∈ o.looksAt ops
        simp [Oper.looksAt, hg, ht]
      have := guardA_spec hc' henv
      cases want <;> cases c <;> simp [Region.wanted, hg, this]
  have look : ∀ t, Operand.tmp t ∈ o.op.operands.toList → t ∈ ts := fun t ht => by
    show t ∈ o.looksAt ops
    simp only [Oper.looksAt, List.mem_append, List.mem_filterMap]
    exact .inl ⟨_, ht, rfl⟩
  unfold wpOp
  rw [ho]
  simp only
  rcases hwhat with ⟨rfl, rfl, rfl, hg, h2⟩ | ⟨rfl, rfl, hg, hdl, h2⟩ | ⟨hn1, hn2, ⟨h1, h2⟩ | ⟨h1, rfl⟩⟩
  · -- the first append
    rw [if_pos (by simp [Region.wanted, hg])]
    have hhH := hnone hjf
    subst hhH
    have h2' := wop_eq (σ' := σj.only ts) (fun t ht => hget t (look t ht)) h2
    refine .inl (Oper.wp_mono ?_ (wop_sound h2' hinv henv))
    rintro a' w' ⟨v, y, S'', H', rfl, e, hi', hrep, o', rfl, hap⟩
    refine hK _ _ (after e hi' hap.le ?_ (fun _ => ⟨o', hap, ?_⟩) (fun hc => ?_))
    · simp only [Rep] at hrep ⊢
      obtain ⟨ad, cap, e1, e2, e3, _⟩ := hrep
      exact ⟨ad, cap, e1, e2, e3, trivial⟩
    · rw [hdst]
      simp only [Act.put, Array.getD_eq_getD_getElem?, Array.getElem?_setIfInBounds_self_of_lt (by rw [hT.tmps]; exact hdn), Option.getD_some]
      exact hrep
    · rw [getD_set hjs, if_pos rfl] at hc
      simp at hc
  · -- the second
    rw [if_pos (by simp [Region.wanted, hg])]
    have hl1 : listed.getD i1 false = true := by
      obtain ⟨_, _, hs⟩ := drawOk_spec hd ho
      obtain ⟨_, hs⟩ := hs i1 o1 d1 ho1 (by omega) hd1
      obtain ⟨e, he1, he2, he3⟩ := (hs hdl).1 h12
      rw [← he2]; exact hr e he1 he3
    obtain ⟨o', hap, hrp⟩ := hpend ⟨hl1, hjf⟩
    have henv' : EnvAt w S' ((d1, .sl ty l1 o') :: σj.only ts) a.tmps := by
      intro t v hgt
      simp only [Env.get] at hgt
      split at hgt
      · rename_i htd
        cases hgt
        subst htd
        obtain ⟨i', hx1⟩ : ∃ x1, xs[i1]? = some (t, x1) := by
          obtain ⟨d', x', k1, k2, _⟩ := ht i1 o1 ho1
          rw [hd1] at k2
          cases k2
          exact ⟨x', k1⟩
        have := (hval t _ (.inl ⟨i1, hx1, hl1⟩)).1
        exact ⟨by rw [hT.tmps]; exact this, hrp⟩
      · exact henv t v hgt
    have h2' := wop_eq (σ' := (d1, .sl ty l1 o') :: σj.only ts) (fun t ht => by
      simp only [Env.get]
      split
      · rfl
      · exact hget t (look t ht)) (h2 o' h hap)
    refine .inl (Oper.wp_mono ?_ (wop_sound h2' hinv henv'))
    rintro a' w' ⟨v, y, S'', H', rfl, e, hi', hrep, o'', rfl, hle'⟩
    refine hK _ _ (after e hi' hle' ?_ (fun hc => ?_) (fun hc => ?_))
    · simp only [Rep] at hrep ⊢
      obtain ⟨ad, cap, e1, e2, e3, _⟩ := hrep
      exact ⟨ad, cap, e1, e2, e3, trivial⟩
    · have := hc.2
      rw [getD_set hjs, if_pos rfl] at this
      simp at this
    · rw [getD_set hjs] at hc
      split at hc
      · simp at hc
      · rw [hl1] at hc; simp at hc
  · rw [if_pos (hwant true h1)]
    have h2' := wop_eq (σ' := σj.only ts) (fun t ht => hget t (look t ht)) (h2 h hle)
    refine .inl (Oper.wp_mono ?_ (wop_sound h2' hinv henv))
    rintro a' w' ⟨v, y, S'', H', rfl, e, hi', hrep, rfl, rfl⟩
    refine hK _ _ (after e hi' hle hrep (fun hc => ?_) (fun hc => ?_))
    · rw [getD_set hjs, getD_set hjs, if_neg (Ne.symm hn1), if_neg (Ne.symm hn2)] at hc
      obtain ⟨o', hap, hrp⟩ := hpend hc
      exact ⟨o', hap, stays hn1 e hrp⟩
    · rw [getD_set hjs, if_neg (Ne.symm hn1)] at hc
      exact hnone hc
  · rw [if_neg (by rw [hwant false h1]; simp)]
    refine hK _ _ (after (Ext.refl _ _ _) hinv hle rep_skip (fun hc => ?_) (fun hc => ?_))
    · rw [getD_set hjs, getD_set hjs, if_neg (Ne.symm hn1), if_neg (Ne.symm hn2)] at hc
      obtain ⟨o', hap, hrp⟩ := hpend hc
      exact ⟨o', hap, stays hn1 (Ext.refl _ _ _) hrp⟩
    · rw [getD_set hjs, if_neg (Ne.symm hn1)] at hc
      exact hnone hc
end

section
variable {P : Program} {B0 : Base} {n : Nat} {ops : Array Oper} {H : Hp} {σ : Env} {xs : List (Nat × AVal)} {i1 i2 d1 : Nat} {ty : Ty} {l1 l2 : List ty.den}

theorem taken2_all (hd : drawOk ops = true) (hlen : xs.length = ops.size) (ht : ∀ j o, ops[j]? = some o → Told2 P B0 n ops H σ xs i1 i2 d1 ty l1 l2 j o) (h12 : i1 < i2) (hi1 : i1 < ops.size) {QQ : Exit → Act → World → Prop} {S0 : Seal} {w0 : World}
    (hQ : ∀ listed a w, Taken2 B0 n ops H σ xs i1 i2 d1 ty l1 S0 w0 listed a w → (∀ i, i < ops.size → listed.getD i false = true) → QQ .normal a w) : ∀ (fuel : Nat) (listed : Array Bool) (a : Act) (w : World), listed.toList.count false ≤ fuel → Taken2 B0 n ops H σ xs i1 i2 d1 ty l1 S0 w0 listed a w →
    wpAny P .any ops QQ fuel listed a w := by
  have done : ∀ (listed : Array Bool) (a : Act) (w : World), Taken2 B0 n ops H σ xs i1 i2 d1 ty l1 S0 w0 listed a w → Region.ready .any ops listed = [] → QQ .normal a w := by
    intro listed a w hT hr
    refine hQ listed a w hT fun i hi => ?_
    have : ∀ k i, i < k → i < ops.size → listed.getD i false = true := by
      intro k
      induction k with
      | zero => intro i h; omega
      | succ k ih =>
        intro i hik hi
        cases hl : listed.getD i false with
        | true => rfl
        | false =>
          exfalso
          have hmem : i ∈ Region.ready .any ops listed := by
            unfold Region.ready
            simp only [List.mem_filter, List.mem_range, Bool.and_eq_true, Bool.not_eq_true']
            have his : i < listed.size := by rw [hT.size]; exact hi
            refine ⟨hi, ?_, ?_⟩
            · simp only [Array.getD_eq_getD_getElem?, Array.getElem?_eq_getElem his, Option.getD_some] at hl ⊢
              exact hl
            · rw [Array.getElem?_eq_getElem hi]
              simp only [Option.map_some, Option.getD_some, Array.all_eq_true]
              intro k' hk'
              obtain ⟨h1, _, _⟩ := drawOk_spec hd (j := i) (o := ops[i]) (Array.getElem?_eq_getElem hi)
              cases hb : Region.binds .any ops[i].after[k'] with
              | false => simp
              | true =>
                have hlt := h1 _ (Array.getElem_mem hk') hb
                have hih := ih (ops[i].after[k'].on) (by omega) (by omega)
                rw [hih]
                simp
          rw [hr] at hmem
          simp at hmem
    exact this (i + 1) i (by omega) hi
  intro fuel
  induction fuel with
  | zero =>
    intro listed a w hc hT
    have hr : Region.ready .any ops listed = [] := by
      rw [List.eq_nil_iff_forall_not_mem]
      intro i hi
      obtain ⟨o, _, h1, h2, _⟩ := ready_spec hi
      have := getD_true_false (by rw [hT.size]; exact h1) h2
      have := count_set (by rw [hT.size]; exact h1) this
      omega
    exact ⟨hr, done listed a w hT hr⟩
  | succ fuel ih =>
    intro listed a w hc hT
    refine ⟨fun hr => done listed a w hT hr, fun i hi => ?_⟩
    refine taken2_step (K := fun l => wpAny P .any ops QQ fuel l) hd hlen ht h12 hi1 hT hi fun a' w' hT' => ih _ a' w' ?_ hT'
    obtain ⟨o, _, h1, h2, _⟩ := ready_spec hi
    have := getD_true_false (by rw [hT.size]; exact h1) h2
    have := count_set (by rw [hT.size]; exact h1) this
    omega

/-- Each operation, in the order of the text. -/
def wopsC (P : Program) (B0 : Base) (n : Nat) (ops : Array Oper) (H : Hp) (i1 i2 d1 : Nat) (ty : Ty) (l1 l2 : List ty.den) : Nat → List Oper → Env → (Env → Prop) → Prop
  | _, [], σ, Q => Q σ
  | k, o :: rest, σ, Q => match o.dst with
    | none => False
    | some d => d < n ∧
      (if k = i1 then d = d1 ∧ o.guard = none ∧ @wop P B0 o σ H ⟨fun v h => ∃ o', v = .sl ty l1 o' ∧ Ap H h o' ty l1.length⟩ ∧ wopsC P B0 n ops H i1 i2 d1 ty l1 l2 (k + 1) rest ((d, .sl ty l1 .no) :: σ) Q
      else if k = i2 then o.guard = none ∧ d1 ∈ o.looksAt ops ∧ (∀ o' h, Ap H h o' ty l1.length → @wop P B0 o ((d1, .sl ty l1 o') :: σ) h ⟨fun v h' => ∃ o'', v = .sl ty l2 o'' ∧ H.Le h'⟩) ∧ wopsC P B0 n ops H i1 i2 d1 ty l1 l2 (k + 1) rest ((d, .sl ty l2 .no) :: σ) Q
      else @gate (wantA ops σ o) true ⟨∃ x, (if pureOp o.op = true then @wop P B0 o σ H ⟨fun v H' => v = x ∧ H' = H⟩ else ∀ h, H.Le h → @wop P B0 o σ h ⟨fun v H' => v = x ∧ H' = h⟩) ∧ @at1 x ⟨fun x => wopsC P B0 n ops H i1 i2 d1 ty l1 l2 (k + 1) rest ((d, x) :: σ) Q⟩⟩
        ⟨wopsC P B0 n ops H i1 i2 d1 ty l1 l2 (k + 1) rest ((d, .tup []) :: σ) Q⟩)

theorem told2_of {Q : Env → Prop} (h12 : i1 ≠ i2) : ∀ {l : List Oper} {k : Nat} {xs0 : List (Nat × AVal)}, xs0.length = k → wopsC P B0 n ops H i1 i2 d1 ty l1 l2 k l (xs0.reverse ++ σ) Q →
    ∃ xs1, xs1.length = l.length ∧ Q ((xs0 ++ xs1).reverse ++ σ) ∧ ∀ j o, l[j]? = some o → Told2 P B0 n ops H σ (xs0 ++ xs1) i1 i2 d1 ty l1 l2 (k + j) o
  | [], k, xs0, hk, h => ⟨[], rfl, by simpa [wopsC] using h, fun j o ho => by simp at ho⟩
  | o :: rest, k, xs0, hk, h => by
    simp only [wopsC] at h
    split at h
    · exact h.elim
    rename_i d hd
    obtain ⟨hn, h⟩ := h
    -- the rest, and this one
    have go : ∀ x, wopsC P B0 n ops H i1 i2 d1 ty l1 l2 (k + 1) rest ((d, x) :: (xs0.reverse ++ σ)) Q →
        (∀ ys : List (Nat × AVal), (∃ zs, ys = xs0 ++ (d, x) :: zs) → Told2 P B0 n ops H σ ys i1 i2 d1 ty l1 l2 k o) →
        ∃ xs1, xs1.length = (o :: rest).length ∧ Q ((xs0 ++ xs1).reverse ++ σ) ∧ ∀ j o', (o :: rest)[j]? = some o' → Told2 P B0 n ops H σ (xs0 ++ xs1) i1 i2 d1 ty l1 l2 (k + j) o' := by
      intro x hr hthis
      obtain ⟨xs1, e1, e2, e3⟩ := told2_of h12 (k := k + 1) (xs0 := xs0 ++ [(d, x)]) (by simp [hk]) (by simpa using hr)
      refine ⟨(d, x) :: xs1, by simp [e1], by simpa using e2, fun j o' ho => ?_⟩
      cases j with
      | zero =>
        simp only [List.getElem?_cons_zero, Option.some.injEq] at ho
        subst ho
        exact hthis _ ⟨xs1, rfl⟩
      | succ j =>
        simp only [List.getElem?_cons_succ] at ho
        have := e3 j o' ho
        rw [show k + (j + 1) = k + 1 + j by omega]
        simpa using this
    have at' : ∀ (x : AVal) (ys : List (Nat × AVal)), (∃ zs, ys = xs0 ++ (d, x) :: zs) → ys[k]? = some (d, x) ∧ (ys.take k).reverse ++ σ = xs0.reverse ++ σ := by
      rintro x _ ⟨zs, rfl⟩
      subst hk
      refine ⟨by simp, by simp⟩
    split at h
    · rename_i hk1
      obtain ⟨hdd, hg, hw, hr⟩ := h
      refine go _ hr fun ys hys => ?_
      obtain ⟨k1, k2⟩ := at' _ ys hys
      exact ⟨d, _, k1, hd, hn, .inl ⟨hk1, hdd, rfl, hg, by rw [k2]; exact hw⟩⟩
    · rename_i hk1
      split at h
      · rename_i hk2
        obtain ⟨hg, hdl, hw, hr⟩ := h
        refine go _ hr fun ys hys => ?_
        obtain ⟨k1, k2⟩ := at' _ ys hys
        exact ⟨d, _, k1, hd, hn, .inr (.inl ⟨hk2, rfl, hg, hdl, by rw [k2]; exact hw⟩)⟩
      · rename_i hk2
        cases hw : wantA ops (xs0.reverse ++ σ) o with
        | none => rw [hw] at h; unfold gate at h; exact h.elim
        | some b =>
          rw [hw] at h
          cases b with
          | true =>
            simp only [gate, if_true] at h
            obtain ⟨x, h1, h2⟩ := h
            refine go x (by unfold at1 at h2; exact h2) fun ys hys => ?_
            obtain ⟨k1, k2⟩ := at' _ ys hys
            refine ⟨d, x, k1, hd, hn, .inr (.inr ⟨hk1, hk2, .inl ⟨by rw [k2]; exact hw, fun h hle => ?_⟩⟩)⟩
            rw [k2]
            split at h1
            · rename_i hp; exact wop_pure hle hp h1
            · exact h1 h hle
          | false =>
            simp only [gate, Bool.false_eq_true, if_false] at h
            refine go _ h fun ys hys => ?_
            obtain ⟨k1, k2⟩ := at' _ ys hys
            exact ⟨d, _, k1, hd, hn, .inr (.inr ⟨hk1, hk2, .inr ⟨by rw [k2]; exact hw, rfl⟩⟩)⟩

/-- A region whose order is open, with two appends. -/
theorem tr_drawc (i1 i2 d1 : Nat) (ty : Ty) (l1 l2 : List ty.den) {id : Nat} {Q : Exit → Env → Hp → Prop} (hm : P.follows .mixedOrders = true) (hd : drawOk ops = true) (h12 : i1 < i2) (hi1 : i1 < ops.size)
    (h' : wopsC P B0 n ops H i1 i2 d1 ty l1 l2 0 ops.toList σ fun σ' => Q .normal σ' H) : Tr P B0 n (.region id ops true) σ H Q := by
  obtain ⟨xs, hlen, hq, ht⟩ := told2_of (xs0 := []) (σ := σ) (Nat.ne_of_lt h12) rfl (by simpa using h')
  have ht' : ∀ j o, ops[j]? = some o → Told2 P B0 n ops H σ xs i1 i2 d1 ty l1 l2 j o := fun j o ho => by
    have := ht j o (by rw [Array.getElem?_toList]; exact ho)
    simpa using this
  have hlen' : xs.length = ops.size := by simpa using hlen
  simp only [List.nil_append] at hq
  unfold Tr
  intro w S a hs
  have hσ : ∀ t v, σ.get t = some v → t < n := fun t v h => by have := (hs.env t v h).1; rw [hs.size] at this; exact this
  refine wp_region_any hm (taken2_all (S0 := S) (w0 := w) hd hlen' ht' h12 hi1 ?_ ops.size _ a _ ?_ ?_)
  · intro listed a' w' hT hall
    obtain ⟨S', h, e, hi, hle, hval, _⟩ := hT.st
    refine ⟨S', _, H, e, ⟨hi.le hle, fun t v hg => ?_, hT.tmps, hT.defers⟩, hq⟩
    have hv : Val xs σ listed t v := by
      rcases get_append hg with h' | ⟨h1, h2⟩
      · rw [List.mem_reverse, List.mem_iff_getElem] at h'
        obtain ⟨i, hi', he⟩ := h'
        exact .inl ⟨i, by rw [List.getElem?_eq_getElem hi', he], hall i (by omega)⟩
      · refine .inr ⟨fun i x hx => ?_, h2⟩
        exact absurd (List.mem_reverse.2 (List.mem_of_getElem? hx)) (h1 x)
    obtain ⟨h1, h2⟩ := hval t v hv
    exact ⟨by rw [hT.tmps]; exact h1, h2⟩
  · simp
  · refine ⟨fun i o ho hl => ?_, by simp, ⟨S, H, Ext.drew _ _ _, ⟨hs.inv.base, hs.inv.top, fun b o hb => ?_, hs.inv.tab.ext (Ext.drew B0 S w)⟩, Hp.Le.refl _, fun t v hv => ?_, fun hc => ?_, fun _ => rfl⟩, hs.size, hs.defers⟩
    · exfalso
      exact no_false hl
    · obtain ⟨k1, k2⟩ := hs.inv.obj b o hb
      exact ⟨k1, k2.keep (Ext.drew B0 S w) rfl rfl⟩
    · rcases hv with ⟨i, hi, hl⟩ | ⟨_, h2⟩
      · exfalso
        exact no_false hl
      · obtain ⟨k1, k2⟩ := hs.env t v h2
        exact ⟨hσ t v h2, k2.ext (Ext.drew B0 S w)⟩
    · exfalso
      exact no_false hc.1
theorem tr_draw2 (nv i1 i2 d1 : Nat) (ty : Ty) (l1 l2 : List ty.den) {id : Nat} {y : Code} {Q : Exit → Env → Hp → Prop} (hm : P.follows .mixedOrders = true) (hd : drawOk ops = true) (h12 : i1 < i2) (hi1 : i1 < ops.size)
    (h : ∀ K : Env → Hp → Prop, KW K (fun σ' H' => Tr P B0 n y σ' H' Q) → wopsC P B0 n ops H i1 i2 d1 ty l1 l2 0 ops.toList σ fun σ' => Kont K (σ'.keep nv) H) : Tr P B0 n (.seq (.region id ops true) y) σ H Q := by
  have h' := h (fun σ' H' => Tr P B0 n y σ' H' Q) (by unfold KW; exact fun _ _ h => h)
  unfold Kont at h'
  refine tr_seq ((tr_drawc (Q := fun e σ' H' => e = .normal ∧ Tr P B0 n y (σ'.keep nv) H' Q) i1 i2 d1 ty l1 l2 hm hd h12 hi1 ?_).mono fun e σ' H' he => ?_)
  · have key : ∀ {l : List Oper} {k : Nat} {σ : Env}, wopsC P B0 n ops H i1 i2 d1 ty l1 l2 k l σ (fun σ' => Tr P B0 n y (σ'.keep nv) H Q) → wopsC P B0 n ops H i1 i2 d1 ty l1 l2 k l σ (fun σ' => Exit.normal = .normal ∧ Tr P B0 n y (σ'.keep nv) H Q) := by
      intro l k σ h
      have : (fun σ' : Env => Tr P B0 n y (σ'.keep nv) H Q) = (fun σ' => Exit.normal = .normal ∧ Tr P B0 n y (σ'.keep nv) H Q) := by
        funext σ'; simp
      rw [← this]; exact h
    exact key h'
  · obtain ⟨rfl, he⟩ := he
    exact tr_forget (fun t v ht => keep_get ht) (Hp.Le.refl _) he
end
end Go.Sv
