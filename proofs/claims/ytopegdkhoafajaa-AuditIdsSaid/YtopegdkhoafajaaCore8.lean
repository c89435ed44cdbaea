/-
  Regions, control, calls: rules over abstract states. Own work. Nothing here is trusted.
-/
import Derived.Test.YtopegdkhoafajaaCore7
namespace Go.Sv
set_option linter.unusedSimpArgs false
set_option linter.unusedVariables false

def bindO (n : Nat) (dst : Option Tmp) (v : AVal) (σ : Env) [K : TE] : Prop := match dst with
  | some d => d < n ∧ K.run ((d, v) :: σ)
  | none => K.run σ

def guardA (ops : Array Oper) (σ : Env) (j : Nat) : Option Bool := match (ops[j]?).bind (·.dst) with
  | some d => match σ.get d with
    | some (.bool b) => some b
    | _ => none
  | none => none


/-- Was the operation that the guard names not taken itself? -/
def skipA (ops : Array Oper) (σ : Env) (j : Nat) : Bool := match (ops[j]?).bind (·.dst) with
  | some d => match σ.get d with
    | some (.tup []) => true
    | _ => false
  | none => false

/-- A region's operations, in the order of the text. -/
def wops (P : Program) (B0 : Base) (n : Nat) (ops : Array Oper) : List Oper → Env → Hp → (Env → Hp → Prop) → Prop
  | [], σ, H, Q => Q σ H
  | o :: rest, σ, H, Q => match o.guard with
    | none => @wop P B0 o σ H ⟨fun v H' => @bindO n o.dst v σ ⟨fun σ' => wops P B0 n ops rest σ' H' Q⟩⟩
    | some (j, want) => if skipA ops σ j = true then @bindO n o.dst (.tup []) σ ⟨fun σ' => wops P B0 n ops rest σ' H Q⟩ else @gate (guardA ops σ j) want
        ⟨@wop P B0 o σ H ⟨fun v H' => @bindO n o.dst v σ ⟨fun σ' => wops P B0 n ops rest σ' H' Q⟩⟩⟩
        ⟨@bindO n o.dst (.tup []) σ ⟨fun σ' => wops P B0 n ops rest σ' H Q⟩⟩

structure St (B0 : Base) (n : Nat) (w : World) (S : Seal) (H : Hp) (σ : Env) (a : Act) : Prop where
  inv : Inv B0 w S H
  env : EnvAt w S σ a.tmps
  size : a.tmps.size = n
  defers : a.defers = []

def Post (B0 : Base) (n : Nat) (S : Seal) (w : World) (Q : Exit → Env → Hp → Prop) (e : Exit) (a' : Act) (w' : World) : Prop :=
  ∃ S' σ' H', Ext B0 S S' w w' ∧ St B0 n w' S' H' σ' a' ∧ Q e σ' H'

theorem put_size (a : Act) (d : Option Tmp) (v : Value) : (a.put d v).tmps.size = a.tmps.size := by
  cases d <;> simp [Act.put]
theorem put_defers (a : Act) (d : Option Tmp) (v : Value) : (a.put d v).defers = a.defers := by
  cases d <;> simp [Act.put]

theorem St.put {B0 : Base} {n : Nat} {w w' : World} {S S' : Seal} {H H' : Hp} {σ : Env} {a : Act} {dst : Option Tmp} {v : Value} {x : AVal} {K : Env → Prop} (h : St B0 n w S H σ a) (e : Ext B0 S S' w w') (hi : Inv B0 w' S' H') (hr : Rep w' S' x v) (hk : @bindO n dst x σ ⟨K⟩) :
    ∃ σ', St B0 n w' S' H' σ' (a.put dst v) ∧ K σ' := by
  have henv := h.env.ext e
  cases dst with
  | none => exact ⟨σ, ⟨hi, henv, h.size, h.defers⟩, hk⟩
  | some d =>
    obtain ⟨hd, hk⟩ := hk
    exact ⟨_, ⟨hi, henv.put (by rw [h.size]; exact hd) hr, by rw [put_size]; exact h.size, by rw [put_defers]; exact h.defers⟩, hk⟩

theorem guardA_spec {ops : Array Oper} {σ : Env} {j : Nat} {b : Bool} {w : World} {S : Seal} {tmps : Array Value} (h : guardA ops σ j = some b) (he : EnvAt w S σ tmps) : yielded ops tmps j = some b := by
  unfold guardA at h
  cases hd : (ops[j]?).bind (·.dst) with
  | none => rw [hd] at h; simp at h
  | some d =>
    rw [hd] at h
    simp only at h
    split at h
    · rename_i b' hb
      simp only [Option.some.injEq] at h
      subst h
      obtain ⟨h1, h2⟩ := he d _ hb
      simp only [Rep, Array.getD_eq_getD_getElem?, Array.getElem?_eq_getElem h1, Option.getD_some] at h2
      simp [yielded, hd, Array.getElem?_eq_getElem h1, h2]
    · simp at h

theorem rep_skip {w : World} {S : Seal} : Rep w S (.tup []) undef := by simp only [Rep, RepL]; exact ⟨_, rfl, rfl⟩
theorem skipA_spec {ops : Array Oper} {σ : Env} {j : Nat} {w : World} {S : Seal} {tmps : Array Value} (h : skipA ops σ j = true) (he : EnvAt w S σ tmps) : yielded ops tmps j = none := by
  unfold skipA at h
  split at h
  · rename_i d hd
    split at h
    · rename_i hb
      obtain ⟨h1, h2⟩ := he d _ hb
      simp only [Rep, RepL, Array.getD_eq_getD_getElem?, Array.getElem?_eq_getElem h1, Option.getD_some] at h2
      obtain ⟨vs, h2, _⟩ := h2
      simp [yielded, hd, Array.getElem?_eq_getElem h1, h2]
    · simp at h
  · simp at h

theorem wops_sound {P : Program} {B0 : Base} {n : Nat} {ops : Array Oper} {Q : Env → Hp → Prop} {QQ : Exit → Act → World → Prop} : ∀ {l : List Oper} {σ : Env} {H : Hp} {w : World} {S : Seal} {a : Act},
    wops P B0 n ops l σ H Q → St B0 n w S H σ a → (∀ a' w' S' σ' H', Ext B0 S S' w w' → St B0 n w' S' H' σ' a' → Q σ' H' → QQ .normal a' w') → wpList P ops QQ l a w
  | [], σ, H, w, S, a, h, hs, hq => wpList_nil (hq a w S σ H (Ext.refl _ _ _) hs h)
  | o :: rest, σ, H, w, S, a, h, hs, hq => by
    have go : ∀ {x : AVal} {v : Value} {w' : World} {S' : Seal} {H' : Hp}, Ext B0 S S' w w' → Inv B0 w' S' H' → Rep w' S' x v → (@bindO n o.dst x σ ⟨fun σ' => wops P B0 n ops rest σ' H' Q⟩) → wpList P ops QQ rest (a.put o.dst v) w' := by
      intro x v w' S' H' e hi hr hk
      obtain ⟨σ', hs', hk'⟩ := hs.put e hi hr hk
      exact wops_sound hk' hs' fun a' w'' S'' σ'' H'' e' hs'' hQ => hq a' w'' S'' σ'' H'' (e.trans e') hs'' hQ
    have run : (@wop P B0 o σ H ⟨fun v H' => @bindO n o.dst v σ ⟨fun σ' => wops P B0 n ops rest σ' H' Q⟩⟩) → o.wp P a w (wpList P ops QQ rest) QQ := fun hw =>
      Oper.wp_mono (fun a' w' ⟨v, x, S', H', ha, e, hi, hr, hk⟩ => by subst ha; exact go e hi hr hk) (wop_sound (K := fun v H' => @bindO n o.dst v σ ⟨fun σ' => wops P B0 n ops rest σ' H' Q⟩) hw hs.inv hs.env)
    unfold wops at h
    unfold wpList
    cases hg : o.guard with
    | none =>
      rw [hg] at h
      rw [if_pos (by simp [Region.wanted, hg])]
      exact .inl (run h)
    | some p =>
      obtain ⟨j, want⟩ := p
      rw [hg] at h
      simp only at h
      by_cases hsk : skipA ops σ j = true
      · rw [if_pos hsk] at h
        rw [if_neg (by simp [Region.wanted, hg, skipA_spec hsk hs.env])]
        exact go (Ext.refl _ _ _) hs.inv rep_skip h
      · rw [if_neg hsk] at h
        unfold gate at h
        cases hga : guardA ops σ j with
        | none => rw [hga] at h; exact h.elim
        | some b =>
          rw [hga] at h
          have hy := guardA_spec hga hs.env
          simp only at h
          by_cases hb : b = want
          · rw [if_pos hb] at h
            rw [if_pos (by simp [Region.wanted, hg, hy, hb])]
            exact .inl (run h)
          · rw [if_neg hb] at h
            rw [if_neg (by simp [Region.wanted, hg, hy, hb])]
            exact go (Ext.refl _ _ _) hs.inv rep_skip h

/-- A statement's triple. -/
def Tr (P : Program) (B0 : Base) (n : Nat) (c : Code) (σ : Env) (H : Hp) (Q : Exit → Env → Hp → Prop) : Prop :=
  ∀ w S a, St B0 n w S H σ a → c.wp P (Post B0 n S w Q) a w

section
variable {P : Program} {B0 : Base} {n : Nat} {σ : Env} {H : Hp} {Q : Exit → Env → Hp → Prop}

theorem Post.trans {S S' : Seal} {w w' : World} (e : Ext B0 S S' w w') {x : Exit} {a : Act} {w'' : World} (h : Post B0 n S' w' Q x a w'') : Post B0 n S w Q x a w'' := by
  obtain ⟨S'', σ', H', e', hs, hq⟩ := h
  exact ⟨S'', σ', H', e.trans e', hs, hq⟩

theorem Tr.mono {c : Code} {Q' : Exit → Env → Hp → Prop} (h : Tr P B0 n c σ H Q) (hq : ∀ e σ H, Q e σ H → Q' e σ H) : Tr P B0 n c σ H Q' :=
  fun w S a hs => wp_mono (h w S a hs) fun e a' w' ⟨S', σ', H', h1, h2, h3⟩ => ⟨S', σ', H', h1, h2, hq _ _ _ h3⟩

/-- What comes behind a statement. -/
def andThen (K : Env → Hp → Prop) (Q : Exit → Env → Hp → Prop) : Exit → Env → Hp → Prop
  | .normal, σ, H => K σ H
  | e, σ, H => Q e σ H

theorem tr_seq {x y : Code} (h : Tr P B0 n x σ H (andThen (fun σ H => Tr P B0 n y σ H Q) Q)) : Tr P B0 n (.seq x y) σ H Q := by
  intro w S a hs
  refine wp_seq (wp_mono (h w S a hs) ?_)
  rintro e a' w' ⟨S', σ', H', e', hs', hq⟩
  cases e with
  | normal => exact wp_mono (hq w' S' a' hs') fun _ _ _ => Post.trans e'
  | _ => exact ⟨S', σ', H', e', hs', hq⟩

theorem tr_region {id : Nat} {ops : Array Oper} (h : wops P B0 n ops ops.toList σ H (Q .normal)) : Tr P B0 n (.region id ops false) σ H Q := by
  intro w S a hs
  exact wp_region_list (wops_sound h hs fun a' w' S' σ' H' e hs' hq => ⟨S', σ', H', e, hs', hq⟩)

theorem tr_cond {c : Operand} {x y : Code} {b : Bool} (hc : ev P σ 0 c = some (.bool b)) (h : Tr P B0 n (if b then x else y) σ H Q) : Tr P B0 n (.cond c x y) σ H Q := by
  intro w S a hs
  have hv := ev_sound (w := w) (S := S) hc hs.env
  simp only [Rep] at hv
  exact wp_cond hv (h w S a hs)

def inBlock (id : Nat) (Q : Exit → Env → Hp → Prop) : Exit → Env → Hp → Prop
  | .exit id', σ, H => if id' = id then Q .normal σ H else Q (.exit id') σ H
  | e, σ, H => Q e σ H

theorem tr_block {id : Nat} {c : Code} (h : Tr P B0 n c σ H (inBlock id Q)) : Tr P B0 n (.block id c) σ H Q := by
  intro w S a hs
  refine wp_block (wp_mono (h w S a hs) ?_)
  rintro e a' w' ⟨S', σ', H', e', hs', hq⟩
  cases e with
  | exit id' =>
    simp only [inBlock] at hq
    simp only [Exit.inBlock]
    split
    · rename_i h; rw [if_pos h] at hq; exact ⟨S', σ', H', e', hs', hq⟩
    · rename_i h; rw [if_neg h] at hq; exact ⟨S', σ', H', e', hs', hq⟩
  | _ => exact ⟨S', σ', H', e', hs', hq⟩

theorem tr_exit {id : Nat} (h : Q (.exit id) σ H) : Tr P B0 n (.exit id) σ H Q := fun w S a hs => wp_exit ⟨S, σ, H, Ext.refl _ _ _, hs, h⟩
theorem tr_ret (h : Q .ret σ H) : Tr P B0 n .ret σ H Q := fun w S a hs => wp_ret ⟨S, σ, H, Ext.refl _ _ _, hs, h⟩
theorem tr_skip (h : Q .normal σ H) : Tr P B0 n .skip σ H Q := fun w S a hs => wp_skip ⟨S, σ, H, Ext.refl _ _ _, hs, h⟩

theorem tr_loop {α : Type} {c : Code} (I : α → Env → Hp → Prop) (μ : α → Nat) (x0 : α) (h0 : I x0 σ H)
    (h : ∀ x σ' H', I x σ' H' → Tr P B0 n c σ' H' (andThen (fun σ'' H'' => ∃ x', μ x' < μ x ∧ I x' σ'' H'') Q)) : Tr P B0 n (.loop c) σ H Q := by
  intro w S a hs
  -- the measure is a ghost's: rounds by strong induction over it
  have key : ∀ m x σ' H' w' S' a', μ x = m → I x σ' H' → St B0 n w' S' H' σ' a' → Ext B0 S S' w w' →
      ∀ (b : Frame) (k : List Item) (cs : List Frame), ∃ e a'' w'', Post B0 n S w Q e a'' w'' ∧ Arrives P (lone (b.at a' (.code c :: .inLoop c :: k)) cs w') b k cs e a'' w'' := by
    intro m
    induction m using Nat.strongRecOn with
    | _ m ih =>
      intro x σ' H' w' S' a' hm hI hs' e' b k cs
      obtain ⟨e, a1, w1, hq, harr⟩ := h x σ' H' hI w' S' a' hs' b (.inLoop c :: k) cs
      obtain ⟨S1, σ1, H1, e1, hs1, hq⟩ := hq
      cases e with
      | normal =>
        obtain ⟨x', hlt, hI'⟩ := hq
        obtain ⟨e2, a2, w2, hq2, harr2⟩ := ih (μ x') (hm ▸ hlt) x' σ1 H1 w1 S1 a1 rfl hI' hs1 (e'.trans e1) b k cs
        exact ⟨e2, a2, w2, hq2, .of_steps (Steps.trans harr (.one step_inLoop)) harr2⟩
      | exit id => exact ⟨_, a1, w1, ⟨S1, σ1, H1, e'.trans e1, hs1, hq⟩, .pass (x := .inLoop c) rfl (fun _ _ => .inl (by simp)) harr⟩
      | goto l => exact ⟨_, a1, w1, ⟨S1, σ1, H1, e'.trans e1, hs1, hq⟩, .pass (x := .inLoop c) rfl (fun _ _ => .inl (by simp)) harr⟩
      | ret => exact ⟨_, a1, w1, ⟨S1, σ1, H1, e'.trans e1, hs1, hq⟩, .pass (x := .inLoop c) rfl (fun _ _ => .inl (by simp)) harr⟩
      | panic ch => exact ⟨_, a1, w1, ⟨S1, σ1, H1, e'.trans e1, hs1, hq⟩, .pass (x := .inLoop c) rfl (fun _ _ => .inl (by simp)) harr⟩
      | outgrown => exact ⟨_, a1, w1, ⟨S1, σ1, H1, e'.trans e1, hs1, hq⟩, .pass (x := .inLoop c) rfl (fun _ _ => .inl (by simp)) harr⟩
  intro b k cs
  obtain ⟨e, a', w', hq, harr⟩ := key _ x0 σ H w S a rfl h0 hs (Ext.refl _ _ _) b k cs
  exact ⟨e, a', w', hq, .of_steps (.one step_loop) harr⟩

/-- What isn't wanted any more is let go. -/
theorem tr_forget {c : Code} {σ' : Env} {H' : Hp} (hσ : ∀ t v, σ'.get t = some v → σ.get t = some v) (hH : H'.Le H) (h : Tr P B0 n c σ' H' Q) : Tr P B0 n c σ H Q :=
  fun w S a hs => h w S a ⟨hs.inv.le hH, fun t v ht => hs.env t v (hσ t v ht), hs.size, hs.defers⟩
end

/-! ### a function -/
def resA (σ : Env) : List ResultVar → Option AVal
  | [] => some (.tup [])
  | [.tmp a] => σ.get a
  | [.tmp a, .tmp b] => (σ.get a).bind fun x => (σ.get b).map fun y => .tup [x, y]
  | [.tmp a, .tmp b, .tmp c] => (σ.get a).bind fun x => (σ.get b).bind fun y => (σ.get c).map fun z => .tup [x, y, z]
  | [.tmp a, .tmp b, .tmp c, .tmp d] => (σ.get a).bind fun x => (σ.get b).bind fun y => (σ.get c).bind fun z => (σ.get d).map fun u => .tup [x, y, z, u]
  | _ => none

def initEnv : Nat → List AVal → Env
  | _, [] => []
  | k, x :: r => (k, x) :: initEnv (k + 1) r

theorem initEnv_at {w : World} {S : Seal} : ∀ {k : Nat} {xs : List AVal} {vs : List Value} {tmps : Array Value}, RepL w S xs vs → (∀ j v, vs[j]? = some v → tmps[k + j]? = some v) → EnvAt w S (initEnv k xs) tmps
  | _, [], _, _, _, _ => fun t x h => by simp [initEnv, Env.get] at h
  | k, x :: r, vs, tmps, hr, ht => by
    simp only [RepL] at hr
    obtain ⟨v, vr, rfl, h1, h2⟩ := hr
    intro t y hy
    simp only [initEnv, Env.get] at hy
    by_cases htk : t = k
    · subst htk
      simp only [if_true, Option.some.injEq] at hy
      subst hy
      have := ht 0 v rfl
      simp only [Nat.add_zero] at this
      have hlt : t < tmps.size := by
        rcases Nat.lt_or_ge t tmps.size with h | h
        · exact h
        · rw [Array.getElem?_eq_none h] at this; simp at this
      exact ⟨hlt, by rw [Array.getD_eq_getD_getElem?, this]; exact h1⟩
    · rw [if_neg htk] at hy
      exact initEnv_at (k := k + 1) h2 (fun j u hj => by have := ht (j + 1) u (by simpa using hj); rwa [show k + (j + 1) = k + 1 + j by omega] at this) t y hy

theorem resA_sound {P : Program} {w : World} {S : Seal} {fn : Func} {σ : Env} {tmps : Array Value} {r : AVal} (h : resA σ fn.results.toList = some r) (he : EnvAt w S σ tmps) : ∃ v, (results fn tmps).run P w = .ok v w ∧ Rep w S r v := by
  have hres : ∀ l, fn.results.toList = l → fn.results = l.toArray := fun l hl => by rw [← hl]
  unfold resA at h
  split at h
  · rename_i hl
    simp only [Option.some.injEq] at h
    subst h
    exact ⟨.tuple #[], by simp [results, hres _ hl], by simp only [Rep]; exact ⟨_, rfl, rfl⟩⟩
  · rename_i a hl
    exact ⟨tmps.getD a undef, by simp [results, hres _ hl], (he a _ h).2⟩
  · rename_i a b hl
    simp only [Option.bind_eq_some_iff, Option.map_eq_some_iff] at h
    obtain ⟨x, h1, y, h2, rfl⟩ := h
    exact ⟨.tuple #[tmps.getD a undef, tmps.getD b undef], by simp [results, hres _ hl], by simp only [Rep]; exact ⟨_, rfl, _, _, rfl, (he a _ h1).2, _, _, rfl, (he b _ h2).2, rfl⟩⟩
  · rename_i a b c hl
    simp only [Option.bind_eq_some_iff, Option.map_eq_some_iff] at h
    obtain ⟨x, h1, y, h2, z, h3, rfl⟩ := h
    exact ⟨.tuple #[tmps.getD a undef, tmps.getD b undef, tmps.getD c undef], by simp [results, hres _ hl], by simp only [Rep]; exact ⟨_, rfl, _, _, rfl, (he a _ h1).2, _, _, rfl, (he b _ h2).2, _, _, rfl, (he c _ h3).2, rfl⟩⟩
  · rename_i a b c d hl
    simp only [Option.bind_eq_some_iff, Option.map_eq_some_iff] at h
    obtain ⟨x, h1, y, h2, z, h3, u, h4, rfl⟩ := h
    exact ⟨.tuple #[tmps.getD a undef, tmps.getD b undef, tmps.getD c undef, tmps.getD d undef], by simp [results, hres _ hl], by simp only [Rep]; exact ⟨_, rfl, _, _, rfl, (he a _ h1).2, _, _, rfl, (he b _ h2).2, _, _, rfl, (he c _ h3).2, _, _, rfl, (he d _ h4).2, rfl⟩⟩
  · simp at h

/-- What a body must come to. -/
def Ends (fn : Func) (K : AVal → Hp → Prop) (e : Exit) (σ : Env) (H : Hp) : Prop := (e = .normal ∨ e = .ret) ∧ ∃ r, resA σ fn.results.toList = some r ∧ ∃ H', H'.Le H ∧ K r H'

theorem fn_of_tr {P : Program} {B0 : Base} {f : FuncId} {fn : Func} {body : Code} {args : List AVal} {H : Hp} {K : AVal → Hp → Prop} (hf : P.funcs[f]? = some fn) (hb : fn.body = some body) (hn : (fn.name == "runtime.NumGoroutine") = false)
    (hs : args.length ≤ fn.ntmps) (h : Tr P B0 fn.ntmps body (initEnv 0 args) H (Ends fn K)) : FnC P B0 f args H K := by
  refine ⟨⟨fn, hf, hn, by simp [hb]⟩, fun w S vs hi ha => ?_⟩
  have hl := ha.length
  simp only [Array.length_toList] at hl
  refine calls_of_wp hf hb (wp_mono (h w S _ ⟨hi, ?_, ?_, rfl⟩) ?_)
  · refine initEnv_at ha fun j v hj => ?_
    rw [Array.getElem?_toList] at hj
    have : j < vs.size := by
      rcases Nat.lt_or_ge j vs.size with h | h
      · exact h
      · rw [Array.getElem?_eq_none h] at hj; simp at hj
    rw [Nat.zero_add, Array.getElem?_append_left this]
    exact hj
  · simp; omega
  · rintro e a' w' ⟨S', σ', H', hx, hst, he, r, hr, H'', hle, hk⟩
    obtain ⟨v, h1, h2⟩ := resA_sound (P := P) hr hst.env
    rcases he with rfl | rfl <;> exact ⟨hst.defers, v, h1, v, r, S', H'', rfl, hx, hst.inv.le hle, h2, hk⟩


/-- A return, wherever it stands. -/
theorem tr_return {P : Program} {B0 : Base} {n : Nat} {σ : Env} {H H' : Hp} {Q : Exit → Env → Hp → Prop} {fn : Func} {K : AVal → Hp → Prop} {r : AVal} (hQ : Q .ret = Ends fn K .ret) (hr : resA σ fn.results.toList = some r) (hle : H'.Le H) (hk : K r H') : Tr P B0 n .ret σ H Q :=
  tr_ret (by rw [hQ]; exact ⟨.inr rfl, r, hr, H', hle, hk⟩)

/-- The result's spare places are given up. -/
theorem FnC.no {P : Program} {B0 : Base} {f : FuncId} {args : List AVal} {H : Hp} {K : AVal → Hp → Prop} {t : Ty} {l : List t.den} (h : FnC P B0 f args H (fun x H' => ∃ o, x = .sl t l o ∧ K (.sl t l .no) H')) : FnC P B0 f args H K := by
  refine ⟨h.1, fun w S vs hi ha => (h.2 w S vs hi ha).mono ?_⟩
  rintro e w' ⟨v, x, S', H', h1, h2, h3, h4, o, rfl, h5⟩
  refine ⟨v, _, S', H', h1, h2, h3, ?_, h5⟩
  simp only [Rep] at h4 ⊢
  obtain ⟨a, cap, e1, e2, e3, _⟩ := h4
  exact ⟨a, cap, e1, e2, e3, trivial⟩

/-- What comes behind, under a name. -/
def Kont (K : Env → Hp → Prop) (σ : Env) (H : Hp) : Prop := K σ H
theorem gate_split {b w : Bool} {A B : Prop} (h1 : b = w → A) (h2 : b = (!w) → B) : @gate (some b) w ⟨A⟩ ⟨B⟩ := by
  unfold gate
  by_cases h : b = w
  · simp only [if_pos h]; exact h1 h
  · simp only [if_neg h]; exact h2 (by cases b <;> cases w <;> simp_all)

def condA (v : Option AVal) [A : T0] [B : T0] : Prop := match v with
  | some (.bool b) => @gate (some b) true A B
  | _ => False

theorem tr_if {P : Program} {B0 : Base} {n : Nat} {σ : Env} {H : Hp} {Q : Exit → Env → Hp → Prop} {c : Operand} {x y : Code} (h : @condA (ev P σ 0 c) ⟨Tr P B0 n x σ H Q⟩ ⟨Tr P B0 n y σ H Q⟩) : Tr P B0 n (.cond c x y) σ H Q := by
  unfold condA at h
  split at h
  · rename_i b hb
    refine tr_cond hb ?_
    cases b
    · simpa [gate] using h
    · simpa [gate] using h
  · exact h.elim

/-! ### environments -/
/-- A part of an environment. -/
def Sub : Env → Env → Prop
  | [], _ => True
  | (t, v) :: r, σ => σ.get t = some v ∧ Sub r σ

theorem Sub.get : ∀ {σ' σ : Env}, Sub σ' σ → ∀ t v, σ'.get t = some v → σ.get t = some v
  | [], _, _, t, v, h => by simp [Env.get] at h
  | (d, x) :: r, σ, ⟨h1, h2⟩, t, v, h => by
    simp only [Env.get] at h
    split at h
    · rename_i ht
      simp only [Option.some.injEq] at h
      subst h; subst ht; exact h1
    · exact Sub.get h2 t v h

def Env.del (d : Nat) : Env → Env
  | [] => []
  | (t, v) :: r => if t = d then Env.del d r else (t, v) :: Env.del d r
def memN (t : Nat) : List Nat → Bool
  | [] => false
  | a :: r => if t = a then true else memN t r
theorem memN_iff {t : Nat} : ∀ {l : List Nat}, memN t l = true ↔ t ∈ l
  | [] => by simp [memN]
  | a :: r => by
    simp only [memN, List.mem_cons]
    split
    · simp [*]
    · simp [*, memN_iff]
/-- The variables' slots alone. -/
def Env.vars (nv : Nat) : Env → List Nat → Env
  | [], _ => []
  | (t, v) :: r, seen => if t < nv then (if memN t seen then Env.vars nv r seen else (t, v) :: Env.vars nv r (t :: seen)) else Env.vars nv r seen
/-- The variables' slots, and the one that was written last. -/
def Env.keep (nv : Nat) : Env → Env
  | [] => []
  | (t, v) :: r => (t, v) :: Env.vars nv r [t]

theorem vars_get {nv : Nat} : ∀ {σ : Env} {seen : List Nat} {t : Nat} {v : AVal}, (Env.vars nv σ seen).get t = some v → t ∉ seen ∧ σ.get t = some v
  | [], _, t, v, h => by simp [Env.vars, Env.get] at h
  | (d, x) :: r, seen, t, v, h => by
    simp only [Env.vars] at h
    split at h
    · split at h
      · rename_i hs
        obtain ⟨h1, h2⟩ := vars_get h
        refine ⟨h1, ?_⟩
        simp only [Env.get]
        rw [if_neg (fun e => h1 (by subst e; exact memN_iff.1 hs))]
        exact h2
      · rename_i hs
        simp only [Env.get] at h
        split at h
        · rename_i ht
          refine ⟨fun hm => hs (by subst ht; exact memN_iff.2 hm), ?_⟩
          simp only [Env.get, if_pos ht]; exact h
        · rename_i ht
          obtain ⟨h1, h2⟩ := vars_get h
          refine ⟨fun hm => h1 (by simp [hm]), ?_⟩
          simp only [Env.get, if_neg ht]; exact h2
    · rename_i hd
      obtain ⟨h1, h2⟩ := vars_get h
      refine ⟨h1, ?_⟩
      simp only [Env.get]
      split
      · rename_i ht
        exfalso
        subst ht
        -- a slot that is no variable's isn't kept
        have : ∀ {σ : Env} {seen : List Nat} {v : AVal}, (Env.vars nv σ seen).get t = some v → t < nv := by
          intro σ
          induction σ with
          | nil => intro seen v h; simp [Env.vars, Env.get] at h
          | cons p r ih =>
            obtain ⟨d, x⟩ := p
            intro seen v h
            simp only [Env.vars] at h
            split at h
            · split at h
              · exact ih h
              · simp only [Env.get] at h
                split at h
                · rename_i e; omega
                · exact ih h
            · exact ih h
        exact hd (this h)
      · exact h2

theorem keep_get {nv : Nat} {σ : Env} {t : Nat} {v : AVal} (h : (Env.keep nv σ).get t = some v) : σ.get t = some v := by
  cases σ with
  | nil => simp [Env.keep, Env.get] at h
  | cons p r =>
    obtain ⟨d, x⟩ := p
    simp only [Env.keep, Env.get] at h ⊢
    split at h
    · rename_i ht; rw [if_pos ht]; exact h
    · rename_i ht
      rw [if_neg ht]
      exact (vars_get h).2

section
variable {P : Program} {B0 : Base} {n : Nat} {σ : Env} {H : Hp} {Q : Exit → Env → Hp → Prop}
/-- A region, and what comes behind it, with the variables alone. -/
theorem tr_reg (nv : Nat) {id : Nat} {ops : Array Oper} {y : Code} (h : wops P B0 n ops ops.toList σ H fun σ' H' => Tr P B0 n y (σ'.keep nv) H' Q) : Tr P B0 n (.seq (.region id ops false) y) σ H Q := by
  intro w S a hs
  refine wp_seq (wp_region_list (wops_sound h hs ?_))
  intro a' w' S' σ' H' e hs' hq
  exact wp_mono (hq w' S' a' ⟨hs'.inv, fun t v ht => hs'.env t v (keep_get ht), hs'.size, hs'.defers⟩) fun _ _ _ => Post.trans e

theorem kont {K : Env → Hp → Prop} (h : K σ H) : Kont K σ H := h
/-- What is enough for what comes behind. -/
def KW (K A : Env → Hp → Prop) : Prop := ∀ σ H, A σ H → K σ H
theorem kw {K A : Env → Hp → Prop} (h : KW K A) (a : A σ H) : Kont K σ H := h _ _ a
theorem tr_regk (nv : Nat) {id : Nat} {ops : Array Oper} {y : Code} (h : ∀ K : Env → Hp → Prop, KW K (fun σ' H' => Tr P B0 n y σ' H' Q) → wops P B0 n ops ops.toList σ H fun σ' H' => Kont K (σ'.keep nv) H') : Tr P B0 n (.seq (.region id ops false) y) σ H Q :=
  tr_reg nv (h (fun σ' H' => Tr P B0 n y σ' H' Q) fun _ _ h => h)
theorem tr_seqk {x y : Code} (h : ∀ K : Env → Hp → Prop, KW K (fun σ' H' => Tr P B0 n y σ' H' Q) → Tr P B0 n x σ H (andThen (Kont K) Q)) : Tr P B0 n (.seq x y) σ H Q :=
  tr_seq (h (fun σ' H' => Tr P B0 n y σ' H' Q) fun _ _ h => h)
/-- A region at the end of a block, or of a round. -/
theorem tr_rege (nv : Nat) {id : Nat} {ops : Array Oper} (h : ∀ K : Env → Hp → Prop, KW K (Q .normal) → wops P B0 n ops ops.toList σ H fun σ' H' => Kont K (σ'.keep nv) H') : Tr P B0 n (.region id ops false) σ H Q := by
  intro w S a hs
  have h' := h (Q .normal) fun _ _ h => h
  exact wp_region_list (wops_sound h' hs fun a' w' S' σ' H' e hs' hq => ⟨S', _, H', e, ⟨hs'.inv, fun t v ht => hs'.env t v (keep_get ht), hs'.size, hs'.defers⟩, hq⟩)

/-- A statement, and what comes behind it, of which so much is known, whichever way it went. -/
theorem tr_join {β : Type} {x y : Code} (E : β → Env) (HH : β → Hp) (G : β → Prop) (h : Tr P B0 n x σ H (andThen (fun σ' H' => ∃ z, Sub (E z) σ' ∧ (HH z).Le H' ∧ G z) Q))
    (hk : ∀ z, G z → Tr P B0 n y (E z) (HH z) Q) : Tr P B0 n (.seq x y) σ H Q := by
  refine tr_seq (h.mono ?_)
  intro e σ' H' hq
  cases e with
  | normal => obtain ⟨z, h1, h2, h3⟩ := hq; exact tr_forget h1.get h2 (hk z h3)
  | _ => exact hq

/-- A loop: 'x' is what its rounds hold, as numbers and lists. -/
theorem tr_rounds {α : Type} {c : Code} (E : α → Env) (HH : α → Hp) (G : α → Prop) (μ : α → Nat) (x0 : α) (h0 : Sub (E x0) σ) (hH : (HH x0).Le H) (g0 : G x0)
    (h : ∀ x, G x → Tr P B0 n c (E x) (HH x) (andThen (fun σ' H' => ∃ x', Sub (E x') σ' ∧ (HH x').Le H' ∧ G x' ∧ μ x' < μ x) Q)) : Tr P B0 n (.loop c) σ H Q := by
  refine tr_loop (fun x σ' H' => Sub (E x) σ' ∧ (HH x).Le H' ∧ G x) μ x0 ⟨h0, hH, g0⟩ ?_
  intro x σ' H' ⟨h1, h2, h3⟩
  refine tr_forget h1.get h2 ((h x h3).mono ?_)
  intro e σ'' H'' hq
  cases e with
  | normal => obtain ⟨x', k1, k2, k3, k4⟩ := hq; exact ⟨x', k4, k1, k2, k3⟩
  | _ => exact hq

/-- A loop that is left by its block's exit alone (or by a return): what its rounds hold ('x'), what is known behind it ('z'). -/
theorem tr_while {α β : Type} {c y : Code} {K : Env → Hp → Prop} {Q' : Exit → Env → Hp → Prop} {id : Nat} (hK : KW K (fun σ' H' => Tr P B0 n y σ' H' Q')) (E : α → Env) (HH : α → Hp) (G : α → Prop) (μ : α → Nat) (x0 : α) (E2 : β → Env) (HH2 : β → Hp) (G2 : β → Prop)
    (h0 : Sub (E x0) σ) (hH : (HH x0).Le H) (g0 : G x0)
    (h : ∀ x, G x → Tr P B0 n c (E x) (HH x) (andThen (fun σ' H' => ∃ x', Sub (E x') σ' ∧ (HH x').Le H' ∧ G x' ∧ μ x' < μ x) (inBlock id (andThen (fun σ' H' => ∃ z, Sub (E2 z) σ' ∧ (HH2 z).Le H' ∧ G2 z) Q))))
    (hk : ∀ z, G2 z → Tr P B0 n y (E2 z) (HH2 z) Q') : Tr P B0 n (.loop c) σ H (inBlock id (andThen (Kont K) Q)) := by
  refine (tr_rounds E HH G μ x0 h0 hH g0 h).mono ?_
  intro e σ' H' hq
  have key : (∃ z, Sub (E2 z) σ' ∧ (HH2 z).Le H' ∧ G2 z) → K σ' H' := by
    rintro ⟨z, k1, k2, k3⟩
    exact hK _ _ (tr_forget k1.get k2 (hk z k3))
  cases e with
  | normal => exact key hq
  | exit id' =>
    simp only [inBlock] at hq ⊢
    split
    · rename_i h'; rw [if_pos h'] at hq; exact key hq
    · rename_i h'; rw [if_neg h'] at hq; exact hq
  | _ => exact hq
end

/-! ### a slice that grows -/
def Ap (H0 H : Hp) (o : Own) (t : Ty) (n : Nat) : Prop := (o.isEx = true ∧ H = H0) ∨ ∃ b e, o = .tok b ∧ H0 b = none ∧ H = H0.set b (some (.grow e t n))

theorem Ap.exact (H0 : Hp) (t : Ty) (n : Nat) : Ap H0 H0 .exact t n := .inl ⟨rfl, rfl⟩
theorem Ap.lit (H0 : Hp) (t : Ty) (n m : Nat) : Ap H0 H0 (.lit m) t n := .inl ⟨rfl, rfl⟩
theorem Ap.le {H0 H : Hp} {o : Own} {t : Ty} {n : Nat} (h : Ap H0 H o t n) : H0.Le H := by
  rcases h with ⟨_, rfl⟩ | ⟨b, e, _, hb, rfl⟩
  · exact Hp.Le.refl _
  · intro c y hc
    simp only [Hp.set]
    rw [if_neg (fun e => by subst e; rw [hb] at hc; simp at hc)]
    exact hc

theorem newsA_sl {ty : Ty} {l : List ty.den} {o : Own} : newsA ty (.sl ty l o) = some l := by simp [newsA]
theorem newsA_str {s : List UInt8} : newsA .u8 (.str s) = some s := by simp [newsA]

theorem wAppend_ap {P : Program} {t t2 : TypeId} {ty : Ty} {l xs : List ty.den} {o : Own} {x : AVal} {H0 h : Hp} {K : AVal → Hp → Prop} (ha : Ap H0 h o ty l.length) (hn : newsA ty x = some xs) (he : AppE P t ty) (hu : tyOf P 8 t2 = some (.sl ty) ∨ tyOf P 8 t2 = some .str)
    (hb : (l.length + xs.length) * elBytes P t ≤ 140737488355328) (h63 : l.length + xs.length ≤ 9223372036854775807) (hk : ∀ o' h', Ap H0 h' o' ty (l ++ xs).length → K (.sl ty (l ++ xs) o') h') : @wAppend P t t2 (.sl ty l o) x h ⟨K⟩ := by
  unfold wAppend
  simp only [hn]
  refine ⟨he, hu, hb, h63, ?_⟩
  split
  · rename_i hx
    subst hx
    exact hk o h (by simpa using ha)
  · rcases ha with ⟨hex, rfl⟩ | ⟨b, e0, rfl, hb', rfl⟩
    · have hd : h.drop o = h := by cases o <;> first | rfl | (simp [Own.isEx] at hex)
      rw [hd]
      exact .inl ⟨.inl hex, fun b e hb _ => hk _ _ (.inr ⟨b, e, rfl, hb, by simp⟩)⟩
    · refine .inl ⟨.inr ⟨b, e0, rfl, by simp [Hp.set]⟩, fun c e hc _ => hk _ _ (.inr ⟨c, e, rfl, ?_, ?_⟩)⟩
      · simp only [Hp.drop, Hp.set] at hc
        split at hc
        · rename_i e; subst e; exact hb'
        · exact hc
      · rw [List.length_append]
        funext d
        simp only [Hp.drop, Hp.set]
        split
        · rfl
        · split
          · rename_i e; subst e; exact hb'.symm
          · rfl

/-! ### memory of the call's -/
theorem Hp.set_self {H : Hp} {b : Nat} {x : Option AObj} : (H.set b x) b = x := by simp [Hp.set]
theorem Hp.set_set {H : Hp} {b : Nat} {x y : Option AObj} : (H.set b x).set b y = H.set b y := by
  funext c; simp only [Hp.set]; split <;> rfl
theorem Hp.set_ne {H : Hp} {b c : Nat} {x : Option AObj} (h : c ≠ b) : (H.set b x) c = H c := by simp [Hp.set, h]
theorem Hp.le_set {H : Hp} {b : Nat} {x : Option AObj} (h : H b = none) : H.Le (H.set b x) := by
  intro c y hc
  simp only [Hp.set]
  rw [if_neg (fun e => by subst e; rw [h] at hc; simp at hc)]
  exact hc
theorem Ap.frame {H0 H : Hp} {o : Own} {t : Ty} {n c : Nat} {x : Option AObj} (h : Ap H0 H o t n) (hc : H c = none) : Ap (H0.set c x) (H.set c x) o t n := by
  rcases h with ⟨h1, rfl⟩ | ⟨b, e, rfl, hb, rfl⟩
  · exact .inl ⟨h1, rfl⟩
  · have hne : b ≠ c := fun e => by subst e; simp [Hp.set] at hc
    refine .inr ⟨b, e, rfl, by rw [Hp.set_ne hne]; exact hb, ?_⟩
    funext d
    simp only [Hp.set]
    split <;> split <;> first | rfl | (subst_vars; simp at hne)
theorem Ap.unframe {H0 H : Hp} {o : Own} {t : Ty} {n c : Nat} {y : AObj} (h : Ap (H0.set c (some y)) H o t n) (hc : H0 c = none) : ∃ H', Ap H0 H' o t n ∧ H'.Le H := by
  rcases h with ⟨h1, rfl⟩ | ⟨b, e, rfl, hb, rfl⟩
  · exact ⟨H0, .inl ⟨h1, rfl⟩, Hp.le_set hc⟩
  · have hne : b ≠ c := fun e => by subst e; simp [Hp.set] at hb
    rw [Hp.set_ne hne] at hb
    refine ⟨H0.set b (some (.grow e t n)), .inr ⟨b, e, rfl, hb, rfl⟩, fun d z hd => ?_⟩
    simp only [Hp.set] at hd ⊢
    split
    · rename_i e; rw [if_pos e] at hd; exact hd
    · rename_i e
      rw [if_neg e] at hd
      split
      · rename_i e'; subst e'; rw [hc] at hd; simp at hd
      · exact hd
theorem Ap.none {H0 H : Hp} {o : Own} {t : Ty} {n c : Nat} (h : Ap H0 H o t n) (hc : H c = none) : H0 c = none := by
  rcases h with ⟨_, rfl⟩ | ⟨b, e, rfl, hb, rfl⟩
  · exact hc
  · simp only [Hp.set] at hc
    split at hc
    · simp at hc
    · exact hc

/-! ### two slices that grow -/
theorem Ap.swap {H h1 h : Hp} {oa ob : Own} {ta tb : Ty} {na nb : Nat} (ha : Ap H h1 oa ta na) (hb : Ap h1 h ob tb nb) : ∃ h2, Ap H h2 ob tb nb ∧ Ap h2 h oa ta na := by
  rcases ha with ⟨ea, rfl⟩ | ⟨a, e1, rfl, na', rfl⟩
  · exact ⟨h, hb, .inl ⟨ea, rfl⟩⟩
  · rcases hb with ⟨eb, rfl⟩ | ⟨b, e2, rfl, nb', rfl⟩
    · exact ⟨H, .inl ⟨eb, rfl⟩, .inr ⟨a, e1, rfl, na', rfl⟩⟩
    · have hne : b ≠ a := fun e => by subst e; simp [Hp.set] at nb'
      rw [Hp.set_ne hne] at nb'
      refine ⟨H.set b (some (.grow e2 tb nb)), .inr ⟨b, e2, rfl, nb', rfl⟩, .inr ⟨a, e1, rfl, by rw [Hp.set_ne (Ne.symm hne)]; exact na', ?_⟩⟩
      funext c
      simp only [Hp.set]
      split <;> split <;> first | rfl | (subst_vars; simp at hne)
def Ap2 (H h : Hp) (oa : Own) (ta : Ty) (na : Nat) (ob : Own) (tb : Ty) (nb : Nat) : Prop := ∃ h1, Ap H h1 oa ta na ∧ Ap h1 h ob tb nb
theorem Ap2.exact (H : Hp) (ta tb : Ty) (na nb : Nat) : Ap2 H H .exact ta na .exact tb nb := ⟨H, Ap.exact _ _ _, Ap.exact _ _ _⟩
theorem Ap2.le {H h : Hp} {oa ob : Own} {ta tb : Ty} {na nb : Nat} (h2 : Ap2 H h oa ta na ob tb nb) : H.Le h := by
  obtain ⟨h1, ha, hb⟩ := h2
  exact ha.le.trans hb.le
theorem wAppend_ap2 {P : Program} {t t2 : TypeId} {ty ta : Ty} {l xs : List ty.den} {o oa : Own} {na : Nat} {x : AVal} {H0 h : Hp} {K : AVal → Hp → Prop} (ha : Ap2 H0 h oa ta na o ty l.length) (hn : newsA ty x = some xs) (he : AppE P t ty) (hu : tyOf P 8 t2 = some (.sl ty) ∨ tyOf P 8 t2 = some .str)
    (hb : (l.length + xs.length) * elBytes P t ≤ 140737488355328) (h63 : l.length + xs.length ≤ 9223372036854775807) (hk : ∀ o' h', Ap2 H0 h' oa ta na o' ty (l ++ xs).length → K (.sl ty (l ++ xs) o') h') : @wAppend P t t2 (.sl ty l o) x h ⟨K⟩ := by
  obtain ⟨h1, k1, k2⟩ := ha
  exact wAppend_ap k2 hn he hu hb h63 fun o' h' k => hk o' h' ⟨h1, k1, k⟩
theorem wAppend_ap1 {P : Program} {t t2 : TypeId} {ty tb : Ty} {l xs : List ty.den} {o ob : Own} {nb : Nat} {x : AVal} {H0 h : Hp} {K : AVal → Hp → Prop} (ha : Ap2 H0 h o ty l.length ob tb nb) (hn : newsA ty x = some xs) (he : AppE P t ty) (hu : tyOf P 8 t2 = some (.sl ty) ∨ tyOf P 8 t2 = some .str)
    (hb : (l.length + xs.length) * elBytes P t ≤ 140737488355328) (h63 : l.length + xs.length ≤ 9223372036854775807) (hk : ∀ o' h', Ap2 H0 h' o' ty (l ++ xs).length ob tb nb → K (.sl ty (l ++ xs) o') h') : @wAppend P t t2 (.sl ty l o) x h ⟨K⟩ := by
  obtain ⟨h1, k1, k2⟩ := ha
  obtain ⟨h2, m1, m2⟩ := Ap.swap k1 k2
  refine wAppend_ap m2 hn he hu hb h63 fun o' h' k => hk o' h' ?_
  obtain ⟨h3, n1, n2⟩ := Ap.swap m1 k
  exact ⟨h3, n1, n2⟩

/-! ### what the walk rewrites by -/
theorem inBlock_normal {id : Nat} {Q : Exit → Env → Hp → Prop} {σ : Env} {H : Hp} (h : Q .normal σ H) : inBlock id Q .normal σ H := h
theorem andThen_normal {K : Env → Hp → Prop} {Q : Exit → Env → Hp → Prop} {σ : Env} {H : Hp} (h : K σ H) : andThen K Q .normal σ H := h

theorem wrap_i64 {x : Int} (h1 : -9223372036854775808 ≤ x) (h2 : x ≤ 9223372036854775807) : IntKind.i64.wrap x = x := by
  simp only [IntKind.wrap, IntKind.bits, IntKind.signed]
  simp
  omega
theorem wrap_i32 {x : Int} (h1 : -2147483648 ≤ x) (h2 : x ≤ 2147483647) : IntKind.i32.wrap x = x := by
  simp only [IntKind.wrap, IntKind.bits, IntKind.signed]
  simp
  omega

theorem wFn_intro {P : Program} {B0 : Base} {g : FuncId} {xs : List AVal} {H : Hp} {K : AVal → Hp → Prop} (h : FnC P B0 g xs H K) : @wFn P B0 g xs H ⟨K⟩ := by unfold wFn; exact .inl h
theorem wFn_x {P : Program} {B0 : Base} {g : FuncId} {xs : List AVal} {H : Hp} {K : AVal → Hp → Prop} (h : FnX P g xs (fun x => K x H)) : @wFn P B0 g xs H ⟨K⟩ := by unfold wFn; exact .inr h

theorem SV : (∀ (A B : Prop), @gate (some true) true ⟨A⟩ ⟨B⟩ = A) ∧ (∀ (A B : Prop), @gate (some true) false ⟨A⟩ ⟨B⟩ = B) ∧ (∀ (A B : Prop), @gate (some false) false ⟨A⟩ ⟨B⟩ = A) ∧ (∀ (A B : Prop), @gate (some false) true ⟨A⟩ ⟨B⟩ = B) ∧
    (∀ (x : AVal) (k : AVal → Prop), @wv (some x) ⟨k⟩ = k x) ∧ (∀ (k : AVal → Prop), @wv none ⟨k⟩ = False) ∧ (∀ (x : IntKind) (i : Int) (k : Int → Prop), @wI (some (.int x i)) ⟨k⟩ = k i) ∧ (∀ (c : UInt8) (k : Int → Prop), @wI (some (.u8 c)) ⟨k⟩ = k c.toNat) ∧
    (∀ (n d : Nat) (v : AVal) (σ : Env) (K : Env → Prop), @bindO n (some d) v σ ⟨K⟩ = (d < n ∧ K ((d, v) :: σ))) ∧ (∀ (n : Nat) (v : AVal) (σ : Env) (K : Env → Prop), @bindO n none v σ ⟨K⟩ = K σ) ∧
    (∀ (t d : Nat) (v : AVal) (σ : Env), Env.get ((d, v) :: σ) t = if t = d then some v else Env.get σ t) ∧ (∀ t : Nat, Env.get [] t = none) ∧
    (∀ (P : Program) (σ : Env) (t : TypeId) (d : Nat), ev P σ t (.tmp d) = σ.get d) ∧ (∀ (P : Program) (σ : Env) (t : TypeId) (v : Value), ev P σ t (.const v) = constA P t v) ∧ (∀ (P : Program) (σ : Env) (t : TypeId) (f : FuncId), ev P σ t (.func f) = some (.fn f [])) ∧
    (∀ k : Nat, initEnv k [] = []) ∧ (∀ (k : Nat) (x : AVal) (r : List AVal), initEnv k (x :: r) = (k, x) :: initEnv (k + 1) r) ∧
    (∀ (A B : Prop) (b : Bool), @condA (some (.bool b)) ⟨A⟩ ⟨B⟩ = @gate (some b) true ⟨A⟩ ⟨B⟩) ∧
    (∀ (nv : Nat) (s : List Nat), Env.vars nv [] s = []) ∧ (∀ (nv t : Nat) (v : AVal) (r : Env) (s : List Nat), Env.vars nv ((t, v) :: r) s = if t < nv then (if memN t s then Env.vars nv r s else (t, v) :: Env.vars nv r (t :: s)) else Env.vars nv r s) ∧
    (∀ (nv t : Nat) (v : AVal) (r : Env), Env.keep nv ((t, v) :: r) = (t, v) :: Env.vars nv r [t]) ∧
    (∀ t : Nat, memN t [] = false) ∧ (∀ (t a : Nat) (r : List Nat), memN t (a :: r) = if t = a then true else memN t r) ∧
    (∀ σ : Env, Sub [] σ = True) ∧ (∀ (t : Nat) (v : AVal) (r σ : Env), Sub ((t, v) :: r) σ = (σ.get t = some v ∧ Sub r σ)) := by
  refine ⟨fun A B => by simp [gate], fun A B => by simp [gate], fun A B => by simp [gate], fun A B => by simp [gate], fun _ _ => by unfold wv; rfl, fun _ => by unfold wv; rfl, fun _ _ _ => by unfold wI; rfl, fun _ _ => by unfold wI; rfl, fun _ _ _ _ _ => rfl, fun _ _ _ _ => rfl, fun _ _ _ _ => rfl, fun _ => rfl, fun _ _ _ _ => rfl, fun _ _ _ _ => rfl, fun _ _ _ _ => rfl, fun _ => rfl, fun _ _ _ => rfl, fun _ _ _ => rfl,
    fun _ _ => rfl, fun _ _ _ _ _ => rfl, fun _ _ _ _ => rfl, fun _ => rfl, fun _ _ _ => rfl, fun _ => rfl, fun _ _ _ _ => rfl⟩

attribute [irreducible] Tr Kont KW bindO condA

end Go.Sv
