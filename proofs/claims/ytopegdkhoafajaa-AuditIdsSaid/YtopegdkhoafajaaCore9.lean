/-
  A region whose order is open: whatever order, the same. Own work. Nothing here is trusted.
-/
import Derived.Test.YtopegdkhoafajaaCore8
namespace Go.Sv
set_option linter.unusedSimpArgs false
set_option linter.unusedVariables false

theorem ev_eq {P : Program} {σ σ' : Env} {ty : TypeId} {x : Operand} (h : ∀ t, x = .tmp t → σ.get t = σ'.get t) : ev P σ ty x = ev P σ' ty x := by
  cases x <;> simp only [ev]
  exact h _ rfl

theorem evArgs_eq {P : Program} {σ σ' : Env} : ∀ {ts : List TypeId} {xs : List Operand}, (∀ x ∈ xs, ∀ t, x = .tmp t → σ.get t = σ'.get t) → evArgs P σ ts xs = evArgs P σ' ts xs
  | _, [], _ => by simp only [evArgs]
  | t :: ts, x :: xs, h => by
    simp only [evArgs]
    rw [ev_eq (h x (by simp)), evArgs_eq (fun y hy => h y (by simp [hy]))]
  | [], x :: xs, h => by
    simp only [evArgs]
    rw [ev_eq (h x (by simp)), evArgs_eq (fun y hy => h y (by simp [hy]))]

theorem evParts_eq {P : Program} {σ σ' : Env} : ∀ {xs : List (Nat × Operand)}, (∀ x ∈ xs, ∀ t, x.2 = .tmp t → σ.get t = σ'.get t) → evParts P σ xs = evParts P σ' xs
  | [], _ => by simp only [evParts]
  | (i, x) :: xs, h => by
    simp only [evParts]
    rw [ev_eq (h (i, x) (by simp)), evParts_eq (fun y hy => h y (by simp [hy]))]

theorem optI_eq {P : Program} {σ σ' : Env} {x : Option Operand} (h : ∀ y, x = some y → ∀ t, y = .tmp t → σ.get t = σ'.get t) : optI P σ x = optI P σ' x := by
  cases x with
  | none => simp only [optI]
  | some y => simp only [optI]; rw [ev_eq (h y rfl)]

theorem wop_eq {P : Program} {B0 : Base} {o : Oper} {σ σ' : Env} {H : Hp} {K : AVal → Hp → Prop} (h : ∀ t, Operand.tmp t ∈ o.op.operands.toList → σ.get t = σ'.get t) (hw : @wop P B0 o σ H ⟨K⟩) : @wop P B0 o σ' H ⟨K⟩ := by
  have hev : ∀ ty x, x ∈ o.op.operands.toList → ev P σ ty x = ev P σ' ty x := fun ty x hx => ev_eq fun t ht => h t (ht ▸ hx)
  obtain ⟨dst, op, type, pos, after, guard⟩ := o
  unfold wop at hw ⊢
  simp only at h hev hw ⊢
  cases op <;> simp only at hw ⊢
  case move x => rw [← hev _ x (by simp [Op.operands])]; exact hw
  case assign x => rw [← hev _ x (by simp [Op.operands])]; exact hw
  case pick c x y => rw [← hev _ c (by simp [Op.operands]), ← hev _ x (by simp [Op.operands]), ← hev _ y (by simp [Op.operands])]; exact hw
  case binOp op t x y t' => rw [← hev _ x (by simp [Op.operands]), ← hev _ y (by simp [Op.operands])]; exact hw
  case unOp op t x => rw [← hev _ x (by simp [Op.operands])]; exact hw
  case convert s d x => rw [← hev _ x (by simp [Op.operands])]; exact hw
  case box t x => rw [← hev _ x (by simp [Op.operands])]; exact hw
  case store t x y => rw [← hev _ x (by simp [Op.operands]), ← hev _ y (by simp [Op.operands])]; exact hw
  case nilCheck x => rw [← hev _ x (by simp [Op.operands])]; exact hw
  case range t x => rw [← hev _ x (by simp [Op.operands])]; exact hw
  case next it str => rw [← hev _ it (by simp [Op.operands])]; exact hw
  case makeSlice t l c => rw [← hev _ l (by simp [Op.operands]), ← hev _ c (by simp [Op.operands])]; exact hw
  case extract x i => rw [← hev _ x (by simp [Op.operands])]; exact hw
  case index t x i => rw [← hev _ x (by simp [Op.operands]), ← hev _ i (by simp [Op.operands])]; exact hw
  case indexAddr t x i => rw [← hev _ x (by simp [Op.operands]), ← hev _ i (by simp [Op.operands])]; exact hw
  case load t x => rw [← hev _ x (by simp [Op.operands])]; exact hw
  case fieldAddr t x f => rw [← hev _ x (by simp [Op.operands])]; exact hw
  case field t x f => rw [← hev _ x (by simp [Op.operands])]; exact hw
  case lookup t x y ok => rw [← hev _ x (by simp [Op.operands]), ← hev _ y (by simp [Op.operands])]; exact hw
  case mapEntry t x y => rw [← hev _ x (by simp [Op.operands]), ← hev _ y (by simp [Op.operands])]; exact hw
  case entryStore t x y z => rw [← hev _ x (by simp [Op.operands]), ← hev _ y (by simp [Op.operands]), ← hev _ z (by simp [Op.operands])]; exact hw
  case mapUpdate t x y z => rw [← hev _ x (by simp [Op.operands]), ← hev _ y (by simp [Op.operands]), ← hev _ z (by simp [Op.operands])]; exact hw
  case makeFunc fn first caps =>
    rw [← evArgs_eq (σ := σ) (fun x hx t ht => h t (by
      simp only [Op.operands]
      rw [← ht]
      simp [hx]))]
    exact hw
  case build t parts =>
    rw [← evParts_eq (σ := σ) (fun p hp t ht => h t (by
      simp only [Op.operands]
      rw [← ht]
      simpa using ⟨p.1, by simpa using hp⟩))]
    exact hw
  case buildSlice t len parts =>
    cases hx : inOrder 0 parts.toList with
    | none => rw [hx] at hw; exact hw
    | some xs =>
      rw [hx] at hw
      simp only at hw ⊢
      rw [← evArgs_eq (σ := σ) (fun x hx' t ht => h t (by
        simp only [Op.operands]
        rw [← ht]
        have := (inOrder_spec hx).1
        rw [← this] at hx'
        simpa using hx'))]
      exact hw
  case slice t x lo hi mx =>
    rw [← hev _ x (by simp [Op.operands]), ← optI_eq (σ := σ) (x := lo) (fun y hy t ht => h t (by subst hy; subst ht; simp [Op.operands])), ← optI_eq (σ := σ) (x := hi) (fun y hy t ht => h t (by subst hy; subst ht; simp [Op.operands])),
      ← optI_eq (σ := σ) (x := mx) (fun y hy t ht => h t (by subst hy; subst ht; simp [Op.operands]))]
    exact hw
  case call c =>
    unfold wCall at hw ⊢
    rw [← evArgs_eq (σ := σ) (fun x hx t ht => h t (by
      simp only [Op.operands, Call.operands]
      rw [← ht]
      simp [hx]))]
    have hcl : wClo σ c.callee = wClo σ' c.callee := by
      obtain ⟨callee, args, tys⟩ := c
      cases callee with
      | value x =>
        cases x with
        | tmp t => simp only [wClo]; rw [h t (by simp [Op.operands, Call.operands])]
        | _ => rfl
      | _ => rfl
    rw [← hcl]
    exact hw
  all_goals exact hw

/-! ### the order of the text, each value told once -/
/-- The guard's answer, or that there is none. -/
def wantA (ops : Array Oper) (σ : Env) (o : Oper) : Option Bool := match o.guard with
  | none => some true
  | some (j, want) => if skipA ops σ j = true then some false else (guardA ops σ j).map fun b => match want with | true => b | false => !b

/-- What comes behind a value. -/
def at1 (x : AVal) [k : T1] : Prop := k.run x

def wopsD (P : Program) (B0 : Base) (n : Nat) (ops : Array Oper) : List Oper → Env → Hp → (Env → Hp → Prop) → Prop
  | [], σ, H, Q => Q σ H
  | o :: rest, σ, H, Q => match o.dst with
    | some d => d < n ∧ @gate (wantA ops σ o) true ⟨∃ x, @wop P B0 o σ H ⟨fun v H' => v = x ∧ H' = H⟩ ∧ @at1 x ⟨fun x => wopsD P B0 n ops rest ((d, x) :: σ) H Q⟩⟩ ⟨wopsD P B0 n ops rest ((d, .tup []) :: σ) H Q⟩
    | none => False

/-- What is known of each operation, told along the text. -/
def Told (P : Program) (B0 : Base) (n : Nat) (ops : Array Oper) (H : Hp) : List Oper → Env → List (Nat × AVal) → Prop
  | [], _, l => l = []
  | o :: rest, σ, l => ∃ d x l', l = (d, x) :: l' ∧ o.dst = some d ∧ d < n ∧ ((wantA ops σ o = some true ∧ @wop P B0 o σ H ⟨fun v H' => v = x ∧ H' = H⟩) ∨ (wantA ops σ o = some false ∧ x = .tup [])) ∧ Told P B0 n ops H rest ((d, x) :: σ) l'

theorem told_of {P : Program} {B0 : Base} {n : Nat} {ops : Array Oper} {H : Hp} {Q : Env → Hp → Prop} : ∀ {l : List Oper} {σ : Env}, wopsD P B0 n ops l σ H Q → ∃ xs, Told P B0 n ops H l σ xs ∧ Q (xs.reverse ++ σ) H
  | [], σ, h => ⟨[], rfl, by simpa [wopsD] using h⟩
  | o :: rest, σ, h => by
    simp only [wopsD] at h
    split at h
    · rename_i d hd
      obtain ⟨hn, h⟩ := h
      cases hw : wantA ops σ o with
      | none => rw [hw] at h; unfold gate at h; exact h.elim
      | some b =>
        rw [hw] at h
        cases b with
        | true =>
          simp only [gate, if_true] at h
          obtain ⟨x, h1, h2⟩ := h
          obtain ⟨xs, k1, k2⟩ := told_of (show wopsD P B0 n ops rest ((d, x) :: σ) H Q from h2)
          exact ⟨(d, x) :: xs, ⟨d, x, xs, rfl, hd, hn, .inl ⟨hw, h1⟩, k1⟩, by simpa using k2⟩
        | false =>
          simp only [gate, Bool.false_eq_true, if_false] at h
          obtain ⟨xs, k1, k2⟩ := told_of h
          exact ⟨(d, .tup []) :: xs, ⟨d, _, xs, rfl, hd, hn, .inr ⟨hw, rfl⟩, k1⟩, by simpa using k2⟩
    · exact h.elim

/-- One operation of a told row. -/
theorem told_get {P : Program} {B0 : Base} {n : Nat} {ops : Array Oper} {H : Hp} : ∀ {l : List Oper} {σ : Env} {xs : List (Nat × AVal)}, Told P B0 n ops H l σ xs → xs.length = l.length ∧ ∀ j o, l[j]? = some o →
    ∃ d x, xs[j]? = some (d, x) ∧ o.dst = some d ∧ d < n ∧ ((wantA ops ((xs.take j).reverse ++ σ) o = some true ∧ @wop P B0 o ((xs.take j).reverse ++ σ) H ⟨fun v H' => v = x ∧ H' = H⟩) ∨ (wantA ops ((xs.take j).reverse ++ σ) o = some false ∧ x = .tup []))
  | [], σ, xs, h => by simp only [Told] at h; subst h; exact ⟨rfl, fun j o ho => by simp at ho⟩
  | o :: rest, σ, xs, h => by
    obtain ⟨d, x, l', rfl, hd, hn, hx, h⟩ := h
    obtain ⟨k1, k2⟩ := told_get h
    refine ⟨by simp [k1], fun j o' ho => ?_⟩
    cases j with
    | zero =>
      simp only [List.getElem?_cons_zero, Option.some.injEq] at ho
      subst ho
      exact ⟨d, x, rfl, hd, hn, by simpa using hx⟩
    | succ j =>
      simp only [List.getElem?_cons_succ] at ho
      obtain ⟨d', x', m1, m2, m3, m4⟩ := k2 j o' ho
      refine ⟨d', x', by simpa using m1, m2, m3, ?_⟩
      simpa using m4

/-! ### what may be taken in any order -/
/-- May the region's operations be taken in any order that its edges allow? -/
def drawOk (ops : Array Oper) : Bool :=
  (List.range ops.size).all fun j => match ops[j]? with
    | none => true
    | some o => o.after.all (fun e => !(Region.binds .any e) || decide (e.on < j)) && o.dst.isSome &&
      (List.range ops.size).all fun i => match ops[i]? with
        | none => true
        | some q => i == j || (q.dst != o.dst && match q.dst with
          | some t => !(o.looksAt ops).contains t || (if i < j then o.after.any (fun e => e.on == i && Region.binds .any e) else q.after.any (fun e => e.on == j && Region.binds .any e))
          | none => true)

theorem drawOk_spec {ops : Array Oper} (h : drawOk ops = true) {j : Nat} {o : Oper} (ho : ops[j]? = some o) :
    (∀ e ∈ o.after, Region.binds .any e = true → e.on < j) ∧ (∃ d, o.dst = some d) ∧ ∀ i q t, ops[i]? = some q → i ≠ j → q.dst = some t → o.dst ≠ some t ∧ (t ∈ o.looksAt ops → (i < j → ∃ e ∈ o.after, e.on = i ∧ Region.binds .any e = true) ∧ (j < i → ∃ e ∈ q.after, e.on = j ∧ Region.binds .any e = true)) := by
  have hlt : ∀ {i : Nat} {q : Oper}, ops[i]? = some q → i < ops.size := fun hq => by
    rcases Nat.lt_or_ge _ ops.size with h' | h'
    · exact h'
    · rw [Array.getElem?_eq_none h'] at hq; simp at hq
  unfold drawOk at h
  rw [List.all_eq_true] at h
  have hj := h j (List.mem_range.2 (hlt ho))
  rw [ho] at hj
  simp only [Bool.and_eq_true, List.all_eq_true, List.mem_range] at hj
  obtain ⟨⟨h1, h2⟩, h3⟩ := hj
  refine ⟨fun e he hbe => ?_, Option.isSome_iff_exists.1 h2, fun i q t hq hne ht => ?_⟩
  · rw [Array.all_eq_true] at h1
    obtain ⟨k, hk, rfl⟩ := Array.mem_iff_getElem.1 he
    have := h1 k hk
    rw [hbe] at this
    simpa using this
  · have := h3 i (hlt hq)
    rw [hq] at this
    simp only [Bool.or_eq_true, Bool.and_eq_true, beq_iff_eq, bne_iff_ne, ne_eq, ht] at this
    rcases this with rfl | ⟨k1, k2⟩
    · exact absurd rfl hne
    · refine ⟨fun e => k1 e.symm, fun hm => ?_⟩
      rcases k2 with k2 | k2
      · simp at k2; exact absurd hm k2
      · refine ⟨fun hij => ?_, fun hji => ?_⟩
        · rw [if_pos hij] at k2
          rw [Array.any_eq_true] at k2
          obtain ⟨k, hk, hk'⟩ := k2
          simp only [Bool.and_eq_true, beq_iff_eq] at hk'
          exact ⟨_, Array.getElem_mem hk, hk'.1, hk'.2⟩
        · rw [if_neg (by omega)] at k2
          rw [Array.any_eq_true] at k2
          obtain ⟨k, hk, hk'⟩ := k2
          simp only [Bool.and_eq_true, beq_iff_eq] at hk'
          exact ⟨_, Array.getElem_mem hk, hk'.1, hk'.2⟩

theorem get_append {l σ : Env} {t : Nat} {v : AVal} (h : Env.get (l ++ σ) t = some v) : (t, v) ∈ l ∨ ((∀ x, (t, x) ∉ l) ∧ σ.get t = some v) := by
  induction l with
  | nil => exact .inr ⟨by simp, h⟩
  | cons p r ih =>
    obtain ⟨d, x⟩ := p
    simp only [List.cons_append, Env.get] at h
    split at h
    · rename_i ht
      simp only [Option.some.injEq] at h
      subst h; subst ht
      exact .inl (by simp)
    · rename_i ht
      rcases ih h with h' | ⟨h1, h2⟩
      · exact .inl (by simp [h'])
      · refine .inr ⟨fun y hy => ?_, h2⟩
        rcases List.mem_cons.1 hy with e | e
        · simp only [Prod.mk.injEq] at e; exact ht e.1
        · exact h1 y e

/-- What slot t holds, when these operations have been taken. -/
def Val (xs : List (Nat × AVal)) (σ : Env) (listed : Array Bool) (t : Nat) (v : AVal) : Prop :=
  (∃ i, xs[i]? = some (t, v) ∧ listed.getD i false = true) ∨ ((∀ i x, xs[i]? = some (t, x) → listed.getD i false = false) ∧ σ.get t = some v)

/-- An environment's part. -/
def Env.only (ts : List Nat) : Env → Env
  | [] => []
  | (d, v) :: r => if memN d ts then (d, v) :: Env.only ts r else Env.only ts r
theorem only_get {ts : List Nat} {t : Nat} : ∀ {σ : Env}, (Env.only ts σ).get t = if memN t ts then σ.get t else none
  | [] => by simp [Env.only, Env.get]
  | (d, v) :: r => by
    simp only [Env.only]
    split
    · rename_i h
      simp only [Env.get]
      split
      · rename_i ht; subst ht; rw [if_pos h]
      · exact only_get
    · rename_i h
      rw [only_get]
      by_cases hm : memN t ts = true
      · rw [if_pos hm, if_pos hm]
        simp only [Env.get]
        rw [if_neg (fun e => h (by subst e; exact hm))]
      · rw [if_neg hm, if_neg hm]

theorem guardA_eq {ops : Array Oper} {σ σ' : Env} {j : Nat} (h : ∀ d, (ops[j]?).bind (·.dst) = some d → σ.get d = σ'.get d) : guardA ops σ j = guardA ops σ' j := by
  unfold guardA
  cases hd : (ops[j]?).bind (·.dst) with
  | none => rfl
  | some d => simp only; rw [h d hd]

theorem skipA_eq {ops : Array Oper} {σ σ' : Env} {j : Nat} (h : ∀ d, (ops[j]?).bind (·.dst) = some d → σ.get d = σ'.get d) : skipA ops σ j = skipA ops σ' j := by
  unfold skipA
  cases hd : (ops[j]?).bind (·.dst) with
  | none => rfl
  | some d => simp only; rw [h d hd]

section
variable {P : Program} {B0 : Base} {n : Nat} {ops : Array Oper} {H : Hp} {σ : Env} {xs : List (Nat × AVal)}

structure Taken (B0 : Base) (n : Nat) (ops : Array Oper) (H : Hp) (σ : Env) (xs : List (Nat × AVal)) (S0 : Seal) (w0 : World) (listed : Array Bool) (a : Act) (w : World) : Prop where
  down : ∀ (i : Nat) (o : Oper), ops[i]? = some o → listed.getD i false = true → ∀ e ∈ o.after, Region.binds .any e = true → listed.getD e.on false = true
  size : listed.size = ops.size
  st : ∃ S', Ext B0 S0 S' w0 w ∧ Inv B0 w S' H ∧ ∀ t v, Val xs σ listed t v → t < n ∧ Rep w S' v (a.tmps.getD t undef)
  tmps : a.tmps.size = n
  defers : a.defers = []

theorem ready_spec {listed : Array Bool} {i : Nat} (h : i ∈ Region.ready .any ops listed) : ∃ o, ops[i]? = some o ∧ i < ops.size ∧ listed.getD i true = false ∧ ∀ e ∈ o.after, Region.binds .any e = true → listed.getD e.on false = true := by
  unfold Region.ready at h
  simp only [List.mem_filter, List.mem_range, Bool.and_eq_true, Bool.not_eq_true'] at h
  obtain ⟨h1, h2, h3⟩ := h
  refine ⟨ops[i], by simp [h1], h1, h2, fun e he hb => ?_⟩
  rw [Array.getElem?_eq_getElem h1] at h3
  simp only [Option.map_some, Option.getD_some, Array.all_eq_true] at h3
  obtain ⟨k, hk, rfl⟩ := Array.mem_iff_getElem.1 he
  have := h3 k hk
  simpa [hb] using this

theorem getD_true_false {l : Array Bool} {i : Nat} (h : i < l.size) (h' : l.getD i true = false) : l.getD i false = false := by
  simp only [Array.getD_eq_getD_getElem?, Array.getElem?_eq_getElem h, Option.getD_some] at h' ⊢
  exact h'

theorem getD_set {l : Array Bool} {i j : Nat} (h : i < l.size) : (l.setIfInBounds i true).getD j false = if j = i then true else l.getD j false := by
  simp only [Array.getD_eq_getD_getElem?, Array.getElem?_setIfInBounds]
  by_cases hj : j = i
  · subst hj; simp [h]
  · rw [if_neg (Ne.symm hj), if_neg hj]

/-- One operation, at hand: what it looks at is there. -/
theorem val_of_look {l : List Oper} (hd : drawOk ops = true) (ht : Told P B0 n ops H ops.toList σ xs) {listed : Array Bool} {S0 : Seal} {w0 w : World} {a : Act} (hT : Taken B0 n ops H σ xs S0 w0 listed a w) {j : Nat} {o : Oper} (ho : ops[j]? = some o)
    (hj : listed.getD j false = false) (hr : ∀ e ∈ o.after, Region.binds .any e = true → listed.getD e.on false = true) {t : Nat} {v : AVal} (hm : t ∈ o.looksAt ops) (hg : Env.get ((xs.take j).reverse ++ σ) t = some v) : Val xs σ listed t v := by
  obtain ⟨hlen, htold⟩ := told_get ht
  have key : ∀ {i : Nat} {d : Nat} {x : AVal}, xs[i]? = some (d, x) → ∃ q, ops[i]? = some q ∧ q.dst = some d := by
    intro i d x hx
    have hi : i < ops.toList.length := by
      rcases Nat.lt_or_ge i ops.toList.length with h | h
      · exact h
      · rw [List.getElem?_eq_none (by omega)] at hx; simp at hx
    obtain ⟨d', x', k1, k2, _, _⟩ := htold i _ (List.getElem?_eq_getElem hi)
    rw [hx] at k1
    simp only [Option.some.injEq, Prod.mk.injEq] at k1
    refine ⟨ops.toList[i], by rw [← Array.getElem?_toList, List.getElem?_eq_getElem hi], ?_⟩
    rw [k2, k1.1]
  rcases get_append hg with h | ⟨h1, h2⟩
  · rw [List.mem_reverse, List.mem_take_iff_getElem] at h
    obtain ⟨i, hi, he⟩ := h
    have hx : xs[i]? = some (t, v) := by rw [List.getElem?_eq_getElem (by omega), he]
    obtain ⟨q, hq, hqd⟩ := key hx
    have hij : i < j := by omega
    obtain ⟨_, _, hs⟩ := drawOk_spec hd ho
    obtain ⟨_, hs⟩ := hs i q t hq (by omega) hqd
    obtain ⟨e, he1, he2, he3⟩ := (hs hm).1 hij
    exact .inl ⟨i, hx, by rw [← he2]; exact hr e he1 he3⟩
  · refine .inr ⟨fun i x hx => ?_, h2⟩
    obtain ⟨q, hq, hqd⟩ := key hx
    rcases Nat.lt_trichotomy i j with hij | rfl | hji
    · exfalso
      apply h1 x
      rw [List.mem_reverse, List.mem_take_iff_getElem]
      have hi : i < xs.length := by
        rcases Nat.lt_or_ge i xs.length with h | h
        · exact h
        · rw [List.getElem?_eq_none h] at hx; simp at hx
      exact ⟨i, by omega, by rw [List.getElem?_eq_getElem hi] at hx; simpa using hx⟩
    · exact hj
    · obtain ⟨_, _, hs⟩ := drawOk_spec hd ho
      obtain ⟨_, hs⟩ := hs i q t hq (by omega) hqd
      obtain ⟨e, he1, he2, he3⟩ := (hs hm).2 hji
      cases hl : listed.getD i false with
      | false => rfl
      | true =>
        have := hT.down i q hq hl e he1 he3
        rw [he2, hj] at this
        simp at this

theorem val_put (hd : drawOk ops = true) (ht : Told P B0 n ops H ops.toList σ xs) {listed : Array Bool} (hs : listed.size = ops.size) {j : Nat} {o : Oper} (ho : ops[j]? = some o) {d : Nat} {x : AVal} (hx : xs[j]? = some (d, x)) {t : Nat} {v : AVal}
    (hv : Val xs σ (listed.setIfInBounds j true) t v) : (t = d ∧ v = x) ∨ (t ≠ d ∧ Val xs σ listed t v) := by
  obtain ⟨hlen, htold⟩ := told_get ht
  have hjl : j < ops.size := by
    rcases Nat.lt_or_ge j ops.size with h' | h'
    · exact h'
    · rw [Array.getElem?_eq_none h'] at ho; simp at ho
  have key : ∀ {i : Nat} {d : Nat} {x : AVal}, xs[i]? = some (d, x) → ∃ q, ops[i]? = some q ∧ q.dst = some d := by
    intro i d x hx
    have hi : i < ops.toList.length := by
      rcases Nat.lt_or_ge i ops.toList.length with h | h
      · exact h
      · rw [List.getElem?_eq_none (by omega)] at hx; simp at hx
    obtain ⟨d', x', k1, k2, _, _⟩ := htold i _ (List.getElem?_eq_getElem hi)
    rw [hx] at k1
    simp only [Option.some.injEq, Prod.mk.injEq] at k1
    refine ⟨ops.toList[i], by rw [← Array.getElem?_toList, List.getElem?_eq_getElem hi], ?_⟩
    rw [k2, k1.1]
  have uniq : ∀ {i : Nat} {y : AVal}, xs[i]? = some (d, y) → i = j := by
    intro i y hy
    obtain ⟨q, hq, hqd⟩ := key hy
    obtain ⟨q', hq', hqd'⟩ := key hx
    rw [ho] at hq'
    simp only [Option.some.injEq] at hq'
    subst hq'
    rcases Nat.decEq i j with hne | he
    · obtain ⟨_, _, hs⟩ := drawOk_spec hd ho
      exact absurd hqd' (hs i q d hq hne hqd).1
    · exact he
  by_cases htd : t = d
  · subst htd
    refine .inl ⟨rfl, ?_⟩
    rcases hv with ⟨i, hi, _⟩ | ⟨h1, _⟩
    · obtain rfl := uniq hi
      rw [hx] at hi
      simp only [Option.some.injEq, Prod.mk.injEq, true_and] at hi
      exact hi.symm
    · have := h1 j x hx
      rw [getD_set (by omega), if_pos rfl] at this
      simp at this
  · refine .inr ⟨htd, ?_⟩
    rcases hv with ⟨i, hi, hl⟩ | ⟨h1, h2⟩
    · refine .inl ⟨i, hi, ?_⟩
      rw [getD_set (by omega)] at hl
      split at hl
      · rename_i e
        subst e
        rw [hx] at hi
        simp only [Option.some.injEq, Prod.mk.injEq] at hi
        exact absurd hi.1.symm htd
      · exact hl
    · refine .inr ⟨fun i y hy => ?_, h2⟩
      have := h1 i y hy
      rw [getD_set (by omega)] at this
      split at this
      · simp at this
      · exact this

theorem taken_step (hd : drawOk ops = true) (ht : Told P B0 n ops H ops.toList σ xs) {QQ : Exit → Act → World → Prop} {S0 : Seal} {w0 : World} (hσ : ∀ t v, σ.get t = some v → t < n) {K : Array Bool → Act → World → Prop} {listed : Array Bool} {a : Act} {w : World} (hT : Taken B0 n ops H σ xs S0 w0 listed a w) {j : Nat}
    (hj : j ∈ Region.ready .any ops listed) (hK : ∀ a' w', Taken B0 n ops H σ xs S0 w0 (listed.setIfInBounds j true) a' w' → K (listed.setIfInBounds j true) a' w') : wpOp P ops QQ j (K (listed.setIfInBounds j true)) a w := by
  obtain ⟨o, ho, hjl, hjf0, hr⟩ := ready_spec hj
  have hjs : j < listed.size := by rw [hT.size]; exact hjl
  have hjf := getD_true_false hjs hjf0
  obtain ⟨hlen, htold⟩ := told_get ht
  obtain ⟨d, x, hx, hdst, hdn, hwhat⟩ := htold j o (by rw [Array.getElem?_toList]; exact ho)
  obtain ⟨S', hext, hinv, hval⟩ := hT.st
  -- what the operation looks at
  let ts := o.looksAt ops
  let σj : Env := (xs.take j).reverse ++ σ
  have henv : EnvAt w S' (σj.only ts) a.tmps := by
    intro t v hg
    rw [only_get] at hg
    split at hg
    · rename_i hm
      have hv := val_of_look (l := ops.toList) hd ht hT ho hjf hr (memN_iff.1 hm) hg
      obtain ⟨h1, h2⟩ := hval t v hv
      exact ⟨by rw [hT.tmps]; exact h1, h2⟩
    · simp at hg
  have hget : ∀ t, t ∈ ts → σj.get t = (σj.only ts).get t := fun t h => by rw [only_get, if_pos (memN_iff.2 h)]
  have after : ∀ {v : Value} {w' : World} {S'' : Seal}, Ext B0 S' S'' w w' → Inv B0 w' S'' H → Rep w' S'' x v → Taken B0 n ops H σ xs S0 w0 (listed.setIfInBounds j true) (a.put o.dst v) w' := by
    intro v w' S'' e hi' hrep
    refine ⟨fun i q hq hl e' he hb => ?_, by simpa using hT.size, ⟨S'', hext.trans e, hi', fun t y hy => ?_⟩, by rw [put_size]; exact hT.tmps, by rw [put_defers]; exact hT.defers⟩
    · rw [getD_set hjs] at hl ⊢
      split
      · rfl
      · split at hl
        · rename_i hij
          subst hij
          rw [ho] at hq
          simp only [Option.some.injEq] at hq
          subst hq
          exact hr e' he hb
        · exact hT.down i q hq hl e' he hb
    · rw [hdst]
      rcases val_put hd ht hT.size ho hx hy with ⟨rfl, rfl⟩ | ⟨hne, hv⟩
      · refine ⟨hdn, ?_⟩
        simp only [Act.put, Array.getD_eq_getD_getElem?, Array.getElem?_setIfInBounds_self_of_lt (by rw [hT.tmps]; exact hdn), Option.getD_some]
        exact hrep
      · obtain ⟨h1, h2⟩ := hval t y hv
        refine ⟨h1, ?_⟩
        simp only [Act.put, Array.getD_eq_getD_getElem?, Array.getElem?_setIfInBounds_ne (Ne.symm hne)] at h2 ⊢
        exact h2.ext e
  -- is it wanted?
  have hwant : ∀ b, wantA ops σj o = some b → Region.wanted o (yielded ops a.tmps) = b := by
    intro b hb
    unfold wantA at hb
    cases hg : o.guard with
    | none => rw [hg] at hb; simp only [Option.some.injEq] at hb; simp [Region.wanted, hg, hb]
    | some p =>
      obtain ⟨g, want⟩ := p
      rw [hg] at hb
      simp only at hb
      by_cases hsk : skipA ops σj g = true
      · rw [if_pos hsk] at hb
        simp only [Option.some.injEq] at hb
        have hsk' : skipA ops (σj.only ts) g = true := by
          rw [← hsk]
          refine (skipA_eq fun t ht => hget t ?_).symm
          show t ∈ o.looksAt ops
          simp [Oper.looksAt, hg, ht]
        have := skipA_spec hsk' henv
        simp [Region.wanted, hg, this, ← hb]
      rw [if_neg hsk] at hb
      simp only [Option.map_eq_some_iff] at hb
      obtain ⟨c, hc, rfl⟩ := hb
      have hc' : guardA ops (σj.only ts) g = some c := by
        rw [← hc]
        refine (guardA_eq fun t ht => hget t ?_).symm
        show t ∈ o.looksAt ops
        simp [Oper.looksAt, hg, ht]
      have := guardA_spec hc' henv
      cases want <;> cases c <;> simp [Region.wanted, hg, this]
  unfold wpOp
  rw [ho]
  simp only
  rcases hwhat with ⟨h1, h2⟩ | ⟨h1, rfl⟩
  · rw [if_pos (hwant true h1)]
    have h2' := wop_eq (σ' := σj.only ts) (fun t ht => hget t (by
      show t ∈ o.looksAt ops
      simp only [Oper.looksAt, List.mem_append, List.mem_filterMap]
      exact .inl ⟨_, ht, rfl⟩)) h2
    refine .inl (Oper.wp_mono ?_ (wop_sound h2' hinv henv))
    rintro a' w' ⟨v, y, S'', H', rfl, e, hi', hrep, rfl, rfl⟩
    exact hK _ _ (after e hi' hrep)
  · rw [if_neg (by rw [hwant false h1]; simp)]
    exact hK _ _ (after (Ext.refl _ _ _) hinv rep_skip)

theorem count_set {l : Array Bool} {i : Nat} (h : i < l.size) (hf : l.getD i false = false) : (l.setIfInBounds i true).toList.count false + 1 = l.toList.count false := by
  have hl : l.toList[i]'(by simpa using h) = false := by
    simp only [Array.getD_eq_getD_getElem?, Array.getElem?_eq_getElem h, Option.getD_some] at hf
    simpa using hf
  rw [Array.toList_setIfInBounds, List.count_set (by simpa using h), hl]
  have : 0 < l.toList.count false := by
    rw [List.count_pos_iff]
    rw [← hl]
    exact List.getElem_mem _
  have e1 : (false == false) = true := rfl
  have e2 : (true == false) = false := rfl
  rw [e1, e2, if_pos rfl, if_neg (by simp)]
  omega

theorem taken_all (hd : drawOk ops = true) (ht : Told P B0 n ops H ops.toList σ xs) {QQ : Exit → Act → World → Prop} {S0 : Seal} {w0 : World} (hσ : ∀ t v, σ.get t = some v → t < n)
    (hQ : ∀ listed a w, Taken B0 n ops H σ xs S0 w0 listed a w → (∀ i, i < ops.size → listed.getD i false = true) → QQ .normal a w) : ∀ (fuel : Nat) (listed : Array Bool) (a : Act) (w : World), listed.toList.count false ≤ fuel → Taken B0 n ops H σ xs S0 w0 listed a w →
    wpAny P .any ops QQ fuel listed a w := by
  have done : ∀ (listed : Array Bool) (a : Act) (w : World), Taken B0 n ops H σ xs S0 w0 listed a w → Region.ready .any ops listed = [] → QQ .normal a w := by
    intro listed a w hT hr
    refine hQ listed a w hT fun i hi => ?_
    -- the first that isn't taken would be ready
    have : ∀ k i, i < k → i < ops.size → listed.getD i false = true := by
      intro k
      induction k with
      | zero => intro i h; omega
      | succ k ih =>
        intro i hik hi
        cases hl : listed.getD i false with
        | true => rfl
        | false =>
          exfalso
          have hmem : i ∈ Region.ready .any ops listed := by
            unfold Region.ready
            simp only [List.mem_filter, List.mem_range, Bool.and_eq_true, Bool.not_eq_true']
            have his : i < listed.size := by rw [hT.size]; exact hi
            refine ⟨hi, ?_, ?_⟩
            · simp only [Array.getD_eq_getD_getElem?, Array.getElem?_eq_getElem his, Option.getD_some] at hl ⊢
              exact hl
            · rw [Array.getElem?_eq_getElem hi]
              simp only [Option.map_some, Option.getD_some, Array.all_eq_true]
              intro k' hk'
              obtain ⟨h1, _, _⟩ := drawOk_spec hd (j := i) (o := ops[i]) (Array.getElem?_eq_getElem hi)
              cases hb : Region.binds .any ops[i].after[k'] with
              | false => simp
              | true =>
                have hlt := h1 _ (Array.getElem_mem hk') hb
                have hih := ih (ops[i].after[k'].on) (by omega) (by omega)
                rw [hih]
                simp
          rw [hr] at hmem
          simp at hmem
    exact this (i + 1) i (by omega) hi
  intro fuel
  induction fuel with
  | zero =>
    intro listed a w hc hT
    have hr : Region.ready .any ops listed = [] := by
      rw [List.eq_nil_iff_forall_not_mem]
      intro i hi
      obtain ⟨o, _, h1, h2, _⟩ := ready_spec hi
      have := getD_true_false (by rw [hT.size]; exact h1) h2
      have := count_set (by rw [hT.size]; exact h1) this
      omega
    exact ⟨hr, done listed a w hT hr⟩
  | succ fuel ih =>
    intro listed a w hc hT
    refine ⟨fun hr => done listed a w hT hr, fun i hi => ?_⟩
    refine taken_step (K := fun l => wpAny P .any ops QQ fuel l) hd ht hσ hT hi fun a' w' hT' => ih _ a' w' ?_ hT'
    obtain ⟨o, _, h1, h2, _⟩ := ready_spec hi
    have := getD_true_false (by rw [hT.size]; exact h1) h2
    have := count_set (by rw [hT.size]; exact h1) this
    omega

theorem no_false {k i : Nat} (h : (Array.replicate k false).getD i false = true) : False := by
  rw [Array.getD_eq_getD_getElem?, Array.getElem?_replicate] at h
  split at h <;> simp at h

/-- A region whose order is open. -/
theorem tr_draw {id : Nat} {Q : Exit → Env → Hp → Prop} (hm : P.follows .mixedOrders = true) (hd : drawOk ops = true) (h : wopsD P B0 n ops ops.toList σ H (Q .normal)) : Tr P B0 n (.region id ops true) σ H Q := by
  unfold Tr
  intro w S a hs
  obtain ⟨xs, ht, hq⟩ := told_of h
  have hσ : ∀ t v, σ.get t = some v → t < n := fun t v h => by have := (hs.env t v h).1; rw [hs.size] at this; exact this
  refine wp_region_any hm (taken_all (S0 := S) (w0 := w) hd ht hσ ?_ ops.size _ a _ ?_ ?_)
  · intro listed a' w' hT hall
    obtain ⟨S', e, hi, hval⟩ := hT.st
    refine ⟨S', _, H, e, ⟨hi, fun t v hg => ?_, hT.tmps, hT.defers⟩, hq⟩
    have hv : Val xs σ listed t v := by
      rcases get_append hg with h' | ⟨h1, h2⟩
      · rw [List.mem_reverse, List.mem_iff_getElem] at h'
        obtain ⟨i, hi', he⟩ := h'
        refine .inl ⟨i, by rw [List.getElem?_eq_getElem hi', he], hall i ?_⟩
        have := (told_get ht).1
        simp at this
        omega
      · refine .inr ⟨fun i x hx => ?_, h2⟩
        exact absurd (List.mem_reverse.2 (List.mem_of_getElem? hx)) (h1 x)
    obtain ⟨h1, h2⟩ := hval t v hv
    exact ⟨by rw [hT.tmps]; exact h1, h2⟩
  · simp
  · refine ⟨fun i o ho hl => ?_, by simp, ⟨S, Ext.drew _ _ _, ⟨hs.inv.base, hs.inv.top, fun b o hb => ?_, hs.inv.tab.ext (Ext.drew B0 S w)⟩, fun t v hv => ?_⟩, hs.size, hs.defers⟩
    · exfalso
      exact no_false hl
    · obtain ⟨k1, k2⟩ := hs.inv.obj b o hb
      exact ⟨k1, k2.keep (Ext.drew B0 S w) rfl rfl⟩
    · rcases hv with ⟨i, hi, hl⟩ | ⟨_, h2⟩
      · exfalso
        exact no_false hl
      · obtain ⟨k1, k2⟩ := hs.env t v h2
        exact ⟨hσ t v h2, k2.ext (Ext.drew B0 S w)⟩

theorem tr_drawk (nv : Nat) {id : Nat} {y : Code} {Q : Exit → Env → Hp → Prop} (hm : P.follows .mixedOrders = true) (hd : drawOk ops = true) (h : ∀ K : Env → Hp → Prop, KW K (fun σ' H' => Tr P B0 n y σ' H' Q) → wopsD P B0 n ops ops.toList σ H fun σ' H' => Kont K (σ'.keep nv) H') : Tr P B0 n (.seq (.region id ops true) y) σ H Q := by
  refine tr_seq (tr_draw hm hd ?_)
  have h'' := h (fun σ' H' => Tr P B0 n y σ' H' Q) (by unfold KW; exact fun _ _ h => h)
  clear h
  refine wopsD_mono (fun σ' H' hk => ?_) h''
  have hk' : Tr P B0 n y (σ'.keep nv) H' Q := by unfold Kont at hk; exact hk
  exact tr_forget (fun t v ht => keep_get ht) (Hp.Le.refl _) hk'
where wopsD_mono {K K' : Env → Hp → Prop} (hk : ∀ σ H, K σ H → K' σ H) : ∀ {l : List Oper} {σ : Env} {H : Hp}, wopsD P B0 n ops l σ H K → wopsD P B0 n ops l σ H K'
  | [], σ, H, h => hk _ _ (by simpa [wopsD] using h)
  | o :: rest, σ, H, h => by
    simp only [wopsD] at h ⊢
    split at h
    · obtain ⟨hn, h⟩ := h
      refine ⟨hn, ?_⟩
      cases hw : wantA ops σ o with
      | none => rw [hw] at h; unfold gate at h; exact h.elim
      | some b =>
        rw [hw] at h
        cases b with
        | true =>
          simp only [gate, if_true] at h ⊢
          obtain ⟨x, h1, h2⟩ := h
          exact ⟨x, h1, wopsD_mono hk (show wopsD P B0 n ops rest _ H K from h2)⟩
        | false =>
          simp only [gate, Bool.false_eq_true, if_false] at h ⊢
          exact wopsD_mono hk h
    · exact h.elim

/-- The same at the end of a block, or of a round. -/
theorem tr_drawe (nv : Nat) {id : Nat} {Q : Exit → Env → Hp → Prop} (hm : P.follows .mixedOrders = true) (hd : drawOk ops = true) (h : ∀ K : Env → Hp → Prop, KW K (Q .normal) → wopsD P B0 n ops ops.toList σ H fun σ' H' => Kont K (σ'.keep nv) H') : Tr P B0 n (.region id ops true) σ H Q := by
  have h' := h (Q .normal) (by unfold KW; exact fun _ _ h => h)
  have ht : Tr P B0 n (.region id ops true) σ H (fun e σ' H' => e = .normal ∧ Q .normal (σ'.keep nv) H') :=
    tr_draw hm hd (tr_drawk.wopsD_mono (fun _ _ hk => ⟨rfl, by unfold Kont at hk; exact hk⟩) h')
  unfold Tr at ht ⊢
  intro w S a hs
  refine wp_mono (ht w S a hs) ?_
  rintro e a' w' ⟨S', σ', H', hx, hs', rfl, hq⟩
  exact ⟨S', _, H', hx, ⟨hs'.inv, fun t v ht => hs'.env t v (keep_get ht), hs'.size, hs'.defers⟩, hq⟩

end

theorem SVD : (∀ (P : Program) (B0 : Base) (n : Nat) (ops : Array Oper) (σ : Env) (H : Hp) (Q : Env → Hp → Prop), wopsD P B0 n ops [] σ H Q = Q σ H) ∧
    (∀ (b : Bool) (k : AVal → Prop), @at1 (.bool b) ⟨k⟩ = k (.bool b)) ∧ (∀ (b : UInt8) (k : AVal → Prop), @at1 (.u8 b) ⟨k⟩ = k (.u8 b)) ∧ (∀ (i : IntKind) (b : Int) (k : AVal → Prop), @at1 (.int i b) ⟨k⟩ = k (.int i b)) ∧ (∀ (b : List UInt8) (k : AVal → Prop), @at1 (.str b) ⟨k⟩ = k (.str b)) ∧
    (∀ (b : Option Addr) (k : AVal → Prop), @at1 (.ptr b) ⟨k⟩ = k (.ptr b)) ∧ (∀ (t : Ty) (l : List t.den) (o : Own) (k : AVal → Prop), @at1 (.sl t l o) ⟨k⟩ = k (.sl t l o)) ∧ (∀ (b : List AVal) (k : AVal → Prop), @at1 (.agg b) ⟨k⟩ = k (.agg b)) ∧ (∀ (t : Ty) (l : List t.den) (i o : Nat) (k : AVal → Prop), @at1 (.ea t l i o) ⟨k⟩ = k (.ea t l i o)) ∧
    (∀ (b : List AVal) (k : AVal → Prop), @at1 (.tup b) ⟨k⟩ = k (.tup b)) ∧ (∀ (b : FuncId) (l : List AVal) (k : AVal → Prop), @at1 (.fn b l) ⟨k⟩ = k (.fn b l)) ∧ (∀ (k : AVal → Prop), @at1 .undef ⟨k⟩ = k .undef) ∧ (∀ (b : Nat) (k : AVal → Prop), @at1 (.map b) ⟨k⟩ = k (.map b)) ∧ (∀ (b : List UInt8) (o : Own) (k : AVal → Prop), @at1 (.dat b o) ⟨k⟩ = k (.dat b o)) ∧
    (∀ (v : AVal) (k : AVal → Prop), (∃ x, v = x ∧ @at1 x ⟨k⟩) = k v) ∧ (∀ (A : Prop) (B k : AVal → Prop), (∃ x, (A ∧ B x) ∧ @at1 x ⟨k⟩) = (A ∧ ∃ x, B x ∧ @at1 x ⟨k⟩)) :=
  ⟨fun _ _ _ _ _ _ _ => by simp [wopsD], fun _ _ => rfl, fun _ _ => rfl, fun _ _ _ => rfl, fun _ _ => rfl, fun _ _ => rfl, fun _ _ _ _ => rfl, fun _ _ => rfl, fun _ _ _ _ _ => rfl, fun _ _ => rfl, fun _ _ _ => rfl, fun _ => rfl, fun _ _ => rfl, fun _ _ _ => rfl, fun v k => by simp [at1], fun A B k => by simp only [and_assoc, exists_and_left]⟩

attribute [irreducible] at1

end Go.Sv
