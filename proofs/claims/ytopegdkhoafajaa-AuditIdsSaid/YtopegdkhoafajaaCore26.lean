/-
  A region whose order is open, in which a chain of operations may change memory, each behind the one before; all others read. Own work. Nothing here is trusted.
-/
import Derived.Test.YtopegdkhoafajaaCore14
import Derived.Test.YtopegdkhoafajaaCore24
namespace Go.Sv
set_option linter.unusedSimpArgs false
set_option linter.unusedVariables false

/-- What reads memory, or leaves it alone. -/
def readOp : Op → Bool
  | .unOp _ _ _ | .load _ _ | .nilCheck _ | .extract _ _ | .index _ _ _ | .indexAddr _ _ _ | .fieldAddr _ _ _ | .field _ _ _ | .build _ _ | .slice _ _ _ _ _ | .makeFunc _ _ _ | .lookup _ _ _ _ => true
  | .call c => match c.callee with
    | .builtin .len | .builtin .min | .builtin .max => true
    | _ => false
  | o => pureOp o
theorem ownA_le {H h : Hp} (hle : H.Le h) {p : AVal} {q : Nat × Nat × List AVal × TypeId} (hq : ownA H p = some q) : ownA h p = some q := by
  unfold ownA at hq ⊢
  split at hq
  · rename_i b off
    split at hq
    · rename_i ty vs hb
      rw [hle b _ hb]; exact hq
    · simp at hq
  · simp at hq
theorem wI_mono {x : Option AVal} {k k' : Int → Prop} (hk : ∀ n, k n → k' n) (h : @wI x ⟨k⟩) : @wI x ⟨k'⟩ := by
  unfold wI at h ⊢
  split
  · rename_i n hn; rw [hn] at h; exact hk n h
  · rename_i hn; rw [hn] at h; exact h
theorem wop_read {P : Program} {B0 : Base} {o : Oper} {σ : Env} {H h : Hp} {x : AVal} (hle : H.Le h) (hp : readOp o.op = true) (hw : @wop P B0 o σ H ⟨fun v H' => v = x ∧ H' = H⟩) : @wop P B0 o σ h ⟨fun v H' => v = x ∧ H' = h⟩ := by
  by_cases hpu : pureOp o.op = true
  · exact wop_pure hle hpu hw
  obtain ⟨dst, op, type, pos, after, guard⟩ := o
  unfold wop at hw ⊢
  simp only at hw hp hpu ⊢
  have kk : ∀ v, (v = x ∧ H = H) → (v = x ∧ h = h) := fun v hv => ⟨hv.1, rfl⟩
  cases op <;> simp only [readOp, pureOp, Bool.false_eq_true, not_true_eq_false, not_false_eq_true] at hp hpu hw ⊢
  case unOp op t y => exact wv_mono (fun a ha => wv_mono kk ha) hw
  case load t y =>
    refine wv_mono (fun a ha => ?_) hw
    cases a <;> first | exact ha | skip
    case ptr a =>
      try dsimp only at ha ⊢
      cases ho : ownA H (.ptr a) with
      | none => rw [ho] at ha; exact ha.elim
      | some q =>
        rw [ho] at ha
        rw [ownA_le hle ho]
        cases hl : ldInfo P t with
        | none => rw [hl] at ha; exact ha.elim
        | some r => rw [hl] at ha; exact wv_mono kk ha
    case ea ty l i off =>
      try dsimp only at ha ⊢
      cases hl : ldInfo P t with
      | none => rw [hl] at ha; exact ha.elim
      | some r => rw [hl] at ha; exact wv_mono kk ha
    case ra b sz i off =>
      try dsimp only at ha ⊢
      cases hb : H b with
      | none => rw [hb] at ha; exact ha.elim
      | some y =>
        rw [hb] at ha
        rw [hle b _ hb]
        cases y <;> first | exact ha | skip
        try dsimp only at ha ⊢
        cases hl : ldInfo P t with
        | none => rw [hl] at ha; exact ha.elim
        | some r => rw [hl] at ha; exact ⟨ha.1, ha.2.1, wv_mono kk ha.2.2⟩
  case nilCheck y =>
    refine wv_mono (fun a ha => ?_) hw
    cases a <;> first | exact ha | skip
    case ptr a => cases a <;> first | exact ha | exact kk _ ha
    case ea => exact kk _ ha
  case extract y i =>
    refine wv_mono (fun a ha => ?_) hw
    cases a <;> first | exact ha | skip
    exact wv_mono kk ha
  case index t y i =>
    refine wv_mono (fun a ha => ?_) hw
    cases a <;> first | exact ha | skip
    exact wI_mono (fun n hn => ⟨hn.1, hn.2.1, hn.2.2.1, kk _ hn.2.2.2⟩) ha
  case indexAddr t y i =>
    refine wv_mono (fun a ha => ?_) hw
    cases a <;> first | exact ha | skip
    case sl ty l o => exact wI_mono (fun n hn => ⟨hn.1, hn.2.1, hn.2.2.1, kk _ hn.2.2.2⟩) ha
    case rs b sz m =>
      refine wI_mono (fun n hn => ?_) ha
      split at hn
      · rename_i ty hty
        exact ⟨hn.1, hn.2.1, hn.2.2.1, hn.2.2.2.1, kk _ hn.2.2.2.2⟩
      · exact hn
    case ptr a =>
      cases a with
      | none => exact ha
      | some a =>
        obtain ⟨b, off, sp⟩ := a
        cases sp with
        | some s => cases off <;> exact ha
        | none =>
          cases off with
          | succ k => exact ha
          | zero =>
            try dsimp only at ha ⊢
            refine wI_mono (fun n hn => ?_) ha
            cases har : arrOf P t with
            | none => rw [har] at hn; exact hn.elim
            | some q =>
              rw [har] at hn
              cases hb : H b with
              | none => rw [hb] at hn; exact hn.elim
              | some y =>
                rw [hb] at hn
                rw [hle b _ hb]
                cases y <;> first | exact hn | skip
                exact ⟨hn.1, hn.2.1, hn.2.2.1, hn.2.2.2.1, kk _ hn.2.2.2.2⟩
  case fieldAddr t y f =>
    refine wv_mono (fun a ha => ?_) hw
    cases a <;> first | exact ha | skip
    case ea =>
      try dsimp only at ha ⊢
      split at ha
      · exact kk _ ha
      · exact ha
    case ra =>
      try dsimp only at ha ⊢
      split at ha
      · exact kk _ ha
      · exact ha
    case ptr a =>
      cases a with
      | none => exact ha
      | some a =>
        obtain ⟨b, off, sp⟩ := a
        cases sp with
        | some s => exact ha
        | none =>
          try dsimp only at ha ⊢
          split at ha
          · exact kk _ ha
          · exact ha
  case field t y f =>
    refine wv_mono (fun a ha => ?_) hw
    cases a <;> first | exact ha | skip
    try dsimp only at ha ⊢
    split at ha
    · split at ha
      · exact wv_mono kk ha
      · exact ha
    · exact ha
  case build t parts =>
    split at hw
    · split at hw
      · exact ⟨hw.1, wv_mono kk hw.2⟩
      · exact hw
    · exact hw
  case slice t y lo hi mx =>
    refine wv_mono (fun a ha => ?_) hw
    try dsimp only at ha ⊢
    split at ha
    · unfold wSlice at ha ⊢
      cases a <;> first | exact ha | skip
      case str s => exact ⟨ha.1, ha.2.1, ha.2.2.1, ha.2.2.2.1, ha.2.2.2.2.1, kk _ ha.2.2.2.2.2⟩
      case sl ty l o => exact ⟨ha.1, ha.2.1, ha.2.2.1, ha.2.2.2.1, ha.2.2.2.2.1, ha.2.2.2.2.2.1, kk _ ha.2.2.2.2.2.2⟩
      case rs b sz n =>
        simp only at ha ⊢
        split at ha
        · exact ⟨ha.1, ha.2.1, ha.2.2.1, ha.2.2.2.1, ha.2.2.2.2.1, trivial⟩
        · exact ⟨ha.1, ha.2.1, ha.2.2.1, ha.2.2.2.1, ha.2.2.2.2.1, trivial⟩
        · exact ha
    · exact ha
  case lookup t y z ok =>
    refine wv_mono (fun m hm => wv_mono (fun s hs => ?_) hm) hw
    cases ok with
    | true => cases m <;> first | exact hs | (cases s <;> exact hs)
    | false =>
      cases m with
      | map b =>
        cases s with
        | str s =>
          try dsimp only at hs ⊢
          cases hb : H b with
          | none => rw [hb] at hs; exact hs.elim
          | some x =>
            rw [hb] at hs
            rw [hle b _ hb]
            cases x with
            | smap es k => exact ⟨hs.1, kk _ hs.2⟩
            | _ => exact hs
        | _ => exact hs
      | _ => exact hs
  case makeFunc fn first caps =>
    split at hw
    · exact ⟨hw.1, trivial⟩
    · exact hw
  case call c =>
    obtain ⟨callee, args, tys⟩ := c
    unfold wCall at hw ⊢
    simp only at hp hw ⊢
    split at hp
    · cases hv : evArgs P σ tys.toList args.toList with
      | none => rw [hv] at hw; exact hw.elim
      | some vs =>
        rw [hv] at hw
        simp only at hw ⊢
        split at hw
        · unfold wLen at hw ⊢
          split at hw
          · exact ⟨hw.1, kk _ hw.2⟩
          · exact ⟨hw.1, kk _ hw.2⟩
          · exact ⟨hw.1, kk _ hw.2⟩
          · exact hw
        · exact hw
    · cases hv : evArgs P σ tys.toList args.toList with
      | none => rw [hv] at hw; exact hw.elim
      | some vs =>
        rw [hv] at hw
        simp only at hw ⊢
        split at hw
        · exact wv_mono kk hw
        · exact hw
    · cases hv : evArgs P σ tys.toList args.toList with
      | none => rw [hv] at hw; exact hw.elim
      | some vs =>
        rw [hv] at hw
        simp only at hw ⊢
        split at hw
        · exact wv_mono kk hw
        · exact hw
    · simp at hp

/-- Each operation but those of the chain, in the order of the text; those of the chain are put by, with what is known ahead of them. -/
def wopsG (P : Program) (B0 : Base) (n : Nat) (ops : Array Oper) (H0 : Hp) : Nat → List Oper → List Nat → Env → List (Oper × Nat × Env) → (List (Oper × Nat × Env) → Env → Prop) → Prop
  | _, [], es, σ, acc, Q => match es with
    | [] => Q acc σ
    | _ :: _ => False
  | k, o :: rest, es, σ, acc, Q => match o.dst with
    | none => False
    | some d => d < n ∧
      (if es.head? = some k then o.guard = none ∧ wopsG P B0 n ops H0 (k + 1) rest es.tail ((d, .undef) :: σ) (acc ++ [(o, d, σ)]) Q
      else @gate (wantA ops σ o) true ⟨∃ x, (if readOp o.op = true then @wop P B0 o σ H0 ⟨fun v H' => v = x ∧ H' = H0⟩ else ∀ h, H0.Le h → @wop P B0 o σ h ⟨fun v H' => v = x ∧ H' = h⟩) ∧ @at1 x ⟨fun x => wopsG P B0 n ops H0 (k + 1) rest es ((d, x) :: σ) acc Q⟩⟩
        ⟨wopsG P B0 n ops H0 (k + 1) rest es ((d, .tup []) :: σ) acc Q⟩)

/-- The chain's operations, one behind the other. -/
def chainG (P : Program) (B0 : Base) (H0 : Hp) : List (Oper × Nat × Env) → Env → Hp → (Env → Hp → Prop) → Prop
  | [], τ, h, Q => Q τ h
  | (o, d, σ) :: r, τ, h, Q => @wop P B0 o (τ ++ σ) h ⟨fun v h' => H0.Le h' ∧ chainG P B0 H0 r ((d, v) :: τ) h' Q⟩

def edgeG (ops : Array Oper) (j p : Nat) : Bool := match ops[j]? with
  | some o => o.after.any fun e => e.on == p && Region.binds .any e
  | none => false
/-- Does each of the chain wait for the one before? -/
def chainB (ops : Array Oper) : List Nat → Bool
  | [] => true
  | [_] => true
  | p :: j :: r => edgeG ops j p && chainB ops (j :: r)

theorem chainB_tail {ops : Array Oper} : ∀ {done r : List Nat}, chainB ops (done ++ r) = true → chainB ops r = true
  | [], _, h => h
  | [a], [], _ => rfl
  | [a], b :: r, h => by simp only [List.cons_append, List.nil_append, chainB, Bool.and_eq_true] at h; exact h.2
  | a :: b :: d, r, h => by
    simp only [List.cons_append, chainB, Bool.and_eq_true] at h
    exact chainB_tail (done := b :: d) h.2
theorem chainB_pred {ops : Array Oper} : ∀ {r : List Nat} {i j : Nat}, chainB ops (i :: r) = true → j ∈ r → ∃ p ∈ i :: r, edgeG ops j p = true
  | [], _, _, _, hj => by simp at hj
  | b :: r, i, j, h, hj => by
    simp only [chainB, Bool.and_eq_true] at h
    rcases List.mem_cons.1 hj with rfl | hj
    · exact ⟨i, by simp, h.1⟩
    · obtain ⟨p, hp, he⟩ := chainB_pred h.2 hj
      exact ⟨p, by simp at hp ⊢; exact .inr hp, he⟩

section
variable {P : Program} {B0 : Base} {n : Nat} {ops : Array Oper} {H0 : Hp} {σ : Env} {xs : List (Nat × AVal)} {es : List Nat}

def ToldG (P : Program) (B0 : Base) (n : Nat) (ops : Array Oper) (H0 : Hp) (σ : Env) (xs : List (Nat × AVal)) (es : List Nat) (j : Nat) (o : Oper) : Prop :=
  ∃ d x, xs[j]? = some (d, x) ∧ o.dst = some d ∧ d < n ∧
    ((j ∈ es ∧ x = .undef ∧ o.guard = none) ∨
     (j ∉ es ∧ ((wantA ops ((xs.take j).reverse ++ σ) o = some true ∧ ∀ h, H0.Le h → @wop P B0 o ((xs.take j).reverse ++ σ) h ⟨fun v H' => v = x ∧ H' = h⟩) ∨ (wantA ops ((xs.take j).reverse ++ σ) o = some false ∧ x = .tup []))))

def AccG (ops : Array Oper) (σ : Env) (xs : List (Nat × AVal)) : List Nat → List (Oper × Nat × Env) → Prop
  | [], acc => acc = []
  | i :: r, acc => ∃ o d acc', acc = (o, d, (xs.take i).reverse ++ σ) :: acc' ∧ ops[i]? = some o ∧ o.dst = some d ∧ AccG ops σ xs r acc'

theorem toldG_of {Q : List (Oper × Nat × Env) → Env → Prop} : ∀ {l : List Oper} {k : Nat} {es : List Nat} {xs0 : List (Nat × AVal)} {acc : List (Oper × Nat × Env)}, xs0.length = k → (∀ j o, l[j]? = some o → ops[k + j]? = some o) →
    wopsG P B0 n ops H0 k l es (xs0.reverse ++ σ) acc Q →
    ∃ xs1 acc1, xs1.length = l.length ∧ Q (acc ++ acc1) ((xs0 ++ xs1).reverse ++ σ) ∧ (∀ i ∈ es, k ≤ i) ∧ AccG ops σ (xs0 ++ xs1) es acc1 ∧ ∀ j o, l[j]? = some o → ToldG P B0 n ops H0 σ (xs0 ++ xs1) es (k + j) o
  | [], k, es, xs0, acc, hk, hl, h => by
    simp only [wopsG] at h
    cases es with
    | nil => exact ⟨[], [], rfl, by simpa using h, by simp, rfl, fun j o ho => by simp at ho⟩
    | cons e er => exact h.elim
  | o :: rest, k, es, xs0, acc, hk, hl, h => by
    simp only [wopsG] at h
    split at h
    · exact h.elim
    rename_i d hd
    obtain ⟨hn, h⟩ := h
    have hl' : ∀ j o', rest[j]? = some o' → ops[k + 1 + j]? = some o' := fun j o' ho => by
      have := hl (j + 1) o' (by simpa using ho)
      rwa [show k + 1 + j = k + (j + 1) by omega]
    have ho0 : ops[k]? = some o := by simpa using hl 0 o rfl
    have at' : ∀ (x : AVal) (ys : List (Nat × AVal)), (∃ zs, ys = xs0 ++ (d, x) :: zs) → ys[k]? = some (d, x) ∧ (ys.take k).reverse ++ σ = xs0.reverse ++ σ := by
      rintro x _ ⟨zs, rfl⟩
      subst hk
      refine ⟨by simp, by simp⟩
    split at h
    · rename_i hhd
      obtain ⟨er, rfl⟩ : ∃ er, es = k :: er := by
        cases es with
        | nil => simp at hhd
        | cons e er => simp at hhd; exact ⟨er, by rw [hhd]⟩
      obtain ⟨hg, h⟩ := h
      obtain ⟨xs1, acc1, e1, e2, e3, e4, e5⟩ := toldG_of (k := k + 1) (xs0 := xs0 ++ [(d, .undef)]) (by simp [hk]) hl' (by simpa using h)
      have hys : ∃ zs, xs0 ++ (d, .undef) :: xs1 = xs0 ++ (d, AVal.undef) :: zs := ⟨xs1, rfl⟩
      obtain ⟨k1, k2⟩ := at' _ _ hys
      refine ⟨(d, .undef) :: xs1, (o, d, xs0.reverse ++ σ) :: acc1, by simp [e1], by simpa using e2, ?_, ?_, ?_⟩
      · intro i hi
        rcases List.mem_cons.1 hi with rfl | hi
        · exact Nat.le_refl _
        · have := e3 i hi; omega
      · exact ⟨o, d, acc1, by rw [k2], ho0, hd, by simpa using e4⟩
      · intro j o' ho
        cases j with
        | zero =>
          simp only [List.getElem?_cons_zero, Option.some.injEq] at ho
          subst ho
          exact ⟨d, _, by simpa using k1, hd, hn, .inl ⟨by simp, rfl, hg⟩⟩
        | succ j =>
          simp only [List.getElem?_cons_succ] at ho
          obtain ⟨d', x', m1, m2, m3, m4⟩ := e5 j o' ho
          rw [show k + (j + 1) = k + 1 + j by omega]
          simp only [List.append_assoc, List.cons_append, List.nil_append] at m1 m4
          refine ⟨d', x', m1, m2, m3, ?_⟩
          rcases m4 with ⟨m4, m5⟩ | ⟨m4, m5⟩
          · exact .inl ⟨by simp [m4], m5⟩
          · refine .inr ⟨?_, m5⟩
            intro hc
            rcases List.mem_cons.1 hc with hc | hc
            · omega
            · exact m4 hc
    · rename_i hhd
      have go : ∀ x, wopsG P B0 n ops H0 (k + 1) rest es ((d, x) :: (xs0.reverse ++ σ)) acc Q →
          (∀ ys : List (Nat × AVal), (∃ zs, ys = xs0 ++ (d, x) :: zs) → k ∉ es → ToldG P B0 n ops H0 σ ys es k o) →
          ∃ xs1 acc1, xs1.length = (o :: rest).length ∧ Q (acc ++ acc1) ((xs0 ++ xs1).reverse ++ σ) ∧ (∀ i ∈ es, k ≤ i) ∧ AccG ops σ (xs0 ++ xs1) es acc1 ∧ ∀ j o', (o :: rest)[j]? = some o' → ToldG P B0 n ops H0 σ (xs0 ++ xs1) es (k + j) o' := by
        intro x hr hthis
        obtain ⟨xs1, acc1, e1, e2, e3, e4, e5⟩ := toldG_of (k := k + 1) (xs0 := xs0 ++ [(d, x)]) (by simp [hk]) hl' (by simpa using hr)
        have hnot : k ∉ es := fun hc => by have := e3 k hc; omega
        refine ⟨(d, x) :: xs1, acc1, by simp [e1], by simpa using e2, fun i hi => by have := e3 i hi; omega, by simpa using e4, ?_⟩
        intro j o' ho
        cases j with
        | zero =>
          simp only [List.getElem?_cons_zero, Option.some.injEq] at ho
          subst ho
          exact hthis _ ⟨xs1, rfl⟩ hnot
        | succ j =>
          simp only [List.getElem?_cons_succ] at ho
          have := e5 j o' ho
          rw [show k + (j + 1) = k + 1 + j by omega]
          simpa using this
      cases hw : wantA ops (xs0.reverse ++ σ) o with
      | none => rw [hw] at h; unfold gate at h; exact h.elim
      | some b =>
        rw [hw] at h
        cases b with
        | true =>
          simp only [gate, if_true] at h
          obtain ⟨x, h1, h2⟩ := h
          refine go x (by unfold at1 at h2; exact h2) fun ys hys hnot => ?_
          obtain ⟨k1, k2⟩ := at' _ ys hys
          refine ⟨d, x, k1, hd, hn, .inr ⟨hnot, .inl ⟨by rw [k2]; exact hw, fun h hle => ?_⟩⟩⟩
          rw [k2]
          split at h1
          · rename_i hp; exact wop_read hle hp h1
          · exact h1 h hle
        | false =>
          simp only [gate, Bool.false_eq_true, if_false] at h
          refine go _ h fun ys hys hnot => ?_
          obtain ⟨k1, k2⟩ := at' _ ys hys
          exact ⟨d, _, k1, hd, hn, .inr ⟨hnot, .inr ⟨by rw [k2]; exact hw, rfl⟩⟩⟩

theorem keyG (hlen : xs.length = ops.size) (ht : ∀ j o, ops[j]? = some o → ToldG P B0 n ops H0 σ xs es j o) {i d : Nat} {x : AVal} (hx : xs[i]? = some (d, x)) : ∃ q, ops[i]? = some q ∧ q.dst = some d := by
  have hi : i < ops.size := by
    rcases Nat.lt_or_ge i xs.length with h | h
    · omega
    · rw [List.getElem?_eq_none h] at hx; simp at hx
  obtain ⟨d', x', k1, k2, _⟩ := ht i _ (Array.getElem?_eq_getElem hi)
  rw [hx] at k1
  simp only [Option.some.injEq, Prod.mk.injEq] at k1
  exact ⟨ops[i], Array.getElem?_eq_getElem hi, by rw [k2, k1.1]⟩

structure Taken3G (P : Program) (B0 : Base) (n : Nat) (ops : Array Oper) (H0 : Hp) (σ : Env) (xs : List (Nat × AVal)) (es : List Nat) (QC : Env → Hp → Prop) (S0 : Seal) (w0 : World) (listed : Array Bool) (a : Act) (w : World) : Prop where
  down : ∀ (i : Nat) (o : Oper), ops[i]? = some o → listed.getD i false = true → ∀ e ∈ o.after, Region.binds .any e = true → listed.getD e.on false = true
  size : listed.size = ops.size
  st : ∃ S' h done r accr τ, Ext B0 S0 S' w0 w ∧ Inv B0 w S' h ∧ H0.Le h ∧ (∀ t v, Val xs σ listed t v → t < n ∧ Rep w S' v (a.tmps.getD t undef)) ∧
    es = done ++ r ∧ (∀ i ∈ r, listed.getD i false = false) ∧ (∀ i ∈ done, listed.getD i false = true) ∧ AccG ops σ xs r accr ∧ chainG P B0 H0 accr τ h QC ∧
    (∀ p ∈ τ, p.1 < n ∧ Rep w S' p.2 (a.tmps.getD p.1 undef)) ∧ (∀ p ∈ τ, ∃ i ∈ done, ∃ o, ops[i]? = some o ∧ o.dst = some p.1)
  tmps : a.tmps.size = n
  defers : a.defers = []

theorem taken3G_step {QC : Env → Hp → Prop} (hd : drawOk ops = true) (hch : chainB ops es = true) (hlen : xs.length = ops.size) (ht : ∀ j o, ops[j]? = some o → ToldG P B0 n ops H0 σ xs es j o) {QQ : Exit → Act → World → Prop} {S0 : Seal} {w0 : World} {K : Array Bool → Act → World → Prop} {listed : Array Bool} {a : Act} {w : World}
    (hT : Taken3G P B0 n ops H0 σ xs es QC S0 w0 listed a w) {j : Nat} (hj : j ∈ Region.ready .any ops listed) (hK : ∀ a' w', Taken3G P B0 n ops H0 σ xs es QC S0 w0 (listed.setIfInBounds j true) a' w' → K (listed.setIfInBounds j true) a' w') : wpOp P ops QQ j (K (listed.setIfInBounds j true)) a w := by
  have key : ∀ {i d : Nat} {x : AVal}, xs[i]? = some (d, x) → ∃ q, ops[i]? = some q ∧ q.dst = some d := fun hx => keyG hlen ht hx
  obtain ⟨o, ho, hjl, hjf0, hr⟩ := ready_spec hj
  have hjs : j < listed.size := by rw [hT.size]; exact hjl
  have hjf := getD_true_false hjs hjf0
  obtain ⟨d, x, hx, hdst, hdn, hwhat⟩ := ht j o ho
  obtain ⟨S', h, done, r, accr, τ, hext, hinv, hle, hval, hes, hrf, hdt, hacc, hchn, hτ, hτd⟩ := hT.st
  let ts := o.looksAt ops
  let σj : Env := (xs.take j).reverse ++ σ
  have look : ∀ t, Operand.tmp t ∈ o.op.operands.toList → t ∈ ts := fun t ht => by
    show t ∈ o.looksAt ops
    simp only [Oper.looksAt, List.mem_append, List.mem_filterMap]
    exact .inl ⟨_, ht, rfl⟩
  have hdown' : ∀ (i : Nat) (q : Oper), ops[i]? = some q → (listed.setIfInBounds j true).getD i false = true → ∀ e ∈ q.after, Region.binds .any e = true → (listed.setIfInBounds j true).getD e.on false = true := by
    intro i q hq hl e' he hb
    rw [getD_set hjs] at hl ⊢
    split
    · rfl
    · split at hl
      · rename_i hij
        subst hij
        rw [ho] at hq
        simp only [Option.some.injEq] at hq
        subst hq
        exact hr e' he hb
      · exact hT.down i q hq hl e' he hb
  have hτne : ∀ p ∈ τ, p.1 ≠ d := by
    rintro p hp rfl
    obtain ⟨i, hi, q, hq, hqd⟩ := hτd p hp
    have hij : i ≠ j := by
      rintro rfl
      rw [hdt i hi] at hjf
      simp at hjf
    obtain ⟨_, _, hs⟩ := drawOk_spec hd ho
    exact (hs i q p.1 hq hij hqd).1 hdst
  have hputτ : ∀ {v : Value} {w' : World} {S'' : Seal}, Ext B0 S' S'' w w' → ∀ p ∈ τ, p.1 < n ∧ Rep w' S'' p.2 ((a.put o.dst v).tmps.getD p.1 undef) := by
    intro v w' S'' e p hp
    obtain ⟨h1, h2⟩ := hτ p hp
    refine ⟨h1, ?_⟩
    rw [hdst]
    simp only [Act.put, Array.getD_eq_getD_getElem?, Array.getElem?_setIfInBounds_ne (Ne.symm (hτne p hp))] at h2 ⊢
    exact h2.ext e
  have hputv : ∀ {v : Value} {w' : World} {S'' : Seal}, Ext B0 S' S'' w w' → Rep w' S'' x v → ∀ t y, Val xs σ (listed.setIfInBounds j true) t y → t < n ∧ Rep w' S'' y ((a.put o.dst v).tmps.getD t undef) := by
    intro v w' S'' e hrep t y hy
    rw [hdst]
    rcases val_put2 hd key hT.size ho hx hy with ⟨rfl, rfl⟩ | ⟨hne, hv⟩
    · refine ⟨hdn, ?_⟩
      simp only [Act.put, Array.getD_eq_getD_getElem?, Array.getElem?_setIfInBounds_self_of_lt (by rw [hT.tmps]; exact hdn), Option.getD_some]
      exact hrep
    · obtain ⟨h1, h2⟩ := hval t y hv
      refine ⟨h1, ?_⟩
      simp only [Act.put, Array.getD_eq_getD_getElem?, Array.getElem?_setIfInBounds_ne (Ne.symm hne)] at h2 ⊢
      exact h2.ext e
  unfold wpOp
  rw [ho]
  simp only
  rcases hwhat with ⟨hjes, rfl, hg⟩ | ⟨hjes, hwhat⟩
  · -- one of the chain
    rw [if_pos (by simp [Region.wanted, hg])]
    have hjr : j ∈ r := by
      rw [hes] at hjes
      rcases List.mem_append.1 hjes with h' | h'
      · rw [hdt j h'] at hjf; simp at hjf
      · exact h'
    cases r with
    | nil => simp at hjr
    | cons i r' =>
      have hij : i = j := by
        rcases List.mem_cons.1 hjr with h' | h'
        · exact h'.symm
        · exfalso
          rw [hes] at hch
          obtain ⟨p, hp, he⟩ := chainB_pred (chainB_tail hch) h'
          unfold edgeG at he
          rw [ho] at he
          simp only [Array.any_eq_true, Bool.and_eq_true, beq_iff_eq] at he
          obtain ⟨k, hk, hk1, hk2⟩ := he
          have := hr _ (Array.getElem_mem hk) hk2
          rw [hk1, hrf p hp] at this
          simp at this
      subst hij
      obtain ⟨o', d', acc', rfl, ho', hd', hacc'⟩ := hacc
      rw [ho] at ho'
      cases ho'
      rw [hdst] at hd'
      cases hd'
      have hw : @wop P B0 o (τ ++ σj) h ⟨fun v h' => H0.Le h' ∧ chainG P B0 H0 acc' ((d, v) :: τ) h' QC⟩ := hchn
      have henv : EnvAt w S' ((τ ++ σj).only ts) a.tmps := by
        intro t v hgt
        rw [only_get] at hgt
        split at hgt
        · rename_i hm
          rcases get_append hgt with h' | ⟨_, h'⟩
          · obtain ⟨k1, k2⟩ := hτ (t, v) h'
            exact ⟨by rw [hT.tmps]; exact k1, k2⟩
          · have hv := val_of_look2 hd hlen key hT.down ho hjf hr (memN_iff.1 hm) h'
            obtain ⟨h1, h2⟩ := hval t v hv
            exact ⟨by rw [hT.tmps]; exact h1, h2⟩
        · simp at hgt
      have hget : ∀ t, t ∈ ts → (τ ++ σj).get t = ((τ ++ σj).only ts).get t := fun t h => by rw [only_get, if_pos (memN_iff.2 h)]
      have hw' := wop_eq (σ' := (τ ++ σj).only ts) (fun t ht => hget t (look t ht)) hw
      refine .inl (Oper.wp_mono ?_ (wop_sound hw' hinv henv))
      rintro a' w' ⟨v, y, S'', H', rfl, e, hi', hrep, hle', hk⟩
      refine hK _ _ ⟨hdown', by simpa using hT.size, ⟨S'', H', done ++ [i], r', acc', (d, y) :: τ, hext.trans e, hi', hle', hputv e (by simp only [Rep]), by rw [hes]; simp, ?_, ?_, hacc', hk, ?_, ?_⟩, by rw [put_size]; exact hT.tmps, by rw [put_defers]; exact hT.defers⟩
      · intro p hp
        rw [getD_set hjs, if_neg]
        · exact hrf p (by simp [hp])
        · rintro rfl
          -- the chain's places are none twice: the acc's order
          exact absurd hp (by
            intro hp
            rw [hes] at hch
            obtain ⟨p', hp', he⟩ := chainB_pred (chainB_tail hch) hp
            unfold edgeG at he
            rw [ho] at he
            simp only [Array.any_eq_true, Bool.and_eq_true, beq_iff_eq] at he
            obtain ⟨k, hk, hk1, hk2⟩ := he
            have := hr _ (Array.getElem_mem hk) hk2
            rw [hk1, hrf p' hp'] at this
            simp at this)
      · intro p hp
        rw [getD_set hjs]
        split
        · rfl
        · rename_i hne
          rcases List.mem_append.1 hp with hp | hp
          · exact hdt p hp
          · simp at hp; exact absurd hp hne
      · intro p hp
        rcases List.mem_cons.1 hp with rfl | hp
        · refine ⟨hdn, ?_⟩
          rw [hdst]
          simp only [Act.put, Array.getD_eq_getD_getElem?, Array.getElem?_setIfInBounds_self_of_lt (by rw [hT.tmps]; exact hdn), Option.getD_some]
          exact hrep
        · exact hputτ e p hp
      · intro p hp
        rcases List.mem_cons.1 hp with rfl | hp
        · exact ⟨i, by simp, o, ho, hdst⟩
        · obtain ⟨i', hi', q, hq, hqd⟩ := hτd p hp
          exact ⟨i', by simp [hi'], q, hq, hqd⟩
  · -- one that reads
    have henv : EnvAt w S' (σj.only ts) a.tmps := by
      intro t v hg
      rw [only_get] at hg
      split at hg
      · rename_i hm
        have hv := val_of_look2 hd hlen key hT.down ho hjf hr (memN_iff.1 hm) hg
        obtain ⟨h1, h2⟩ := hval t v hv
        exact ⟨by rw [hT.tmps]; exact h1, h2⟩
      · simp at hg
    have hget : ∀ t, t ∈ ts → σj.get t = (σj.only ts).get t := fun t h => by rw [only_get, if_pos (memN_iff.2 h)]
    have hwant : ∀ b, wantA ops σj o = some b → Region.wanted o (yielded ops a.tmps) = b := by
      intro b hb
      unfold wantA at hb
      cases hg : o.guard with
      | none => rw [hg] at hb; simp only [Option.some.injEq] at hb; simp [Region.wanted, hg, hb]
      | some p =>
        obtain ⟨g, want⟩ := p
        rw [hg] at hb
        simp only at hb
        by_cases hsk : skipA ops σj g = true
        · rw [if_pos hsk] at hb
          simp only [Option.some.injEq] at hb
          have hsk' : skipA ops (σj.only ts) g = true := by
            rw [← hsk]
            refine (skipA_eq fun t ht => hget t ?_).symm
            show t ∈ o.looksAt ops
            simp [Oper.looksAt, hg, ht]
          have := skipA_spec hsk' henv
          simp [Region.wanted, hg, this, ← hb]
        rw [if_neg hsk] at hb
        simp only [Option.map_eq_some_iff] at hb
        obtain ⟨c, hc, rfl⟩ := hb
        have hc' : guardA ops (σj.only ts) g = some c := by
          rw [← hc]
          refine (guardA_eq fun t ht => hget t ?_).symm
          show t ∈ o.looksAt ops
          simp [Oper.looksAt, hg, ht]
        have := guardA_spec hc' henv
        cases want <;> cases c <;> simp [Region.wanted, hg, this]
    have fin : ∀ {v : Value} {w' : World} {S'' : Seal}, Ext B0 S' S'' w w' → Inv B0 w' S'' h → Rep w' S'' x v → Taken3G P B0 n ops H0 σ xs es QC S0 w0 (listed.setIfInBounds j true) (a.put o.dst v) w' := by
      intro v w' S'' e hi' hrep
      refine ⟨hdown', by simpa using hT.size, ⟨S'', h, done, r, accr, τ, hext.trans e, hi', hle, hputv e hrep, hes, ?_, ?_, hacc, hchn, hputτ e, hτd⟩, by rw [put_size]; exact hT.tmps, by rw [put_defers]; exact hT.defers⟩
      · intro p hp
        rw [getD_set hjs, if_neg]
        · exact hrf p hp
        · rintro rfl
          exact hjes (by rw [hes]; simp [hp])
      · intro p hp
        rw [getD_set hjs]
        split
        · rfl
        · exact hdt p hp
    rcases hwhat with ⟨h1, h2⟩ | ⟨h1, rfl⟩
    · rw [if_pos (hwant true h1)]
      have h2' := wop_eq (σ' := σj.only ts) (fun t ht => hget t (look t ht)) (h2 h hle)
      refine .inl (Oper.wp_mono ?_ (wop_sound h2' hinv henv))
      rintro a' w' ⟨v, y, S'', H', rfl, e, hi', hrep, rfl, rfl⟩
      exact hK _ _ (fin e hi' hrep)
    · rw [if_neg (by rw [hwant false h1]; simp)]
      exact hK _ _ (fin (Ext.refl _ _ _) hinv rep_skip)

theorem taken3G_all {QC : Env → Hp → Prop} (hd : drawOk ops = true) (hch : chainB ops es = true) (hlen : xs.length = ops.size) (ht : ∀ j o, ops[j]? = some o → ToldG P B0 n ops H0 σ xs es j o) {QQ : Exit → Act → World → Prop} {S0 : Seal} {w0 : World}
    (hQ : ∀ listed a w, Taken3G P B0 n ops H0 σ xs es QC S0 w0 listed a w → (∀ i, i < ops.size → listed.getD i false = true) → QQ .normal a w) : ∀ (fuel : Nat) (listed : Array Bool) (a : Act) (w : World), listed.toList.count false ≤ fuel → Taken3G P B0 n ops H0 σ xs es QC S0 w0 listed a w →
    wpAny P .any ops QQ fuel listed a w := by
  have done : ∀ (listed : Array Bool) (a : Act) (w : World), Taken3G P B0 n ops H0 σ xs es QC S0 w0 listed a w → Region.ready .any ops listed = [] → QQ .normal a w := fun listed a w hT hr =>
    hQ listed a w hT (ready_nil (fun j o ho e he hb => (drawOk_spec hd ho).1 e he hb) hT.size hr)
  intro fuel
  induction fuel with
  | zero =>
    intro listed a w hc hT
    have hr : Region.ready .any ops listed = [] := by
      rw [List.eq_nil_iff_forall_not_mem]
      intro i hi
      obtain ⟨o, _, h1, h2, _⟩ := ready_spec hi
      have := getD_true_false (by rw [hT.size]; exact h1) h2
      have := count_set (by rw [hT.size]; exact h1) this
      omega
    exact ⟨hr, done listed a w hT hr⟩
  | succ fuel ih =>
    intro listed a w hc hT
    refine ⟨fun hr => done listed a w hT hr, fun i hi => ?_⟩
    refine taken3G_step (K := fun l => wpAny P .any ops QQ fuel l) hd hch hlen ht hT hi fun a' w' hT' => ih _ a' w' ?_ hT'
    obtain ⟨o, _, h1, h2, _⟩ := ready_spec hi
    have := getD_true_false (by rw [hT.size]; exact h1) h2
    have := count_set (by rw [hT.size]; exact h1) this
    omega

/-- A region whose order is open, with a chain of operations that may change memory. -/
theorem tr_drawg {H : Hp} (H0 : Hp) (es : List Nat) {id : Nat} {Q : Exit → Env → Hp → Prop} (hm : P.follows .mixedOrders = true) (hd : drawOk ops = true) (hch : chainB ops es = true) (hle : H0.Le H)
    (h' : wopsG P B0 n ops H0 0 ops.toList es σ [] fun acc σ' => chainG P B0 H0 acc [] H fun τ h => Q .normal (τ ++ σ') h) : Tr P B0 n (.region id ops true) σ H Q := by
  obtain ⟨xs, acc, hlen, hq, _, hacc, ht⟩ := toldG_of (ops := ops) (l := ops.toList) (k := 0) (xs0 := []) (σ := σ) rfl (fun j o ho => by rw [Nat.zero_add, ← Array.getElem?_toList]; exact ho) (by simpa using h')
  have ht' : ∀ j o, ops[j]? = some o → ToldG P B0 n ops H0 σ xs es j o := fun j o ho => by
    have := ht j o (by rw [Array.getElem?_toList]; exact ho)
    simpa using this
  have hlen' : xs.length = ops.size := by simpa using hlen
  simp only [List.nil_append] at hq hacc
  unfold Tr
  intro w S a hs
  have hσ : ∀ t v, σ.get t = some v → t < n := fun t v h => by have := (hs.env t v h).1; rw [hs.size] at this; exact this
  refine wp_region_any hm (taken3G_all (S0 := S) (w0 := w) (QC := fun τ h => Q .normal (τ ++ (xs.reverse ++ σ)) h) hd hch hlen' ht' ?_ ops.size _ a _ ?_ ?_)
  · intro listed a' w' hT hall
    obtain ⟨S', h, done, r, accr, τ, e, hi, hle', hval, hes, hrf, hdt, hacc', hchn, hτ, hτd⟩ := hT.st
    cases r with
    | cons i r' =>
      exfalso
      obtain ⟨o, d, acc', _, ho, _⟩ := hacc'
      have hi' : i < ops.size := by
        rcases Nat.lt_or_ge i ops.size with h | h
        · exact h
        · rw [Array.getElem?_eq_none h] at ho; simp at ho
      have := hrf i (by simp)
      rw [hall i hi'] at this
      simp at this
    | nil =>
      simp only [AccG] at hacc'
      subst hacc'
      simp only [chainG] at hchn
      refine ⟨S', _, h, e, ⟨hi, fun t v hg => ?_, hT.tmps, hT.defers⟩, hchn⟩
      rcases get_append hg with h1 | ⟨_, hg⟩
      · obtain ⟨k1, k2⟩ := hτ (t, v) h1
        exact ⟨by rw [hT.tmps]; exact k1, k2⟩
      · have hv : Val xs σ listed t v := by
          rcases get_append hg with h' | ⟨h1, h2⟩
          · rw [List.mem_reverse, List.mem_iff_getElem] at h'
            obtain ⟨i, hi', he⟩ := h'
            exact .inl ⟨i, by rw [List.getElem?_eq_getElem hi', he], hall i (by omega)⟩
          · refine .inr ⟨fun i x hx => ?_, h2⟩
            exact absurd (List.mem_reverse.2 (List.mem_of_getElem? hx)) (h1 x)
        obtain ⟨h1, h2⟩ := hval t v hv
        exact ⟨by rw [hT.tmps]; exact h1, h2⟩
  · simp
  · refine ⟨fun i o ho hl => (no_false hl).elim, by simp, ⟨S, H, [], es, acc, [], Ext.drew _ _ _, ⟨hs.inv.base, hs.inv.top, fun b o hb => ?_, hs.inv.tab.ext (Ext.drew B0 S w)⟩, hle, fun t v hv => ?_, rfl, fun i hi => ?_, by simp, hacc, hq, by simp, by simp⟩, hs.size, hs.defers⟩
    · obtain ⟨k1, k2⟩ := hs.inv.obj b o hb
      exact ⟨k1, k2.keep (Ext.drew B0 S w) rfl rfl⟩
    · rcases hv with ⟨i, hi, hl⟩ | ⟨_, h2⟩
      · exact (no_false hl).elim
      · obtain ⟨k1, k2⟩ := hs.env t v h2
        exact ⟨hσ t v h2, k2.ext (Ext.drew B0 S w)⟩
    · cases hl : (Array.replicate ops.size false).getD i false with
      | false => rfl
      | true => exact (no_false hl).elim

end

section
variable {P : Program} {B0 : Base} {n : Nat} {ops : Array Oper} {σ : Env} {H : Hp}
theorem wopsG_mono {H0 : Hp} {Q Q' : List (Oper × Nat × Env) → Env → Prop} (hq : ∀ acc σ, Q acc σ → Q' acc σ) : ∀ {l : List Oper} {k : Nat} {es : List Nat} {σ : Env} {acc : List (Oper × Nat × Env)}, wopsG P B0 n ops H0 k l es σ acc Q → wopsG P B0 n ops H0 k l es σ acc Q'
  | [], k, es, σ, acc, h => by
    simp only [wopsG] at h ⊢
    cases es with
    | nil => exact hq _ _ h
    | cons _ _ => exact h.elim
  | o :: rest, k, es, σ, acc, h => by
    simp only [wopsG] at h ⊢
    split
    · rename_i hd; rw [hd] at h; exact h.elim
    · rename_i d hd
      rw [hd] at h
      simp only at h
      refine ⟨h.1, ?_⟩
      have h2 := h.2
      split
      · rename_i hh; rw [if_pos hh] at h2; exact ⟨h2.1, wopsG_mono hq h2.2⟩
      · rename_i hh
        rw [if_neg hh] at h2
        cases hw : wantA ops σ o with
        | none => rw [hw] at h2; unfold gate at h2; exact h2.elim
        | some b =>
          rw [hw] at h2
          cases b with
          | true =>
            simp only [gate, if_true] at h2 ⊢
            obtain ⟨x, h3, h4⟩ := h2
            exact ⟨x, h3, by unfold at1 at h4 ⊢; exact wopsG_mono hq h4⟩
          | false =>
            simp only [gate, Bool.false_eq_true, if_false] at h2 ⊢
            exact wopsG_mono hq h2
/-- Ahead of what comes behind. -/
theorem tr_drawgk (nv : Nat) (H0 : Hp) (es : List Nat) {id : Nat} {y : Code} {Q : Exit → Env → Hp → Prop} (hm : P.follows .mixedOrders = true) (hd : drawOk ops = true) (hch : chainB ops es = true) (hle : H0.Le H)
    (h : ∀ K : Env → Hp → Prop, KW K (fun σ' H' => Tr P B0 n y σ' H' Q) → wopsG P B0 n ops H0 0 ops.toList es σ [] fun acc σ' => chainG P B0 H0 acc [] H fun τ h => Kont K ((τ ++ σ').keep nv) h) : Tr P B0 n (.seq (.region id ops true) y) σ H Q := by
  have h' := h (fun σ' H' => Tr P B0 n y σ' H' Q) (by unfold KW; exact fun _ _ h => h)
  refine tr_seq ((tr_drawg (Q := fun e σ' H' => e = .normal ∧ Tr P B0 n y (σ'.keep nv) H' Q) H0 es hm hd hch hle ?_).mono fun e σ' H' he => ?_)
  · refine wopsG_mono (fun acc σ' hc => ?_) h'
    have e : (fun (τ : Env) (h : Hp) => Kont (fun σ' H' => Tr P B0 n y σ' H' Q) ((τ ++ σ').keep nv) h) = fun τ h => Exit.normal = .normal ∧ Tr P B0 n y ((τ ++ σ').keep nv) h Q := by
      funext τ h; unfold Kont; simp
    rw [← e]; exact hc
  · obtain ⟨rfl, he⟩ := he
    exact tr_forget (fun t v ht => keep_get ht) (Hp.Le.refl _) he
/-- At the end of a block, or of a round. -/
theorem tr_drawge (nv : Nat) (H0 : Hp) (es : List Nat) {id : Nat} {Q : Exit → Env → Hp → Prop} (hm : P.follows .mixedOrders = true) (hd : drawOk ops = true) (hch : chainB ops es = true) (hle : H0.Le H)
    (h : ∀ K : Env → Hp → Prop, KW K (Q .normal) → wopsG P B0 n ops H0 0 ops.toList es σ [] fun acc σ' => chainG P B0 H0 acc [] H fun τ h => Kont K ((τ ++ σ').keep nv) h) : Tr P B0 n (.region id ops true) σ H Q := by
  have h' := h (Q .normal) (by unfold KW; exact fun _ _ h => h)
  have ht : Tr P B0 n (.region id ops true) σ H (fun e σ' H' => e = .normal ∧ Q .normal (σ'.keep nv) H') :=
    tr_drawg H0 es hm hd hch hle (wopsG_mono (fun acc σ' hc => by
      have e : (fun (τ : Env) (h : Hp) => Kont (Q .normal) ((τ ++ σ').keep nv) h) = fun τ h => Exit.normal = .normal ∧ Q .normal ((τ ++ σ').keep nv) h := by
        funext τ h; unfold Kont; simp
      rw [← e]; exact hc) h')
  unfold Tr at ht ⊢
  intro w S a hs
  refine wp_mono (ht w S a hs) ?_
  rintro e a' w' ⟨S', σ', H', hx, hs', rfl, hq⟩
  exact ⟨S', _, H', hx, ⟨hs'.inv, fun t v ht => hs'.env t v (keep_get ht), hs'.size, hs'.defers⟩, hq⟩
end
attribute [go_sem] wopsG chainG pureOp readOp List.head?_cons List.head?_nil List.tail_cons List.tail_nil Option.some.injEq
end Go.Sv
