/-
  A strings.Builder that the call owns. Own work. Nothing here is trusted.
-/
import Derived.Test.YtopegdkhoafajaaCore12
namespace Go.Sv
set_option linter.unusedSimpArgs false
set_option linter.unusedVariables false

/-- A Builder's buffer: none yet, or a row of its own. -/
def Buf (e : TypeId) (H0 H : Hp) (o : Own) (l : List UInt8) : Prop := (o = .nil ∧ l = [] ∧ H = H0) ∨ ∃ c, o = .tok c ∧ H0 c = none ∧ H = H0.set c (some (.grow e .u8 l.length))

/-- Memory, and a Builder beside it, at b, that holds so many bytes. -/
def Bld (T e : TypeId) (H0 H : Hp) (b : Nat) (l : List UInt8) : Prop :=
  ∃ p o h1, (p = none ∨ p = some ⟨b, 0, none⟩) ∧ Buf e H0 h1 o l ∧ H0 b = none ∧ h1 b = none ∧ H = h1.set b (some (.cells T [.ptr p, .sl .u8 l o]))

theorem Buf.le {e : TypeId} {H0 H : Hp} {o : Own} {l : List UInt8} (h : Buf e H0 H o l) : H0.Le H := by
  rcases h with ⟨_, _, rfl⟩ | ⟨c, _, hc, rfl⟩
  · exact Hp.Le.refl _
  · exact Hp.le_set hc
theorem Bld.le {T e : TypeId} {H0 H : Hp} {b : Nat} {l : List UInt8} (h : Bld T e H0 H b l) : H0.Le H := by
  obtain ⟨p, o, h1, _, hb, _, h1b, rfl⟩ := h
  exact hb.le.trans (Hp.le_set h1b)
theorem Bld.fresh {T e : TypeId} {H0 : Hp} {b : Nat} (h : H0 b = none) : Bld T e H0 (H0.set b (some (.cells T [.ptr none, .sl .u8 [] .nil]))) b [] :=
  ⟨none, .nil, H0, .inl rfl, .inl ⟨rfl, rfl, rfl⟩, h, h, rfl⟩

theorem Buf.dat {P : Program} {t e : TypeId} {H0 h1 : Hp} {b : Nat} {o : Own} {l : List UInt8} {x : Option AObj} (h : Buf e H0 h1 o l) (hb : h1 b = none) (ht : P.underlying t = some (.pointer e)) (he : P.cellsOf e = 1) : DatOk P (h1.set b x) l o t := by
  rcases h with ⟨_, rfl, _⟩ | ⟨c, rfl, hc, rfl⟩
  · exact .inl rfl
  · refine .inr ⟨c, e, l.length, rfl, ?_, Nat.le_refl _, ht, he⟩
    have hne : c ≠ b := fun e => by subst e; simp [Hp.set] at hb
    rw [Hp.set_ne hne, Hp.set_self]

theorem wAppend_buf {P : Program} {t t2 e : TypeId} {l xs : List UInt8} {o : Own} {x : AVal} {H0 h1 : Hp} {b : Nat} {y : AObj} {K : AVal → Hp → Prop} (ha : Buf e H0 h1 o l) (hb1 : h1 b = none) (hn : newsA .u8 x = some xs) (he : AppE P t .u8) (hel : elTy P t = e)
    (hu : tyOf P 8 t2 = some (.sl .u8) ∨ tyOf P 8 t2 = some .str) (hb : (l.length + xs.length) * elBytes P t ≤ 140737488355328) (h63 : l.length + xs.length ≤ 9223372036854775807)
    (hk : ∀ o' h1', Buf e H0 h1' o' (l ++ xs) → h1' b = none → K (.sl .u8 (l ++ xs) o') (h1'.set b (some y))) : @wAppend P t t2 (.sl .u8 l o) x (h1.set b (some y)) ⟨K⟩ := by
  unfold wAppend
  simp only [hn]
  refine ⟨he, hu, hb, h63, ?_⟩
  split
  · rename_i hx
    subst hx
    exact hk o h1 (by simpa using ha) hb1
  · rcases ha with ⟨rfl, rfl, rfl⟩ | ⟨c, rfl, hc, rfl⟩
    · refine .inl ⟨.inl rfl, fun c e' hc hr => ?_⟩
      simp only [Hp.drop] at hc ⊢
      have hne : c ≠ b := fun e => by subst e; simp [Hp.set] at hc
      rw [Hp.set_ne hne] at hc
      have he' : e' = e := by
        rcases hr with hr | ⟨_, h, _⟩
        · exact hr.trans hel
        · cases h
      subst he'
      have := hk (.tok c) (h1.set c (some (.grow e' .u8 ([] ++ xs).length))) (.inr ⟨c, rfl, hc, rfl⟩) (by rw [Hp.set_ne (Ne.symm hne)]; exact hb1)
      simp only [List.nil_append, List.length_nil, Nat.zero_add] at this ⊢
      rw [show ((h1.set b (some y)).set c (some (.grow e' .u8 xs.length))) = ((h1.set c (some (.grow e' .u8 xs.length))).set b (some y)) by
        funext d; simp only [Hp.set]; split <;> split <;> first | rfl | (subst_vars; simp at hne)]
      exact this
    · have hcb : c ≠ b := fun e => by subst e; simp [Hp.set] at hb1
      rw [Hp.set_ne (Ne.symm hcb)] at hb1
      have hat : ((H0.set c (some (.grow e .u8 l.length))).set b (some y)) c = some (.grow e .u8 l.length) := by rw [Hp.set_ne hcb, Hp.set_self]
      refine .inl ⟨.inr ⟨c, e, rfl, hat⟩, fun d e' hd hr => ?_⟩
      have he' : e' = e := by
        rcases hr with hr | ⟨_, h, h'⟩
        · exact hr.trans hel
        · cases h
          rw [hat] at h'
          cases h'
          rfl
      subst he'
      have hdb : d ≠ b := fun e => by subst e; simp only [Hp.drop, Hp.set] at hd; rw [if_neg (Ne.symm hcb)] at hd; simp at hd
      have hd0 : H0 d = none := by
        by_cases hdc : d = c
        · subst hdc; exact hc
        · simp only [Hp.drop] at hd
          rw [Hp.set_ne hdc, Hp.set_ne hdb, Hp.set_ne hdc] at hd
          exact hd
      have := hk (.tok d) (H0.set d (some (.grow e' .u8 (l ++ xs).length))) (.inr ⟨d, rfl, hd0, rfl⟩) (by rw [Hp.set_ne (Ne.symm hdb)]; exact hb1)
      rw [List.length_append] at this
      rw [show ((((H0.set c (some (.grow e' .u8 l.length))).set b (some y)).drop (.tok c)).set d (some (.grow e' .u8 (l.length + xs.length)))) = ((H0.set d (some (.grow e' .u8 (l.length + xs.length)))).set b (some y)) by
        funext k
        simp only [Hp.drop, Hp.set]
        by_cases k1 : k = d
        · subst k1; rw [if_pos rfl, if_neg hdb, if_pos rfl]
        · rw [if_neg k1]
          by_cases k2 : k = c
          · subst k2; rw [if_pos rfl, if_neg hcb, if_neg k1, hc]
          · rw [if_neg k2]
            by_cases k3 : k = b
            · rw [if_pos k3, if_pos k3]
            · rw [if_neg k3, if_neg k3, if_neg k2, if_neg k1]]
      exact this
theorem wrap_u32 {x : Int} (h1 : 0 ≤ x) (h2 : x ≤ 4294967295) : IntKind.u32.wrap x = x := by
  simp only [IntKind.wrap, IntKind.bits, IntKind.signed]
  simp
  omega
theorem wrap_u16 {x : Int} (h1 : 0 ≤ x) (h2 : x ≤ 65535) : IntKind.u16.wrap x = x := by
  simp only [IntKind.wrap, IntKind.bits, IntKind.signed]
  simp
  omega
theorem or_low {a i x : Nat} (h : x < 2 ^ i) : UInt8.ofNat (2 ^ i * a) ||| UInt8.ofNat x = UInt8.ofNat (2 ^ i * a + x) := by
  rw [← UInt8.ofNat_or, Nat.two_pow_add_eq_or_of_lt h]
theorem and_low {i x : Nat} : UInt8.ofNat x &&& UInt8.ofNat (2 ^ i - 1) = UInt8.ofNat (x % 2 ^ i) := by
  rw [← UInt8.ofNat_and, Nat.and_two_pow_sub_one_eq_mod]
theorem u8_ofInt_nat (n : Nat) : UInt8.ofInt (n : Int) = UInt8.ofNat n := by
  unfold UInt8.ofInt
  apply UInt8.toNat_inj.1
  rw [UInt8.toNat_ofNat', UInt8.toNat_ofNat']
  omega
theorem fdiv_nat (n m : Nat) : Int.fdiv (n : Int) (m : Int) = ((n / m : Nat) : Int) := by
  rw [Int.fdiv_eq_ediv_of_nonneg _ (by omega)]
  rfl
/-- The runes' bytes, as the library makes them. -/
theorem rune1 {c : Nat} (h : c < 128) : runeBytes c = [UInt8.ofNat c] := by
  rw [runeBytes_eq]
  have hv : Utf8.valid (c : Int) = true := by simp [Utf8.valid]; omega
  simp only [hv, if_true, Int.toNat_natCast]
  rw [if_pos h]
theorem rune2 {c : Nat} (h1 : 128 ≤ c) (h2 : c < 2048) : runeBytes c = [192 ||| UInt8.ofNat (c / 64), 128 ||| (UInt8.ofNat c &&& 63)] := by
  rw [runeBytes_eq]
  have hv : Utf8.valid (c : Int) = true := by simp [Utf8.valid]; omega
  simp only [hv, if_true, Int.toNat_natCast]
  rw [if_neg (by omega), if_pos h2]
  have e1 := or_low (a := 3) (i := 6) (x := c / 64) (by omega)
  have e2 := and_low (i := 6) (x := c)
  have e3 := or_low (a := 2) (i := 6) (x := c % 64) (by omega)
  rw [show (192 : UInt8) = UInt8.ofNat (2 ^ 6 * 3) from rfl, show (63 : UInt8) = UInt8.ofNat (2 ^ 6 - 1) from rfl, show (128 : UInt8) = UInt8.ofNat (2 ^ 6 * 2) from rfl, e1, e2, e3]
theorem rune3 {c : Nat} (h1 : 2048 ≤ c) (h2 : c < 65536) (h3 : c < 55296 ∨ 57343 < c) : runeBytes c = [224 ||| UInt8.ofNat (c / 4096), 128 ||| (UInt8.ofNat (c / 64) &&& 63), 128 ||| (UInt8.ofNat c &&& 63)] := by
  rw [runeBytes_eq]
  have hv : Utf8.valid (c : Int) = true := by simp [Utf8.valid]; omega
  simp only [hv, if_true, Int.toNat_natCast]
  rw [if_neg (by omega), if_neg (by omega), if_pos h2]
  have e1 := or_low (a := 14) (i := 4) (x := c / 4096) (by omega)
  have e2 := and_low (i := 6) (x := c)
  have e2' := and_low (i := 6) (x := c / 64)
  have e3 := or_low (a := 2) (i := 6) (x := c % 64) (by omega)
  have e4 := or_low (a := 2) (i := 6) (x := c / 64 % 64) (by omega)
  rw [show (224 : UInt8) = UInt8.ofNat (2 ^ 4 * 14) from rfl, show (63 : UInt8) = UInt8.ofNat (2 ^ 6 - 1) from rfl, show (128 : UInt8) = UInt8.ofNat (2 ^ 6 * 2) from rfl, e1, e2, e2', e3, e4]
theorem rune4 {c : Nat} (h1 : 65536 ≤ c) (h2 : c ≤ 1114111) : runeBytes c = [240 ||| UInt8.ofNat (c / 262144), 128 ||| (UInt8.ofNat (c / 4096) &&& 63), 128 ||| (UInt8.ofNat (c / 64) &&& 63), 128 ||| (UInt8.ofNat c &&& 63)] := by
  rw [runeBytes_eq]
  have hv : Utf8.valid (c : Int) = true := by simp [Utf8.valid]; omega
  simp only [hv, if_true, Int.toNat_natCast]
  rw [if_neg (by omega), if_neg (by omega), if_neg (by omega)]
  have e1 := or_low (a := 30) (i := 3) (x := c / 262144) (by omega)
  have e2 := and_low (i := 6) (x := c)
  have e2' := and_low (i := 6) (x := c / 64)
  have e2'' := and_low (i := 6) (x := c / 4096)
  have e3 := or_low (a := 2) (i := 6) (x := c % 64) (by omega)
  have e4 := or_low (a := 2) (i := 6) (x := c / 64 % 64) (by omega)
  have e5 := or_low (a := 2) (i := 6) (x := c / 4096 % 64) (by omega)
  rw [show (240 : UInt8) = UInt8.ofNat (2 ^ 3 * 30) from rfl, show (63 : UInt8) = UInt8.ofNat (2 ^ 6 - 1) from rfl, show (128 : UInt8) = UInt8.ofNat (2 ^ 6 * 2) from rfl, e1, e2, e2', e2'', e3, e4, e5]
theorem rune_bad {c : Nat} (h1 : 55296 ≤ c) (h2 : c ≤ 57343) : runeBytes c = [239, 191, 189] := by
  rw [runeBytes_eq]
  have hv : Utf8.valid (c : Int) = false := by simp [Utf8.valid]; omega
  simp only [hv, Bool.false_eq_true, if_false]
  rfl

/-- A rune that is read is one of Unicode's. -/
theorem valid_le {n : Nat} (h : Utf8.valid (n : Int) = true) : n ≤ 1114111 := by
  unfold Utf8.valid at h
  simp only [Bool.or_eq_true, Bool.and_eq_true, decide_eq_true_eq] at h
  omega
theorem decL_max (s : List UInt8) : (decL s).1 ≤ 1114111 := by
  unfold decL
  dsimp only
  split
  · simp only; omega
  split
  · split
    · rename_i h1 h2 h3
      simp only [Bool.and_eq_true, beq_iff_eq] at h2 ⊢
      omega
    · simp only; omega
  split
  · split
    · rename_i h1 h2 h3 h4
      rw [Bool.and_eq_true] at h4
      exact valid_le h4.2
    · simp only; omega
  split
  · split
    · rename_i h1 h2 h3 h4 h5
      rw [Bool.and_eq_true] at h5
      exact valid_le h5.2
    · simp only; omega
  · simp only; omega

theorem inBlock_mono {Q Q' : Exit → Env → Hp → Prop} {id : Nat} (h : ∀ e σ H, Q e σ H → Q' e σ H) : ∀ e σ H, inBlock id Q e σ H → inBlock id Q' e σ H := by
  intro e σ H hq
  cases e with
  | exit id' =>
    simp only [inBlock] at hq ⊢
    split
    · rename_i h'; rw [if_pos h'] at hq; exact h _ _ _ hq
    · rename_i h'; rw [if_neg h'] at hq; exact h _ _ _ hq
  | _ => exact h _ _ _ hq
/-- A loop within two blocks. -/
theorem tr_while2 {P : Program} {B0 : Base} {n : Nat} {σ : Env} {H : Hp} {Q : Exit → Env → Hp → Prop} {α β : Type} {c y : Code} {K : Env → Hp → Prop} {Q' : Exit → Env → Hp → Prop} {id id2 : Nat} (hK : KW K (fun σ' H' => Tr P B0 n y σ' H' Q')) (E : α → Env) (HH : α → Hp) (G : α → Prop) (μ : α → Nat) (x0 : α) (E2 : β → Env) (HH2 : β → Hp) (G2 : β → Prop)
    (h0 : Sub (E x0) σ) (hH : (HH x0).Le H) (g0 : G x0)
    (h : ∀ x, G x → Tr P B0 n c (E x) (HH x) (andThen (fun σ' H' => ∃ x', Sub (E x') σ' ∧ (HH x').Le H' ∧ G x' ∧ μ x' < μ x) (inBlock id (inBlock id2 (andThen (fun σ' H' => ∃ z, Sub (E2 z) σ' ∧ (HH2 z).Le H' ∧ G2 z) Q)))))
    (hk : ∀ z, G2 z → Tr P B0 n y (E2 z) (HH2 z) Q') : Tr P B0 n (.loop c) σ H (inBlock id (inBlock id2 (andThen (Kont K) Q))) := by
  refine (tr_rounds E HH G μ x0 h0 hH g0 h).mono (inBlock_mono (inBlock_mono ?_))
  intro e σ' H' hq
  cases e with
  | normal =>
    obtain ⟨z, k1, k2, k3⟩ := hq
    exact kw hK (tr_forget k1.get k2 (hk z k3))
  | _ => exact hq

/-- The end of a body. -/
theorem ends_normal {fn : Func} {K : AVal → Hp → Prop} {σ : Env} {H H' : Hp} {r : AVal} (hr : resA σ fn.results.toList = some r) (hle : H'.Le H) (hk : K r H') : Ends fn K .normal σ H := ⟨.inl rfl, r, hr, H', hle, hk⟩
theorem wv_intro {x : Option AVal} {v : AVal} {k : AVal → Prop} (hx : x = some v) (hk : k v) : @wv x ⟨k⟩ := by unfold wv; rw [hx]; exact hk
theorem wv_mono {x : Option AVal} {k k' : AVal → Prop} (hk : ∀ v, k v → k' v) (h : @wv x ⟨k⟩) : @wv x ⟨k'⟩ := by
  obtain ⟨v, hv, h⟩ := wv_some h
  exact wv_intro hv (hk v h)
theorem binAny_mono {P : Program} {op : BinOp} {t : TypeId} {a b : AVal} {k k' : AVal → Prop} (hk : ∀ v, k v → k' v) (h : @binAny P op t a b ⟨k⟩) : @binAny P op t a b ⟨k'⟩ := by
  cases a <;> cases b
  case agg.agg cs ds =>
    unfold binAny at h ⊢
    simp only at h ⊢
    cases ht : tyOf P 8 t with
    | none => rw [ht] at h; exact h.elim
    | some ty => rw [ht] at h; exact ⟨h.1, wv_mono hk h.2⟩
  all_goals exact ⟨h.1, wv_mono hk h.2⟩

theorem nilCmp_mono {P : Program} {op : BinOp} {t : TypeId} {a : AVal} {k k' : AVal → Prop} (hk : ∀ v, k v → k' v) (h : @nilCmp P op t a ⟨k⟩) : @nilCmp P op t a ⟨k'⟩ := by
  unfold nilCmp at h ⊢
  cases a <;> simp only at h ⊢ <;> first
    | exact h
    | exact ⟨h.1, wv_mono hk h.2⟩
    | exact ⟨h.1, fun b hb => wv_mono hk (h.2 b hb)⟩
end Go.Sv
