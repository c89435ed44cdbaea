/-
  'wop' is sound: the model does what it says. Own work. Nothing here is trusted.
-/
import Derived.Test.YtopegdkhoafajaaCore4
import Derived.Laws.BytesString
import Derived.Laws.Cover4
namespace Go.Sv
set_option linter.unusedSimpArgs false
set_option linter.unusedVariables false

theorem wv_some {x : Option AVal} {k : AVal → Prop} (h : @wv x ⟨k⟩) : ∃ v, x = some v ∧ k v := by
  unfold wv at h
  cases x with
  | none => exact h.elim
  | some v => exact ⟨v, rfl, h⟩
theorem wI_some {x : Option AVal} {k : Int → Prop} (h : @wI x ⟨k⟩) : ∃ v n, x = some v ∧ asI v = some n ∧ k n := by
  unfold wI at h
  cases x with
  | none => exact h.elim
  | some v =>
    simp only [Option.bind_some] at h
    cases hn : asI v with
    | none => rw [hn] at h; exact h.elim
    | some n => rw [hn] at h; exact ⟨v, n, rfl, hn, h⟩

theorem asI_rep {w : World} {S : Seal} {x : AVal} {n : Int} {v : Value} (h : asI x = some n) (hr : Rep w S x v) : ∃ k, v = .int k n := by
  cases x <;> simp [asI] at h
  · simp only [Rep] at hr; subst h; exact ⟨_, hr⟩
  · simp only [Rep] at hr; subst h; exact ⟨_, hr⟩

theorem fold_isAgg {P : Program} {n : Nat} : ∀ {fs : List Field} {ty : Ty}, fs.foldr (fun f r => (tyOf P n f.type).bind fun a => r.map fun b => Ty.cons a b) (some .nil) = some ty → ty.isAgg = true
  | [], ty, h => by simp only [List.foldr_nil, Option.some.injEq] at h; subst h; rfl
  | f :: r, ty, h => by
    simp only [List.foldr_cons, Option.bind_eq_some_iff, Option.map_eq_some_iff] at h
    obtain ⟨_, _, _, _, h⟩ := h
    subst h; rfl

def TyDesc (P : Program) (t : TypeId) : Ty → Prop
  | .bool => P.underlying t = some .bool
  | .u8 => P.underlying t = some (.int .u8)
  | .int k => P.underlying t = some (.int k)
  | .str => P.underlying t = some .string
  | .ptr => ∃ e, P.underlying t = some (.pointer e)
  | .sl ty => ∃ e m, P.underlying t = some (.slice e) ∧ tyOf P m e = some ty
  | _ => True

theorem tyOf_desc {P : Program} {n : Nat} {t : TypeId} {ty : Ty} (h : tyOf P n t = some ty) : TyDesc P t ty := by
  cases n with
  | zero => simp [tyOf] at h
  | succ n =>
    unfold tyOf at h
    split at h
    · rename_i hu; simp only [Option.some.injEq] at h; subst h; exact hu
    · rename_i hu; simp only [Option.some.injEq] at h; subst h; exact hu
    · rename_i hu; simp only [Option.some.injEq] at h; subst h; exact hu
    · rename_i hu; simp only [Option.some.injEq] at h; subst h; exact hu
    · rename_i hu; simp only [Option.some.injEq] at h; subst h; exact ⟨_, hu⟩
    · rename_i e hu
      simp only [Option.map_eq_some_iff] at h
      obtain ⟨a, h1, h2⟩ := h
      subst h2
      exact ⟨e, n, hu, h1⟩
    · have := fold_isAgg h
      cases ty <;> simp [Ty.isAgg] at this <;> trivial
    · simp at h

theorem tyOf_str {P : Program} {n : Nat} {t : TypeId} (h : tyOf P n t = some .str) : P.underlying t = some .string := tyOf_desc h
theorem tyOf_bool {P : Program} {n : Nat} {t : TypeId} (h : tyOf P n t = some .bool) : P.underlying t = some .bool := tyOf_desc h
theorem tyOf_u8 {P : Program} {n : Nat} {t : TypeId} (h : tyOf P n t = some .u8) : P.underlying t = some (.int .u8) := tyOf_desc h
theorem tyOf_int {P : Program} {n : Nat} {t : TypeId} {k : IntKind} (h : tyOf P n t = some (.int k)) : P.underlying t = some (.int k) := tyOf_desc h
theorem tyOf_sl {P : Program} {n : Nat} {t : TypeId} {ty : Ty} (h : tyOf P n t = some (.sl ty)) : ∃ e m, P.underlying t = some (.slice e) ∧ tyOf P m e = some ty := tyOf_desc h

theorem RepL.take {w : World} {S : Seal} : ∀ {cs : List AVal} {vs : List Value} (n : Nat), RepL w S cs vs → RepL w S (cs.take n) (vs.take n)
  | _, _, 0, _ => by simp [RepL]
  | [], _, n + 1, h => by simp only [RepL] at h; subst h; simp [RepL]
  | c :: r, _, n + 1, h => by
    simp only [RepL] at h
    obtain ⟨v, vr, rfl, h1, h2⟩ := h
    simp only [List.take_succ_cons, RepL]
    exact ⟨v, _, rfl, h1, RepL.take n h2⟩
theorem RepL.drop {w : World} {S : Seal} : ∀ {cs : List AVal} {vs : List Value} (n : Nat), RepL w S cs vs → RepL w S (cs.drop n) (vs.drop n)
  | _, _, 0, h => by simpa using h
  | [], _, n + 1, h => by simp only [RepL] at h; subst h; simp [RepL]
  | c :: r, _, n + 1, h => by
    simp only [RepL] at h
    obtain ⟨v, vr, rfl, h1, h2⟩ := h
    simpa using RepL.drop n h2

/-! ### loading -/
theorem rowAt_get {w : World} {S : Seal} {t : Ty} {b o : Nat} {l : List t.den} (h : RowAt w S (RepD w S t) b o l) (i : Nat) (hi : i < l.length) :
    ∃ c, RepL w S (encs t (l.getD i t.dflt)) c ∧ c.length = t.size ∧ ∀ j v, c[j]? = some v → w.cell? ⟨b, o + i * t.size + j, none⟩ = some v := by
  obtain ⟨cells, h1, h2, h3⟩ := h
  obtain ⟨c, k1, k2⟩ := Flat.get (n := t.size) (fun _ _ h => h.length) i hi h1
  refine ⟨c, ?_, k1.length, fun j v hj => ?_⟩
  · rw [List.getD_eq_getElem?_getD, List.getElem?_eq_getElem hi]
    exact repL_of_repD k1
  · rw [Nat.add_assoc]
    exact h3 _ _ (k2 j v hj)

theorem ldInfo_spec {P : Program} {t : TypeId} {q : Bool × Nat} (h : ldInfo P t = some q) (w : World) : (isAgg t).run P w = .ok q.1 w ∧ (sizeOf t).run P w = .ok q.2 w := by
  unfold ldInfo at h
  cases hi : P.info? t with
  | none => rw [hi] at h; simp at h
  | some i =>
    cases hu : P.underlying t with
    | none => rw [hi, hu] at h; simp at h
    | some d =>
      rw [hi, hu] at h
      simp only [Option.bind_some, Option.map_some, Option.some.injEq] at h
      subst h
      refine ⟨?_, by simp [sizeOf, typeInfo, hi]⟩
      simp only [isAgg, Sem.run_bind, run_underlying hu, Result.andThen_ok]
      cases d <;> rfl

theorem load_sound {P : Program} {w : World} {S : Seal} {t : TypeId} {q : Bool × Nat} (hq : ldInfo P t = some q) {cs : List AVal} {c : List Value} (hc : RepL w S cs c) {b o off : Nat}
    (hcell : ∀ j v, c[j]? = some v → w.cell? ⟨b, o + j, none⟩ = some v) {x : AVal} (hx : loadA q cs off = some x) :
    ∃ v, (Instr.loadAt t (.pointer (some ⟨b, o + off, none⟩))).run P w = .ok v w ∧ Rep w S x v := by
  obtain ⟨h1, h2⟩ := ldInfo_spec hq w
  unfold loadA at hx
  simp only [Instr.loadAt, Instr.sureAddr, pure_bind, loadVar, Sem.run_bind, h1, Result.andThen_ok]
  split at hx
  · rename_i hagg
    split at hx
    · rename_i hle
      simp only [Option.some.injEq] at hx
      subst hx
      rw [hagg]
      simp only [if_true, Sem.run_bind, h2, Result.andThen_ok]
      have hl := hc.length
      have hsub : RepL w S ((cs.drop off).take q.2) ((c.drop off).take q.2) := (hc.drop off).take q.2
      have hn : ((c.drop off).take q.2).length = q.2 := by rw [List.length_take, List.length_drop]; omega
      have hload := run_loadCells_list (P := P) w ⟨b, o + off, none⟩ ((c.drop off).take q.2) (fun j v hj => by
        rw [add_none, Nat.add_assoc]
        apply hcell
        rw [List.getElem?_take] at hj
        split at hj
        · rw [List.getElem?_drop] at hj; exact hj
        · simp at hj)
      rw [hn] at hload
      rw [hload]
      exact ⟨_, rfl, by simp only [Rep]; exact ⟨_, rfl, hsub⟩⟩
    · simp at hx
  · rename_i hagg
    have hagg' : q.1 = false := by simpa using hagg
    rw [hagg']
    obtain ⟨v, hv, hr⟩ := hc.get off hx
    simp only [Bool.false_eq_true, if_false, run_load, hcell off v hv]
    exact ⟨v, rfl, hr⟩

/-! ### conversions -/
theorem flat_u8 {w : World} {S : Seal} : ∀ {l : List UInt8} {cs : List Value}, Flat (RepD w S .u8) l cs → cs = l.map fun c => Value.int .u8 (UInt8.toNat c)
  | [], _, h => h
  | c :: l, _, ⟨a, r, h0, h1, h2⟩ => by
    simp only [RepD] at h1
    rw [h0, h1, flat_u8 h2]
    rfl

theorem flat_int {w : World} {S : Seal} {k : IntKind} : ∀ {l : List Int} {cs : List Value}, Flat (RepD w S (.int k)) l cs → cs = l.map (Value.int k)
  | [], _, h => h
  | c :: l, _, ⟨a, r, h0, h1, h2⟩ => by
    simp only [RepD] at h1
    rw [h0, h1, flat_int h2]
    rfl

theorem foldl_push : ∀ (l : List UInt8) (acc : List UInt8), (l.map fun c => ((UInt8.toNat c : Nat) : Int)).foldl (fun r n => r.push (UInt8.ofNat n.toNat)) (ByteArray.mk acc.toArray) = ByteArray.mk (acc ++ l).toArray
  | [], acc => by simp
  | c :: l, acc => by
    simp only [List.map_cons, List.foldl_cons]
    have : (ByteArray.mk acc.toArray).push (UInt8.ofNat ((UInt8.toNat c : Nat) : Int).toNat) = ByteArray.mk (acc ++ [c]).toArray := by
      simp [ByteArray.push]
    rw [this, foldl_push l (acc ++ [c])]
    simp

theorem run_bytes_string {P : Program} {w : World} {S : Seal} {a : Option Addr} {l : List UInt8} {cap : Nat} (h : SlAt w S (RepD w S .u8) a l) :
    (Conv.bytesToString (.slice a l.length cap)).run P w = .ok (strV l) w := by
  rcases h with rfl | ⟨b, off, rfl, cells, h1, h2, h3⟩
  · cases a with
    | none => rfl
    | some a => rfl
  · have hcs := flat_u8 h1
    have hlen : cells.length = l.length := by rw [hcs, List.length_map]
    have hl := run_loadCells_list (P := P) w ⟨b, off, none⟩ cells (fun j v hj => by rw [add_none]; exact h3 j v hj)
    rw [hlen, hcs, show (fun c : UInt8 => Value.int .u8 (UInt8.toNat c)) = (Value.int .u8) ∘ (fun c : UInt8 => ((UInt8.toNat c : Nat) : Int)) from rfl, ← List.map_map] at hl
    rw [run_bytesToString w _ _ cap _ hl]
    have := foldl_push l []
    simp only [List.nil_append] at this
    rw [show ByteArray.empty = ByteArray.mk [].toArray from rfl, this]
    rfl

theorem u8_ofInt {n : Int} : IntKind.u8.wrap n = ((UInt8.ofInt n).toNat : Int) := by
  have h0 : 0 ≤ n % 256 := Int.emod_nonneg _ (by omega)
  have h1 : n % 256 < 256 := Int.emod_lt_of_pos _ (by omega)
  simp [IntKind.wrap, IntKind.bits, IntKind.signed, UInt8.ofInt]
  omega

theorem foldl_runes : ∀ (ns : List Int) (acc : List UInt8), ns.foldl (fun r n => r ++ Utf8.encode n) (ByteArray.mk acc.toArray) = ByteArray.mk (acc ++ ns.flatMap runeBytes).toArray
  | [], acc => by simp
  | n :: ns, acc => by
    simp only [List.foldl_cons, List.flatMap_cons]
    have : ByteArray.mk acc.toArray ++ Utf8.encode n = ByteArray.mk (acc ++ runeBytes n).toArray := by
      rw [← ByteArray.mk_append_mk]
      rfl
    rw [this, foldl_runes ns]
    simp

theorem run_runes_string {P : Program} {w : World} {S : Seal} {a : Option Addr} {l : List Int} {cap : Nat} (h : SlAt w S (RepD w S (.int .i32)) a l) :
    (Conv.runesToString (.slice a l.length cap)).run P w = .ok (strV (l.flatMap runeBytes)) w := by
  rcases h with rfl | ⟨b, off, rfl, cells, h1, h2, h3⟩
  · cases a with
    | none => rfl
    | some a => rfl
  · have hcs := flat_int h1
    have hlen : cells.length = l.length := by rw [hcs, List.length_map]
    have hl := run_loadCells_list (P := P) w ⟨b, off, none⟩ cells (fun j v hj => by rw [add_none]; exact h3 j v hj)
    rw [hlen, hcs] at hl
    rw [run_runesToString w _ _ cap _ hl]
    have := foldl_runes l []
    simp only [List.nil_append] at this
    unfold runesBytes
    rw [show ByteArray.empty = ByteArray.mk [].toArray from rfl, this]
    rfl

theorem tyOf_some {P : Program} {n : Nat} {t : TypeId} (h : tyOf P n t ≠ none) : ∃ d, P.underlying t = some d := by
  cases n with
  | zero => simp [tyOf] at h
  | succ n =>
    cases hu : P.underlying t with
    | none => unfold tyOf at h; rw [hu] at h; simp at h
    | some d => exact ⟨d, rfl⟩

theorem conv_sound {P : Program} {w : World} {S : Seal} {s d : TypeId} {x y : AVal} {u : Value} (hs : tyOf P 8 s ≠ none) (h : convA (tyOf P 8 s) (tyOf P 8 d) x = some y) (hu : Rep w S x u) :
    ∃ v, (convert s d u).run P w = .ok v w ∧ Rep w S y v := by
  obtain ⟨ds, hds⟩ := tyOf_some hs
  unfold convA at h
  split at h
  · rename_i k n
    simp only [Rep] at hu
    subst hu
    split at h
    · rename_i hd
      simp only [Option.some.injEq] at h; subst h
      refine ⟨_, by simp only [convert, Sem.run_bind, run_underlying hds, run_underlying (tyOf_u8 hd), Result.andThen_ok]; rfl, ?_⟩
      simp only [Rep, u8_ofInt]
    · rename_i hd
      simp only [Option.some.injEq] at h; subst h
      exact ⟨_, by simp only [convert, Sem.run_bind, run_underlying hds, run_underlying (tyOf_int hd), Result.andThen_ok]; rfl, by simp only [Rep]⟩
    · rename_i hd
      simp only [Option.some.injEq] at h; subst h
      exact ⟨.string (Utf8.encode n), by simp only [convert, Sem.run_bind, run_underlying hds, run_underlying (tyOf_str hd), Result.andThen_ok]; rfl, by simp only [Rep, strV, runeBytes]⟩
    · simp at h
  · rename_i c
    simp only [Rep] at hu
    subst hu
    split at h
    · rename_i hd
      simp only [Option.some.injEq] at h; subst h
      refine ⟨_, by simp only [convert, Sem.run_bind, run_underlying hds, run_underlying (tyOf_u8 hd), Result.andThen_ok]; rfl, ?_⟩
      simp only [Rep, u8_ofInt]
      congr 1
      have := c.toNat_lt
      simp [UInt8.ofInt]
      omega
    · rename_i hd
      simp only [Option.some.injEq] at h; subst h
      exact ⟨_, by simp only [convert, Sem.run_bind, run_underlying hds, run_underlying (tyOf_int hd), Result.andThen_ok]; rfl, by simp only [Rep]⟩
    · simp at h
  · rename_i l
    simp only [Rep] at hu
    subst hu
    split at h
    · rename_i hd
      simp only [Option.some.injEq] at h; subst h
      refine ⟨strV l, ?_, by simp only [Rep]⟩
      simp only [convert, Sem.run_bind, run_underlying hds, run_underlying (tyOf_str hd), Result.andThen_ok]
      unfold strV
      cases ds <;> rfl
    · simp at h
  · rename_i l o
    simp only [Rep] at hu
    obtain ⟨a, cap, rfl, _, hsl, _⟩ := hu
    split at h
    · rename_i h1 h2
      simp only [Option.some.injEq] at h; subst h
      obtain ⟨e, m, he, he'⟩ := tyOf_sl h1
      refine ⟨strV l, ?_, by simp only [Rep]⟩
      simp only [convert, Sem.run_bind, run_underlying he, run_underlying (tyOf_str h2), run_underlying (tyOf_u8 he'), Result.andThen_ok]
      exact run_bytes_string hsl
    · simp at h
  · rename_i l o
    simp only [Rep] at hu
    obtain ⟨a, cap, rfl, _, hsl, _⟩ := hu
    split at h
    · rename_i h1 h2
      simp only [Option.some.injEq] at h; subst h
      obtain ⟨e, m, he, he'⟩ := tyOf_sl h1
      refine ⟨strV (l.flatMap runeBytes), ?_, by simp only [Rep]⟩
      simp only [convert, Sem.run_bind, run_underlying he, run_underlying (tyOf_str h2), run_underlying (tyOf_int he'), Result.andThen_ok]
      exact run_runes_string hsl
    · simp at h
  · simp at h

/-! ### cutting -/
def OptIs : Option Int → Option Value → Prop
  | none, v => v = none
  | some n, v => ∃ k, v = some (.int k n)

theorem run_sliceBounds_opt {P : Program} {w : World} (isS : Bool) (len cap : Nat) {lo hi mx : Option Int} {lv hv mv : Option Value} (h1 : OptIs lo lv) (h2 : OptIs hi hv) (h3 : OptIs mx mv) (hm : mx = none ∨ hi ≠ none)
    (b0 : 0 ≤ lo.getD 0) (b1 : lo.getD 0 ≤ hi.getD len) (b2 : hi.getD len ≤ mx.getD cap) (b3 : mx.getD cap ≤ cap) :
    (Instr.sliceBounds isS len cap lv hv mv).run P w = .ok ((lo.getD 0).toNat, (hi.getD len).toNat, (mx.getD cap).toNat) w := by
  have sb : ∀ (k : IntKind) (i : Int) (y : Nat) (code : BoundsCode), 0 ≤ i → i ≤ y → (Instr.sliceBound (.int k i) y code).run P w = .ok i.toNat w := fun k i y code a b => run_sliceBound w k i y code a b
  unfold Instr.sliceBounds
  cases mx with
  | none =>
    simp only [OptIs] at h3
    subst h3
    simp only [Option.getD_none] at *
    cases hi with
    | none =>
      simp only [OptIs] at h2
      subst h2
      simp only [Option.getD_none] at *
      cases lo with
      | none => simp only [OptIs] at h1; subst h1; simp
      | some l =>
        obtain ⟨k, rfl⟩ := h1
        simp only [Option.getD_some] at *
        simp [sb k l len _ b0 b1]
    | some h =>
      obtain ⟨kh, rfl⟩ := h2
      simp only [Option.getD_some] at *
      cases lo with
      | none =>
        simp only [OptIs] at h1; subst h1
        simp only [Option.getD_none] at *
        simp [sb kh h cap _ (by omega) b2]
      | some l =>
        obtain ⟨k, rfl⟩ := h1
        simp only [Option.getD_some] at *
        simp [sb kh h cap _ (by omega) b2, sb k l h.toNat _ b0 (by omega)]
  | some m =>
    obtain ⟨km, rfl⟩ := h3
    simp only [Option.getD_some] at *
    cases hi with
    | none => simp at hm
    | some h =>
      obtain ⟨kh, rfl⟩ := h2
      simp only [Option.getD_some] at *
      cases lo with
      | none =>
        simp only [OptIs] at h1; subst h1
        simp only [Option.getD_none] at *
        simp [sb km m cap _ (by omega) b3, sb kh h m.toNat _ (by omega) (by omega)]
      | some l =>
        obtain ⟨k, rfl⟩ := h1
        simp only [Option.getD_some] at *
        simp [sb km m cap _ (by omega) b3, sb kh h m.toNat _ (by omega) (by omega), sb k l h.toNat _ b0 (by omega)]

theorem slAt_cut {w : World} {S : Seal} {t : Ty} {a : Option Addr} {l : List t.den} (h : SlAt w S (RepD w S t) a l) (lo hi : Nat) (m : Nat) (hm : m = lo → hi ≤ lo) :
    SlAt w S (RepD w S t) (if m = lo then a else a.map (·.add (lo * t.size))) ((l.take hi).drop lo) := by
  by_cases hml : m = lo
  · refine .inl ?_
    rw [List.drop_eq_nil_iff, List.length_take]
    have := hm hml
    omega
  · rw [if_neg hml]
    by_cases he : (l.take hi).drop lo = []
    · exact .inl he
    rcases h with rfl | ⟨b, off, rfl, cells, h1, h2, h3⟩
    · exact .inl (by simp)
    · refine .inr ⟨b, off + lo * t.size, by simp [add_none], (cells.take (hi * t.size)).drop (lo * t.size), ?_, ?_, fun j v hj => ?_⟩
      · exact Flat.drop (fun _ _ h => h.length) lo (Flat.take (fun _ _ h => h.length) hi h1)
      · have hl := flat_length (Flat.take (fun _ _ h => h.length) hi h1)
        have hlt : lo < (l.take hi).length := by
          rcases Nat.lt_or_ge lo (l.take hi).length with h | h
          · exact h
          · exact absurd (List.drop_eq_nil_iff.2 h) he
        have : lo * t.size ≤ (cells.take (hi * t.size)).length := by rw [hl]; exact Nat.mul_le_mul_right _ (Nat.le_of_lt hlt)
        have : (cells.take (hi * t.size)).length ≤ cells.length := by rw [List.length_take]; omega
        rw [List.length_drop]
        omega
      · rw [List.getElem?_drop, List.getElem?_take] at hj
        split at hj
        · rw [Nat.add_assoc]; exact h3 _ _ hj
        · simp at hj

theorem str_cut (s : List UInt8) (l h : Nat) : (ByteArray.mk s.toArray).extract l h = ByteArray.mk ((s.take h).drop l).toArray := by
  apply ByteArray.ext
  simp [ByteArray.data_extract, List.drop_take]

theorem slice_sound {P : Program} {w : World} {S : Seal} {t : TypeId} {x : AVal} {u : Value} {lo hi mx : Option Int} {lv hv mv : Option Value} {k : AVal → Prop} (h1 : OptIs lo lv) (h2 : OptIs hi hv) (h3 : OptIs mx mv)
    (hu : Rep w S x u) (h : @wSlice P t x lo hi mx ⟨k⟩) : ∃ v y, (Instr.sliceAt t u lv hv mv).run P w = .ok v w ∧ Rep w S y v ∧ k y := by
  unfold wSlice at h
  split at h
  · rename_i s
    obtain ⟨ht, rfl, a0, a1, a2, hk⟩ := h
    simp only [Rep] at hu
    subst hu
    simp only [OptIs] at h3
    subst h3
    have hsz := strV_size s
    have hb := run_sliceBounds_opt (P := P) (w := w) false s.length s.length h1 h2 (mx := none) (mv := none) rfl (.inl rfl) a0 a1 a2 (by simp)
    refine ⟨strV ((s.take (hi.getD s.length).toNat).drop (lo.getD 0).toNat), _, ?_, ?_, hk⟩
    · unfold strV
      rw [run_sliceAt_string w t _ _ _ _ (tyOf_str ht)]
      simp only [Instr.slice, Sem.run_bind, run_underlying (tyOf_str ht), Result.andThen_ok, hsz, Option.isSome_none, Bool.false_eq_true, if_false, Sem.run_pure, hb, str_cut]
    · simp only [Rep]
  · rename_i ty l o
    obtain ⟨⟨e, i, he, hie, hsz⟩, hm, hm', a0, a1, a2, hk⟩ := h
    simp only [Rep] at hu
    obtain ⟨a, cap, rfl, hcap, hsl, hown⟩ := hu
    have hmx : mx.getD cap ≤ cap := by
      cases mx with
      | none => simp
      | some m =>
        rcases hm with hm | hm
        · simp at hm
        · simp only [Option.some.injEq] at hm
          subst hm
          simp only [Option.getD_some]
          omega
    have hmx' : hi.getD l.length ≤ mx.getD cap := by
      cases mx with
      | none => simp only [Option.getD_none]; omega
      | some m =>
        rcases hm with hm | hm
        · simp at hm
        · simp only [Option.some.injEq] at hm
          subst hm
          simp
    have hb := run_sliceBounds_opt (P := P) (w := w) true l.length cap h1 h2 h3 hm' a0 a1 hmx' hmx
    refine ⟨.slice (if (mx.getD cap).toNat = (lo.getD 0).toNat then a else a.map (·.add ((lo.getD 0).toNat * i.size))) ((hi.getD l.length).toNat - (lo.getD 0).toNat) ((mx.getD cap).toNat - (lo.getD 0).toNat), _, ?_, ?_, hk⟩
    · unfold Instr.sliceAt
      simp only [Sem.run_bind, run_underlying he, Result.andThen_ok, Instr.slice, hb]
      simp only [sizeOf, typeInfo, Sem.run_bind, run_program, Result.andThen_ok, hie, Sem.run_pure]
    · simp only [Rep]
      have hlen : ((l.take (hi.getD l.length).toNat).drop (lo.getD 0).toNat).length = (hi.getD l.length).toNat - (lo.getD 0).toNat := by
        rw [List.length_drop, List.length_take]
        omega
      rw [hsz]
      refine ⟨(if (mx.getD cap).toNat = (lo.getD 0).toNat then a else a.map (·.add ((lo.getD 0).toNat * ty.size))), (mx.getD cap).toNat - (lo.getD 0).toNat, by rw [hlen], by rw [hlen]; omega, slAt_cut hsl _ _ _ (fun h => by omega), ?_⟩
      cases mx with
      | some m =>
        rcases hm with hm | hm
        · simp at hm
        · simp only [Option.some.injEq] at hm
          subst hm
          simp only [Option.isSome_some, if_true, OwnAt, Option.getD_some]
          rw [hlen]
      | none =>
        simp only [Option.isSome_none, Bool.false_eq_true, if_false]
        by_cases hlh : lo = none ∧ hi = none
        · rw [if_pos hlh]
          obtain ⟨rfl, rfl⟩ := hlh
          simp only [Option.getD_none, Int.toNat_zero, Int.toNat_natCast, List.take_length, List.drop_zero, Nat.sub_zero]
          cases o with
          | no => trivial
          | exact => exact hown
          | nil =>
            obtain ⟨rfl, h0⟩ := hown
            exact ⟨by split <;> rfl, h0⟩
          | tok b =>
            obtain ⟨rfl, ty', hsh⟩ := hown
            refine ⟨?_, ty', hsh⟩
            split
            · rfl
            · simp [add_none]
          | lit m =>
            obtain ⟨h1, b, rfl, h2, ty', hsh⟩ := hown
            refine ⟨h1, b, ?_, h2, ty', hsh⟩
            split
            · rfl
            · simp [add_none]
        · rw [if_neg hlh]; trivial
  · rename_i b sz n
    simp only [Rep] at hu
    obtain ⟨cap, rfl, hcap, ty', hsh⟩ := hu
    split at h
    · rename_i ty hh hty
      obtain ⟨⟨e, i, he, hie, hsz⟩, rfl, a0, a1, hk⟩ := h
      have hb := run_sliceBounds_opt (P := P) (w := w) true n cap h1 h2 h3 (.inl rfl) (by simp) (by simp only [Option.getD_none, Option.getD_some]; exact a0) (by simp only [Option.getD_none, Option.getD_some]; omega) (by simp)
      simp only [Option.getD_none, Option.getD_some, Int.toNat_zero, Int.toNat_natCast, Nat.sub_zero] at hb
      refine ⟨.slice (some ⟨b, 0, none⟩) hh.toNat cap, _, ?_, ?_, hk⟩
      · unfold Instr.sliceAt
        simp only [Sem.run_bind, run_underlying he, Result.andThen_ok, Instr.slice, hb]
        simp only [sizeOf, typeInfo, Sem.run_bind, run_program, Result.andThen_ok, hie, Sem.run_pure]
        simp [add_none]
      · simp only [Rep]; exact ⟨cap, rfl, by omega, ty', hsh⟩
    · rename_i ty ii hty
      obtain ⟨⟨e, i, he, hie, hsz⟩, rfl, a0, a1, hk⟩ := h
      have hb := run_sliceBounds_opt (P := P) (w := w) true n cap h1 h2 h3 (.inl rfl) (by simp only [Option.getD_some]; exact a0) (by simp only [Option.getD_none, Option.getD_some]; omega) (by simp only [Option.getD_none]; omega) (by simp)
      simp only [Option.getD_none, Option.getD_some, Int.toNat_natCast] at hb
      refine ⟨.slice (some ⟨b, ii.toNat * ty.size, none⟩) (n - ii.toNat) (cap - ii.toNat), _, ?_, ?_, hk⟩
      · unfold Instr.sliceAt
        simp only [Sem.run_bind, run_underlying he, Result.andThen_ok, Instr.slice, hb]
        simp only [sizeOf, typeInfo, Sem.run_bind, run_program, Result.andThen_ok, hie, Sem.run_pure]
        rw [if_neg (by omega), hsz]
        simp [add_none]
      · simp only [Rep]; exact ⟨_, rfl⟩
    · exact h.elim
  · exact h.elim

end Go.Sv
