/-
  Arguments that hold structs, as values of their types, and how much they hold. Own work. Nothing here is trusted.
-/
import Derived.Test.YtoncjokijkjliaaDoorCore11
namespace Go.Sv
open Go.ChangeShapes Go.WideShapes Go.ChangeAt Go.RowKit
set_option linter.unusedSimpArgs false
set_option linter.unusedVariables false

/-- A struct's fields are such, one behind the other. -/
def fieldsB (P : Program) (g : TypeId → Ty → Bool) : Nat → List Field → Ty → Bool
  | _, [], .nil => true
  | off, f :: fs, .cons a r => f.offset == off && P.cellsOf f.type == a.size && g f.type a && fieldsB P g (off + a.size) fs r
  | _, _, _ => false
/-- A type is such, as far as it can be read. -/
def fitB (P : Program) : Nat → TypeId → Ty → Bool
  | 0, _, _ => false
  | n + 1, t, ty => P.cellsOf t == ty.size && match P.underlying t, ty with
    | some .bool, .bool => true
    | some (.int k), .u8 => k == .u8
    | some (.int k), .int k' => k == k'
    | some .string, .str => true
    | some (.slice e), .sl a => decide (0 < a.size) && P.cellsOf e == a.size && fitB P n e a
    | some (.struct fs), .cons a r => fieldsB P (fitB P n) 0 fs.toList (.cons a r)
    | some (.struct fs), .nil => fs.toList.isEmpty
    | _, _ => false

structure BulkS (H : Type) (B : DataW H → Nat) (BA : List (DataW H) → Nat) : Prop where
  base : Bulk B BA
  agg : ∀ l, B (.agg l) = BA l + 1

section
variable {H : Type} {enc : TypeId × Value → H} {P : Program} {w : World}

theorem cells_many {base : Nat} {a : Addr} {n : Nat} {cs : List Value} (h : w.cells? base a n = some cs) : cs.length = n ∧ ∀ j v, cs[j]? = some v → w.cell? (a.add j) = some v := by
  unfold World.cells? at h
  split at h
  · have hl := mapM_some_length h
    rw [List.length_range] at hl
    refine ⟨hl, fun j v hj => ?_⟩
    have hjn : j < n := by
      rcases Nat.lt_or_ge j n with h' | h'
      · exact h'
      · rw [List.getElem?_eq_none (by omega)] at hj; cases hj
    have := mapM_some_get h j j (List.getElem?_range hjn)
    rw [this]; exact hj
  · cases h

theorem flat_rows {α : Type} {R : α → List Value → Prop} {bT : α → Nat} {Q : α → Prop} {B : DataW H → Nat} {BA : List (DataW H) → Nat} (hB : Bulk B BA) {s b off : Nat} : ∀ (elems : List (DataW H × List MemPlace)) (k : Nat),
    (∀ i y, elems[i]? = some y → ∃ x c, c.length = s ∧ (∀ j v, c[j]? = some v → w.cell? ⟨b, off + (k + i) * s + j, none⟩ = some v) ∧ R x c ∧ bT x ≤ B y.1 ∧ Q x) →
    ∃ (l : List α) (cells : List Value), l.length = elems.length ∧ Flat R l cells ∧ cells.length = elems.length * s ∧ (∀ j u, cells[j]? = some u → w.cell? ⟨b, off + k * s + j, none⟩ = some u) ∧ (l.map bT).sum ≤ BA (elems.map (·.1)) ∧ ∀ x ∈ l, Q x
  | [], k, _ => ⟨[], [], rfl, rfl, by simp, by simp, by simp, by simp⟩
  | y :: r, k, h => by
    obtain ⟨x, c, h0, h1, h2, h3, h4⟩ := h 0 y rfl
    obtain ⟨l, cells, k1, k2, k3, k4, k5, k6⟩ := flat_rows hB r (k + 1) (fun i z hz => by
      obtain ⟨x', c', m0, m1, m2, m3, m4⟩ := h (i + 1) z hz
      exact ⟨x', c', m0, by rw [show k + 1 + i = k + (i + 1) by omega]; exact m1, m2, m3, m4⟩)
    refine ⟨x :: l, c ++ cells, by simp [k1], ⟨c, cells, rfl, h2, k2⟩, by simp only [List.length_append, List.length_cons]; rw [h0, k3, Nat.succ_mul]; omega, fun j v hj => ?_, ?_, fun z hz => ?_⟩
    · rcases Nat.lt_or_ge j s with hjs | hjs
      · rw [List.getElem?_append_left (by omega)] at hj
        have := h1 j v hj
        rw [Nat.add_zero] at this
        exact this
      · rw [List.getElem?_append_right (by omega), h0] at hj
        have := k4 (j - s) v hj
        rw [show off + (k + 1) * s + (j - s) = off + k * s + j by rw [Nat.succ_mul]; omega] at this
        exact this
    · simp only [List.map_cons, List.sum_cons, hB.cons]
      omega
    · rcases List.mem_cons.1 hz with rfl | hz
      · exact h4
      · exact k6 z hz

theorem open_fields {B : DataW H → Nat} {BA : List (DataW H) → Nat} (hB : BulkS H B BA) {g : TypeId → Ty → Bool} {cs : List Value} {m : Nat} {base : Nat} {spare : Nat → Bool} {held : Bool}
    (hg : ∀ (t : TypeId) (ty : Ty) (cs : List Value) (x : DataW H × List MemPlace), g t ty = true → DataW.trod enc P w base spare held m t cs = some x → ∃ v : ty.den, RepD w (sealAll w) ty v cs ∧ bulkT ty v ≤ B x.1 ∧ fitT ty v) :
    ∀ (fs : List Field) (ty : Ty) (off : Nat) (xs : List (DataW H × List MemPlace)), fieldsB P g off fs ty = true → xs.length = fs.length → cs.length = off + ty.size →
      (∀ (i : Nat) (f : Field), fs[i]? = some f → DataW.trod enc P w base spare held m f.type ((cs.drop f.offset).take (P.cellsOf f.type)) = xs[i]?) →
      ∃ v : ty.den, RepD w (sealAll w) ty v (cs.drop off) ∧ bulkT ty v ≤ BA (xs.map (·.1)) + 1 ∧ fitT ty v
  | [], ty, off, xs, hf, hx, hc, h => by
    cases ty <;> simp only [fieldsB, Bool.false_eq_true] at hf
    obtain rfl : xs = [] := by simpa using hx
    refine ⟨(), ?_, by simp only [bulkT]; omega, trivial⟩
    simp only [RepD, Ty.size] at hc ⊢
    exact List.drop_eq_nil_of_le (by omega)
  | f :: fs, ty, off, xs, hf, hx, hc, h => by
    cases ty <;> simp only [fieldsB, Bool.false_eq_true, Bool.and_eq_true, beq_iff_eq] at hf
    rename_i a r
    obtain ⟨⟨⟨h1, h2⟩, h3⟩, h4⟩ := hf
    cases xs with
    | nil => simp at hx
    | cons y ys =>
      have h0 := h 0 f rfl
      rw [h1, h2] at h0
      simp only [List.getElem?_cons_zero] at h0
      obtain ⟨v, g1, g2, g3⟩ := hg f.type a _ y h3 h0
      simp only [Ty.size] at hc
      obtain ⟨u, k1, k2, k3⟩ := open_fields (cs := cs) hB hg fs r (off + a.size) ys h4 (by simpa using hx) (by omega) (fun i f' hf' => by have := h (i + 1) f' (by simpa using hf'); simpa using this)
      refine ⟨(v, u), ?_, ?_, trivial⟩
      · simp only [RepD]
        refine ⟨(cs.drop off).take a.size, cs.drop (off + a.size), ?_, g1, k1⟩
        rw [← List.drop_drop, List.take_append_drop]
      · simp only [bulkT, List.map_cons, hB.base.cons]
        omega

theorem open_ty2 {B : DataW H → Nat} {BA : List (DataW H) → Nat} (hB : BulkS H B BA) : ∀ (n : Nat) {t : TypeId} {ty : Ty} {base fuel : Nat} {spare : Nat → Bool} {held : Bool} {cs : List Value} {x : DataW H × List MemPlace}, fitB P n t ty = true →
    DataW.trod enc P w base spare held fuel t cs = some x → ∃ v : ty.den, RepD w (sealAll w) ty v cs ∧ bulkT ty v ≤ B x.1 ∧ fitT ty v
  | 0, t, ty, base, fuel, spare, held, cs, x, hf, h => by simp [fitB] at hf
  | n + 1, t, ty, base, fuel, spare, held, cs, x, hf, h => by
    unfold fitB at hf
    rw [Bool.and_eq_true, beq_iff_eq] at hf
    obtain ⟨hsz, hf⟩ := hf
    split at hf
    · rename_i hd
      obtain ⟨b, rfl, rfl⟩ := DataW.trod_bool hd h
      exact ⟨b, by simp only [RepD], by simp only [bulkT]; exact hB.base.lit _, trivial⟩
    · rename_i k hd
      obtain rfl : k = .u8 := by simpa using hf
      obtain ⟨k, rfl, rfl, hw⟩ := DataW.trod_int hd h
      refine ⟨UInt8.ofNat k.toNat, ?_, by simp only [bulkT]; exact hB.base.lit _, trivial⟩
      simp only [RepD]
      simp only [Lit.wf, Bool.and_eq_true, decide_eq_true_eq, IntKind.min, IntKind.max, IntKind.signed, IntKind.bits] at hw
      simp at hw
      have : (UInt8.ofNat k.toNat).toNat = k.toNat := by
        rw [UInt8.toNat_ofNat']
        omega
      rw [this]
      congr 2
      omega
    · rename_i k k' hd
      obtain rfl : k = k' := by simpa using hf
      obtain ⟨b, rfl, rfl, hw⟩ := DataW.trod_int hd h
      exact ⟨b, by simp only [RepD], by simp only [bulkT]; exact hB.base.lit _, hw⟩
    · rename_i hd
      obtain ⟨s, rfl, rfl, hs⟩ := DataW.trod_string hd h
      refine ⟨s.data.toList, by simp only [RepD, strV], ?_, trivial⟩
      simp only [bulkT, hB.base.str]
      exact Nat.le_refl _
    · rename_i e ty' hu
      simp only [Bool.and_eq_true, decide_eq_true_eq, beq_iff_eq] at hf
      obtain ⟨⟨hpos, hce⟩, hfe⟩ := hf
      rcases DataW.trod_slice hu h with ⟨rfl, rfl⟩ | ⟨a, len, cap, elems, rest, m', rfl, rfl, rfl, hb, hl, hm, hlen, hel, _, _⟩
      · refine ⟨[], ?_, ?_, by simp [fitT]⟩
        · simp only [RepD]; exact ⟨none, 0, rfl, Nat.le_refl _, .inl rfl⟩
        · simp only [bulkT, hB.base.nil]; simp
      · have hspot : ∀ i y, elems[i]? = some y → i = 0 → a.spot = none := by
          intro i y hy hi0
          subst hi0
          have hi : 0 < len := by
            rcases Nat.lt_or_ge 0 len with h' | h'
            · exact h'
            · rw [List.getElem?_eq_none (by omega)] at hy; simp at hy
          have := hel 0 hi
          rw [hy, hce, Option.bind_eq_some_iff] at this
          obtain ⟨ci, g1, g2⟩ := this
          obtain ⟨g3, g4⟩ := cells_many g1
          have h0 : ∃ v, ci[0]? = some v := ⟨_, List.getElem?_eq_getElem (by omega)⟩
          obtain ⟨v, hv⟩ := h0
          have := cell_none (g4 0 v hv)
          simpa [Addr.add] using this
        have hcell : ∀ i y, elems[i]? = some y → ∃ (v : ty'.den) (c : List Value), c.length = ty'.size ∧ (∀ j u, c[j]? = some u → w.cell? ⟨a.block, a.off + (0 + i) * ty'.size + j, none⟩ = some u) ∧ RepD w (sealAll w) ty' v c ∧ bulkT ty' v ≤ B y.1 ∧ fitT ty' v := by
          intro i y hy
          have hi : i < len := by
            rcases Nat.lt_or_ge i len with h' | h'
            · exact h'
            · rw [List.getElem?_eq_none (by omega)] at hy; simp at hy
          have := hel i hi
          rw [hy, hce, Option.bind_eq_some_iff] at this
          obtain ⟨ci, g1, g2⟩ := this
          obtain ⟨g3, g4⟩ := cells_many g1
          obtain ⟨v, q1, q2, q3⟩ := open_ty2 hB n hfe g2
          refine ⟨v, ci, g3, fun j u hj => ?_, q1, q2, q3⟩
          rw [Nat.zero_add, ← g4 j u hj]
          congr 1
          by_cases h0 : i * ty'.size + j = 0
          · have hj0 : j = 0 := by omega
            have hi0 : i = 0 := by
              rcases Nat.eq_zero_or_pos i with h' | h'
              · exact h'
              · have : 0 < i * ty'.size := Nat.mul_pos h' hpos
                omega
            subst hj0
            have hs := hspot i y hy hi0
            subst hi0
            obtain ⟨ab, ao, as⟩ := a
            simp only at hs
            subst hs
            simp [Addr.add]
          · simp only [Addr.add]
            by_cases hz : i * ty'.size = 0
            · rw [if_pos hz, hz]
              have : j ≠ 0 := by omega
              rw [if_neg this]
              simp
            · rw [if_neg hz]
              by_cases hj0 : j = 0
              · rw [if_pos hj0, hj0]; simp
              · rw [if_neg hj0]
        obtain ⟨l, cells, k1, k2, k3, k4, k5, k6⟩ := flat_rows (b := a.block) (off := a.off) hB.base elems 0 hcell
        refine ⟨l, ?_, ?_, by simpa only [fitT] using k6⟩
        · simp only [RepD]
          refine ⟨some a, cap, by rw [k1, hlen], by rw [k1, hlen]; exact hl, ?_⟩
          cases elems with
          | nil => simp at k1; exact .inl k1
          | cons y r =>
            have hs := hspot 0 y rfl rfl
            refine .inr ⟨a.block, a.off, by obtain ⟨ab, ao, as⟩ := a; simp only at hs; subst hs; rfl, cells, k2, ?_, fun j v hj => by have := k4 j v hj; simpa using this⟩
            have hcl : 0 < cells.length := by rw [k3]; exact Nat.mul_pos (by simp) hpos
            have hlast : ∃ u, cells[cells.length - 1]? = some u := by
              rw [List.getElem?_eq_getElem (by omega)]; exact ⟨_, rfl⟩
            obtain ⟨u, hu'⟩ := hlast
            have := cell_seal (k4 _ u hu')
            omega
        · simp only [bulkT, hB.base.sl]
          omega
    · rename_i fs a r hu
      obtain ⟨xs, m, rfl, rfl, hcl, hxl, hx⟩ := DataW.trod_struct hu h
      obtain ⟨v, g1, g2, g3⟩ := open_fields (cs := cs) hB (fun t ty cs x ht hx => open_ty2 hB n ht hx) fs.toList (.cons a r) 0 xs hf (by simpa using hxl) (by rw [hcl, hsz]; omega) (fun i f hf' => hx i f (by simpa using hf'))
      exact ⟨v, by simpa using g1, by rw [hB.agg]; exact g2, g3⟩
    · rename_i fs hu
      obtain ⟨xs, m, rfl, rfl, hcl, hxl, hx⟩ := DataW.trod_struct hu h
      rw [hsz] at hcl
      simp only [Ty.size] at hcl
      refine ⟨(), ?_, by simp only [bulkT, hB.agg]; omega, trivial⟩
      simp only [RepD]
      exact List.eq_nil_of_length_eq_zero hcl
    · cases hf

theorem open_arg2 {B : DataW H → Nat} {BA : List (DataW H) → Nat} (hB : BulkS H B BA) {t : TypeId} {ty : Ty} {v : Value} {d : DataW H} {ps : List MemPlace} {r : Reach} {base b0 : Nat} {sp : Nat → Bool} {held : Bool} (hf : fitB P 8 t (.sl ty) = true)
    (hval : Value.okWide P w r b0 t v) (h : DataW.Trod enc P w base sp held t v d ps) : ∃ x : List ty.den, Rep w (sealAll w) (.sl ty x .no) v ∧ bulkT (.sl ty) x ≤ B d ∧ fitT (.sl ty) x := by
  obtain ⟨fuel, hfu⟩ := h
  obtain ⟨x, h1, h2, h3⟩ := open_ty2 hB 8 hf hfu
  refine ⟨x, ?_, h2, h3⟩
  have hd : ∃ e, P.underlying t = some (.slice e) := by
    unfold fitB at hf
    rw [Bool.and_eq_true] at hf
    have := hf.2
    split at this
    all_goals first
      | (rename_i hu; simp at hu)
      | skip
    all_goals first
      | exact ⟨_, by assumption⟩
      | simp at this
  obtain ⟨e, hd⟩ := hd
  have hv : v.cells = #[v] := by
    cases v <;> first | rfl | skip
    exfalso
    simp [Value.okWide, hd, Cell.okWide, Cell.ok] at hval
  rw [hv] at h1
  simp only [RepD] at h1
  obtain ⟨a, cap, e1, e2, e3⟩ := h1
  simp only [List.cons.injEq, and_true] at e1
  simp only [Rep]
  exact ⟨a, cap, e1, e2, e3, trivial⟩
end
theorem bulkT_pos2 : ∀ (t : Ty) (x : t.den), 1 ≤ bulkT t x
  | .bool, _ => Nat.le_refl _
  | .u8, _ => Nat.le_refl _
  | .int _, _ => Nat.le_refl _
  | .str, _ => by simp only [bulkT]; omega
  | .ptr, _ => Nat.le_refl _
  | .sl _, _ => by simp only [bulkT]; omega
  | .nil, _ => Nat.le_refl _
  | .cons t r, x => by
    have := bulkT_pos2 t x.1
    simp only [bulkT]
    omega
theorem bulk_sl2 {t : Ty} : ∀ (l : List t.den), l.length + 1 ≤ bulkT (.sl t) l := by
  intro l
  have key : ∀ l : List t.den, l.length ≤ (l.map (bulkT t)).sum := by
    intro l
    induction l with
    | nil => simp
    | cons x l ih =>
      have := bulkT_pos2 t x
      simp only [List.length_cons, List.map_cons, List.sum_cons]
      omega
  have := key l
  simp only [bulkT]
  omega
end Go.Sv
