/-
  'wop' is sound. Own work. Nothing here is trusted.
-/
import Derived.Test.YtopegdkhoafajaaCore6
import Derived.Laws.OwnMore
import Derived.LaidEqlPtr
import Derived.Laws.Externs
import Derived.Lib.Builder
import Derived.Lib.UnsafeStr
import Derived.Laws.IdiomStrings
import Derived.Laws.StructEq
import Derived.Laws.MakeOwn
namespace Go.Sv
set_option linter.unusedSimpArgs false
set_option linter.unusedVariables false

theorem zeros_rep {w : World} {S : Seal} : ∀ (t : Ty), RepL w S (zerosA t) (zerosV t)
  | .bool => ⟨_, _, rfl, by simp only [Rep], rfl⟩
  | .u8 => ⟨_, _, rfl, by simp only [Rep]; rfl, rfl⟩
  | .int _ => ⟨_, _, rfl, by simp only [Rep], rfl⟩
  | .str => ⟨_, _, rfl, by simp only [Rep], rfl⟩
  | .ptr => ⟨_, _, rfl, by simp only [Rep], rfl⟩
  | .sl _ => ⟨_, _, rfl, by simp only [Rep]; exact ⟨none, 0, rfl, by simp, .inl rfl, rfl, rfl⟩, rfl⟩
  | .nil => rfl
  | .cons t r => (zeros_rep t).append (zeros_rep r)

theorem fillA_sound {w : World} {S : Seal} {pl : List (Nat × Nat)} : ∀ {ps : List (Nat × AVal)} {vs : List (Nat × Value)} {cs out : List AVal} {arr : Array Value}, fillA pl cs ps = some out → RepL w S cs arr.toList →
    ps.map (·.1) = vs.map (·.1) → RepL w S (ps.map (·.2)) (vs.map (·.2)) → ∃ r, Instr.fill (fun i => (pl.toArray)[i]?) arr vs = some r ∧ RepL w S out r.toList
  | [], vs, cs, out, arr, h, hr, h1, h2 => by
    cases vs with
    | nil => simp only [fillA, Option.some.injEq] at h; subst h; exact ⟨arr, rfl, hr⟩
    | cons _ _ => simp at h1
  | (i, v) :: ps, vs, cs, out, arr, h, hr, h1, h2 => by
    cases vs with
    | nil => simp at h1
    | cons u us =>
      obtain ⟨i', u⟩ := u
      simp only [List.map_cons, List.cons.injEq] at h1
      obtain ⟨rfl, h1⟩ := h1
      simp only [List.map_cons, RepL] at h2
      obtain ⟨_, _, he, k1, k2⟩ := h2
      simp only [List.cons.injEq] at he
      obtain ⟨rfl, rfl⟩ := he
      simp only [fillA] at h
      cases hp : pl[i]? with
      | none => rw [hp] at h; simp at h
      | some q =>
        rw [hp] at h
        simp only at h
        split at h
        · simp at h
        · rename_i hc
          simp only [not_or] at hc
          obtain ⟨c1, c2, c3⟩ := hc
          have hnu : v ≠ .undef := fun e => by subst e; simp [AVal.isU] at c1
          have hcells := cells_rep k1 hnu
          have hlen := hcells.length
          have hl := hr.length
          simp only [Array.length_toList] at hlen hl
          have hfit : q.1 + u.cells.toList.length ≤ arr.size := by rw [Array.length_toList]; omega
          have hnew : RepL w S (cs.take q.1 ++ v.cellsA ++ cs.drop (q.1 + v.cellsA.length)) (wr arr q.1 u.cells.toList).toList := by
            rw [wr_toList _ _ _ hfit]
            refine ((hr.take _).append hcells).append ?_
            rw [hcells.length]
            exact hr.drop _
          obtain ⟨r, m1, m2⟩ := fillA_sound h hnew h1 k2
          refine ⟨r, ?_, m2⟩
          rw [fill_step (off := q.1) (size := q.2) (by simpa using hp) (by omega) (by omega)]
          exact m1

theorem evParts_sound {P : Program} {σ : Env} {w : World} {S : Seal} {a : Act} (he : EnvAt w S σ a.tmps) : ∀ {xs : List (Nat × Operand)} {vs : List (Nat × AVal)}, evParts P σ xs = some vs →
    vs.map (·.1) = (xs.map fun p => (p.1, a.eval p.2)).map (·.1) ∧ RepL w S (vs.map (·.2)) ((xs.map fun p => (p.1, a.eval p.2)).map (·.2))
  | [], vs, h => by simp only [evParts, Option.some.injEq] at h; subst h; exact ⟨rfl, rfl⟩
  | (i, x) :: r, vs, h => by
    simp only [evParts, Option.bind_eq_some_iff, Option.map_eq_some_iff] at h
    obtain ⟨v, h1, l, h2, rfl⟩ := h
    obtain ⟨k1, k2⟩ := evParts_sound he h2
    exact ⟨by simpa using k1, ⟨_, _, rfl, ev_sound h1 he, k2⟩⟩

theorem build_sound {P : Program} {w : World} {S : Seal} {t : TypeId} {ty : Ty} {pl : List (Nat × Nat)} {parts : Array (Nat × Operand)} {ps : List (Nat × AVal)} {cs : List AVal} {a : Act} {σ : Env}
    (he : EnvAt w S σ a.tmps) (hp : evParts P σ parts.toList = some ps) (ho : StructOk P t ty pl) (hf : fillA pl (zerosA ty) ps = some cs) :
    ∃ v, (Instr.build t (parts.map fun p => (p.1, a.eval p.2))).run P w = .ok v w ∧ Rep w S (.agg cs) v := by
  obtain ⟨fs, i, z, hu, hi, hz, hzc, hpl⟩ := ho.ex
  obtain ⟨k1, k2⟩ := evParts_sound he hp
  have hz0 : RepL w S (zerosA ty) z.cells.toList := by rw [hzc]; exact zeros_rep ty
  obtain ⟨r, m1, m2⟩ := fillA_sound (vs := (parts.map fun p => (p.1, a.eval p.2)).toList) hf hz0 (by simpa using k1) (by simpa using k2)
  refine ⟨.agg r, ?_, by simp only [Rep]; exact ⟨r, rfl, m2⟩⟩
  simp only [Instr.build, zeroValue, typeInfo, Sem.run_bind, run_program, Result.andThen_ok, hi, Sem.run_pure, hz, run_underlying hu, hpl w, m1]

/-! ### a field of a value -/
theorem part_sound {P : Program} {w : World} {S : Seal} {t : TypeId} {q : Bool × Nat} (hq : ldInfo P t = some q) {cs : List AVal} {c : Array Value} (hc : RepL w S cs c.toList) {off : Nat} {x : AVal} (hx : loadA q cs off = some x) :
    ∃ v, (part t c off).run P w = .ok v w ∧ Rep w S x v := by
  obtain ⟨h1, h2⟩ := ldInfo_spec hq w
  unfold loadA at hx
  simp only [part, Sem.run_bind, h1, Result.andThen_ok]
  split at hx
  · rename_i hagg
    split at hx
    · rename_i hle
      simp only [Option.some.injEq] at hx
      subst hx
      rw [hagg]
      simp only [if_true, Sem.run_bind, h2, Result.andThen_ok, Sem.run_pure]
      refine ⟨_, rfl, ?_⟩
      simp only [Rep]
      refine ⟨_, rfl, ?_⟩
      have := (hc.drop off).take q.2
      rw [Array.toList_extract, List.extract_eq_take_drop]
      rw [show off + q.2 - off = q.2 by omega]
      exact this
    · simp at hx
  · rename_i hagg
    have hagg' : q.1 = false := by simpa using hagg
    rw [hagg']
    obtain ⟨v, hv, hr⟩ := hc.get off hx
    rw [Array.getElem?_toList] at hv
    simp only [Bool.false_eq_true, if_false, hv]
    exact ⟨v, rfl, hr⟩

theorem fdInfo_spec {P : Program} {t : TypeId} {f : Nat} {q : Nat × TypeId} (h : fdInfo P t f = some q) :
    ∃ fs x, P.underlying t = some (.struct fs) ∧ fs[f]? = some x ∧ q = (x.offset, x.type) ∧ ∃ i, P.info? x.type = some i ∧ i.size ≠ 0 := by
  unfold fdInfo at h
  split at h
  · rename_i fs hu
    simp only [Option.bind_eq_some_iff] at h
    obtain ⟨x, hx, h⟩ := h
    cases hi : P.info? x.type with
    | none => rw [hi] at h; simp at h
    | some i =>
      rw [hi] at h
      simp only [Option.map_some] at h
      split at h
      · simp at h
      · rename_i n hn he
        simp only [Option.some.injEq] at h he
        exact ⟨fs, x, hu, hx, h.symm, i, hi, fun h0 => hn (by rw [← he, h0])⟩
      · simp at h
  · simp at h

theorem minA_sound {P : Program} {w : World} {S : Seal} : ∀ (r : List AVal) {x y : AVal} {u : Value} {us : List Value}, foldA minA (some x) r = some y → Rep w S x u → RepL w S r us → ∃ v, (us.foldlM Builtin.min2 u).run P w = .ok v w ∧ Rep w S y v
  | [], x, y, u, us, h, h1, h2 => by
    simp only [foldA, Option.some.injEq] at h
    subst h
    simp only [RepL] at h2
    subst h2
    exact ⟨u, rfl, h1⟩
  | z :: r, x, y, u, us, h, h1, h2 => by
    simp only [RepL] at h2
    obtain ⟨v, vr, rfl, k1, k2⟩ := h2
    simp only [foldA] at h
    cases hm : minA x z with
    | none => rw [hm] at h; simp [foldA] at h
    | some m =>
      rw [hm] at h
      have : ∃ mv, (Builtin.min2 u v).run P w = .ok mv w ∧ Rep w S m mv := by
        unfold minA at hm
        split at hm
        · simp only [Option.some.injEq] at hm
          subst hm
          simp only [Rep] at h1 k1
          subst h1; subst k1
          rename_i k p k' q
          refine ⟨.int k (if q < p then q else p), rfl, ?_⟩
          simp only [Rep]
          congr 1
          split <;> omega
        · simp at hm
      obtain ⟨mv, m1, m2⟩ := this
      obtain ⟨v', n1, n2⟩ := minA_sound (P := P) r h m2 k2
      exact ⟨v', by simp only [List.foldlM_cons, Sem.run_bind, m1, Result.andThen_ok, n1], n2⟩

theorem maxA_sound {P : Program} {w : World} {S : Seal} : ∀ (r : List AVal) {x y : AVal} {u : Value} {us : List Value}, foldA maxA (some x) r = some y → Rep w S x u → RepL w S r us → ∃ v, (us.foldlM Builtin.max2 u).run P w = .ok v w ∧ Rep w S y v
  | [], x, y, u, us, h, h1, h2 => by
    simp only [foldA, Option.some.injEq] at h
    subst h
    simp only [RepL] at h2
    subst h2
    exact ⟨u, rfl, h1⟩
  | z :: r, x, y, u, us, h, h1, h2 => by
    simp only [RepL] at h2
    obtain ⟨v, vr, rfl, k1, k2⟩ := h2
    simp only [foldA] at h
    cases hm : maxA x z with
    | none => rw [hm] at h; simp [foldA] at h
    | some m =>
      rw [hm] at h
      have : ∃ mv, (Builtin.max2 u v).run P w = .ok mv w ∧ Rep w S m mv := by
        unfold maxA at hm
        split at hm
        · simp only [Option.some.injEq] at hm
          subst hm
          simp only [Rep] at h1 k1
          subst h1; subst k1
          rename_i k p k' q
          refine ⟨.int k (if q > p then q else p), rfl, ?_⟩
          simp only [Rep]
          congr 1
          split <;> omega
        · simp at hm
      obtain ⟨mv, m1, m2⟩ := this
      obtain ⟨v', n1, n2⟩ := maxA_sound (P := P) r h m2 k2
      exact ⟨v', by simp only [List.foldlM_cons, Sem.run_bind, m1, Result.andThen_ok, n1], n2⟩

/-- What an append's second argument gives. -/
theorem newsA_gives {P : Program} {w : World} {S : Seal} {ty : Ty} {t2 : TypeId} {x : AVal} {xs : List ty.den} {v : Value} (h : newsA ty x = some xs) (ht : tyOf P 8 t2 = some (.sl ty) ∨ tyOf P 8 t2 = some .str) (hr : Rep w S x v) :
    ∃ news, Gives P w ty.size t2 v xs.length news ∧ Flat (RepD w S ty) xs news := by
  have hd : ∃ d, P.underlying t2 = some d ∧ ∀ k, d ≠ .int k := by
    rcases ht with ht | ht
    · obtain ⟨e, _, he, _⟩ := tyOf_sl ht
      exact ⟨_, he, by simp⟩
    · exact ⟨_, tyOf_str ht, by simp⟩
  unfold newsA at h
  split at h
  · rename_i t l o
    split at h
    · rename_i hty
      subst hty
      simp only [Option.some.injEq] at h
      subst h
      simp only [Rep] at hr
      obtain ⟨a, cap, rfl, hcap, hsl, _⟩ := hr
      rcases hsl with rfl | ⟨b, off, rfl, cells, h1, h2, h3⟩
      · refine ⟨[], ⟨by simp, rfl, hd, fun w' _ => ?_⟩, rfl⟩
        cases a with
        | none => exact run_firstCells_none _ _ _ _ _
        | some a => exact run_firstCells_some w' t.size 0 a _ _ [] (by simp) (by simp)
      · refine ⟨cells, ⟨flat_length h1, rfl, hd, fun w' hc => ?_⟩, h1⟩
        refine run_firstCells_some w' t.size l.length _ _ _ cells (flat_length h1) (fun j v hj => ?_)
        rw [add_none, hc]
        exact h3 j v hj
    · simp at h
  · rename_i s
    split at h
    · rename_i hty
      subst hty
      simp only [Option.some.injEq] at h
      subst h
      simp only [Rep] at hr
      subst hr
      refine ⟨s.map fun c => Value.int .u8 (UInt8.toNat c), ⟨by simp [Ty.size], ?_, hd, fun w' _ => ?_⟩, ?_⟩
      · simp only [strV, Builtin.lenOf, strV_size]; rfl
      · have := Lib.run_firstCells_string (P := P) w' Ty.u8.size ⟨s.toArray⟩
        rw [strV_size] at this
        simp only [strV, this]
        congr 1
      · clear hd ht
        induction s with
        | nil => rfl
        | cons c s ih => exact ⟨[_], _, rfl, by simp only [RepD], ih⟩
    · simp at h
  · simp at h

/-- A row's elements, as what is appended. -/
theorem row_gives {P : Program} {B0 : Base} {w : World} {S : Seal} {H : Hp} {e t2 : TypeId} {ty : Ty} {l : List ty.den} {b : Nat} {v : Value} (hi : Inv B0 w S H) (hb : H b = some (.row e ty l)) (ht : tyOf P 8 t2 = some (.sl ty)) (hr : Rep w S (.rs b ty.size l.length) v) :
    ∃ news, Gives P w ty.size t2 v l.length news ∧ Flat (RepD w S ty) l news := by
  obtain ⟨d, _, hd, _⟩ := tyOf_sl ht
  obtain ⟨hB, hS, arr, hh, cs, rest, hcs, hfl⟩ := hi.obj b _ hb
  simp only [Rep] at hr
  obtain ⟨cap, rfl, hcap, _⟩ := hr
  refine ⟨cs, ⟨flat_length hfl, rfl, ⟨_, hd, by simp⟩, fun w' hc => ?_⟩, hfl⟩
  refine run_firstCells_some w' ty.size l.length _ _ _ cs (flat_length hfl) (fun j v hj => ?_)
  rw [add_none, hc, Nat.zero_add, cell_of_heap hh, ← Array.getElem?_toList, hcs]
  have : j < cs.length := by
    rcases Nat.lt_or_ge j cs.length with h | h
    · exact h
    · rw [List.getElem?_eq_none h] at hj; simp at hj
  rw [List.getElem?_append_left this]; exact hj
theorem nilCmp_sound {P : Program} {w : World} {S : Seal} {op : BinOp} {t : TypeId} {a : AVal} {u : Value} {x : Operand} {y : Operand} {n c : Nat} {k : AVal → Prop} (h : @nilCmp P op t a ⟨k⟩) (hu : Rep w S a u) :
    ∃ r v, (do eqGuard op t x y u (.slice none n c); binOp op t u (.slice none n c) : Sem Value).run P w = .ok v w ∧ Rep w S r v ∧ k r := by
  have key : ∀ (e : TypeId) (p : Option Addr) (n' c' : Nat), P.underlying t = some (.slice e) → @wv (eqOp op p.isNone) ⟨k⟩ → ∃ r v, (do eqGuard op t x y (.slice p n' c') (.slice none n c); binOp op t (.slice p n' c') (.slice none n c) : Sem Value).run P w = .ok v w ∧ Rep w S r v ∧ k r := by
    intro e p n' c' hte hk
    have hrun : (Op.equal t (.slice p n' c') (.slice none n c)).run P w = .ok p.isNone w := by
      have : ∀ d : Nat, (Op.equalIn (d + 1) t (.slice p n' c') (.slice none n c)).run P w = .ok p.isNone w := by
        intro d
        cases p <;> simp [Op.equalIn, run_underlying hte]
      exact this 9999
    obtain ⟨r, hr, hk⟩ := wv_some hk
    unfold eqOp at hr
    split at hr
    · simp only [Option.some.injEq] at hr
      subst hr
      exact ⟨_, .bool p.isNone, by simp [eqGuard, binOp, Sem.run_bind, hrun], by simp only [Rep], hk⟩
    · simp only [Option.some.injEq] at hr
      subst hr
      exact ⟨_, .bool (!p.isNone), by simp [eqGuard, binOp, Sem.run_bind, hrun], by simp only [Rep], hk⟩
    · simp at hr
  unfold nilCmp at h
  split at h
  · rename_i b sz n'
    obtain ⟨ht, hk⟩ := h
    split at ht
    · rename_i ty hty
      obtain ⟨e, m, he, _⟩ := tyOf_sl hty
      simp only [Rep] at hu
      obtain ⟨cap, rfl, _⟩ := hu
      exact key e _ _ _ he hk
    · exact ht.elim
  · rename_i ty l o
    obtain ⟨ht, hk⟩ := h
    obtain ⟨e, m, he, _⟩ := tyOf_sl ht
    simp only [Rep] at hu
    obtain ⟨p, cap, rfl, hcap, hsl, _⟩ := hu
    refine key e p _ _ he (hk _ fun hp => ?_)
    rcases hsl with h | ⟨b, off, rfl, _⟩
    · exact h
    · simp at hp
  · exact h.elim
/-! ### conversions that make memory, or mark it -/
theorem hp_set_none {B0 : Base} {w : World} {S : Seal} {H : Hp} (hi : Inv B0 w S H) : H.set w.heap.size none = H := by
  funext c
  simp only [Hp.set]
  split
  · rename_i h; subst h; exact ((hi.top _ (Nat.le_refl _)).2).symm
  · rfl

theorem bytes_sound {P : Program} {B0 : Base} {w : World} {S : Seal} {H : Hp} {s d : TypeId} {l : List UInt8} (hi : Inv B0 w S H) (hs : P.underlying s = some .string) (hd : tyOf P 8 d = some (.sl .u8)) :
    ∃ v w' S', (convert s d (strV l)).run P w = .ok v w' ∧ Ext B0 S S' w w' ∧ Inv B0 w' S' H ∧ Rep w' S' (.sl .u8 l .no) v := by
  obtain ⟨e, m, hd', he⟩ := tyOf_sl hd
  have hrun := run_bytes_of_string (P := P) w s d e ⟨l.toArray⟩ hs hd' (tyOf_u8 he)
  have hge := grownCap_ge w (ByteArray.mk l.toArray).size 0 e
  generalize grownCap w (ByteArray.mk l.toArray).size 0 e = c at hrun hge
  rw [strV_size] at hge
  have hnew : (w.drew.alloc (.cells (bytesRow ⟨l.toArray⟩ c) e ((bytesRow ⟨l.toArray⟩ c).size, (bytesRow ⟨l.toArray⟩ c).size + 1))).heap[w.heap.size]? = _ := alloc_heap_new w.drew (.cells (bytesRow ⟨l.toArray⟩ c) e ((bytesRow ⟨l.toArray⟩ c).size, (bytesRow ⟨l.toArray⟩ c).size + 1))
  have ex := Ext.fresh hi (Ext.drew B0 S w) rfl (.cells (bytesRow ⟨l.toArray⟩ c) e ((bytesRow ⟨l.toArray⟩ c).size, (bytesRow ⟨l.toArray⟩ c).size + 1)) l.length
  have hin := Inv.fresh hi (Ext.drew B0 S w) rfl (fun _ => rfl) (.cells (bytesRow ⟨l.toArray⟩ c) e ((bytesRow ⟨l.toArray⟩ c).size, (bytesRow ⟨l.toArray⟩ c).size + 1)) l.length none (by simp)
  rw [hp_set_none hi] at hin
  refine ⟨_, _, _, hrun, ex, hin, ?_⟩
  simp only [Rep]
  refine ⟨some ⟨w.heap.size, 0, none⟩, c, by rw [strV_size], hge, .inr ⟨_, _, rfl, l.map fun b => Value.int .u8 b.toNat, ?_, by simp [Seal.set], fun j v hj => ?_⟩, trivial⟩
  · clear hrun hge hnew ex hin
    induction l with
    | nil => rfl
    | cons b l ih => exact ⟨[_], _, rfl, by simp only [RepD], ih⟩
  · rw [cell_of_heap hnew, Nat.zero_add]
    have hjl : j < l.length := by
      rcases Nat.lt_or_ge j l.length with h | h
      · exact h
      · rw [List.getElem?_eq_none (by simpa using h)] at hj; simp at hj
    rw [← hj, ← Array.getElem?_toList]
    simp [bytesRow, List.getElem?_append_left, hjl]

theorem marked_sound {P : Program} {B0 : Base} {w : World} {S : Seal} {H : Hp} {d : TypeId} {l : List UInt8} {v : Value} (hi : Inv B0 w S H) (hd : tyOf P 8 d = some (.sl .u8)) (hl : l ≠ []) (hv : Rep w S (.sl .u8 l (.lit B0)) v) :
    ∃ w', (convert d d v).run P w = .ok v w' ∧ Ext B0 S S w w' ∧ Inv B0 w' S H := by
  obtain ⟨e, m, hd', he⟩ := tyOf_sl hd
  simp only [Rep] at hv
  obtain ⟨a, cap, rfl, hcap, hsl, hown⟩ := hv
  obtain ⟨hcl, b, rfl, hB, ty, hsh⟩ := hown
  obtain ⟨b', off, hbb, cells, h1, h2, h3⟩ := hsl.resolve_left hl
  simp only [Option.some.injEq, Addr.mk.injEq] at hbb
  obtain ⟨rfl, rfl, _⟩ := hbb
  have hcells := flat_length h1
  simp only [Ty.size, Nat.mul_one] at hcells hsh
  have hheap : ∃ arr fz, w.heap[b]? = some (.cells arr ty fz) ∧ arr.size = cap := by
    unfold World.shape? at hsh
    split at hsh
    · rename_i c elem fz hc
      simp only [Option.some.injEq, Prod.mk.injEq] at hsh
      obtain ⟨rfl, hsz⟩ := hsh
      exact ⟨c, fz, hc, hsz⟩
    · simp at hsh
  obtain ⟨arr, fz, hh, hsz⟩ := hheap
  have hlt := lt_of_heap hh
  have hfz : ∃ fz', (w.freeze ⟨b, cap, none⟩ 1) = World.withRow w b arr ty fz' := by
    unfold World.freeze World.withRow
    rw [if_neg (by decide)]
    refine ⟨if fz.1 == fz.2 then (cap, cap + 1) else (min fz.1 cap, max fz.2 (cap + 1)), ?_⟩
    congr 1
    exact modify_eq_set _ _ _ _ hh
  obtain ⟨fz', hfz⟩ := hfz
  have ex : Ext B0 S S w (World.withRow w b arr ty fz') := by
    refine ⟨⟨rfl, rfl, rfl, by simp [World.withRow], fun k hk => withRow_other (by omega)⟩, fun _ => Nat.le_refl _, fun c j hj => ?_, fun c y hy => ?_⟩
    · by_cases hc : c = b
      · subst hc; rw [cell_of_heap (withRow_heap hh), cell_of_heap hh]
      · exact cell_of_other (withRow_other hc)
    · by_cases hc : c = b
      · subst hc; rw [← hy]; simp [World.shape?, withRow_heap hh, hh]
      · rw [shape_of_other (withRow_other hc)]; exact hy
  refine ⟨World.withRow w b arr ty fz', ?_, ex, by simp [World.withRow]; exact hi.base, fun c hc => ?_, fun c y hy => ?_, hi.tab.ext ex⟩
  · have hsh' : w.shape? b = some (ty, cap) := hsh
    simp only [convert, Sem.run_bind, run_underlying hd', Result.andThen_ok, run_underlying (tyOf_u8 he), beq_self_eq_true, markStringish, run_shape, hsh', run_freeze, Sem.run_pure, hfz]
  · exact hi.top c (by simpa [World.withRow] using hc)
  · obtain ⟨k1, k2⟩ := hi.obj c y hy
    refine ⟨k1, ?_⟩
    by_cases hc : c = b
    · subst hc
      have hpos : 0 < l.length := List.length_pos_iff.2 hl
      cases y with
      | cells ty' vs => obtain ⟨_, _, k3, _⟩ := k2; omega
      | iter s pos => have := k2.1; omega
      | smap es k => have := k2.1; omega
      | row ty' t l' => have := k2.1; omega
      | grow ty' t n =>
        obtain ⟨g1, arr', fz0, g2, g3, _⟩ := k2
        rw [hh] at g2
        simp only [Option.some.injEq, Obj.cells.injEq] at g2
        obtain ⟨rfl, rfl, rfl⟩ := g2
        exact ⟨g1, arr, fz', withRow_heap hh, g3, .inr (.inr (by omega))⟩
    · exact k2.keep ex (withRow_other hc) rfl

theorem eqP_sound {P : Program} {w : World} {t te : TypeId} {j : TypeInfo} {p q : Option Addr} {b : Bool} (hp : P.underlying t = some (.pointer te)) (hte : P.info? te = some j) (hne : j.size ≠ 0) (h : eqP p q = some b) :
    (Op.equal t (.pointer p) (.pointer q)).run P w = .ok b w := by
  have key : ∀ d : Nat, (Op.equalIn (d + 1) t (.pointer p) (.pointer q)).run P w = .ok b w := by
    intro d
    unfold eqP at h
    split at h
    · cases h; simp [Op.equalIn, run_underlying hp]
    · cases h; simp [Op.equalIn, run_underlying hp]
    · cases h; simp [Op.equalIn, run_underlying hp]
    · split at h
      · rename_i e
        cases h; subst e
        simp [Op.equalIn, run_underlying hp, sizeOf, typeInfo, hte, run_sameAddr_same]
      · simp at h
  simp [Op.equal, Op.maxDepth, key 9999]

theorem eqL_sound {P : Program} {w : World} {S : Seal} {d : Nat} {xs ys : Array Value} : ∀ {fs : List Field} {ts : List Ty} {k : Nat} {cs ds : List AVal} {b : Bool}, eqFlat P k fs ts = true → eqL ts cs ds = some b → RepL w S cs (xs.toList.drop k) → RepL w S ds (ys.toList.drop k) →
    (Op.eqFields (d + 1) xs ys fs).run P w = .ok b w
  | [], [], k, cs, ds, b, hf, h, h1, h2 => by
    have hb : b = true := by
      cases cs with
      | nil => cases ds with
        | nil => simpa [eqL, eq_comm] using h
        | cons _ _ => simp [eqL] at h
      | cons _ _ => simp [eqL] at h
    subst hb
    simp [Op.eqFields]
  | [], _ :: _, k, cs, ds, b, hf, h, h1, h2 => by simp [eqFlat] at hf
  | _ :: _, [], k, cs, ds, b, hf, h, h1, h2 => by simp [eqFlat] at hf
  | f :: fs, t :: ts, k, cs, ds, b, hf, h, h1, h2 => by
    simp only [eqFlat, Bool.and_eq_true, bne_iff_ne, ne_eq, beq_iff_eq] at hf
    obtain ⟨⟨⟨hn, ho⟩, hu⟩, hf⟩ := hf
    have hag : ∀ dd, P.underlying f.type = some dd → (∃ kk, dd = .int kk) ∨ dd = .string ∨ dd = .bool → (isAgg f.type).run P w = .ok false w := by
      rintro dd hdd (⟨kk, rfl⟩ | rfl | rfl) <;> simp [isAgg, run_underlying hdd]
    have step : ∀ (c e : AVal) (r r' : List AVal) (b1 b2 : Bool), RepL w S (c :: r) (xs.toList.drop k) → RepL w S (e :: r') (ys.toList.drop k) → (isAgg f.type).run P w = .ok false w → eqL ts r r' = some b2 →
        (∀ u v, Rep w S c u → Rep w S e v → (Op.equalIn (d + 1) f.type u v).run P w = .ok b1 w) → (Op.eqFields (d + 1) xs ys (f :: fs)).run P w = .ok (b1 && b2) w := by
      intro c e r r' b1 b2 h1 h2 hagg hb2 hb1
      simp only [RepL] at h1 h2
      obtain ⟨u, us, e1, k1, k2⟩ := h1
      obtain ⟨v, vs, e2, m1, m2⟩ := h2
      have hx : xs[k]? = some u := by
        have := congrArg (fun l : List Value => l[0]?) e1
        simpa [List.getElem?_drop] using this
      have hy : ys[k]? = some v := by
        have := congrArg (fun l : List Value => l[0]?) e2
        simpa [List.getElem?_drop] using this
      have e1' : xs.toList.drop (k + 1) = us := by rw [← List.drop_drop, e1]; rfl
      have e2' : ys.toList.drop (k + 1) = vs := by rw [← List.drop_drop, e2]; rfl
      rw [← e1'] at k2
      rw [← e2'] at m2
      have hp1 : (part f.type xs f.offset).run P w = .ok u w := by
        simp only [part, Sem.run_bind, hagg, Result.andThen_ok, Bool.false_eq_true, if_false, ho, hx, Sem.run_pure]
      have hp2 : (part f.type ys f.offset).run P w = .ok v w := by
        simp only [part, Sem.run_bind, hagg, Result.andThen_ok, Bool.false_eq_true, if_false, ho, hy, Sem.run_pure]
      have ih := eqL_sound (d := d) hf hb2 k2 m2
      rw [Op.eqFields, if_pos hn]
      simp only [Sem.run_bind, hp1, hp2, hb1 u v k1 m1, Result.andThen_ok]
      cases b1
      · simp
      · simpa using ih
    unfold eqL at h
    split at h
    · simp at *
    · rename_i heq1
      simp only [List.cons.injEq] at heq1
      obtain ⟨rfl, rfl⟩ := heq1
      split at h
      · rename_i hk
        subst hk
        simp only [Option.map_eq_some_iff] at h
        obtain ⟨b2, hb2, rfl⟩ := h
        split at hu
        all_goals first | (simp at hu; done) | skip
        all_goals first | (rename_i hz; simp at hz; done) | skip
        rename_i hq _
        refine step _ _ _ _ _ _ h1 h2 (hag _ hq (.inl ⟨_, rfl⟩)) hb2 fun u v hu hv => ?_
        simp only [Rep] at hu hv
        subst hu; subst hv
        exact run_equalIn_int w d f.type _ _ _ _ hq
      · simp at h
    · rename_i heq1
      simp only [List.cons.injEq] at heq1
      obtain ⟨rfl, rfl⟩ := heq1
      simp only [Option.map_eq_some_iff] at h
      obtain ⟨b2, hb2, rfl⟩ := h
      split at hu
      all_goals first | (simp at hu; done) | skip
      all_goals first | (rename_i hz; simp at hz; done) | skip
      rename_i hq _
      refine step _ _ _ _ _ _ h1 h2 (hag _ hq (.inl ⟨_, rfl⟩)) hb2 fun u v hu hv => ?_
      simp only [Rep] at hu hv
      subst hu; subst hv
      refine (run_equalIn_int (P := P) w d f.type .u8 _ _ _ hq).trans ?_
      congr 1
      rw [Bool.eq_iff_iff]
      simp only [beq_iff_eq, ← UInt8.toNat_inj]
      exact Int.ofNat_inj
    · rename_i heq1
      simp only [List.cons.injEq] at heq1
      obtain ⟨rfl, rfl⟩ := heq1
      simp only [Option.map_eq_some_iff] at h
      obtain ⟨b2, hb2, rfl⟩ := h
      split at hu
      all_goals first | (simp at hu; done) | skip
      all_goals first | (rename_i hz; simp at hz; done) | skip
      rename_i hq _
      refine step _ _ _ _ _ _ h1 h2 (hag _ hq (.inr (.inl rfl))) hb2 fun u v hu hv => ?_
      simp only [Rep] at hu hv
      subst hu; subst hv
      refine (run_equalIn_string (P := P) w d f.type _ _ hq).trans ?_
      simp only [ByteArray.toList_eq]
    · rename_i heq1
      simp only [List.cons.injEq] at heq1
      obtain ⟨rfl, rfl⟩ := heq1
      simp only [Option.map_eq_some_iff] at h
      obtain ⟨b2, hb2, rfl⟩ := h
      split at hu
      all_goals first | (simp at hu; done) | skip
      all_goals first | (rename_i hz; simp at hz; done) | skip
      rename_i hq _
      refine step _ _ _ _ _ _ h1 h2 (hag _ hq (.inr (.inr rfl))) hb2 fun u v hu hv => ?_
      simp only [Rep] at hu hv
      subst hu; subst hv
      exact run_equalIn_bool' w d f.type _ _ hq
    · simp at h

theorem optI_sound {P : Program} {σ : Env} {w : World} {S : Seal} {a : Act} (he : EnvAt w S σ a.tmps) {x : Option Operand} {n : Option Int} (h : optI P σ x = some n) : OptIs n (x.map a.eval) := by
  cases x with
  | none => simp only [optI, Option.some.injEq] at h; subst h; rfl
  | some x =>
    simp only [optI, Option.map_eq_some_iff, Option.bind_eq_some_iff] at h
    obtain ⟨m, ⟨v, h1, h2⟩, rfl⟩ := h
    obtain ⟨k, hk⟩ := asI_rep h2 (ev_sound h1 he)
    exact ⟨k, congrArg some hk⟩

theorem sliceData_sound {P : Program} {B0 : Base} {w : World} {S : Seal} {H : Hp} {ts : Array TypeId} {tt : TypeId} {l : List UInt8} {o : Own} {u : Value} (hp : PtrOk P tt) (ho : ∃ b, o = .tok b) (hu : Rep w S (.sl .u8 l o) u) (hi : Inv B0 w S H) :
    ∃ v w' S', (Builtin.unsafeSliceData_ ts tt #[u]).run P w = .ok v w' ∧ Ext B0 S S' w w' ∧ Inv B0 w' S' H ∧ Rep w' S' (.dat l o) v := by
  obtain ⟨te, j, hp, _, _⟩ := hp.ex
  obtain ⟨b, rfl⟩ := ho
  simp only [Rep, OwnAt] at hu
  obtain ⟨ad, cap, rfl, h1, h2, rfl, ty, hsh⟩ := hu
  by_cases hc : cap = 0
  · subst hc
    have hl0 : l = [] := List.eq_nil_of_length_eq_zero (by omega)
    subst hl0
    have ex := Ext.fresh hi (Ext.refl B0 S w) rfl (.view ⟨b, 0, none⟩ te) 0
    have hin := Inv.fresh hi (Ext.refl B0 S w) rfl (fun _ => rfl) (.view ⟨b, 0, none⟩ te) 0 none (by simp)
    rw [hp_set_none hi] at hin
    exact ⟨_, _, _, Lib.run_unsafeSliceData_zero w ts tt te hp _ _ _ hsh, ex, hin, by simp only [Rep]; exact ⟨_, rfl, .inl trivial⟩⟩
  · refine ⟨_, w, S, Lib.run_unsafeSliceData_row w ts tt _ _ cap hc, Ext.refl _ _ _, hi, ?_⟩
    simp only [Rep]
    refine ⟨_, rfl, ?_⟩
    rcases h2 with h2 | ⟨b', off, hbb, hrow⟩
    · exact .inl h2
    · simp only [Option.some.injEq, Addr.mk.injEq] at hbb
      obtain ⟨rfl, rfl, _⟩ := hbb
      exact .inr ⟨b, rfl, rfl, hrow⟩

theorem unsafeString_sound {P : Program} {B0 : Base} {w : World} {S : Seal} {H : Hp} {t it tt : TypeId} {l : List UInt8} {o : Own} {u : Value} (hd : DatOk P H l o t) (h63 : l.length ≤ 9223372036854775807) (hu : Rep w S (.dat l o) u) (hi : Inv B0 w S H) :
    ∃ w', (Builtin.unsafeString_ #[t, it] tt #[u, .int .i64 l.length]).run P w = .ok (strV l) w' ∧ Ext B0 S S w w' ∧ Inv B0 w' S H := by
  simp only [Rep] at hu
  obtain ⟨p, rfl, hu⟩ := hu
  by_cases hl : l = []
  · subst hl
    exact ⟨w, Lib.run_unsafeString_none w t it tt p, Ext.refl _ _ _, hi⟩
  · obtain ⟨b, e, k, rfl, hb, hk, ht, hc⟩ := hd.resolve_left hl
    obtain ⟨b', hbb, rfl, cells, h1, h2, h3⟩ := hu.resolve_left hl
    cases hbb
    obtain ⟨hB, hS, arr, fz, hh, hlen, hfro⟩ := hi.obj b _ hb
    simp only [Ty.size, Nat.mul_one] at hS hlen hfro
    have hcells := flat_u8 h1
    have hrun := Lib.run_unsafeString_row (P := P) w t it tt e ht hc b arr.size (by simp [World.shape?, hh]) l hl (by omega) h63 (fun j x hj => by
      rw [add_none]
      refine h3 j _ ?_
      rw [hcells, List.getElem?_map, hj]
      rfl)
    have hfz : ∃ fz', (w.freeze ⟨b, 0, none⟩ l.length) = World.withRow w b arr e fz' ∧ (fz'.1 = fz'.2 ∨ fz'.2 ≤ k ∨ arr.size ≤ k) := by
      have hpos : 0 < l.length := List.length_pos_iff.2 hl
      unfold World.freeze World.withRow
      rw [if_neg (by simpa using hl)]
      refine ⟨if fz.1 == fz.2 then (0, 0 + l.length) else (min fz.1 0, max fz.2 (0 + l.length)), ?_, ?_⟩
      · congr 1
        exact modify_eq_set _ _ _ _ hh
      · split
        · simp only; omega
        · rename_i hne
          simp only [beq_iff_eq] at hne
          simp only; omega
    obtain ⟨fz', hfz, hfro'⟩ := hfz
    have ex : Ext B0 S S w (World.withRow w b arr e fz') := by
      refine ⟨⟨rfl, rfl, rfl, by simp [World.withRow], fun k hk => withRow_other (by omega)⟩, fun _ => Nat.le_refl _, fun c j hj => ?_, fun c y hy => ?_⟩
      · by_cases hc : c = b
        · subst hc; rw [cell_of_heap (withRow_heap hh), cell_of_heap hh]
        · exact cell_of_other (withRow_other hc)
      · by_cases hc : c = b
        · subst hc; rw [← hy]; simp [World.shape?, withRow_heap hh, hh]
        · rw [shape_of_other (withRow_other hc)]; exact hy
    refine ⟨World.withRow w b arr e fz', by rw [hrun, hfz]; rfl, ex, by simp [World.withRow]; exact hi.base, fun c hc => ?_, fun c y hy => ?_, hi.tab.ext ex⟩
    · exact hi.top c (by simpa [World.withRow] using hc)
    · obtain ⟨k1, k2⟩ := hi.obj c y hy
      refine ⟨k1, ?_⟩
      by_cases hc : c = b
      · subst hc
        rw [hb] at hy
        cases hy
        exact ⟨by simpa [Ty.size] using hS, arr, fz', withRow_heap hh, by simpa [Ty.size] using hlen, by simpa [Ty.size] using hfro'⟩
      · exact k2.keep ex (withRow_other hc) rfl

theorem calls_sound {P : Program} {B0 : Base} {o : Oper} {a : Act} {w : World} {S : Seal} {H : Hp} {K : AVal → Hp → Prop} {Q : Exit → Act → World → Prop} {g : FuncId} {vs : Array Value} {xs : List AVal}
    (hr : (execOp a.eval o).run P w = (callFunc g vs).run P w) (hf : FnC P B0 g xs H K) (hi : Inv B0 w S H) (ha : RepL w S xs vs.toList) : o.wp P a w (OpPost B0 o a w S K) Q := by
  obtain ⟨⟨fn, h1, h2, h3⟩, hc⟩ := hf
  have : (callFunc g vs).run P w = .ok (.enter g vs) w := by
    simp only [callFunc, Sem.run_bind, run_program, Result.andThen_ok, h1, h2, h3, Bool.false_eq_true, if_false, Sem.run_pure]
  unfold Oper.wp
  rw [hr, this, Oper.upon_enter]
  refine (hc w S vs hi ha).mono ?_
  rintro e w' ⟨v, x, S', H', rfl, k1, k2, k3, k4⟩
  exact ⟨v, x, S', H', rfl, k1, k2, k3, k4⟩

theorem flat_rep {α : Type} {R : α → List Value → Prop} {x : α} {v : Value} (h : R x [v]) : ∀ n : Nat, Flat R (List.replicate n x) (List.replicate n v)
  | 0 => rfl
  | n + 1 => ⟨[v], _, rfl, h, flat_rep h n⟩
theorem wClo_spec {σ : Env} {c : Callee} {g : FuncId} {cs : List AVal} (h : wClo σ c = some (g, cs)) : ∃ t, c = .value (.tmp t) ∧ σ.get t = some (.fn g cs) := by
  unfold wClo at h
  split at h
  · rename_i t
    split at h
    · rename_i g' cs' hg
      simp only [Option.some.injEq, Prod.mk.injEq] at h
      obtain ⟨rfl, rfl⟩ := h
      exact ⟨t, rfl, hg⟩
    · simp at h
  · simp at h
theorem wCall_sound {P : Program} {B0 : Base} {o : Oper} {a : Act} {w : World} {S : Seal} {H : Hp} {σ : Env} {K : AVal → Hp → Prop} {Q : Exit → Act → World → Prop} {c : Call} (ho : o.op = .call c)
    (h : @wCall P B0 c o.type σ H ⟨K⟩) (hi : Inv B0 w S H) (he : EnvAt w S σ a.tmps) : o.wp P a w (OpPost B0 o a w S K) Q := by
  obtain ⟨callee, args, tys⟩ := c
  unfold wCall at h
  simp only at h
  cases hv : evArgs P σ tys.toList args.toList with
  | none => rw [hv] at h; exact h.elim
  | some xs =>
    rw [hv] at h
    simp only at h
    have hrep := evArgs_sound he hv
    split at h
    · -- len
      split at h
      · rename_i t ts x htys
        simp only [RepL] at hrep
        obtain ⟨u, us, e1, k1, rfl⟩ := hrep
        have hargs : args.map a.eval = #[u] := by apply Array.ext'; simpa using e1
        have ht0 : tys[0]? = some t := by rw [← Array.getElem?_toList, htys]; rfl
        have hrun : ∀ r, (Builtin.len_ tys o.type #[u]).run P w = .ok r w → (execOp a.eval o).run P w = .ok (.value r) w := by
          intro r hr
          unfold execOp
          simp only [ho, resolve, Sem.run_bind, Sem.run_pure, Result.andThen_ok, invoke, builtin, hargs, hr]
        unfold wLen at h
        split at h
        · rename_i s
          obtain ⟨ht, hk⟩ := h
          simp only [Rep] at k1
          subst k1
          refine op_pure (hrun (.int .i64 s.length) ?_) hi (by simp only [Rep]) hk
          simp only [Builtin.len_, ht0, List.getElem?_toArray, List.getElem?_cons_zero, Sem.run_bind, run_underlying (tyOf_str ht), Result.andThen_ok, strV, strV_size, goInt, Sem.run_pure]
        · rename_i ty l o'
          obtain ⟨ht, hk⟩ := h
          obtain ⟨e, m, he', _⟩ := tyOf_sl ht
          simp only [Rep] at k1
          obtain ⟨ad, cap, rfl, _⟩ := k1
          refine op_pure (hrun (.int .i64 l.length) ?_) hi (by simp only [Rep]) hk
          simp only [Builtin.len_, ht0, List.getElem?_toArray, List.getElem?_cons_zero, Sem.run_bind, run_underlying he', Result.andThen_ok, goInt, Sem.run_pure]
        · rename_i b sz n
          obtain ⟨ht, hk⟩ := h
          split at ht
          · rename_i ty hty
            obtain ⟨e, m, he', _⟩ := tyOf_sl hty
            simp only [Rep] at k1
            obtain ⟨cap, rfl, _⟩ := k1
            refine op_pure (hrun (.int .i64 n) ?_) hi (by simp only [Rep]) hk
            simp only [Builtin.len_, ht0, List.getElem?_toArray, List.getElem?_cons_zero, Sem.run_bind, run_underlying he', Result.andThen_ok, goInt, Sem.run_pure]
          · exact ht.elim
        · exact h.elim
      · exact h.elim
    · -- append
      split at h
      · rename_i t t2 s x htys
        simp only [RepL] at hrep
        obtain ⟨u, us, e1, k1, v, vs, rfl, k2, rfl⟩ := hrep
        have hargs : args.map a.eval = #[u, v] := by apply Array.ext'; simpa using e1
        have htys' : tys = #[t, t2] := by apply Array.ext'; simpa using htys
        have hrun : ∀ r w', (Builtin.append_ #[t, t2] o.type #[u, v]).run P w = .ok r w' → (execOp a.eval o).run P w = .ok (.value r) w' := by
          intro r w' hr
          unfold execOp
          simp only [ho, resolve, Sem.run_bind, Sem.run_pure, Result.andThen_ok, invoke, builtin, hargs, htys', hr]
        unfold wAppend at h
        split at h
        · rename_i ty l o'
          cases hn : newsA ty x with
          | none =>
            rw [hn] at h
            simp only at h
            unfold wAppR at h
            split at h
            · rename_i b sz n
              split at h
              · rename_i e ty' l2 hHb
                obtain ⟨hte, rfl, rfl, hex, hel, hu2, hb, h63, hK⟩ := h
                subst hte
                obtain ⟨news, hg, hfl⟩ := row_gives hi hHb hu2 k2
                by_cases hx : l2 = []
                · rw [if_pos hx] at hK
                  obtain ⟨r, w', S', H', o2, m1, m2, m3, m4, m5⟩ := append_sound (tt := o.type) hi k1 hel hg hfl (.inl hx) hb h63
                  refine op_value (hrun r w' m1) m2 m3 m4 ?_
                  rcases m5 with ⟨rfl, rfl, rfl⟩ | ⟨hx', _⟩
                  · simpa using hK
                  · exact absurd hx hx'
                · rw [if_neg hx] at hK
                  obtain ⟨r, w', m1, m2, m3, m4⟩ := append_new_sound (tt := o.type) hi k1 hex hel hg hfl hx hb h63
                  exact op_value (hrun r w' m1) m2 m3 m4 (hK _ (hi.top _ (Nat.le_refl _)).2)
              · exact h.elim
            · exact h.elim
          | some xs' =>
            rw [hn] at h
            obtain ⟨hel, hu2, hb, h63, hK⟩ := h
            obtain ⟨news, hg, hfl⟩ := newsA_gives hn hu2 k2
            by_cases hx : xs' = []
            · rw [if_pos hx] at hK
              obtain ⟨r, w', S', H', o2, m1, m2, m3, m4, m5⟩ := append_sound (tt := o.type) hi k1 hel hg hfl (.inl hx) hb h63
              refine op_value (hrun r w' m1) m2 m3 m4 ?_
              rcases m5 with ⟨rfl, rfl, rfl⟩ | ⟨hx', _⟩
              · simpa using hK
              · exact absurd hx hx'
            · rw [if_neg hx] at hK
              rcases hK with hK | ⟨hex, hK⟩
              · obtain ⟨r, w', S', H', o2, m1, m2, m3, m4, m5⟩ := append_sound (tt := o.type) hi k1 hel hg hfl (.inr hK.1) hb h63
                refine op_value (hrun r w' m1) m2 m3 m4 ?_
                rcases m5 with ⟨rfl, rfl, rfl⟩ | ⟨hx', b, e, rfl, hb', he', rfl⟩
                · exact absurd rfl hx
                · exact hK.2 b e hb' he'
              · obtain ⟨r, w', m1, m2, m3, m4⟩ := append_new_sound (tt := o.type) hi k1 hex hel hg hfl hx hb h63
                exact op_value (hrun r w' m1) m2 m3 m4 (hK _ (hi.top _ (Nat.le_refl _)).2)
        · rename_i b sz n
          split at h
          · rename_i ty e ty' l hty hHb
            obtain ⟨hte, h⟩ := h
            subst hte
            cases hn : newsA ty' x with
            | none => rw [hn] at h; exact h.elim
            | some xs' =>
              rw [hn] at h
              obtain ⟨rfl, rfl, rfl, hel, hu2, hb, h63, hK⟩ := h
              obtain ⟨news, hg, hfl⟩ := newsA_gives hn hu2 k2
              obtain ⟨r, w', b', m1, m2, m3, m4, m5⟩ := append_row_sound (tt := o.type) hi hHb k1 hel hg hfl hb h63
              exact op_value (hrun r w' m1) m2 m4 m5 (hK b' m3)
          · exact h.elim
        · exact h.elim
      · exact h.elim
    · -- clear
      split at h
      · rename_i t b sz i n htys
        simp only [RepL] at hrep
        obtain ⟨u, us, e1, k1, rfl⟩ := hrep
        have hargs : args.map a.eval = #[u] := by apply Array.ext'; simpa using e1
        have htys' : tys = #[t] := by apply Array.ext'; simpa using htys
        split at h
        · rename_i ty e ty' l hty hHb
          obtain ⟨rfl, hsz, rfl, hm, hin, hK⟩ := h
          simp only [Rep] at k1
          obtain ⟨cap, rfl⟩ := k1
          obtain ⟨w', m1, m2, m3⟩ := clear_sound (P := P) (tt := o.type) (cap := cap) hi hHb hm hin hsz
          refine op_value (v := .tuple #[]) (w' := w') ?_ m2 m3 (by simp only [Rep, RepL]; exact ⟨_, rfl, rfl⟩) hK
          unfold execOp
          simp only [ho, resolve, Sem.run_bind, Sem.run_pure, Result.andThen_ok, invoke, builtin, hargs, htys', m1]
        · exact h.elim
      · exact h.elim
    · -- min
      split at h
      · rename_i x r
        obtain ⟨y, hy, hk⟩ := wv_some h
        simp only [RepL] at hrep
        obtain ⟨u, us, e1, k1, k2⟩ := hrep
        obtain ⟨v, m1, m2⟩ := minA_sound (P := P) r hy k1 k2
        refine op_pure (v := v) ?_ hi m2 hk
        unfold execOp
        have hl : (args.map a.eval).toList = u :: us := by simpa using e1
        simp only [ho, resolve, Sem.run_bind, Sem.run_pure, Result.andThen_ok, invoke, builtin, Builtin.min_, hl, m1]
      · exact h.elim
    · -- max
      split at h
      · rename_i x r
        obtain ⟨y, hy, hk⟩ := wv_some h
        simp only [RepL] at hrep
        obtain ⟨u, us, e1, k1, k2⟩ := hrep
        obtain ⟨v, m1, m2⟩ := maxA_sound (P := P) r hy k1 k2
        refine op_pure (v := v) ?_ hi m2 hk
        unfold execOp
        have hl : (args.map a.eval).toList = u :: us := by simpa using e1
        simp only [ho, resolve, Sem.run_bind, Sem.run_pure, Result.andThen_ok, invoke, builtin, Builtin.max_, hl, m1]
      · exact h.elim
    · -- unsafe.SliceData
      split at h
      · rename_i l b
        obtain ⟨hp, hk⟩ := h
        simp only [RepL] at hrep
        obtain ⟨u, us, e1, k1, rfl⟩ := hrep
        have hl : args.map a.eval = #[u] := by apply Array.ext'; simpa using e1
        obtain ⟨v, w', S', m1, m2, m3, m4⟩ := sliceData_sound (P := P) (ts := tys) hp ⟨b, rfl⟩ k1 hi
        refine op_value (v := v) (w' := w') ?_ m2 m3 m4 hk
        unfold execOp
        simp only [ho, resolve, Sem.run_bind, Sem.run_pure, Result.andThen_ok, invoke, builtin, hl, m1]
      · simp only [RepL] at hrep
        obtain ⟨u, us, e1, k1, rfl⟩ := hrep
        have hl : args.map a.eval = #[u] := by apply Array.ext'; simpa using e1
        simp only [Rep, OwnAt] at k1
        obtain ⟨_, _, rfl, _, _, rfl, rfl⟩ := k1
        refine op_pure (v := .pointer none) ?_ hi (by simp only [Rep]; exact ⟨none, rfl, .inl trivial⟩) h
        unfold execOp
        simp only [ho, resolve, Sem.run_bind, Sem.run_pure, Result.andThen_ok, invoke, builtin, hl, Lib.run_unsafeSliceData_nil]
      · exact h.elim
    · -- unsafe.String
      unfold wDat at h
      split at h
      · rename_i t t2 l ow n htys
        obtain ⟨rfl, h63, hd, hk⟩ := h
        simp only [RepL] at hrep
        obtain ⟨u, us, e1, k1, v, vs, rfl, k2, rfl⟩ := hrep
        simp only [Rep] at k2
        subst k2
        have hl : args.map a.eval = #[u, .int .i64 l.length] := by apply Array.ext'; simpa using e1
        have ht : tys = #[t, t2] := by apply Array.ext'; simpa using htys
        obtain ⟨w', m1, m2, m3⟩ := unsafeString_sound (P := P) (it := t2) (tt := o.type) hd h63 k1 hi
        refine op_value (v := strV l) (w' := w') ?_ m2 m3 (by simp only [Rep]) hk
        unfold execOp
        simp only [ho, resolve, Sem.run_bind, Sem.run_pure, Result.andThen_ok, invoke, builtin, hl, ht, m1]
      · exact h.elim
    · -- a call
      rename_i g
      unfold wFn at h
      rcases h with h | h
      · refine calls_sound (g := g) (vs := args.map a.eval) ?_ h hi (by simpa using hrep)
        unfold execOp
        simp only [ho, resolve, Act.eval, Deferred.ofValue, Sem.run_bind, Sem.run_pure, Result.andThen_ok, invoke]
        simp
      · obtain ⟨fn, e, hf, hname, hb, hn, he', hrun⟩ := h.ex
        obtain ⟨v, x, m1, m2, m3⟩ := hrun w S (args.map a.eval) (by simpa using hrep)
        refine op_pure (v := v) ?_ hi m2 m3
        unfold execOp
        simp only [ho, resolve, Act.eval, Deferred.ofValue, Sem.run_bind, Sem.run_pure, Result.andThen_ok, invoke, run_callFunc_extern hf hname hb hn he']
        simp [m1]
    · -- a call of what a slot holds
      cases hcl : wClo σ callee with
      | none => rw [hcl] at h; exact h.elim
      | some p =>
        rw [hcl] at h
        obtain ⟨g, cs⟩ := p
        simp only at h
        obtain ⟨t, rfl, hg⟩ := wClo_spec hcl
        obtain ⟨hlt, hr⟩ := he t _ hg
        simp only [Rep] at hr
        obtain ⟨us, hu, hr⟩ := hr
        have hev : a.eval (.tmp t) = .func (.func g) #[] us := hu
        have hall : RepL w S (xs ++ cs) (args.map a.eval ++ us).toList := by
          rw [Array.toList_append]
          exact RepL.append (by simpa using hrep) hr
        unfold wFn at h
        rcases h with h | h
        · refine calls_sound (g := g) (vs := args.map a.eval ++ us) ?_ h hi hall
          unfold execOp
          simp only [ho, resolve, hev, Deferred.ofValue, Sem.run_bind, Sem.run_pure, Result.andThen_ok, invoke]
          simp
        · obtain ⟨fn, e, hf, hname, hb, hn, he', hrun⟩ := h.ex
          obtain ⟨v, x, m1, m2, m3⟩ := hrun w S (args.map a.eval ++ us) hall
          refine op_pure (v := v) ?_ hi m2 m3
          unfold execOp
          simp only [ho, resolve, hev, Deferred.ofValue, Sem.run_bind, Sem.run_pure, Result.andThen_ok, invoke]
          simp [run_callFunc_extern hf hname hb hn he', m1]

theorem wop_sound {P : Program} {B0 : Base} {o : Oper} {a : Act} {w : World} {S : Seal} {H : Hp} {σ : Env} {K : AVal → Hp → Prop} {Q : Exit → Act → World → Prop}
    (h : @wop P B0 o σ H ⟨K⟩) (hi : Inv B0 w S H) (he : EnvAt w S σ a.tmps) : o.wp P a w (OpPost B0 o a w S K) Q := by
  unfold wop at h
  split at h
  · rename_i x ho
    obtain ⟨v, hv, hk⟩ := wv_some h
    exact op_pure (v := a.eval x) (by unfold execOp; simp only [ho]; rfl) hi (ev_sound hv he) hk
  · rename_i x ho
    obtain ⟨v, hv, hk⟩ := wv_some h
    exact op_pure (v := a.eval x) (by unfold execOp; simp only [ho]; rfl) hi (ev_sound hv he) hk
  · -- pick
    rename_i c x y ho
    obtain ⟨p, hc, h⟩ := wv_some h
    try dsimp only at h
    split at h
    · rename_i b
      have hcv := ev_sound (w := w) (S := S) hc he
      simp only [Rep] at hcv
      have hrun : ∀ b', b = b' → (execOp a.eval o).run P w = .ok (.value (if b' then a.eval x else a.eval y)) w := by
        rintro b' rfl
        unfold execOp
        simp only [ho, hcv, asBool, Sem.run_bind, Sem.run_pure, Result.andThen_ok]
      cases b with
      | true =>
        simp only [if_true] at h
        obtain ⟨v, hv, hk⟩ := wv_some h
        exact op_pure (hrun true rfl) hi (ev_sound hv he) hk
      | false =>
        simp only [Bool.false_eq_true, if_false] at h
        obtain ⟨v, hv, hk⟩ := wv_some h
        exact op_pure (hrun false rfl) hi (ev_sound hv he) hk
    · exact h.elim
  · -- binOp
    rename_i op t x y t' ho
    obtain ⟨p, hp, h⟩ := wv_some h
    have h1 := ev_sound (w := w) (S := S) hp he
    by_cases hnil : isNilC y = true
    · rw [if_pos hnil] at h
      have hy : ∃ n c, a.eval y = .slice none n c := by
        cases y with
        | const v =>
          simp only [isNilC] at hnil
          unfold nilS at hnil
          split at hnil
          · exact ⟨_, _, rfl⟩
          · simp at hnil
        | _ => simp [isNilC] at hnil
      obtain ⟨n, c, hy⟩ := hy
      obtain ⟨r, v, hrun, hrep, hk⟩ := nilCmp_sound (x := x) (y := y) (n := n) (c := c) h h1
      refine op_pure (v := v) ?_ hi hrep hk
      unfold execOp
      simp only [Sem.run_bind] at hrun
      simp only [ho, hy, Sem.run_bind, Result.andThen_ok, Sem.run_pure]
      rw [hrun]
      rfl
    rw [if_neg hnil] at h
    obtain ⟨q, hq, h⟩ := wv_some h
    have h2 := ev_sound (w := w) (S := S) hq he
    unfold binAny at h
    split at h
    · rename_i cs ds _ _
      split at h
      case h_2 => exact h.elim
      rename_i ty hty
      obtain ⟨⟨fs, e1, e2, e3, e4⟩, h⟩ := h
      obtain ⟨r, hr, hk⟩ := wv_some h
      simp only [Option.bind_eq_some_iff] at hr
      obtain ⟨b, hb, hr⟩ := hr
      simp only [Rep] at h1 h2
      obtain ⟨xs, hx, h1⟩ := h1
      obtain ⟨ys, hy, h2⟩ := h2
      have heq := eqL_sound (P := P) (w := w) (d := 9998) (k := 0) e4 hb (by simpa using h1) (by simpa using h2)
      have hrun : (Op.equal t (.agg xs) (.agg ys)).run P w = .ok b w := by
        have hf : P.fieldsOf t = fs := by simp [Program.fieldsOf, e1]
        have := run_equalIn_struct (P := P) w 9999 t xs ys (by rw [hf]; exact e1) e2
        rw [hf] at this
        exact this.trans heq
      have hg1 : (eqGuard .eql t x y (.agg xs) (.agg ys)).run P w = .ok () w := by
        simp [eqGuard, e3]
      have hg2 : (eqGuard .neq t x y (.agg xs) (.agg ys)).run P w = .ok () w := by
        simp [eqGuard, e3]
      unfold eqOp at hr
      split at hr
      · simp only [Option.some.injEq] at hr
        subst hr
        refine op_pure (v := .bool b) ?_ hi (by simp only [Rep]) hk
        unfold execOp
        simp only [ho, Sem.run_bind, hx, hy, hg1, hg2, Result.andThen_ok, binOp, hrun, Sem.run_pure]
      · simp only [Option.some.injEq] at hr
        subst hr
        refine op_pure (v := .bool (!b)) ?_ hi (by simp only [Rep]) hk
        unfold execOp
        simp only [ho, Sem.run_bind, hx, hy, hg1, hg2, Result.andThen_ok, binOp, hrun, Sem.run_pure]
      · simp at hr
    · rename_i p' q' _
      obtain ⟨⟨te, j, e1, e2, e3⟩, h⟩ := h
      obtain ⟨r, hr, hk⟩ := wv_some h
      simp only [Option.bind_eq_some_iff] at hr
      obtain ⟨b, hb, hr⟩ := hr
      simp only [Rep] at h1 h2
      have hrun : (Op.equal t (.pointer p') (.pointer q')).run P w = .ok b w := eqP_sound e1 e2 e3 hb
      unfold eqOp at hr
      split at hr
      · simp only [Option.some.injEq] at hr
        subst hr
        refine op_pure (v := .bool b) ?_ hi (by simp only [Rep]) hk
        unfold execOp
        simp only [ho, Sem.run_bind, h1, h2, eqGuard, binOp, hrun, Result.andThen_ok, Sem.run_pure]
        simp [hrun]
      · simp only [Option.some.injEq] at hr
        subst hr
        refine op_pure (v := .bool (!b)) ?_ hi (by simp only [Rep]) hk
        unfold execOp
        simp only [ho, Sem.run_bind, h1, h2, eqGuard, binOp, hrun, Result.andThen_ok, Sem.run_pure]
        simp [hrun]
      · simp at hr
    · obtain ⟨hb, h⟩ := h
      obtain ⟨r, hr, hk⟩ := wv_some h
      obtain ⟨v, hv, hrep⟩ := binA_sound (P := P) (t := t) hr (fun b c e1 _ => by subst e1; exact tyOf_bool hb) h1 h2
      refine op_pure (v := v) ?_ hi hrep hk
      unfold execOp
      simp only [ho, Sem.run_bind, eqGuard_rep hr h1 h2, Result.andThen_ok, hv, Sem.run_pure]
  · -- unOp
    rename_i op t x ho
    obtain ⟨p, hp, h⟩ := wv_some h
    obtain ⟨r, hr, hk⟩ := wv_some h
    obtain ⟨v, hv, hrep⟩ := unA_sound (P := P) hr (ev_sound (w := w) (S := S) hp he)
    refine op_pure (v := v) ?_ hi hrep hk
    unfold execOp
    simp only [ho, Sem.run_bind, Result.andThen_ok, hv, Sem.run_pure]
  · -- convert
    rename_i s d x ho
    obtain ⟨p, hp, h⟩ := wv_some h
    have h1 := ev_sound (w := w) (S := S) hp he
    unfold convM at h
    split at h
    · rename_i l hd
      obtain ⟨hs, hk⟩ := h
      simp only [Rep] at h1
      obtain ⟨v, w', S', m1, m2, m3, m4⟩ := bytes_sound (P := P) (l := l) hi (tyOf_str hs) hd
      refine op_value (v := v) (w' := w') ?_ m2 m3 m4 hk
      unfold execOp
      simp only [ho, h1, Sem.run_bind, Result.andThen_ok, m1, Sem.run_pure]
    · rename_i l o' hd
      obtain ⟨rfl, hl, rfl, hk⟩ := h
      obtain ⟨w', m1, m2, m3⟩ := marked_sound (P := P) hi hd hl h1
      refine op_value (v := a.eval x) (w' := w') ?_ m2 m3 ?_ hk
      · unfold execOp
        simp only [ho, Sem.run_bind, Result.andThen_ok, m1, Sem.run_pure]
      · have := h1.ext m2
        simp only [Rep] at this ⊢
        obtain ⟨ad, cap, e1, e2, e3, e4, _⟩ := this
        exact ⟨ad, cap, e1, e2, e3, e4⟩
    · rename_i b sz n hd
      split at h
      · rename_i e' l hs hHb
        obtain ⟨rfl, rfl, hk⟩ := h
        obtain ⟨hB, hS, arr, hh, cs, rest, hcs, hfl⟩ := hi.obj b _ hHb
        simp only [Rep] at h1
        obtain ⟨cap, hev, hcap, _⟩ := h1
        obtain ⟨e, m, hds, he'⟩ := tyOf_sl hs
        refine op_pure (v := strV (List.flatMap runeBytes (show List Int from l))) ?_ hi (by simp only [Rep]) hk
        have hrun : (convert s d (.slice (some ⟨b, 0, none⟩) (List.length l) cap)).run P w = .ok (strV (List.flatMap runeBytes (show List Int from l))) w := by
          simp only [convert, Sem.run_bind, run_underlying hds, run_underlying (tyOf_str hd), run_underlying (tyOf_int he'), Result.andThen_ok]
          refine run_runes_string (S := fun _ => cs.length) (l := l) (.inr ⟨b, 0, rfl, cs, hfl.imp (fun x c hx => by simp only [RepD] at hx ⊢; exact hx), by simp, fun j v hj => ?_⟩)
          rw [Nat.zero_add, cell_of_heap hh, ← Array.getElem?_toList, hcs]
          have : j < cs.length := by
            rcases Nat.lt_or_ge j cs.length with h | h
            · exact h
            · rw [List.getElem?_eq_none h] at hj; simp at hj
          rw [List.getElem?_append_left this]; exact hj
        unfold execOp
        simp only [ho, hev, Sem.run_bind, hrun, Result.andThen_ok, Sem.run_pure]
      · exact h.elim
    · rename_i b off
      split at h
      · rename_i ty vs hb
        obtain ⟨hu, hk⟩ := h
        have h2 := h1
        simp only [Rep] at h1
        obtain ⟨_, arr, hh, _, hrl⟩ := hi.obj b _ hb
        have hlen := hrl.length
        simp only [Array.length_toList] at hlen
        refine op_pure (v := a.eval x) ?_ hi h2 hk
        unfold execOp
        simp only [ho, h1, Sem.run_bind]
        have hrun : (convert s d (.pointer (some ⟨b, off, none⟩))).run P w = .ok (.pointer (some ⟨b, off, none⟩)) w := by
          rcases hu with ⟨t, j, q1, q2, q3, q4, q5⟩ | ⟨u, j, q1, q2, q3, q4⟩
          · exact Lib.run_to_unsafe w ⟨b, off, none⟩ q1 q2 q3 q4 (e := ty) (cells := arr.size) (by simp [World.shape?, hh]) (by simp only; omega)
          · exact Lib.run_from_unsafe w ⟨b, off, none⟩ q1 q2 q3 (e := ty) (cells := arr.size) (by simp [World.shape?, hh]) (by rw [← hlen]; exact q4)
        simp only [hrun, Result.andThen_ok, Sem.run_pure]
      · exact h.elim
    · obtain ⟨hs, h⟩ := h
      obtain ⟨r, hr, hk⟩ := wv_some h
      obtain ⟨v, hv, hrep⟩ := conv_sound (P := P) hs hr h1
      refine op_pure (v := v) ?_ hi hrep hk
      unfold execOp
      simp only [ho, Sem.run_bind, Result.andThen_ok, hv, Sem.run_pure]
  · -- alloc
    rename_i t ho
    split at h
    · rename_i ty hty
      obtain ⟨hz, hk⟩ := h
      obtain ⟨w', S', m1, m2, m3, m4⟩ := alloc_sound (P := P) hi hz
      refine op_value (v := .pointer (some ⟨w.heap.size, 0, none⟩)) (w' := w') ?_ m2 m3 (by simp only [Rep]) (hk _ m4)
      unfold execOp
      simp only [ho, Sem.run_bind, Result.andThen_ok, m1, Sem.run_pure]
    · split at h
      · rename_i n e harr
        split at h
        · rename_i ty hty
          obtain ⟨⟨i, z, v0, q1, q2, q3, q5⟩, hk⟩ := h
          obtain ⟨g1, g2, g3⟩ := new_sound (x := .row t ty (List.replicate n ty.dflt)) (o := .cells z.cells t) hi (Ext.refl _ _ _) rfl (fun _ => rfl) 0 (by
            refine ⟨by simp [Seal.set], z.cells, alloc_heap_new _ _, _, [], by rw [List.append_nil]; exact q3, flat_rep (q5 _ _) n⟩)
          have hal : (Instr.alloc t true (.tuple #[])).run P w = .ok (.pointer (some ⟨w.heap.size, 0, none⟩)) (w.alloc (.cells z.cells t)) := by
            simp only [Instr.alloc, zeroValue, typeInfo, Sem.run_bind, run_program, Result.andThen_ok, q1, Sem.run_pure, q2, newVar, newRow, run_newObj]
            rfl
          refine op_value (v := .pointer (some ⟨w.heap.size, 0, none⟩)) (w' := w.alloc (.cells z.cells t)) ?_ g1 g2 (by simp only [Rep]) (hk _ g3)
          unfold execOp
          simp only [ho, Sem.run_bind, Result.andThen_ok, hal, Sem.run_pure]
        · exact h.elim
      · exact h.elim
  · -- box
    rename_i t x ho
    obtain ⟨v, hv, hu, hk⟩ := wv_some h
    have h1 := ev_sound (w := w) (S := S) hv he
    have hne : v ≠ .undef := fun e => by subst e; simp [AVal.isU] at hu
    obtain ⟨k1, k2, k3⟩ := new_sound (x := .cells t v.cellsA) (o := .cells (a.eval x).cells t) hi (Ext.refl _ _ _) rfl (fun _ => rfl) 0 (by
      refine ⟨(a.eval x).cells, alloc_heap_new _ _, by simp [Seal.set], ?_⟩
      have hs : S.set w.heap.size 0 = S := seal_same (hi.top _ (Nat.le_refl _)).1
      have ex := Ext.fresh hi (Ext.refl B0 S w) rfl (.cells (a.eval x).cells t) 0
      exact (cells_rep h1 hne).ext ex)
    refine op_value (v := .pointer (some ⟨w.heap.size, 0, none⟩)) (w' := w.alloc (.cells (a.eval x).cells t)) ?_ k1 k2 (by simp only [Rep]) (hk _ k3)
    unfold execOp
    simp only [ho, Instr.box, newVar, newRow, Sem.run_bind, run_newObj, Result.andThen_ok, Sem.run_pure]
    rfl
  · -- store
    rename_i t x y ho
    obtain ⟨p, hp, h⟩ := wv_some h
    obtain ⟨v, hv, h⟩ := wv_some h
    try dsimp only at h
    split at h
    · rename_i b sz i off
      split at h
      · rename_i e ty l r hHb hr
        obtain ⟨rfl, hil, hl, h⟩ := h
        split at h
        · rename_i x' hds
          simp only [Option.bind_eq_some_iff] at hds
          obtain ⟨ds, hs, hd⟩ := hds
          have hvr := ev_sound (w := w) (S := S) hv he
          have hpr := ev_sound (w := w) (S := S) hp he
          simp only [Rep] at hpr
          have hvu : v ≠ .undef := fun e => by
            subst e
            unfold storeA at hs
            simp [AVal.cellsA, oneAll, AVal.one] at hs
          rw [List.getD_eq_getElem?_getD, List.getElem?_eq_getElem hil, Option.getD_some] at hs
          obtain ⟨w', m1, m2, m3⟩ := row_store_sound (P := P) (t := t) hi hHb hr hil (cells_rep hvr hvu) hl hs hd
          refine op_skip (w' := w') ?_ m2 m3 h
          unfold execOp
          simp only [ho, hpr, Sem.run_bind, Result.andThen_ok, m1, Sem.run_pure]
        · exact h.elim
      · exact h.elim
    split at h
    · rename_i q hq
      split at h
      · rename_i r hr
        obtain ⟨hl, h⟩ := h
        split at h
        · rename_i cs hcs
          obtain ⟨e1, e2, e3, e4, arr, e5, e6⟩ := ownA_spec hi hq (ev_sound (w := w) (S := S) hp he)
          have hvr := ev_sound (w := w) (S := S) hv he
          have hvu : v ≠ .undef := fun e => by
            subst e
            unfold storeA at hcs
            simp [AVal.cellsA, oneAll, AVal.one] at hcs
          obtain ⟨w', m1, m2, m3⟩ := store_sound (P := P) (t := t) hi hr e3 e4 e5 e6 (cells_rep hvr hvu) hl hcs
          refine op_skip (w' := w') ?_ m2 m3 h
          unfold execOp
          simp only [ho, e1, Sem.run_bind, Result.andThen_ok, m1, Sem.run_pure]
        · exact h.elim
      · exact h.elim
    · exact h.elim
  · -- nilCheck
    rename_i x ho
    obtain ⟨p, hp, h⟩ := wv_some h
    have h1 := ev_sound (w := w) (S := S) hp he
    try dsimp only at h
    split at h
    · rename_i ad
      have h2 := h1
      simp only [Rep] at h1
      refine op_pure (v := a.eval x) ?_ hi h2 h
      unfold execOp
      simp only [ho, h1, Sem.run_pure]
    · have h2 := h1
      simp only [Rep] at h1
      obtain ⟨b, o', h1, _⟩ := h1
      refine op_pure (v := a.eval x) ?_ hi h2 h
      unfold execOp
      simp only [ho, h1, Sem.run_pure]
    · exact h.elim
  · -- range
    rename_i t x ho
    obtain ⟨p, hp, h⟩ := wv_some h
    have h1 := ev_sound (w := w) (S := S) hp he
    try dsimp only at h
    split at h
    · rename_i s
      obtain ⟨ht, hk⟩ := h
      simp only [Rep] at h1
      obtain ⟨w', S', m1, m2, m3, m4⟩ := range_sound (P := P) (s := s) hi (tyOf_str ht)
      refine op_value (v := .pointer (some ⟨w.heap.size, 0, none⟩)) (w' := w') ?_ m2 m3 (by simp only [Rep]) (hk _ m4)
      unfold execOp
      simp only [ho, h1, Sem.run_bind, Result.andThen_ok, m1, Sem.run_pure]
    · exact h.elim
  · -- next
    rename_i it str ho
    obtain ⟨p, hp, h⟩ := wv_some h
    have h1 := ev_sound (w := w) (S := S) hp he
    try dsimp only at h
    split at h
    · rename_i b
      split at h
      · rename_i s pos hb _
        obtain ⟨hB, hS, hh⟩ := hi.obj b _ hb
        have hg : (getObj b).run P w = .ok (.stringIter ⟨s.toArray⟩ pos) w := by simp [getObj, Sem.run, hh]
        simp only [Rep] at h1
        unfold gate at h
        simp only [decide_eq_true_eq] at h
        split at h
        · rename_i hlt
          obtain ⟨w', m1, m2, m3⟩ := next_sound (P := P) (pos' := pos + (decU s pos).2) hi hb
          refine op_value (v := .tuple #[.bool true, .int .i64 pos, .int .i32 (decU s pos).1]) (w' := w') ?_ m2 m3 (by simp only [Rep]; exact ⟨_, rfl, _, _, rfl, rfl, _, _, rfl, rfl, _, _, rfl, rfl, rfl⟩) h
          unfold execOp
          simp only [ho, h1, Instr.next, Sem.run_bind, hg, Result.andThen_ok, strV_size, hlt, if_true]
          have : (Utf8.decode ⟨s.toArray⟩ pos) = decU s pos := rfl
          simp only [this, m1, Result.andThen_ok, Sem.run_bind, Sem.run_pure, goInt]
        · rename_i hlt
          refine op_pure (v := .tuple #[.bool false]) ?_ hi (by simp only [Rep]; exact ⟨_, rfl, _, _, rfl, rfl, rfl⟩) h
          unfold execOp
          simp only [ho, h1, Instr.next, Sem.run_bind, hg, Result.andThen_ok, strV_size, hlt, if_false, Sem.run_pure]
      · exact h.elim
    · exact h.elim
  · -- makeSlice
    rename_i t l c ho
    split at h
    · rename_i k0
      obtain ⟨v, n, hv, hn, h⟩ := wI_some h
      obtain ⟨v', m, hv', hm, h⟩ := wI_some h
      try dsimp only at h
      split at h
      · rename_i ty hty
        obtain ⟨⟨e, i, z, hu, hie, hsz, hby, hz, hzs⟩, rfl, h0, hb, h63, hk⟩ := h
        obtain ⟨k1, e1⟩ := asI_rep hn (ev_sound (w := w) (S := S) hv he)
        obtain ⟨k2, e2⟩ := asI_rep hm (ev_sound (w := w) (S := S) hv' he)
        have hrun := run_make (P := P) w t e i z hu hie hz k1 k2 0 m (Int.le_refl _) h0 (by rw [hby]; omega) h63
        have hsz2 := size_madeCells z.cells (m.toNat * i.size)
        generalize madeCells z.cells (m.toNat * i.size) = arr at hrun hsz2
        have hel : elTy P t = e := by simp [elTy, hu]
        rw [hel] at hk
        obtain ⟨g1, g2, g3⟩ := new_sound (x := .grow e ty 0) (o := .cells arr e) hi (Ext.refl _ _ _) rfl (fun _ => rfl) 0 (by
          refine ⟨by simp [Seal.set], arr, (0, 0), alloc_heap_new _ _, by simp, .inl rfl⟩)
        refine op_value (v := .slice (some ⟨w.heap.size, 0, none⟩) 0 m.toNat) (w' := w.alloc (.cells arr e)) ?_ g1 g2 ?_ (hk _ g3)
        · unfold execOp
          simp only [ho, e1, e2, hrun, Sem.run_bind, Result.andThen_ok, Sem.run_pure]
          rfl
        · simp only [Rep]
          refine ⟨some ⟨w.heap.size, 0, none⟩, m.toNat, rfl, Nat.zero_le _, .inl rfl, rfl, e, ?_⟩
          unfold World.shape?
          simp only [alloc_heap_new, hsz2, hsz]
      · exact h.elim
    · obtain ⟨v, n, hv, hn, h⟩ := wI_some h
      obtain ⟨v', m, hv', hm, h⟩ := wI_some h
      try dsimp only at h
      split at h
      · rename_i ty hty
        obtain ⟨⟨e, i, z, hu, hie, hsz, hby, hz, hzs⟩, hmade, h0, hnm, hb, h63, hk⟩ := h
        obtain ⟨k1, e1⟩ := asI_rep hn (ev_sound (w := w) (S := S) hv he)
        obtain ⟨k2, e2⟩ := asI_rep hm (ev_sound (w := w) (S := S) hv' he)
        have hrun := run_make (P := P) w t e i z hu hie hz k1 k2 n m h0 hnm (by rw [hby]; omega) h63
        obtain ⟨e', i', z', v0, q1, q2, q3, q4, q5⟩ := hmade
        rw [hu] at q1; cases q1
        rw [hie] at q2; cases q2
        rw [hz] at q3; cases q3
        have hsz1 : ty.size = 1 := by
          have := (q5 w S).length
          simpa using this.symm
        have hel : elTy P t = e := by simp [elTy, hu]
        rw [hel] at hk
        have harr : (madeCells z.cells (m.toNat * i.size)).toList = List.replicate n.toNat v0 ++ List.replicate (m.toNat - n.toNat) v0 := by
          rw [q4, hsz, hsz1, Nat.mul_one, toList_madeCells_one, List.replicate_append_replicate]
          congr 1
          omega
        have hsz2 := size_madeCells z.cells (m.toNat * i.size)
        generalize madeCells z.cells (m.toNat * i.size) = arr at hrun hsz2 harr
        obtain ⟨g1, g2, g3⟩ := new_sound (x := .row e ty (List.replicate n.toNat ty.dflt)) (o := .cells arr e) hi (Ext.refl _ _ _) rfl (fun _ => rfl) 0 (by
          refine ⟨by simp [Seal.set], arr, alloc_heap_new _ _, _, _, harr, flat_rep (q5 _ _) n.toNat⟩)
        refine op_value (v := .slice (some ⟨w.heap.size, 0, none⟩) n.toNat m.toNat) (w' := w.alloc (.cells arr e)) ?_ g1 g2 ?_ (hk _ g3)
        · unfold execOp
          simp only [ho, e1, e2, hrun, Sem.run_bind, Result.andThen_ok, Sem.run_pure]
        · simp only [Rep]
          refine ⟨m.toNat, rfl, by omega, e, ?_⟩
          unfold World.shape?
          simp only [alloc_heap_new, hsz2, hsz]
      · exact h.elim
  · -- extract
    rename_i x i ho
    obtain ⟨p, hx, h⟩ := wv_some h
    try dsimp only at h
    split at h
    · rename_i vs
      obtain ⟨y, hy, hk⟩ := wv_some h
      have h1 := ev_sound (w := w) (S := S) hx he
      simp only [Rep] at h1
      obtain ⟨us, hu, hrep⟩ := h1
      obtain ⟨v, hv, hr⟩ := hrep.get i hy
      rw [Array.getElem?_toList] at hv
      refine op_pure (v := v) ?_ hi hr hk
      unfold execOp
      simp only [ho, Instr.extract, hu, hv, Sem.run_bind, Sem.run_pure, Result.andThen_ok]
    · exact h.elim
  · -- index
    rename_i t x i ho
    obtain ⟨p, hx, h⟩ := wv_some h
    try dsimp only at h
    split at h
    · rename_i s
      obtain ⟨v, n, hv, hn, ht, h0, h1, hk⟩ := wI_some h
      have hs := ev_sound (w := w) (S := S) hx he
      simp only [Rep] at hs
      obtain ⟨k, hi'⟩ := asI_rep hn (ev_sound (w := w) (S := S) hv he)
      have hlt : n.toNat < s.length := by omega
      refine op_pure (v := .int .u8 (s.getD n.toNat 0).toNat) ?_ hi (by simp only [Rep]) hk
      unfold execOp
      simp only [ho, hs, hi', strV, Sem.run_bind]
      rw [run_index_string w t _ k n (tyOf_str ht)]
      rw [dif_pos ⟨h0, by rw [strV_size]; exact h1⟩]
      simp only [Result.andThen_ok, Sem.run_pure]
      congr 3
      rw [List.getD_eq_getElem?_getD, List.getElem?_eq_getElem hlt]
      rfl
    · exact h.elim
  · -- indexAddr
    rename_i t x i ho
    obtain ⟨p, hx, h⟩ := wv_some h
    try dsimp only at h
    split at h
    · rename_i ty l o'
      obtain ⟨v, n, hv, hn, ⟨e, inf, hu, hie, hsz⟩, h0, h1, hk⟩ := wI_some h
      have hs := ev_sound (w := w) (S := S) hx he
      simp only [Rep] at hs
      obtain ⟨ad, cap, hs, _, hsl, _⟩ := hs
      obtain ⟨k, hi'⟩ := asI_rep hn (ev_sound (w := w) (S := S) hv he)
      have hlt : n.toNat < l.length := by omega
      rcases hsl with rfl | ⟨b, off, rfl, hrow⟩
      · simp at hlt
      · refine op_pure (v := .pointer (some ⟨b, off + n.toNat * ty.size + 0, none⟩)) ?_ hi (by simp only [Rep]; exact ⟨b, off, rfl, hrow, hlt⟩) hk
        unfold execOp
        simp only [ho, hs, hi', Instr.indexAt, asIntOf, Sem.run_bind, Sem.run_pure, Result.andThen_ok, run_underlying hu]
        rw [if_pos ⟨h0, h1⟩]
        simp only [sizeOf, typeInfo, Sem.run_bind, run_program, Result.andThen_ok, hie, Sem.run_pure, hsz, add_none, Nat.add_zero]
    · rename_i b sz m
      obtain ⟨v, n, hv, hn, h⟩ := wI_some h
      try dsimp only at h
      split at h
      · rename_i ty hty
        obtain ⟨⟨e, inf, hu, hie, hsz⟩, rfl, h0, h1, hk⟩ := h
        have hs := ev_sound (w := w) (S := S) hx he
        simp only [Rep] at hs
        obtain ⟨cap, hs, _⟩ := hs
        obtain ⟨k, hi'⟩ := asI_rep hn (ev_sound (w := w) (S := S) hv he)
        refine op_pure (v := .pointer (some ⟨b, n.toNat * ty.size + 0, none⟩)) ?_ hi (by simp only [Rep]) hk
        unfold execOp
        simp only [ho, hs, hi', Instr.indexAt, asIntOf, Sem.run_bind, Sem.run_pure, Result.andThen_ok, run_underlying hu]
        rw [if_pos ⟨h0, h1⟩]
        simp only [sizeOf, typeInfo, Sem.run_bind, run_program, Result.andThen_ok, hie, Sem.run_pure, hsz, add_none, Nat.add_zero, Nat.zero_add]
      · exact h.elim
    · rename_i b
      obtain ⟨v, n, hv, hn, h⟩ := wI_some h
      try dsimp only at h
      split at h
      · rename_i m e _ ty l harr hHb
        obtain ⟨⟨j, hj, hsz⟩, hlm, h0, h1, hk⟩ := h
        have hu : P.underlying t = some (.array m e) := by
          unfold arrOf at harr
          split at harr
          · rename_i n' e' hu
            simp only [Option.some.injEq, Prod.mk.injEq] at harr
            rw [hu, harr.1, harr.2]
          · simp at harr
        have hs := ev_sound (w := w) (S := S) hx he
        simp only [Rep] at hs
        obtain ⟨k, hi'⟩ := asI_rep hn (ev_sound (w := w) (S := S) hv he)
        refine op_pure (v := .pointer (some ⟨b, n.toNat * ty.size + 0, none⟩)) ?_ hi (by simp only [Rep]) hk
        unfold execOp
        simp only [ho, hs, hi', Instr.indexAt, Instr.sureAddr, asIntOf, Sem.run_bind, Sem.run_pure, Result.andThen_ok, run_underlying hu]
        rw [if_pos ⟨h0, h1⟩]
        simp only [sizeOf, typeInfo, Sem.run_bind, run_program, Result.andThen_ok, hj, Sem.run_pure, hsz, add_none, Nat.add_zero, Nat.zero_add]
      · exact h.elim
    · exact h.elim
  · -- load
    rename_i t x ho
    obtain ⟨p, hx, h⟩ := wv_some h
    try dsimp only at h
    split at h
    · rename_i ty l i off
      split at h
      · rename_i q hq
        obtain ⟨y, hy, hk⟩ := wv_some h
        have hs := ev_sound (w := w) (S := S) hx he
        simp only [Rep] at hs
        obtain ⟨b, o', hs, hrow, hlt⟩ := hs
        obtain ⟨c, k1, k2, k3⟩ := rowAt_get hrow i hlt
        obtain ⟨v, hv, hr⟩ := load_sound hq k1 k3 hy
        refine op_pure (v := v) ?_ hi hr hk
        unfold execOp
        simp only [ho, hs, hv, Sem.run_bind, Result.andThen_ok, Sem.run_pure]
      · exact h.elim
    · rename_i b sz i off
      split at h
      · rename_i e ty l q hb hq
        obtain ⟨rfl, hil, h⟩ := h
        obtain ⟨y, hy, hk⟩ := wv_some h
        have hs := ev_sound (w := w) (S := S) hx he
        simp only [Rep] at hs
        obtain ⟨_, _, arr, hh, cs, rest, hcs, hfl⟩ := hi.obj b _ hb
        obtain ⟨c, k1, k3⟩ := Flat.get (n := ty.size) (fun _ _ h => h.length) i hil hfl
        obtain ⟨v, hv, hr⟩ := load_sound (P := P) (b := b) (o := i * ty.size) hq (repL_of_repD k1) (fun j v hj => by
          rw [cell_of_heap hh, ← Array.getElem?_toList, hcs]
          have := k3 j v hj
          rw [List.getElem?_append_left]
          · exact this
          · rcases Nat.lt_or_ge (i * ty.size + j) cs.length with h' | h'
            · exact h'
            · rw [List.getElem?_eq_none h'] at this; simp at this) (by rw [List.getD_eq_getElem?_getD, List.getElem?_eq_getElem hil] at hy; exact hy)
        refine op_pure (v := v) ?_ hi hr hk
        unfold execOp
        simp only [ho, hs, hv, Sem.run_bind, Result.andThen_ok, Sem.run_pure]
      · exact h.elim
    · rename_i ad
      split at h
      · rename_i q r hq hr
        obtain ⟨y, hy, hk⟩ := wv_some h
        obtain ⟨e1, e2, e3, e4, arr, e5, e6⟩ := ownA_spec hi hq (ev_sound (w := w) (S := S) hx he)
        obtain ⟨v, hv, hrv⟩ := load_sound (P := P) (b := q.1) (o := 0) hr e6 (fun j v hj => by
          rw [cell_of_heap e5, Nat.zero_add, ← Array.getElem?_toList]
          exact hj) hy
        rw [Nat.zero_add] at hv
        refine op_pure (v := v) ?_ hi hrv hk
        unfold execOp
        simp only [ho, e1, hv, Sem.run_bind, Result.andThen_ok, Sem.run_pure]
      · exact h.elim
    · exact h.elim
  · -- fieldAddr
    rename_i s x f ho
    obtain ⟨p, hx, h⟩ := wv_some h
    try dsimp only at h
    split at h
    · rename_i ty l i off
      split at h
      · rename_i q hq
        have hs := ev_sound (w := w) (S := S) hx he
        simp only [Rep] at hs
        obtain ⟨b, o', hs, hrow, hlt⟩ := hs
        obtain ⟨fs, fd, hu, hfd, rfl, inf, hinf, hne⟩ := fdInfo_spec hq
        refine op_pure (v := .pointer (some ⟨b, o' + i * ty.size + (off + fd.offset), none⟩)) ?_ hi (by simp only [Rep]; exact ⟨b, o', rfl, hrow, hlt⟩) h
        unfold execOp
        simp only [ho, hs, Instr.fieldAt, Sem.run_bind, run_underlying hu, Result.andThen_ok, hfd, Instr.sureAddr, Sem.run_pure, fieldPlace, sizeOf, typeInfo, run_program, hinf]
        rw [if_neg hne]
        simp only [Sem.run_pure, Result.andThen_ok, add_none, Nat.add_assoc]
      · exact h.elim
    · rename_i b sz i off
      split at h
      · rename_i q hq
        have hs := ev_sound (w := w) (S := S) hx he
        simp only [Rep] at hs
        obtain ⟨fs, fd, hu, hfd, rfl, inf, hinf, hne⟩ := fdInfo_spec hq
        refine op_pure (v := .pointer (some ⟨b, i * sz + (off + fd.offset), none⟩)) ?_ hi (by simp only [Rep]) h
        unfold execOp
        simp only [ho, hs, Instr.fieldAt, Sem.run_bind, run_underlying hu, Result.andThen_ok, hfd, Instr.sureAddr, Sem.run_pure, fieldPlace, sizeOf, typeInfo, run_program, hinf]
        rw [if_neg hne]
        simp only [Sem.run_pure, Result.andThen_ok, add_none, Nat.add_assoc]
      · exact h.elim
    · rename_i b off
      split at h
      · rename_i q hq
        have hs := ev_sound (w := w) (S := S) hx he
        simp only [Rep] at hs
        obtain ⟨fs, fd, hu, hfd, rfl, inf, hinf, hne⟩ := fdInfo_spec hq
        refine op_pure (v := .pointer (some ⟨b, off + fd.offset, none⟩)) ?_ hi (by simp only [Rep]) h
        unfold execOp
        simp only [ho, hs, Instr.fieldAt, Sem.run_bind, run_underlying hu, Result.andThen_ok, hfd, Instr.sureAddr, Sem.run_pure, fieldPlace, sizeOf, typeInfo, run_program, hinf]
        rw [if_neg hne]
        simp only [Sem.run_pure, Result.andThen_ok, add_none]
      · exact h.elim
    · exact h.elim
  · -- field
    rename_i s x f ho
    obtain ⟨p, hx, h⟩ := wv_some h
    try dsimp only at h
    split at h
    · rename_i cs
      split at h
      · rename_i q hq
        split at h
        · rename_i r hr
          obtain ⟨y, hy, hk⟩ := wv_some h
          have hs := ev_sound (w := w) (S := S) hx he
          simp only [Rep] at hs
          obtain ⟨vs, hs, hrep⟩ := hs
          obtain ⟨fs, fd, hu, hfd, rfl, inf, hinf, hne⟩ := fdInfo_spec hq
          obtain ⟨v, hv, hrv⟩ := part_sound hr hrep hy
          refine op_pure (v := v) ?_ hi hrv hk
          unfold execOp
          simp only [ho, hs, Instr.field, Sem.run_bind, run_underlying hu, Result.andThen_ok, hfd, asAgg, Sem.run_pure, hv]
        · exact h.elim
      · exact h.elim
    · exact h.elim
  · -- build
    rename_i t parts ho
    split at h
    · rename_i ps hp
      split at h
      · rename_i ty hty
        obtain ⟨hso, h⟩ := h
        obtain ⟨y, hf, h⟩ := wv_some h
        simp only [Option.map_eq_some_iff] at hf
        obtain ⟨cs, hf, rfl⟩ := hf
        obtain ⟨v, hv, hr⟩ := build_sound he hp hso hf
        refine op_pure (v := v) ?_ hi hr h
        unfold execOp
        simp only [ho, hv, Sem.run_bind, Result.andThen_ok, Sem.run_pure]
      · exact h.elim
    · exact h.elim
  · -- buildSlice
    rename_i t len parts ho
    split at h
    · rename_i xs hx
      split at h
      · rename_i ty hty
        split at h
        · rename_i l hl
          simp only [Option.bind_eq_some_iff] at hl
          obtain ⟨vs, hvs, hl⟩ := hl
          obtain ⟨_, hel, hlen, hsz, hk⟩ := h
          obtain ⟨v, w', S', hv, e, hi', hr⟩ := buildSlice_sound hi he hx hvs hl hel hlen hsz
          refine op_value (v := v) (w' := w') ?_ e hi' hr hk
          unfold execOp
          simp only [ho, hv, Sem.run_bind, Result.andThen_ok, Sem.run_pure]
        · exact h.elim
      · exact h.elim
    · exact h.elim
  · -- slice
    rename_i t x lo hi' mx ho
    obtain ⟨p, hp, h⟩ := wv_some h
    split at h
    · rename_i l h' m hl hh hm
      obtain ⟨v, y, hv, hr, hk⟩ := slice_sound (optI_sound he hl) (optI_sound he hh) (optI_sound he hm) (ev_sound (w := w) (S := S) hp he) h
      refine op_pure (v := v) ?_ hi hr hk
      unfold execOp
      simp only [ho, hv, Sem.run_bind, Result.andThen_ok, Sem.run_pure]
    · exact h.elim
  · rename_i c ho
    exact wCall_sound ho h hi he
  · -- makeMap
    rename_i t r ho
    split at h
    · obtain ⟨m2, m3, m4⟩ := new_sound (x := .smap [] 0) (o := .map #[] 0) hi (Ext.refl _ _ _) rfl (fun _ => rfl) 0 ⟨by simp [Seal.set], by rw [alloc_heap_new]; rfl⟩
      refine op_value (v := .map (some w.heap.size)) (w' := w.alloc (.map #[] 0)) ?_ m2 m3 (by simp only [Rep]) (h _ m4)
      unfold execOp
      simp only [ho, Instr.makeMap, Option.map_none, Sem.run_bind, Result.andThen_ok, run_newObj_alloc, Sem.run_pure]
    · exact h.elim
  · -- lookup
    rename_i t x y ok ho
    obtain ⟨m, hm, h⟩ := wv_some h
    obtain ⟨s, hs, h⟩ := wv_some h
    have h1 := ev_sound (w := w) (S := S) hm he
    have h2 := ev_sound (w := w) (S := S) hs he
    try dsimp only at h
    cases ok with
    | true => cases m <;> first | exact h.elim | (cases s <;> exact h.elim)
    | false =>
      cases m with
      | map b =>
        cases s with
        | str s =>
          try dsimp only at h
          cases hb : H b with
          | none => rw [hb] at h; exact h.elim
          | some x =>
            cases x with
            | smap es k =>
              rw [hb] at h
              obtain ⟨hB, hS, hh⟩ := hi.obj b _ hb
              simp only [Rep] at h1 h2
              refine op_pure (v := .int .i64 (lookS es s)) ?_ hi (by simp only [Rep]) h.2
              unfold execOp
              simp only [ho, h1, h2, run_lookup_str h.1 hh, Sem.run_bind, Result.andThen_ok, Sem.run_pure]
            | _ => rw [hb] at h; exact h.elim
        | _ => exact h.elim
      | _ => exact h.elim
  · -- mapEntry
    rename_i t x y ho
    obtain ⟨m, hm, h⟩ := wv_some h
    obtain ⟨s, hs, h⟩ := wv_some h
    have h1 := ev_sound (w := w) (S := S) hm he
    have h2 := ev_sound (w := w) (S := S) hs he
    try dsimp only at h
    cases m with
    | map b =>
      cases s with
      | str s =>
        try dsimp only at h
        cases hb : H b with
        | none => rw [hb] at h; exact h.elim
        | some x =>
          cases x with
          | smap es k =>
            rw [hb] at h
            obtain ⟨hB, hS, hh⟩ := hi.obj b _ hb
            simp only [Rep] at h1 h2
            obtain ⟨m2, m3⟩ := map_put (es' := (entS es k s).2.2.1) (k' := (entS es k s).2.2.2) hi hb
            refine op_value (v := .tuple #[.int .i64 (entS es k s).1, .int .i64 (entS es k s).2.1]) ?_ m2 m3 (by simp only [Rep, RepL]; exact ⟨_, rfl, _, _, rfl, rfl, _, _, rfl, rfl, rfl⟩) h.2
            unfold execOp
            simp only [ho, h1, h2, run_entry_str h.1 hh, Sem.run_bind, Result.andThen_ok, Sem.run_pure]
          | _ => rw [hb] at h; exact h.elim
      | _ => exact h.elim
    | _ => exact h.elim
  · -- entryStore
    rename_i t x y z ho
    obtain ⟨m, hm, h⟩ := wv_some h
    obtain ⟨s, hs, h⟩ := wv_some h
    obtain ⟨v, hv, h⟩ := wv_some h
    have h1 := ev_sound (w := w) (S := S) hm he
    have h2 := ev_sound (w := w) (S := S) hs he
    have h3 := ev_sound (w := w) (S := S) hv he
    try dsimp only at h
    have key : ∃ b st v', m = .map b ∧ s = .int .i64 st ∧ v = .int .i64 v' := by
      clear h1 h2 h3
      split at h
      · exact ⟨_, _, _, rfl, rfl, rfl⟩
      · exact h.elim
    obtain ⟨b, st, v', rfl, rfl, rfl⟩ := key
    try dsimp only at h
    cases hb : H b with
    | none => rw [hb] at h; exact h.elim
    | some x =>
      cases x with
      | smap es k =>
        rw [hb] at h
        try dsimp only at h
        cases hes : storeS es st v' with
        | none => rw [hes] at h; exact h.elim
        | some es' =>
          rw [hes] at h
          obtain ⟨hB, hS, hh⟩ := hi.obj b _ hb
          simp only [Rep] at h1 h2 h3
          obtain ⟨m2, m3⟩ := map_put (es' := es') (k' := k) hi hb
          refine op_skip ?_ m2 m3 h
          unfold execOp
          simp only [ho, h1, h2, h3, run_entryStore_str hh hes, Sem.run_bind, Result.andThen_ok, Sem.run_pure]
      | _ => rw [hb] at h; exact h.elim
  · -- mapUpdate
    rename_i t x y z ho
    obtain ⟨m, hm, h⟩ := wv_some h
    obtain ⟨s, hs, h⟩ := wv_some h
    obtain ⟨v, hv, h⟩ := wv_some h
    have h1 := ev_sound (w := w) (S := S) hm he
    have h2 := ev_sound (w := w) (S := S) hs he
    have h3 := ev_sound (w := w) (S := S) hv he
    try dsimp only at h
    have key : ∃ b s' v', m = .map b ∧ s = .str s' ∧ v = .int .i64 v' := by
      clear h1 h2 h3
      split at h
      · exact ⟨_, _, _, rfl, rfl, rfl⟩
      · exact h.elim
    obtain ⟨b, s', v', rfl, rfl, rfl⟩ := key
    try dsimp only at h
    cases hb : H b with
    | none => rw [hb] at h; exact h.elim
    | some x =>
      cases x with
      | smap es k =>
        rw [hb] at h
        try dsimp only at h
        obtain ⟨hB, hS, hh⟩ := hi.obj b _ hb
        simp only [Rep] at h1 h2 h3
        obtain ⟨m2, m3⟩ := map_put (es' := updS es k s' v') (k' := updK es k s') hi hb
        refine op_skip ?_ m2 m3 h.2
        unfold execOp
        simp only [ho, h1, h2, h3, run_mapUpdate_str h.1 hh, Sem.run_bind, Result.andThen_ok, Sem.run_pure]
      | _ => rw [hb] at h; exact h.elim
  · -- makeFunc
    rename_i fn first caps ho
    split at h
    · rename_i f cs hfirst hcs
      have hrep := evArgs_sound (w := w) (S := S) he hcs
      have hfi : first = #[] := by apply Array.ext'; simpa using hfirst
      subst hfi
      refine op_pure (v := .func (.func f) #[] (caps.map a.eval)) ?_ hi (by simp only [Rep]; exact ⟨_, rfl, by simpa using hrep⟩) h
      unfold execOp
      simp only [ho, Instr.makeFunc, Sem.run_bind, Result.andThen_ok, Sem.run_pure]
      simp
    · exact h.elim
  · exact h.elim

end Go.Sv
