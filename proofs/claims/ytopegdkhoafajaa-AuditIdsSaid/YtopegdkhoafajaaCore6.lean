/-
  Building structs and slices; 'wop' is sound. Own work. Nothing here is trusted.
-/
import Derived.Test.YtopegdkhoafajaaCore5
import Derived.MapKept
namespace Go.Sv
set_option linter.unusedSimpArgs false
set_option linter.unusedVariables false

theorem wr_toList (arr : Array Value) (off : Nat) (vs : List Value) (h : off + vs.length ≤ arr.size) : (wr arr off vs).toList = arr.toList.take off ++ vs ++ arr.toList.drop (off + vs.length) := by
  apply List.ext_getElem?
  intro j
  rw [Array.getElem?_toList, wr_get _ _ _ _ h]
  by_cases h1 : off ≤ j ∧ j < off + vs.length
  · rw [if_pos h1, List.append_assoc, List.getElem?_append_right (by simp; omega), List.getElem?_append_left (by simp; omega)]
    simp only [List.length_take, Array.length_toList]
    rw [Nat.min_eq_left (by omega)]
  · rw [if_neg h1]
    by_cases h2 : j < off
    · rw [List.append_assoc, List.getElem?_append_left (by simp; omega), List.getElem?_take, if_pos h2, Array.getElem?_toList]
    · rw [List.getElem?_append_right (by simp; omega), List.getElem?_drop]
      simp only [List.length_append, List.length_take, Array.length_toList]
      rw [Nat.min_eq_left (by omega), Array.getElem?_toList]
      congr 1
      omega

theorem foldl_zipIdx (off : Nat) : ∀ (l : List Value) (k : Nat) (cells : Array Value), (l.zipIdx k).foldl (fun cs p => cs.setIfInBounds (off + p.2) p.1) cells = wr cells (off + k) l
  | [], _, _ => rfl
  | v :: l, k, cells => by
    simp only [List.zipIdx_cons, List.foldl_cons, wr]
    rw [foldl_zipIdx off l (k + 1)]
    rfl

theorem fill_step {place : Nat → Option (Nat × Nat)} {cells : Array Value} {i : Nat} {v : Value} {r : List (Nat × Value)} {off size : Nat} (hp : place i = some (off, size)) (h1 : v.cells.size = size) (h2 : off + v.cells.size ≤ cells.size) :
    Instr.fill place cells ((i, v) :: r) = Instr.fill place (wr cells off v.cells.toList) r := by
  have : v.cells.zipIdx.foldl (fun cs (p : Value × Nat) => cs.setIfInBounds (off + p.2) p.1) cells = wr cells off v.cells.toList := by
    rw [← Array.foldl_toList, Array.toList_zipIdx]
    have := foldl_zipIdx off v.cells.toList 0 cells
    simpa using this
  simp only [Instr.fill, hp]
  rw [if_neg (by simp [h1]; omega)]
  exact congrArg (fun c => Instr.fill place c r) this

theorem cells_rep {w : World} {S : Seal} {x : AVal} {v : Value} (h : Rep w S x v) (hx : x ≠ .undef) : RepL w S x.cellsA v.cells.toList := by
  cases x <;> simp only [Rep] at h
  case undef => exact absurd rfl hx
  case agg cs => obtain ⟨vs, rfl, h⟩ := h; exact h
  case sl t l o =>
    obtain ⟨a, cap, rfl, h1, h2, h3⟩ := h
    simp only [AVal.cellsA, Value.cells, RepL, Rep]
    exact ⟨_, _, rfl, ⟨a, cap, rfl, h1, h2, h3⟩, rfl⟩
  case ea t l i off =>
    obtain ⟨b, o, rfl, h1, h2⟩ := h
    simp only [AVal.cellsA, Value.cells, RepL, Rep]
    exact ⟨_, _, rfl, ⟨b, o, rfl, h1, h2⟩, rfl⟩
  case tup vs =>
    obtain ⟨u, rfl, h⟩ := h
    simp only [AVal.cellsA, Value.cells, RepL, Rep]
    exact ⟨_, _, rfl, ⟨u, rfl, h⟩, rfl⟩
  case fn f cs =>
    obtain ⟨u, rfl, h⟩ := h
    simp only [AVal.cellsA, Value.cells, RepL, Rep]
    exact ⟨_, _, rfl, ⟨u, rfl, h⟩, rfl⟩
  case rs b sz n =>
    obtain ⟨cap, rfl, h1, h2⟩ := h
    simp only [AVal.cellsA, Value.cells, RepL, Rep]
    exact ⟨_, _, rfl, ⟨cap, rfl, h1, h2⟩, rfl⟩
  case rt b sz i n =>
    obtain ⟨cap, rfl⟩ := h
    simp only [AVal.cellsA, Value.cells, RepL, Rep]
    exact ⟨_, _, rfl, ⟨cap, rfl⟩, rfl⟩
  case dat l o =>
    obtain ⟨p, rfl, h⟩ := h
    simp only [AVal.cellsA, Value.cells, RepL, Rep]
    exact ⟨_, _, rfl, ⟨p, rfl, h⟩, rfl⟩
  all_goals
    subst h
    simp only [AVal.cellsA, Value.cells, RepL, Rep, strV]
    exact ⟨_, _, rfl, rfl, rfl⟩

theorem dec1_sound {w : World} {S : Seal} : ∀ {t : Ty} {c : AVal} {x : t.den} {v : Value}, dec1 t c = some x → Rep w S c v → RepD w S t x [v]
  | .bool, c, x, v, h, hr => by
    cases c <;> simp only [dec1, Option.some.injEq, reduceCtorEq] at h
    subst h; simp only [Rep] at hr; subst hr; simp only [RepD]
  | .u8, c, x, v, h, hr => by
    cases c <;> simp only [dec1, Option.some.injEq, reduceCtorEq] at h
    subst h; simp only [Rep] at hr; subst hr; simp only [RepD]
  | .int k, c, x, v, h, hr => by
    cases c <;> simp only [dec1, reduceCtorEq] at h
    split at h
    · rename_i hk
      simp only [Option.some.injEq] at h
      subst h; subst hk; simp only [Rep] at hr; subst hr; simp only [RepD]
    · simp at h
  | .str, c, x, v, h, hr => by
    cases c <;> simp only [dec1, Option.some.injEq, reduceCtorEq] at h
    subst h; simp only [Rep] at hr; subst hr; simp only [RepD]
  | .ptr, c, x, v, h, hr => by
    cases c <;> simp only [dec1, Option.some.injEq, reduceCtorEq] at h
    subst h; simp only [Rep] at hr; subst hr; simp only [RepD]
  | .sl t, c, x, v, h, hr => by
    cases c <;> simp only [dec1, reduceCtorEq] at h
    split at h
    · rename_i ht
      subst ht
      simp only [Option.some.injEq] at h
      subst h
      simp only [Rep] at hr
      obtain ⟨a, cap, rfl, h1, h2, _⟩ := hr
      simp only [RepD]
      exact ⟨a, cap, rfl, h1, h2⟩
    · simp at h
  | .nil, c, x, v, h, hr => by cases c <;> simp [dec1] at h
  | .cons _ _, c, x, v, h, hr => by cases c <;> simp [dec1] at h

theorem decs_one {t : Ty} {cs rest : List AVal} {x : t.den} (ht : t.isAgg = false) (h : decs t cs = some (x, rest)) : ∃ c, cs = c :: rest ∧ dec1 t c = some x := by
  cases t <;> simp [Ty.isAgg] at ht
  all_goals
    cases cs with
    | nil => simp [decs] at h
    | cons c r =>
      simp only [decs, Option.map_eq_some_iff, Prod.mk.injEq] at h
      obtain ⟨y, h1, rfl, rfl⟩ := h
      exact ⟨c, rfl, h1⟩

theorem decs_sound {w : World} {S : Seal} : ∀ {t : Ty} {cs rest : List AVal} {x : t.den} {vs : List Value}, decs t cs = some (x, rest) → RepL w S cs vs → ∃ v1 v2, vs = v1 ++ v2 ∧ RepD w S t x v1 ∧ RepL w S rest v2
  | .nil, cs, rest, x, vs, h, hr => by
    simp only [decs, Option.some.injEq, Prod.mk.injEq] at h
    obtain ⟨_, rfl⟩ := h
    exact ⟨[], vs, rfl, by simp only [RepD], hr⟩
  | .cons t r, cs, rest, x, vs, h, hr => by
    simp only [decs, Option.bind_eq_some_iff, Option.map_eq_some_iff] at h
    obtain ⟨p, h1, q, h2, h3⟩ := h
    simp only [Prod.mk.injEq] at h3
    obtain ⟨rfl, rfl⟩ := h3
    obtain ⟨v1, v2, rfl, k1, k2⟩ := decs_sound (x := p.1) (rest := p.2) h1 hr
    obtain ⟨u1, u2, rfl, m1, m2⟩ := decs_sound (x := q.1) (rest := q.2) h2 k2
    exact ⟨v1 ++ u1, u2, by rw [List.append_assoc], ⟨v1, u1, rfl, k1, m1⟩, m2⟩
  | .bool, cs, rest, x, vs, h, hr => by
    obtain ⟨c, rfl, h1⟩ := decs_one rfl h
    simp only [RepL] at hr
    obtain ⟨v, vr, rfl, k1, k2⟩ := hr
    exact ⟨[v], vr, rfl, dec1_sound h1 k1, k2⟩
  | .u8, cs, rest, x, vs, h, hr => by
    obtain ⟨c, rfl, h1⟩ := decs_one rfl h
    simp only [RepL] at hr
    obtain ⟨v, vr, rfl, k1, k2⟩ := hr
    exact ⟨[v], vr, rfl, dec1_sound h1 k1, k2⟩
  | .int k, cs, rest, x, vs, h, hr => by
    obtain ⟨c, rfl, h1⟩ := decs_one rfl h
    simp only [RepL] at hr
    obtain ⟨v, vr, rfl, k1, k2⟩ := hr
    exact ⟨[v], vr, rfl, dec1_sound h1 k1, k2⟩
  | .str, cs, rest, x, vs, h, hr => by
    obtain ⟨c, rfl, h1⟩ := decs_one rfl h
    simp only [RepL] at hr
    obtain ⟨v, vr, rfl, k1, k2⟩ := hr
    exact ⟨[v], vr, rfl, dec1_sound h1 k1, k2⟩
  | .ptr, cs, rest, x, vs, h, hr => by
    obtain ⟨c, rfl, h1⟩ := decs_one rfl h
    simp only [RepL] at hr
    obtain ⟨v, vr, rfl, k1, k2⟩ := hr
    exact ⟨[v], vr, rfl, dec1_sound h1 k1, k2⟩
  | .sl t, cs, rest, x, vs, h, hr => by
    obtain ⟨c, rfl, h1⟩ := decs_one rfl h
    simp only [RepL] at hr
    obtain ⟨v, vr, rfl, k1, k2⟩ := hr
    exact ⟨[v], vr, rfl, dec1_sound h1 k1, k2⟩

theorem decs_undef : ∀ {t : Ty} {x : t.den} {rest : List AVal}, decs t [.undef] = some (x, rest) → rest = [.undef]
  | .nil, x, rest, h => by simp only [decs, Option.some.injEq, Prod.mk.injEq] at h; exact h.2.symm
  | .cons t r, x, rest, h => by
    simp only [decs, Option.bind_eq_some_iff, Option.map_eq_some_iff] at h
    obtain ⟨p, h1, q, h2, h3⟩ := h
    simp only [Prod.mk.injEq] at h3
    have e1 := decs_undef (x := p.1) (rest := p.2) h1
    rw [e1] at h2
    have e2 := decs_undef (x := q.1) (rest := q.2) h2
    rw [← h3.2, e2]
  | .bool, x, rest, h => by simp [decs, dec1] at h
  | .u8, x, rest, h => by simp [decs, dec1] at h
  | .int k, x, rest, h => by simp [decs, dec1] at h
  | .str, x, rest, h => by simp [decs, dec1] at h
  | .ptr, x, rest, h => by simp [decs, dec1] at h
  | .sl t, x, rest, h => by simp [decs, dec1] at h

theorem dec_sound {w : World} {S : Seal} {t : Ty} {c : AVal} {x : t.den} {v : Value} (h : dec t c = some x) (hr : Rep w S c v) : RepD w S t x v.cells.toList := by
  unfold dec at h
  simp only [Option.bind_eq_some_iff] at h
  obtain ⟨p, h1, h2⟩ := h
  split at h2
  · rename_i he
    simp only [Option.some.injEq] at h2
    subst h2
    have hu : c ≠ .undef := by
      intro hc
      subst hc
      have := decs_undef (x := p.1) (rest := p.2) h1
      rw [this] at he
      simp at he
    obtain ⟨v1, v2, k0, k1, k2⟩ := decs_sound (x := p.1) (rest := p.2) h1 (cells_rep hr hu)
    have : p.2 = [] := by simpa using he
    rw [this] at k2
    simp only [RepL] at k2
    rw [k0, k2, List.append_nil]
    exact k1
  · simp at h2

theorem decAll_sound {w : World} {S : Seal} {t : Ty} : ∀ {cs : List AVal} {l : List t.den} {vs : List Value}, decAll t cs = some l → RepL w S cs vs → l.length = cs.length ∧ Flat (RepD w S t) l (vs.flatMap fun v => v.cells.toList) ∧ ∀ v ∈ vs, v.cells.size = t.size
  | [], l, vs, h, hr => by
    simp only [decAll, Option.some.injEq] at h
    subst h
    simp only [RepL] at hr
    subst hr
    exact ⟨rfl, rfl, by simp⟩
  | c :: cs, l, vs, h, hr => by
    simp only [decAll, Option.bind_eq_some_iff, Option.map_eq_some_iff] at h
    obtain ⟨x, h1, l', h2, rfl⟩ := h
    simp only [RepL] at hr
    obtain ⟨v, vr, rfl, k1, k2⟩ := hr
    obtain ⟨m1, m2, m3⟩ := decAll_sound h2 k2
    have hx := dec_sound h1 k1
    refine ⟨by simp [m1], ⟨_, _, by simp, hx, m2⟩, fun u hu => ?_⟩
    rcases List.mem_cons.1 hu with rfl | hu
    · have := hx.length; simpa using this
    · exact m3 u hu

theorem fill_row (size len : Nat) : ∀ (vs : List Value) (k : Nat) (arr : Array Value), (∀ v ∈ vs, v.cells.size = size) → arr.size = len * size → k + vs.length = len →
    ∃ out, Instr.fill (fun i => some (i * size, size)) arr ((List.range' k vs.length).zip vs) = some out ∧ out.toList = arr.toList.take (k * size) ++ vs.flatMap fun v => v.cells.toList
  | [], k, arr, _, hs, hl => by
    refine ⟨arr, rfl, ?_⟩
    simp only [List.length_nil, Nat.add_zero] at hl
    subst hl
    have : arr.toList.take (k * size) = arr.toList := List.take_of_length_le (by rw [Array.length_toList, hs]; exact Nat.le_refl _)
    simp [this]
  | v :: vs, k, arr, hv, hs, hl => by
    simp only [List.length_cons] at hl
    have hv0 := hv v (by simp)
    have hle : (k + 1) * size ≤ len * size := Nat.mul_le_mul_right _ (by omega)
    rw [Nat.succ_mul] at hle
    have hfit : k * size + v.cells.toList.length ≤ arr.size := by simp [hv0]; omega
    obtain ⟨out, h1, h2⟩ := fill_row size len vs (k + 1) (wr arr (k * size) v.cells.toList) (fun u hu => hv u (by simp [hu])) (by rw [wr_size]; exact hs) (by omega)
    refine ⟨out, ?_, ?_⟩
    · simp only [List.length_cons, List.range'_succ, List.zip_cons_cons]
      rw [fill_step (off := k * size) (size := size) rfl hv0 (by rw [hs, hv0]; omega)]
      exact h1
    · rw [h2, wr_toList _ _ _ hfit]
      simp only [List.flatMap_cons, Nat.succ_mul]
      have hl : (arr.toList.take (k * size) ++ v.cells.toList).length = k * size + size := by
        rw [List.length_append, List.length_take, Array.length_toList, Array.length_toList, hv0, hs, Nat.min_eq_left (by omega)]
      rw [← hl, List.take_left, List.append_assoc]

theorem inOrder_spec : ∀ {k : Nat} {ps : List (Nat × Operand)} {xs : List Operand}, inOrder k ps = some xs → ps.map (·.2) = xs ∧ ps.map (·.1) = List.range' k xs.length
  | _, [], xs, h => by simp only [inOrder, Option.some.injEq] at h; subst h; exact ⟨rfl, rfl⟩
  | k, (i, x) :: r, xs, h => by
    simp only [inOrder] at h
    split at h
    · rename_i hi
      subst hi
      simp only [Option.map_eq_some_iff] at h
      obtain ⟨ys, h1, rfl⟩ := h
      obtain ⟨h2, h3⟩ := inOrder_spec h1
      exact ⟨by simp [h2], by simp [h3, List.range'_succ]⟩
    · simp at h

theorem evArgs_sound {P : Program} {σ : Env} {w : World} {S : Seal} {a : Act} (he : EnvAt w S σ a.tmps) : ∀ {ts : List TypeId} {xs : List Operand} {vs : List AVal}, evArgs P σ ts xs = some vs → RepL w S vs (xs.map a.eval)
  | _, [], vs, h => by simp only [evArgs, Option.some.injEq] at h; subst h; simp [RepL]
  | t :: ts, x :: xs, vs, h => by
    simp only [evArgs, Option.bind_eq_some_iff, Option.map_eq_some_iff] at h
    obtain ⟨v, h1, l, h2, rfl⟩ := h
    exact ⟨_, _, rfl, ev_sound h1 he, evArgs_sound he h2⟩
  | [], x :: xs, vs, h => by
    simp only [evArgs, Option.bind_eq_some_iff, Option.map_eq_some_iff] at h
    obtain ⟨v, h1, l, h2, rfl⟩ := h
    exact ⟨_, _, rfl, ev_sound h1 he, evArgs_sound he h2⟩

theorem zip_map (f : Operand → Value) : ∀ (ps : List (Nat × Operand)), (ps.map fun (p : Nat × Operand) => (p.1, f p.2)) = (ps.map (·.1)).zip ((ps.map (·.2)).map f)
  | [] => rfl
  | (i, x) :: r => by simp [zip_map f r]

/-- A slice literal. -/
theorem buildSlice_sound {P : Program} {B0 : Base} {w : World} {S : Seal} {H : Hp} {t : TypeId} {ty : Ty} {len : Nat} {parts : Array (Nat × Operand)} {xs : List Operand} {vs : List AVal} {l : List ty.den} {a : Act} {σ : Env} {bytes : Nat}
    (hi : Inv B0 w S H) (he : EnvAt w S σ a.tmps) (hp : inOrder 0 parts.toList = some xs) (hv : evArgs P σ [] xs = some vs) (hd : decAll ty vs = some l) (hel : AppElem P t ty bytes) (hlen : len = xs.length) (hsz : len * ty.size ≤ 16777216) :
    ∃ v w' S', (Instr.buildSlice t len (parts.map fun p => (p.1, a.eval p.2))).run P w = .ok v w' ∧ Ext B0 S S' w w' ∧ Inv B0 w' S' H ∧ Rep w' S' (.sl ty l (.lit B0)) v := by
  obtain ⟨e, i, z, hu, hie, hs, hby, hz, hzs⟩ := hel.ex
  have hrep := evArgs_sound he hv
  obtain ⟨hl1, hflat, hcs⟩ := decAll_sound hd hrep
  obtain ⟨ho1, ho2⟩ := inOrder_spec hp
  have hlv : l.length = len := by rw [hl1, hrep.length, List.length_map, hlen]
  obtain ⟨out, hf1, hf2⟩ := fill_row ty.size len (xs.map a.eval) 0 ((Array.range (len * ty.size)).map (fun j => z.cells[j % z.cells.size]!)) hcs (by simp) (by simp [hlen])
  simp only [Nat.zero_mul, List.take_zero, List.nil_append] at hf2
  have hparts : (parts.map fun (p : Nat × Operand) => (p.1, a.eval p.2)).toList = (List.range' 0 (xs.map a.eval).length).zip (xs.map a.eval) := by
    rw [Array.toList_map, zip_map a.eval, ho1, ho2]
    simp
  have hrun : (Instr.buildSlice t len (parts.map fun p => (p.1, a.eval p.2))).run P w = .ok (.slice (some ⟨w.heap.size, 0, none⟩) len len) (w.alloc (.cells out e)) := by
    have hlim : ¬ (len * ty.size > 2 ^ 24) := by omega
    simp only [Instr.buildSlice, Sem.run_bind, run_underlying hu, Result.andThen_ok, sizeOf, typeInfo, run_program, hie, Sem.run_pure, hs]
    rw [if_neg hlim]
    by_cases h0 : len * ty.size = 0
    · rw [if_pos h0]
      have harr : (Array.map (fun x => (#[] : Array Value)[x % (#[] : Array Value).size]!) (Array.range (len * ty.size))) = ((Array.range (len * ty.size)).map (fun j => z.cells[j % z.cells.size]!)) := by
        rw [h0]; simp
      simp only [Sem.run_pure, Result.andThen_ok, harr, hparts, hf1, newRow, Sem.run_bind, run_newObj]
      rfl
    · rw [if_neg h0]
      simp only [zeroValue, typeInfo, Sem.run_bind, run_program, Result.andThen_ok, hie, Sem.run_pure, hz, hparts, hf1, newRow, run_newObj]
      rfl
  have hout : out.size = len * ty.size := by
    have := flat_length hflat
    rw [← Array.length_toList, hf2, this, hlv]
  have hnew := alloc_heap_new w (.cells out e)
  have ex := Ext.fresh hi (Ext.refl B0 S w) rfl (.cells out e) (len * ty.size)
  refine ⟨_, _, S.set w.heap.size (len * ty.size), hrun, ex, ?_, ?_⟩
  · have := Inv.fresh hi (Ext.refl B0 S w) rfl (fun _ => rfl) (.cells out e) (len * ty.size) none (by simp)
    have hH : H.set w.heap.size none = H := by
      funext c
      simp only [Hp.set]
      split
      · rename_i h; subst h; exact ((hi.top _ (Nat.le_refl _)).2).symm
      · rfl
    rw [hH] at this
    exact this
  · simp only [Rep]
    refine ⟨some ⟨w.heap.size, 0, none⟩, len, by rw [hlv], by omega, .inr ⟨_, _, rfl, _, hflat.imp (fun _ _ h => RepD.ext ex h), ?_, fun j v hj => ?_⟩, ?_⟩
    · rw [← hf2, Array.length_toList, hout]; simp [Seal.set]
    · rw [cell_of_heap hnew, Nat.zero_add]
      rw [← hf2, Array.getElem?_toList] at hj
      exact hj
    · refine ⟨hlv.symm, w.heap.size, rfl, hi.base, e, ?_⟩
      unfold World.shape?
      simp only [hnew, hout]

/-! ### memory that the call owns -/
theorem zeros_rep' {w : World} {S : Seal} : ∀ (t : Ty), RepL w S (zerosA t) (zerosV t)
  | .bool => ⟨_, _, rfl, by simp only [Rep], rfl⟩
  | .u8 => ⟨_, _, rfl, by simp only [Rep]; rfl, rfl⟩
  | .int _ => ⟨_, _, rfl, by simp only [Rep], rfl⟩
  | .str => ⟨_, _, rfl, by simp only [Rep], rfl⟩
  | .ptr => ⟨_, _, rfl, by simp only [Rep], rfl⟩
  | .sl _ => ⟨_, _, rfl, by simp only [Rep]; exact ⟨none, 0, rfl, by simp, .inl rfl, rfl, rfl⟩, rfl⟩
  | .nil => rfl
  | .cons t r => (zeros_rep' t).append (zeros_rep' r)

theorem one_cell {w : World} {S : Seal} : ∀ {cs : List AVal} {vs : List Value}, oneAll cs = true → RepL w S cs vs → ∀ v ∈ vs, v.oneCell' = true
  | [], vs, _, h, v, hv => by simp only [RepL] at h; subst h; simp at hv
  | c :: r, vs, ho, h, v, hv => by
    simp only [RepL] at h
    obtain ⟨u, us, rfl, k1, k2⟩ := h
    simp only [oneAll] at ho
    split at ho
    · rename_i h1
      rcases List.mem_cons.1 hv with rfl | hv
      · cases c <;> simp only [AVal.one, Bool.false_eq_true, reduceCtorEq] at h1 <;> simp only [Rep] at k1
        all_goals first | (subst k1; rfl) | (obtain ⟨_, rfl, _⟩ := k1; rfl) | (obtain ⟨_, _, rfl, _⟩ := k1; rfl)
      · exact one_cell ho k2 v hv
    · simp at ho

theorem ownA_spec {B0 : Base} {w : World} {S : Seal} {H : Hp} {p : AVal} {v : Value} {q : Nat × Nat × List AVal × TypeId} (hi : Inv B0 w S H) (h : ownA H p = some q) (hr : Rep w S p v) :
    v = .pointer (some ⟨q.1, q.2.1, none⟩) ∧ H q.1 = some (.cells q.2.2.2 q.2.2.1) ∧ B0 ≤ q.1 ∧ S q.1 = 0 ∧ ∃ arr, w.heap[q.1]? = some (.cells arr q.2.2.2 (0, 0)) ∧ RepL w S q.2.2.1 arr.toList := by
  unfold ownA at h
  split at h
  · rename_i b off
    split at h
    · rename_i ty vs hb
      simp only [Option.some.injEq] at h
      subst h
      simp only [Rep] at hr
      obtain ⟨k1, arr, k2, k3, k4⟩ := hi.obj b _ hb
      exact ⟨hr, hb, k1, k3, arr, k2, k4⟩
    · simp at h
  · simp at h

/-- Cells of a block that the call owns are written. -/
theorem Ext.write {B0 : Base} {w : World} {S : Seal} {b : Nat} {arr arr' : Array Value} {ty : TypeId} {fz : Nat × Nat} (hB : B0 ≤ b) (hS : S b = 0) (hh : w.heap[b]? = some (.cells arr ty fz)) (hsz : arr'.size = arr.size) : Ext B0 S S w (World.withRow w b arr' ty fz) := by
  refine ⟨⟨rfl, rfl, rfl, by simp [World.withRow], fun k hk => withRow_other (by omega)⟩, fun _ => Nat.le_refl _, fun c j hj => ?_, fun c y hy => ?_⟩
  · exact cell_of_other (withRow_other (fun e => by subst e; omega))
  · by_cases hc : c = b
    · subst hc
      rw [← hy]
      simp [World.shape?, withRow_heap hh, hh, hsz]
    · rw [shape_of_other (withRow_other hc)]; exact hy

theorem Inv.write {B0 : Base} {w : World} {S : Seal} {H : Hp} {b : Nat} {arr arr' : Array Value} {ty : TypeId} {vs : List AVal} (hi : Inv B0 w S H) (hB : B0 ≤ b) (hS : S b = 0) (hh : w.heap[b]? = some (.cells arr ty (0, 0))) (hsz : arr'.size = arr.size)
    (hv : RepL w S vs arr'.toList) : Inv B0 (World.withRow w b arr' ty (0, 0)) S (H.set b (some (.cells ty vs))) := by
  have ex := Ext.write hB hS hh hsz
  refine ⟨by simp [World.withRow]; exact hi.base, fun c hc => ?_, fun c y hy => ?_, hi.tab.ext ex⟩
  · have hc' : w.heap.size ≤ c := by simpa [World.withRow] using hc
    have hcb : c ≠ b := fun h => by subst h; have := lt_of_heap hh; omega
    simp only [Hp.set, if_neg hcb]
    exact hi.top c hc'
  · simp only [Hp.set] at hy
    by_cases hcb : c = b
    · subst hcb
      simp only [if_true, Option.some.injEq] at hy
      subst hy
      exact ⟨hB, arr', withRow_heap hh, hS, hv.ext ex⟩
    · simp only [if_neg hcb] at hy
      obtain ⟨k1, k2⟩ := hi.obj c y hy
      exact ⟨k1, k2.keep ex (withRow_other hcb) rfl⟩

/-- A new block of the call's. -/
theorem new_sound {B0 : Base} {w w1 : World} {S : Seal} {H : Hp} {x : AObj} {o : Obj} (hi : Inv B0 w S H) (h1 : Ext B0 S S w w1) (hs : w1.heap.size = w.heap.size) (hh : ∀ b : Nat, w1.heap[b]? = w.heap[b]?) (n : Nat)
    (hx : ObjAt (w1.alloc o) (S.set w.heap.size n) w.heap.size x) : Ext B0 S (S.set w.heap.size n) w (w1.alloc o) ∧ Inv B0 (w1.alloc o) (S.set w.heap.size n) (H.set w.heap.size (some x)) ∧ H w.heap.size = none :=
  ⟨Ext.fresh hi h1 hs o n, Inv.fresh hi h1 hs hh o n (some x) (fun y hy => by cases hy; exact hx), (hi.top _ (Nat.le_refl _)).2⟩

theorem seal_same {S : Seal} {b : Nat} (h : S b = 0) : S.set b 0 = S := by
  funext c
  simp only [Seal.set]
  split
  · rename_i e; subst e; exact h.symm
  · rfl

theorem alloc_sound {P : Program} {B0 : Base} {w : World} {S : Seal} {H : Hp} {t : TypeId} {ty : Ty} (hi : Inv B0 w S H) (hz : ZeroOk P t ty) :
    ∃ w' S', (Instr.alloc t true (.tuple #[])).run P w = .ok (.pointer (some ⟨w.heap.size, 0, none⟩)) w' ∧ Ext B0 S S' w w' ∧ Inv B0 w' S' (H.set w.heap.size (some (.cells t (zerosA ty)))) ∧ H w.heap.size = none := by
  obtain ⟨i, z, h1, h2, h3⟩ := hz.ex
  obtain ⟨k1, k2, k3⟩ := new_sound (x := .cells t (zerosA ty)) (o := .cells z.cells t) hi (Ext.refl _ _ _) rfl (fun _ => rfl) 0 (by
    refine ⟨z.cells, alloc_heap_new _ _, by simp [Seal.set], ?_⟩
    rw [h3]
    exact zeros_rep' ty)
  refine ⟨_, _, ?_, k1, k2, k3⟩
  simp only [Instr.alloc, zeroValue, typeInfo, Sem.run_bind, run_program, Result.andThen_ok, h1, Sem.run_pure, h2, newVar, newRow, run_newObj]
  rfl

theorem store_sound {P : Program} {B0 : Base} {w : World} {S : Seal} {H : Hp} {t : TypeId} {r : Bool × Nat} {b off : Nat} {vs cs ds : List AVal} {u : Value} {arr : Array Value} {ty : TypeId} (hi : Inv B0 w S H) (hr : ldInfo P t = some r)
    (hB : B0 ≤ b) (hS : S b = 0) (hh : w.heap[b]? = some (.cells arr ty (0, 0))) (hv : RepL w S vs arr.toList) (hc : RepL w S cs u.cells.toList) (hl : cs.length = r.2) (hs : storeA vs off cs = some ds) :
    ∃ w', (Instr.storeAt t (.pointer (some ⟨b, off, none⟩)) u).run P w = .ok () w' ∧ Ext B0 S S w w' ∧ Inv B0 w' S (H.set b (some (.cells ty ds))) := by
  obtain ⟨_, h2⟩ := ldInfo_spec hr w
  unfold storeA at hs
  split at hs
  · rename_i hfit
    split at hs
    · rename_i hone
      simp only [Option.some.injEq] at hs
      subst hs
      have hcl := hc.length
      have hvl := hv.length
      simp only [Array.length_toList] at hvl hcl
      have hfit' : off + u.cells.toList.length ≤ arr.size := by rw [Array.length_toList]; omega
      have hst := run_storeCells_wr P b off ty (0, 0) u.cells.toList 0 arr w hh (by simpa using hfit') (one_cell hone hc) (fun j _ _ => by rw [frozen_of_heap hh]; simp)
      refine ⟨World.withRow w b (wr arr off u.cells.toList) ty (0, 0), ?_, Ext.write hB hS hh (wr_size _ _ _), Inv.write hi hB hS hh (wr_size _ _ _) ?_⟩
      · simp only [Instr.storeAt, Instr.sureAddr, pure_bind, storeVar, Sem.run_bind, h2, Result.andThen_ok]
        rw [if_neg (by omega)]
        simp only [Sem.run_bind, Sem.run_pure, Result.andThen_ok, hst, Nat.add_zero]
      · rw [wr_toList _ _ _ hfit']
        refine ((hv.take _).append hc).append ?_
        rw [hc.length]
        exact hv.drop _
    · simp at hs
  · simp at hs

/-! ### a row that may be written -/
theorem Flat.mid {α : Type} {R : α → List Value → Prop} {n : Nat} (hR : ∀ x cs, R x cs → cs.length = n) : ∀ {l : List α} {cs : List Value} (i : Nat) (hi : i < l.length), Flat R l cs → R l[i] ((cs.drop (i * n)).take n) ∧ i * n + n ≤ cs.length
  | [], _, i, hi, _ => by simp at hi
  | x :: l, _, i, hi, ⟨c, r, h0, h1, h2⟩ => by
    have hc := hR _ _ h1
    cases i with
    | zero =>
      rw [h0, Nat.zero_mul, List.drop_zero, ← hc, List.take_left]
      exact ⟨h1, by rw [List.length_append]; omega⟩
    | succ i =>
      have ih := Flat.mid hR i (by simpa using hi) h2
      rw [h0, show (i + 1) * n = c.length + i * n by rw [hc, Nat.succ_mul, Nat.add_comm], List.drop_append]
      simp only [List.getElem_cons_succ]
      refine ⟨?_, by rw [List.length_append]; omega⟩
      rw [List.drop_of_length_le (by omega), List.nil_append, show c.length + i * n - c.length = i * n by omega]
      exact ih.1
theorem Flat.set {α : Type} {R : α → List Value → Prop} {n : Nat} (hR : ∀ x cs, R x cs → cs.length = n) {y : α} {d : List Value} (hy : R y d) : ∀ {l : List α} {cs : List Value} (i : Nat) (hi : i < l.length), Flat R l cs → Flat R (l.set i y) (cs.take (i * n) ++ d ++ cs.drop (i * n + n))
  | [], _, i, hi, _ => by simp at hi
  | x :: l, _, i, hi, ⟨c, r, h0, h1, h2⟩ => by
    have hc := hR _ _ h1
    cases i with
    | zero =>
      rw [h0, Nat.zero_mul, List.take_zero, List.nil_append, Nat.zero_add, ← hc, List.drop_left]
      exact ⟨d, r, rfl, hy, h2⟩
    | succ i =>
      have ih := Flat.set hR hy i (by simpa using hi) h2
      refine ⟨c, _, ?_, h1, ih⟩
      rw [h0, show (i + 1) * n = c.length + i * n by rw [hc, Nat.succ_mul, Nat.add_comm], List.take_length_add_append, show c.length + i * n + n = c.length + (i * n + n) by omega, List.drop_length_add_append]
      simp only [List.append_assoc]

theorem mid_write {α : Type} (qs rest us : List α) (a sz off : Nat) (h1 : off + us.length ≤ sz) (h2 : a + sz ≤ qs.length) :
    (qs ++ rest).take (a + off) ++ us ++ (qs ++ rest).drop (a + off + us.length) = (qs.take a ++ (((qs.drop a).take sz).take off ++ us ++ ((qs.drop a).take sz).drop (off + us.length)) ++ qs.drop (a + sz)) ++ rest := by
  obtain ⟨A, M, Z, rfl, hA, hM⟩ : ∃ A M Z, qs = A ++ (M ++ Z) ∧ A.length = a ∧ M.length = sz := ⟨qs.take a, (qs.drop a).take sz, (qs.drop a).drop sz, by rw [List.take_append_drop, List.take_append_drop], by rw [List.length_take]; omega, by rw [List.length_take, List.length_drop]; omega⟩
  subst hA hM
  have e1 : (A ++ (M ++ Z) ++ rest).take (A.length + off) = A ++ M.take off := by
    rw [List.append_assoc, List.take_length_add_append, List.append_assoc, List.take_append_of_le_length (by omega)]
  have e2 : (A ++ (M ++ Z) ++ rest).drop (A.length + off + us.length) = M.drop (off + us.length) ++ (Z ++ rest) := by
    rw [List.append_assoc, show A.length + off + us.length = A.length + (off + us.length) by omega, List.drop_length_add_append, List.append_assoc, List.drop_append_of_le_length h1]
  rw [e1, e2, List.take_left, List.drop_left, List.take_left, List.drop_length_add_append, List.drop_left]
  simp only [List.append_assoc]

theorem row_store_sound {P : Program} {B0 : Base} {w : World} {S : Seal} {H : Hp} {t e : TypeId} {ty : Ty} {l : List ty.den} {r : Bool × Nat} {b i off : Nat} {cs ds : List AVal} {x : ty.den} {u : Value} (hi : Inv B0 w S H) (hb : H b = some (.row e ty l)) (hr : ldInfo P t = some r) (hil : i < l.length)
    (hc : RepL w S cs u.cells.toList) (hl : cs.length = r.2) (hs : storeA (encs ty l[i]) off cs = some ds) (hd : decs ty ds = some (x, [])) :
    ∃ w', (Instr.storeAt t (.pointer (some ⟨b, i * ty.size + off, none⟩)) u).run P w = .ok () w' ∧ Ext B0 S S w w' ∧ Inv B0 w' S (H.set b (some (.row e ty (l.set i x)))) := by
  obtain ⟨_, h2⟩ := ldInfo_spec hr w
  obtain ⟨hB, hS, arr, hh, qs, rest, hqs, hfl⟩ := hi.obj b _ hb
  have hRl : ∀ (y : ty.den) (c : List Value), RepD w S ty y c → c.length = ty.size := fun _ _ h => h.length
  obtain ⟨hm1, hm2⟩ := Flat.mid hRl i hil hfl
  have hcl := hc.length
  simp only [Array.length_toList] at hcl
  have hel := (repL_of_repD hm1).length
  rw [List.length_take, List.length_drop, Nat.min_eq_left (by omega)] at hel
  unfold storeA at hs
  split at hs
  case isFalse => simp at hs
  rename_i hfit
  split at hs
  case isFalse => simp at hs
  rename_i hone
  simp only [Option.some.injEq] at hs
  subst hs
  have hal : arr.toList.length = qs.length + rest.length := by rw [hqs, List.length_append]
  rw [Array.length_toList] at hal
  have hfit' : i * ty.size + off + u.cells.toList.length ≤ arr.size := by rw [Array.length_toList]; omega
  have hst := run_storeCells_wr P b (i * ty.size + off) e (0, 0) u.cells.toList 0 arr w hh (by simpa using hfit') (one_cell hone hc) (fun j _ _ => by rw [frozen_of_heap hh]; simp)
  have ex := Ext.write (ty := e) (fz := (0, 0)) (arr' := wr arr (i * ty.size + off) u.cells.toList) hB hS hh (wr_size _ _ _)
  obtain ⟨v1, v2, e1, e2, e3⟩ := decs_sound hd (show RepL w S _ ((((qs.drop (i * ty.size)).take ty.size).take off ++ u.cells.toList) ++ ((qs.drop (i * ty.size)).take ty.size).drop (off + cs.length)) from
    ((((repL_of_repD hm1).take off).append hc).append ((repL_of_repD hm1).drop (off + cs.length))))
  simp only [RepL] at e3
  subst e3
  rw [List.append_nil] at e1
  have hnew := Flat.set hRl e2 i hil hfl
  refine ⟨World.withRow w b (wr arr (i * ty.size + off) u.cells.toList) e (0, 0), ?_, ex, ?_⟩
  · simp only [Instr.storeAt, Instr.sureAddr, pure_bind, storeVar, Sem.run_bind, h2, Result.andThen_ok]
    rw [if_neg (by omega)]
    simp only [Sem.run_bind, Sem.run_pure, Result.andThen_ok, hst, Nat.add_zero]
  · refine ⟨by simp [World.withRow]; exact hi.base, fun c hc => ?_, fun c y hy => ?_, hi.tab.ext ex⟩
    · have hc' : w.heap.size ≤ c := by simpa [World.withRow] using hc
      have hcb : c ≠ b := fun h => by subst h; have := lt_of_heap hh; omega
      simp only [Hp.set, if_neg hcb]
      exact hi.top c hc'
    · simp only [Hp.set] at hy
      by_cases hcb : c = b
      · subst hcb
        simp only [if_true, Option.some.injEq] at hy
        subst hy
        refine ⟨hB, hS, _, withRow_heap hh, _, rest, ?_, hnew.imp fun _ _ h => RepD.ext ex h⟩
        rw [wr_toList _ _ _ hfit', hqs, ← e1, hc.length]
        exact mid_write qs rest u.cells.toList _ _ _ (by rw [Array.length_toList]; omega) hm2
      · simp only [if_neg hcb] at hy
        obtain ⟨k1, k2⟩ := hi.obj c y hy
        exact ⟨k1, k2.keep ex (withRow_other hcb) rfl⟩

/-- A row's part is cleared. -/
theorem clear_sound {P : Program} {B0 : Base} {w : World} {S : Seal} {H : Hp} {t e tt : TypeId} {ty : Ty} {l : List ty.den} {b i n cap : Nat} (hi : Inv B0 w S H) (hb : H b = some (.row e ty l)) (hm : MadeOk P t ty) (hin : i + n ≤ l.length) (hsz : ty.size = 1) :
    ∃ w', (Builtin.clear_ #[t] tt #[.slice (some ⟨b, i * 1, none⟩) n cap]).run P w = .ok (.tuple #[]) w' ∧ Ext B0 S S w w' ∧ Inv B0 w' S (H.set b (some (.row e ty (l.take i ++ List.replicate n ty.dflt ++ l.drop (i + n))))) := by
  obtain ⟨te, ti, z, v, q1, q2, q3, q4, q5⟩ := hm.ex
  obtain ⟨hB, hS, arr, hh, qs, rest, hqs, hfl⟩ := hi.obj b _ hb
  have hRl : ∀ (y : ty.den) (c : List Value), RepD w S ty y c → c.length = ty.size := fun _ _ h => h.length
  have hql := Flat.length hRl hfl
  rw [hsz, Nat.mul_one] at hql
  have hal : arr.size = qs.length + rest.length := by rw [← Array.length_toList, hqs, List.length_append]
  have hzc : (Builtin.zeroCells z.cells n).toList = List.replicate n v := by
    rw [q4]
    apply List.ext_getElem?
    intro j
    simp only [Builtin.zeroCells, List.size_toArray, List.length_cons, List.length_nil, Nat.zero_add, Nat.mul_one, Array.toList_map, Array.toList_range, List.getElem?_map]
    by_cases hj : j < n
    · rw [List.getElem?_range hj, List.getElem?_replicate, if_pos hj]
      simp [Nat.mod_one]
    · rw [List.getElem?_eq_none (by simp; omega), List.getElem?_replicate, if_neg hj]; rfl
  have hone : ∀ x ∈ List.replicate n v, x.oneCell' = true := fun x hx => by
    rw [List.eq_of_mem_replicate hx]
    exact repD_oneCell (q5 w S) v (by simp)
  have hfit : i * 1 + (List.replicate n v).length ≤ arr.size := by rw [List.length_replicate]; omega
  have hst := run_storeCells_wr P b (i * 1) e (0, 0) (List.replicate n v) 0 arr w hh (by simpa using hfit) hone (fun j _ _ => by rw [frozen_of_heap hh]; simp)
  have ex := Ext.write (ty := e) (fz := (0, 0)) (arr' := wr arr (i * 1) (List.replicate n v)) hB hS hh (wr_size _ _ _)
  have hnew : Flat (RepD w S ty) (l.take i ++ List.replicate n ty.dflt ++ l.drop (i + n)) (qs.take i ++ List.replicate n v ++ qs.drop (i + n)) := by
    have f1 := Flat.take hRl i hfl
    have f2 := Flat.drop hRl (i + n) hfl
    rw [hsz, Nat.mul_one] at f1 f2
    have f3 : ∀ k, Flat (RepD w S ty) (List.replicate k ty.dflt) (List.replicate k v) := fun k => by
      induction k with
      | zero => rfl
      | succ k ih => exact ⟨[v], _, rfl, q5 w S, ih⟩
    exact (f1.append (f3 n)).append f2
  have hrun : (Builtin.clear_ #[t] tt #[.slice (some ⟨b, i * 1, none⟩) n cap]).run P w = .ok (.tuple #[]) (World.withRow w b (wr arr (i * 1) (List.replicate n v)) e (0, 0)) ∨ n = 0 := by
    cases n with
    | zero => exact .inr rfl
    | succ n =>
      left
      unfold Builtin.clear_
      simp only [List.getElem?_toArray, List.getElem?_cons_zero, Sem.run_bind, run_underlying q1, Result.andThen_ok, zeroValue, typeInfo, run_program, q2, Sem.run_pure, q3]
      rw [hzc, hst]
      simp
  rcases hrun with hrun | rfl
  · refine ⟨_, hrun, ex, by simp [World.withRow]; exact hi.base, fun c hc => ?_, fun c y hy => ?_, hi.tab.ext ex⟩
    · have hc' : w.heap.size ≤ c := by simpa [World.withRow] using hc
      have hcb : c ≠ b := fun h => by subst h; have := lt_of_heap hh; omega
      simp only [Hp.set, if_neg hcb]
      exact hi.top c hc'
    · simp only [Hp.set] at hy
      by_cases hcb : c = b
      · subst hcb
        simp only [if_true, Option.some.injEq] at hy
        subst hy
        refine ⟨hB, hS, _, withRow_heap hh, _, rest, ?_, hnew.imp fun _ _ h => RepD.ext ex h⟩
        rw [wr_toList _ _ _ hfit, hqs, List.length_replicate, Nat.mul_one]
        rw [List.take_append_of_le_length (by omega), List.drop_append_of_le_length (by omega), List.append_assoc, List.append_assoc, List.append_assoc]
      · simp only [if_neg hcb] at hy
        obtain ⟨k1, k2⟩ := hi.obj c y hy
        exact ⟨k1, k2.keep ex (withRow_other hcb) rfl⟩
  · refine ⟨w, ?_, Ext.refl _ _ _, ?_⟩
    · unfold Builtin.clear_
      simp only [List.getElem?_toArray, List.getElem?_cons_zero, Sem.run_bind, run_underlying q1, Result.andThen_ok, Sem.run_pure]
    · simp only [List.replicate_zero, List.append_nil, Nat.add_zero, List.take_append_drop]
      have : H.set b (some (.row e ty l)) = H := by
        funext c; simp only [Hp.set]; split
        · rename_i hc; subst hc; exact hb.symm
        · rfl
      rw [this]; exact hi

/-! ### appending, where the row stays the call's to write -/
/-- A new block, all of it the call's to write. -/
theorem row_new {P : Program} {B0 : Base} {w : World} {S : Seal} {H : Hp} {e : TypeId} {ty : Ty} {ls : List ty.den} {arr : Array Value} {cs rest : List Value} {c : Nat} (hi : Inv B0 w S H) (ha : arr.toList = cs ++ rest) (hfl : Flat (RepD w S ty) ls cs) (hc : ls.length ≤ c) (hsz : arr.size = c * ty.size) :
    Ext B0 S S w (w.drew.alloc (.cells arr e)) ∧ Inv B0 (w.drew.alloc (.cells arr e)) S (H.set w.heap.size (some (.row e ty ls))) ∧ Rep (w.drew.alloc (.cells arr e)) S (.rs w.heap.size ty.size ls.length) (.slice (some ⟨w.heap.size, 0, none⟩) ls.length c) := by
  have hS : S.set w.heap.size 0 = S := seal_same (hi.top _ (Nat.le_refl _)).1
  have ex := Ext.fresh hi (Ext.drew B0 S w) rfl (.cells arr e) 0
  have hin := Inv.fresh hi (Ext.drew B0 S w) rfl (fun _ => rfl) (.cells arr e) 0 (some (.row e ty ls)) (by
    intro y hy
    cases hy
    exact ⟨by simp [Seal.set], arr, alloc_heap_new w.drew _, cs, rest, ha, hfl.imp fun _ _ h => RepD.ext ex h⟩)
  rw [hS] at ex hin
  refine ⟨ex, hin, ?_⟩
  simp only [Rep]
  refine ⟨c, rfl, hc, e, ?_⟩
  have hnew : (w.drew.alloc (.cells arr e)).heap[w.heap.size]? = some (.cells arr e (0, 0)) := alloc_heap_new w.drew _
  unfold World.shape?
  rw [hnew, ← hsz]

theorem append_new_sound {P : Program} {B0 : Base} {w : World} {S : Seal} {H : Hp} {t t2 tt : TypeId} {ty : Ty} {l xs : List ty.den} {o : Own} {u x : Value} {news : List Value} {bytes : Nat}
    (hi : Inv B0 w S H) (hu : Rep w S (.sl ty l o) u) (hex : o.isEx = true) (he : AppElem P t ty bytes) (hx : Gives P w ty.size t2 x xs.length news) (hn : Flat (RepD w S ty) xs news)
    (hxs : xs ≠ []) (hb : (l.length + xs.length) * bytes ≤ 140737488355328) (h63 : l.length + xs.length ≤ 9223372036854775807) :
    ∃ v w', (Builtin.append_ #[t, t2] tt #[u, x]).run P w = .ok v w' ∧ Ext B0 S S w w' ∧ Inv B0 w' S (H.set w.heap.size (some (.row (elTy P t) ty (l ++ xs)))) ∧ Rep w' S (.rs w.heap.size ty.size (l ++ xs).length) v := by
  obtain ⟨e, i, z, ht, hie, hsz, hby, hz, hzs⟩ := he.ex
  have hel : elTy P t = e := by simp [elTy, ht]
  rw [hel]
  simp only [Rep] at hu
  obtain ⟨base, cap, rfl, hcap, hsl, hown⟩ := hu
  rw [← hsz] at hx
  have hpos : 0 < xs.length := List.length_pos_iff.2 hxs
  have hc : cap = l.length := by
    cases o with
    | exact => exact hown
    | nil => have := hown.2; omega
    | lit m => exact hown.1
    | _ => simp [Own.isEx] at hex
  obtain ⟨olds, k1, k2⟩ := slAt_first (P := P) (w' := w.drew) (cap := cap) hsl (fun _ => rfl)
  rw [← hsz] at k2
  have hrun := run_append_out (ty := tt) ht hie hz base l.length cap _ x news olds hx (by omega) k2 (by rw [hby]; exact hb) h63
  have hge := grownCap_ge w (l.length + xs.length) cap e
  have hfl : Flat (RepD w S ty) (l ++ xs) (olds ++ news) := k1.append hn
  have hlen : (olds ++ news).length = (l.length + xs.length) * ty.size := by rw [flat_length hfl, List.length_append]
  generalize hcc : grownCap w (l.length + xs.length) cap e = c at hrun hge
  have harr : (olds.toArray ++ news.toArray ++ Builtin.zeroCells z.cells (c - (l.length + xs.length))).size = c * ty.size := by
    simp only [Array.size_append, List.size_toArray, size_zeroCells, hzs]
    rw [← List.length_append, hlen, ← Nat.add_mul]
    congr 1
    omega
  obtain ⟨g1, g2, g3⟩ := row_new (P := P) (e := e) (c := c) hi (arr := olds.toArray ++ news.toArray ++ Builtin.zeroCells z.cells (c - (l.length + xs.length))) (cs := olds ++ news) (rest := (Builtin.zeroCells z.cells (c - (l.length + xs.length))).toList) (by simp) hfl (by rw [List.length_append]; exact hge) harr
  rw [List.length_append] at g3 ⊢
  exact ⟨_, _, hrun, g1, g2, g3⟩

theorem append_row_sound {P : Program} {B0 : Base} {w : World} {S : Seal} {H : Hp} {t t2 tt : TypeId} {ty : Ty} {l xs : List ty.den} {b : Nat} {u x : Value} {news : List Value} {bytes : Nat}
    (hi : Inv B0 w S H) (hb' : H b = some (.row (elTy P t) ty l)) (hu : Rep w S (.rs b ty.size l.length) u) (he : AppElem P t ty bytes) (hx : Gives P w ty.size t2 x xs.length news) (hn : Flat (RepD w S ty) xs news)
    (hb : (l.length + xs.length) * bytes ≤ 140737488355328) (h63 : l.length + xs.length ≤ 9223372036854775807) :
    ∃ v w' b', (Builtin.append_ #[t, t2] tt #[u, x]).run P w = .ok v w' ∧ Ext B0 S S w w' ∧ (H.set b none) b' = none ∧ Inv B0 w' S ((H.set b none).set b' (some (.row (elTy P t) ty (l ++ xs)))) ∧ Rep w' S (.rs b' ty.size (l ++ xs).length) v := by
  obtain ⟨e, i, z, ht, hie, hsz, hby, hz, hzs⟩ := he.ex
  have hel : elTy P t = e := by simp [elTy, ht]
  rw [hel] at hb' ⊢
  simp only [Rep] at hu
  obtain ⟨cap, rfl, hcap, tyid, hshape⟩ := hu
  rw [← hsz] at hx
  obtain ⟨hB, hS, arr, hh, cs, rest, hcs, hfl⟩ := hi.obj b _ hb'
  have hsize : arr.size = cap * ty.size := by
    simp only [World.shape?, hh, Option.some.injEq, Prod.mk.injEq] at hshape
    exact hshape.2
  have hcl := flat_length hfl
  have hnl := flat_length hn
  have hlt := lt_of_heap hh
  by_cases hroom : l.length + xs.length ≤ cap
  · -- in place
    have hfit : l.length * ty.size + news.length ≤ arr.size := by
      rw [hnl, hsize, ← Nat.add_mul]
      exact Nat.mul_le_mul_right _ hroom
    have hst := run_storeCells_wr P b (l.length * ty.size) e (0, 0) news 0 arr w hh (by simpa using hfit) (flat_oneCell hn) (fun j _ _ => by rw [frozen_of_heap hh]; simp)
    have hrun := run_append_in (ty := tt) ht hie (some ⟨b, 0, none⟩) l.length cap _ x news hx hroom
    simp only [add_none, Nat.zero_add, hsz, hst, Nat.add_zero, Result.andThen_ok] at hrun
    have ex := Ext.write (ty := e) (fz := (0, 0)) (arr' := wr arr (l.length * ty.size) news) hB hS hh (wr_size _ _ _)
    have hnew : (World.withRow w b (wr arr (l.length * ty.size) news) e (0, 0)).heap[b]? = some (.cells (wr arr (l.length * ty.size) news) e (0, 0)) := withRow_heap hh
    refine ⟨_, _, b, hrun, ex, by simp [Hp.set], ?_, ?_⟩
    · refine ⟨by simp [World.withRow]; exact hi.base, fun c hc => ?_, fun c y hy => ?_, hi.tab.ext ex⟩
      · have hc' : w.heap.size ≤ c := by simpa [World.withRow] using hc
        have hcb : c ≠ b := fun h => by subst h; omega
        simp only [Hp.set, if_neg hcb]
        exact hi.top c hc'
      · simp only [Hp.set] at hy
        by_cases hcb : c = b
        · subst hcb
          simp only [if_true, Option.some.injEq] at hy
          subst hy
          refine ⟨hB, hS, _, hnew, cs ++ news, (arr.toList.drop (l.length * ty.size + news.length)), ?_, (hfl.append hn).imp fun _ _ h => RepD.ext ex h⟩
          rw [wr_toList _ _ _ (by simpa using hfit), hcs, ← hcl, List.take_left]
        · simp only [if_neg hcb] at hy
          obtain ⟨k1, k2⟩ := hi.obj c y hy
          exact ⟨k1, k2.keep ex (withRow_other hcb) rfl⟩
    · simp only [Rep]
      exact ⟨cap, by rw [List.length_append], by rw [List.length_append]; exact hroom, tyid, ex.shape _ _ hshape⟩
  · -- a new block
    have hcells : ∀ j v, cs[j]? = some v → w.drew.cell? ⟨b, 0 + j, none⟩ = some v := fun j v hj => by
      show w.cell? _ = _
      rw [Nat.zero_add, cell_of_heap hh, ← Array.getElem?_toList, hcs]
      have : j < cs.length := by
        rcases Nat.lt_or_ge j cs.length with h | h
        · exact h
        · rw [List.getElem?_eq_none h] at hj; simp at hj
      rw [List.getElem?_append_left this]; exact hj
    have k2 : (Builtin.firstCells i.size l.length (.slice (some ⟨b, 0, none⟩) l.length cap)).run P w.drew = .ok cs.toArray w.drew := by
      refine run_firstCells_some w.drew i.size l.length _ _ _ cs (by rw [hsz]; exact hcl) (fun j v hj => ?_)
      rw [add_none]
      exact hcells j v hj
    have hrun := run_append_out (ty := tt) ht hie hz (some ⟨b, 0, none⟩) l.length cap _ x news cs hx (by omega) k2 (by rw [hby]; exact hb) h63
    have hge := grownCap_ge w (l.length + xs.length) cap e
    have hfl2 : Flat (RepD w S ty) (l ++ xs) (cs ++ news) := hfl.append hn
    have hlen : (cs ++ news).length = (l.length + xs.length) * ty.size := by rw [flat_length hfl2, List.length_append]
    generalize hcc : grownCap w (l.length + xs.length) cap e = c at hrun hge
    have harr : (cs.toArray ++ news.toArray ++ Builtin.zeroCells z.cells (c - (l.length + xs.length))).size = c * ty.size := by
      simp only [Array.size_append, List.size_toArray, size_zeroCells, hzs]
      rw [← List.length_append, hlen, ← Nat.add_mul]
      congr 1
      omega
    have hle : (H.set b none).Le H := fun c y hy => by
      simp only [Hp.set] at hy
      split at hy
      · simp at hy
      · exact hy
    obtain ⟨g1, g2, g3⟩ := row_new (P := P) (e := e) (c := c) (hi.le hle) (arr := cs.toArray ++ news.toArray ++ Builtin.zeroCells z.cells (c - (l.length + xs.length))) (cs := cs ++ news) (rest := (Builtin.zeroCells z.cells (c - (l.length + xs.length))).toList) (by simp) hfl2 (by rw [List.length_append]; exact hge) harr
    rw [List.length_append] at g3 ⊢
    exact ⟨_, _, w.heap.size, hrun, g1, ((hi.le hle).top _ (Nat.le_refl _)).2, g2, g3⟩

/-! ### ranging over a string -/
theorem range_sound {P : Program} {B0 : Base} {w : World} {S : Seal} {H : Hp} {t : TypeId} {s : List UInt8} (hi : Inv B0 w S H) (ht : P.underlying t = some .string) :
    ∃ w' S', (Instr.range t (strV s)).run P w = .ok (.pointer (some ⟨w.heap.size, 0, none⟩)) w' ∧ Ext B0 S S' w w' ∧ Inv B0 w' S' (H.set w.heap.size (some (.iter s 0))) ∧ H w.heap.size = none := by
  obtain ⟨k1, k2, k3⟩ := new_sound (x := .iter s 0) (o := .stringIter ⟨s.toArray⟩ 0) hi (Ext.refl _ _ _) rfl (fun _ => rfl) 0 ⟨by simp [Seal.set], alloc_heap_new _ _⟩
  exact ⟨_, _, run_range_string w t _ ht, k1, k2, k3⟩

theorem next_sound {P : Program} {B0 : Base} {w : World} {S : Seal} {H : Hp} {b pos pos' : Nat} {s : List UInt8} (hi : Inv B0 w S H) (hb : H b = some (.iter s pos)) :
    ∃ w', (setObj b (.stringIter ⟨s.toArray⟩ pos')).run P w = .ok () w' ∧ Ext B0 S S w w' ∧ Inv B0 w' S (H.set b (some (.iter s pos'))) := by
  obtain ⟨hB, hS, hh⟩ := hi.obj b _ hb
  have hlt := lt_of_heap hh
  have hoth : ∀ c, c ≠ b → ({ w with heap := w.heap.setIfInBounds b (.stringIter ⟨s.toArray⟩ pos') } : World).heap[c]? = w.heap[c]? := fun c hc => by
    simp [Array.getElem?_setIfInBounds, Ne.symm hc]
  have hnew : ({ w with heap := w.heap.setIfInBounds b (.stringIter ⟨s.toArray⟩ pos') } : World).heap[b]? = some (.stringIter ⟨s.toArray⟩ pos') := by
    simp [Array.getElem?_setIfInBounds, hlt]
  have ex : Ext B0 S S w { w with heap := w.heap.setIfInBounds b (.stringIter ⟨s.toArray⟩ pos') } := by
    refine ⟨⟨rfl, rfl, rfl, by simp, fun k hk => hoth k (by omega)⟩, fun _ => Nat.le_refl _, fun c j hj => ?_, fun c y hy => ?_⟩
    · exact cell_of_other (hoth c (fun e => by subst e; omega))
    · by_cases hc : c = b
      · subst hc; simp [World.shape?, hh] at hy
      · rw [shape_of_other (hoth c hc)]; exact hy
  refine ⟨_, ?_, ex, by simpa using hi.base, fun c hc => ?_, fun c y hy => ?_, hi.tab.ext ex⟩
  · simp [setObj, Sem.run, hh]
  · have hc' : w.heap.size ≤ c := by simpa using hc
    simp only [Hp.set, if_neg (show c ≠ b by omega)]
    exact hi.top c hc'
  · simp only [Hp.set] at hy
    by_cases hcb : c = b
    · subst hcb
      simp only [if_true, Option.some.injEq] at hy
      subst hy
      exact ⟨hB, hS, hnew⟩
    · simp only [if_neg hcb] at hy
      obtain ⟨k1, k2⟩ := hi.obj c y hy
      exact ⟨k1, k2.keep ex (hoth c hcb) rfl⟩


/-! ### maps of texts and numbers -/
section
open Go.Instr

theorem sameNow_str (s t : List UInt8) : sameNow .string (strV s) (strV t) = some (decide (s = t)) := by
  unfold strV
  simp only [sameNow]
  congr 1
  rw [Bool.eq_iff_iff, Go.MapKept.bytes_beq, decide_eq_true_eq]
  constructor
  · intro hh
    have := congrArg (fun b => b.data.toList) hh
    simpa using this
  · rintro rfl; rfl
theorem findNow_map (s : List UInt8) : ∀ (es : List (List UInt8 × Int × Nat)) (i : Nat), findNow .string (strV s) (es.map mapE) i = some ((findS es s i).map fun q => (q.1, Value.int .i64 q.2.1))
  | [], i => rfl
  | e :: r, i => by
    simp only [List.map_cons, findNow, mapE, sameNow_str]
    by_cases h : s = e.1
    · rw [decide_eq_true h]; simp only [findS, if_pos h, Option.map_some]
    · rw [decide_eq_false h]; simp only [findS, if_neg h]; exact findNow_map s r (i + 1)
theorem checkKey_str {P : Program} {w : World} {kt : TypeId} (h : P.underlying kt = some .string) (b : Bool) (n : Nat) (s : List UInt8) : (checkKey b (n + 1) kt (strV s)).run P w = .ok () w := by
  unfold checkKey strV
  simp only [Sem.run_bind, run_underlying h, Result.andThen_ok, Sem.run_pure]
theorem findKey_str {P : Program} {w : World} {kt : TypeId} (h : P.underlying kt = some .string) (es : List (List UInt8 × Int × Nat)) (s : List UInt8) : (findKey kt (strV s) (es.map mapE)).run P w = .ok ((findS es s 0).map fun q => (q.1, Value.int .i64 q.2.1)) w := by
  unfold findKey
  simp only [Sem.run_bind, run_underlying h, Result.andThen_ok, findNow_map, Sem.run_pure]
theorem run_lookup_str {P : Program} {w : World} {t : TypeId} {b k : Nat} {es : List (List UInt8 × Int × Nat)} {s : List UInt8} (hm : MapOk P t) (hh : w.heap[b]? = some (.map (es.map mapE).toArray k)) :
    (Instr.lookup t (.map (some b)) (strV s) false).run P w = .ok (.int .i64 (lookS es s)) w := by
  obtain ⟨kt, et, i, h1, h2, h3, h4⟩ := hm.ex
  unfold Instr.lookup
  simp only [Sem.run_bind, run_underlying h1, Result.andThen_ok, Go.MapKept.run_getObj_map hh, Sem.run_pure, checkKey_str h2, findKey_str h2]
  unfold lookS
  cases findS es s 0 with
  | none => simp only [Option.map_none, Option.getD_none, zeroValue, typeInfo, Sem.run_bind, run_program, h3, h4, Sem.run_pure, Result.andThen_ok]; simp
  | some q => simp

theorem findS_get {s : List UInt8} : ∀ {es : List (List UInt8 × Int × Nat)} {i : Nat} {q}, findS es s i = some q → i ≤ q.1 ∧ es[q.1 - i]? = some (s, q.2.1, q.2.2)
  | [], i, q, h => by simp [findS] at h
  | e :: r, i, q, h => by
    unfold findS at h
    split at h
    · rename_i he
      cases h
      simp [he]
    · obtain ⟨h1, h2⟩ := findS_get h
      refine ⟨by omega, ?_⟩
      rw [show q.1 - i = (q.1 - (i + 1)) + 1 by omega]
      simpa using h2
theorem modify_same {α : Type} (a : Array α) (i : Nat) (f : α → α) (x : α) (h : a[i]? = some x) (hf : f x = x) : a.modify i f = a := by
  apply Array.ext_getElem?
  intro j
  rw [Array.getElem?_modify]
  split
  · rename_i hij; subst hij; rw [h]; simp [hf]
  · rfl
theorem run_entry_str {P : Program} {w : World} {t : TypeId} {b k : Nat} {es : List (List UInt8 × Int × Nat)} {s : List UInt8} (hm : MapOk P t) (hh : w.heap[b]? = some (.map (es.map mapE).toArray k)) :
    (Instr.mapEntry t (.map (some b)) (strV s)).run P w = .ok (.tuple #[.int .i64 (entS es k s).1, .int .i64 (entS es k s).2.1]) { w with heap := w.heap.setIfInBounds b (.map ((entS es k s).2.2.1.map mapE).toArray (entS es k s).2.2.2) } := by
  obtain ⟨kt, et, i, h1, h2, h3, h4⟩ := hm.ex
  unfold Instr.mapEntry
  simp only [Sem.run_bind, run_underlying h1, Result.andThen_ok, Go.MapKept.run_getObj_map hh, Sem.run_pure, checkKey_str h2, findKey_str h2]
  unfold entS
  cases hf : findS es s 0 with
  | none =>
    simp only [Option.map_none, zeroValue, typeInfo, Sem.run_bind, run_program, h3, h4, Sem.run_pure, Result.andThen_ok, Go.MapKept.run_setObj_map _ hh]
    simp [goInt, mapE]
  | some q =>
    obtain ⟨_, hq⟩ := findS_get hf
    have hq' : (es.map mapE).toArray[q.1]? = some (mapE (s, q.2.1, q.2.2)) := by
      simp only [Nat.sub_zero] at hq
      rw [List.getElem?_toArray, List.getElem?_map, hq]; rfl
    have hb : (keyThatStays (strV s) (strV s)).run P w = .ok (strV s) w := by
      unfold keyThatStays strV
      rw [if_pos (by simp only [sameBits]; exact (Go.MapKept.bytes_beq _ _).2 rfl)]
      rfl
    have hmod : (es.map mapE).toArray.modify q.1 (fun e => { e with key := strV s }) = (es.map mapE).toArray := modify_same _ _ _ _ hq' rfl
    simp only [Option.map_some, hq', Option.getD_some, Sem.run_bind, show (mapE (s, q.2.1, q.2.2)).key = strV s from rfl, hb, Result.andThen_ok, Go.MapKept.run_setObj_map _ hh, Sem.run_pure, hmod]
    simp [goInt, mapE]

theorem storeS_spec : ∀ {es es' : List (List UInt8 × Int × Nat)} {st v : Int}, storeS es st v = some es' → ∃ i, (es.map mapE).findIdx? (fun e => (e.born : Int) == st) = some i ∧ (es.map mapE).modify i (fun e => { e with val := .int .i64 v }) = es'.map mapE
  | [], es', st, v, h => by simp [storeS] at h
  | e :: r, es', st, v, h => by
    unfold storeS at h
    split at h
    · rename_i he
      cases h
      exact ⟨0, by simp [List.findIdx?_cons, mapE, he], rfl⟩
    · rename_i he
      rw [Option.map_eq_some_iff] at h
      obtain ⟨r', h, rfl⟩ := h
      obtain ⟨i, h1, h2⟩ := storeS_spec h
      refine ⟨i + 1, ?_, ?_⟩
      · have hb : ((e.2.2 : Int) == st) = false := beq_eq_false_iff_ne.2 he
        rw [List.map_cons, List.findIdx?_cons, h1]
        simp [mapE, hb]
      · rw [List.map_cons, List.modify_succ_cons, h2, List.map_cons]
theorem run_entryStore_str {P : Program} {w : World} {t : TypeId} {b k : Nat} {es es' : List (List UInt8 × Int × Nat)} {st v : Int} (hh : w.heap[b]? = some (.map (es.map mapE).toArray k)) (hs : storeS es st v = some es') :
    (Instr.entryStore t (.map (some b)) (.int .i64 st) (.int .i64 v)).run P w = .ok () { w with heap := w.heap.setIfInBounds b (.map (es'.map mapE).toArray k) } := by
  obtain ⟨i, h1, h2⟩ := storeS_spec hs
  unfold Instr.entryStore
  have h1' : (es.map mapE).toArray.findIdx? (fun e => (e.born : Int) == st) = some i := by rw [List.findIdx?_toArray]; exact h1
  have h2' : (es.map mapE).toArray.modify i (fun e => { e with val := .int .i64 v }) = (es'.map mapE).toArray := by rw [List.modify_toArray, h2]
  simp only [Sem.run_bind, Result.andThen_ok, Go.MapKept.run_getObj_map hh, asInt, asIntOf, Sem.run_bind, Sem.run_pure, Result.andThen_ok, h1', Go.MapKept.run_setObj_map _ hh, h2']

theorem updS_none {s : List UInt8} {v : Int} {k : Nat} : ∀ {es : List (List UInt8 × Int × Nat)} {i : Nat}, findS es s i = none → updS es k s v = es ++ [(s, v, k)]
  | [], i, h => rfl
  | e :: r, i, h => by
    unfold findS at h
    split at h
    · simp at h
    · rename_i he
      rw [updS, if_neg he, updS_none h]; rfl
theorem updS_some {s : List UInt8} {v : Int} {k : Nat} : ∀ {es : List (List UInt8 × Int × Nat)} {i : Nat} {q}, findS es s i = some q → i ≤ q.1 ∧ (es.map mapE).modify (q.1 - i) (fun e => { e with key := strV s, val := .int .i64 v }) = (updS es k s v).map mapE
  | [], i, q, h => by simp [findS] at h
  | e :: r, i, q, h => by
    unfold findS at h
    split at h
    · rename_i he
      cases h
      rw [updS, if_pos he, Nat.sub_self]
      exact ⟨Nat.le_refl _, rfl⟩
    · rename_i he
      obtain ⟨h1, h2⟩ := updS_some (k := k) (v := v) h
      refine ⟨by omega, ?_⟩
      rw [updS, if_neg he, show q.1 - i = (q.1 - (i + 1)) + 1 by omega, List.map_cons, List.modify_succ_cons, h2, List.map_cons]
theorem run_mapUpdate_str {P : Program} {w : World} {t : TypeId} {b k : Nat} {es : List (List UInt8 × Int × Nat)} {s : List UInt8} {v : Int} (hm : MapOk P t) (hh : w.heap[b]? = some (.map (es.map mapE).toArray k)) :
    (Instr.mapUpdate t (.map (some b)) (strV s) (.int .i64 v)).run P w = .ok () { w with heap := w.heap.setIfInBounds b (.map ((updS es k s v).map mapE).toArray (updK es k s)) } := by
  obtain ⟨kt, et, i, h1, h2, h3, h4⟩ := hm.ex
  unfold Instr.mapUpdate
  simp only [Sem.run_bind, run_underlying h1, Result.andThen_ok, Go.MapKept.run_getObj_map hh, Sem.run_pure, checkKey_str h2, findKey_str h2]
  unfold updK
  cases hf : findS es s 0 with
  | none =>
    have := updS_none (v := v) (k := k) hf
    simp only [Option.map_none, Go.MapKept.run_setObj_map _ hh, this]
    simp [mapE]
  | some q =>
    obtain ⟨_, hq⟩ := findS_get hf
    obtain ⟨_, hu⟩ := updS_some (v := v) (k := k) hf
    have hq' : (es.map mapE).toArray[q.1]? = some (mapE (s, q.2.1, q.2.2)) := by
      simp only [Nat.sub_zero] at hq
      rw [List.getElem?_toArray, List.getElem?_map, hq]; rfl
    have hb : (keyThatStays (strV s) (strV s)).run P w = .ok (strV s) w := by
      unfold keyThatStays strV
      rw [if_pos (by simp only [sameBits]; exact (Go.MapKept.bytes_beq _ _).2 rfl)]
      rfl
    have hmod : (es.map mapE).toArray.modify q.1 (fun e => { e with key := strV s, val := .int .i64 v }) = ((updS es k s v).map mapE).toArray := by
      rw [List.modify_toArray, ← hu, Nat.sub_zero]
    simp only [Option.map_some, hq', Option.getD_some, Sem.run_bind, show (mapE (s, q.2.1, q.2.2)).key = strV s from rfl, hb, Result.andThen_ok, Go.MapKept.run_setObj_map _ hh, hmod]

theorem map_put {B0 : Base} {w : World} {S : Seal} {H : Hp} {b k k' : Nat} {es es' : List (List UInt8 × Int × Nat)} (hi : Inv B0 w S H) (hb : H b = some (.smap es k)) :
    Ext B0 S S w { w with heap := w.heap.setIfInBounds b (.map (es'.map mapE).toArray k') } ∧ Inv B0 { w with heap := w.heap.setIfInBounds b (.map (es'.map mapE).toArray k') } S (H.set b (some (.smap es' k'))) := by
  obtain ⟨hB, hS, hh⟩ := hi.obj b _ hb
  have hlt := lt_of_heap hh
  have other : ∀ c, c ≠ b → ({ w with heap := w.heap.setIfInBounds b (.map (es'.map mapE).toArray k') } : World).heap[c]? = w.heap[c]? := fun c hc => by
    show (w.heap.setIfInBounds b _)[c]? = _
    rw [Array.getElem?_setIfInBounds, if_neg (Ne.symm hc)]
  have same : ({ w with heap := w.heap.setIfInBounds b (.map (es'.map mapE).toArray k') } : World).heap[b]? = some (.map (es'.map mapE).toArray k') := by
    show (w.heap.setIfInBounds b _)[b]? = _
    rw [Array.getElem?_setIfInBounds, if_pos rfl, if_pos hlt]
  have ex : Ext B0 S S w { w with heap := w.heap.setIfInBounds b (.map (es'.map mapE).toArray k') } := by
    refine ⟨⟨rfl, rfl, rfl, by simp, fun c hc => other c (by omega)⟩, fun _ => Nat.le_refl _, fun c i hc => ?_, fun c x hx => ?_⟩
    · have hcb : c ≠ b := fun e => by subst e; rw [hS] at hc; omega
      exact cell_of_other (other c hcb)
    · have hcb : c ≠ b := fun e => by
        subst e
        simp [World.shape?, hh] at hx
      rw [shape_of_other (other c hcb)]; exact hx
  refine ⟨ex, ?_, fun c hc => ?_, fun c y hy => ?_, hi.tab.ext ex⟩
  · simpa using hi.base
  · simp at hc
    simp only [Hp.set]
    rw [if_neg (by omega)]
    exact hi.top c hc
  · simp only [Hp.set] at hy
    by_cases hcb : c = b
    · subst hcb
      rw [if_pos rfl] at hy
      cases hy
      exact ⟨hB, hS, same⟩
    · rw [if_neg hcb] at hy
      obtain ⟨k1, k2⟩ := hi.obj c y hy
      exact ⟨k1, k2.keep ex (other c hcb) rfl⟩
end
end Go.Sv
