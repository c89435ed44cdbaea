/- What the library's functions come to, as contracts of this text's own: strings.Cut, bytes.Index, with the number that the library chose. Own work; printed from wip/law25/sh.in by pre3.py. -/
import Derived.Test.YtopegdkhoafajaaShelf
import Derived.Test.YtopegdkhoafajaaFacts
import Derived.Test.YtopegdkhoafajaaCore15
import Derived.Test.YtopegdkhoafajaaCore28
namespace Go.Proofs.Ytopegdkhoafajaa
open Go.Sv Go.Shelf
set_option linter.unusedSimpArgs false
set_option linter.unusedVariables false
set_option maxRecDepth 100000

/-- The one number that the library chose. -/
def T0 (m : Int) : List (Nat × List Value) := [(0, [.int .i64 m])]
theorem max_of {w : World} {S : Seal} {m : Int} (h : TabAt (T0 m) w S) : w.cell? ⟨0, 0, none⟩ = some (.int .i64 m) := h.cell (q := (0, [.int .i64 m])) (by simp [T0]) rfl
theorem strSize (s : List UInt8) : (ByteArray.mk s.toArray).size = s.length := by simp [ByteArray.size]
theorem cut27 {n : Nat} {m : Int} {s p : List UInt8} {H : Hp} {K : AVal → Hp → Prop} (hs : s.length ≤ 1000000000) (h : K (.tup [.str (Lib.cut s p).1, .str (Lib.cut s p).2.1, .bool (Lib.cut s p).2.2]) H) : FnC Try.prog ⟨n, T0 m⟩ 27 [.str s, .str p] H K := by
  refine FnC_of_calls (x := .tup [.str (Lib.cut s p).1, .str (Lib.cut s p).2.1, .bool (Lib.cut s p).2.2]) Try.func27 (by kernel_rfl) (by kernel_rfl) (v := .tuple #[strV (Lib.cut s p).1, strV (Lib.cut s p).2.1, .bool (Lib.cut s p).2.2])
    (fun w S => by simp only [Rep, RepL]; exact ⟨_, rfl, _, _, rfl, rfl, _, _, rfl, rfl, _, _, rfl, rfl, rfl⟩) (fun w S vs hi ha => ?_) h
  obtain ⟨u, v, rfl, hu, hv⟩ := rep2 ha
  simp only [Rep, strV] at hu hv
  subst hu hv
  refine (Any.strings_Cut Try.lays145 ⟨s.toArray⟩ ⟨p.toArray⟩ m w (by rw [strSize]; omega) (max_of hi.tab)).mono fun e w' h => ⟨h.1, ?_⟩
  obtain ⟨k, rfl⟩ := h.2
  exact ⟨rfl, rfl, rfl, Nat.le_refl _, fun _ _ => rfl⟩
theorem bytes_cells {w : World} {S : Seal} {l : List UInt8} {o : Own} {v : Value} (h : Rep w S (.sl .u8 l o) v) (hl : l ≠ []) : ∃ a cap, v = .slice (some a) l.length cap ∧ l.length ≤ cap ∧ ∀ i, i < l.length → w.cell? (a.add i) = some (.int .u8 ((l.map fun c => ((c.toNat : Nat) : Int)).getD i 0)) := by
  simp only [Rep] at h
  obtain ⟨a, cap, rfl, hcap, hsl, _⟩ := h
  obtain ⟨b, off, rfl, cells, h1, h2, h3⟩ := hsl.resolve_left hl
  refine ⟨⟨b, off, none⟩, cap, rfl, hcap, fun i hi => ?_⟩
  rw [add_none]
  refine h3 i _ ?_
  rw [flat_u8 h1, List.getElem?_map, List.getD_eq_getElem?_getD, List.getElem?_map, List.getElem?_eq_getElem hi]
  rfl
theorem bytesOf_map (l : List UInt8) : Lib.bytesOf (l.map fun c => ((c.toNat : Nat) : Int)) = l := by
  unfold Lib.bytesOf
  rw [List.map_map]
  conv => rhs; rw [← List.map_id l]
  congr 1
  funext c
  simp
theorem index34 {n : Nat} {m : Int} {s p : List UInt8} {o1 o2 : Own} {H : Hp} {K : AVal → Hp → Prop} (hs : s.length ≤ 1000000000) (hp : p.length ≤ 1000000000) (hs0 : s ≠ []) (hp0 : p ≠ []) (h : K (.int .i64 (Lib.index s p)) H) : FnC Try.prog ⟨n, T0 m⟩ 34 [.sl .u8 s o1, .sl .u8 p o2] H K := by
  refine FnC_of_calls (x := .int .i64 (Lib.index s p)) Try.func34 (by kernel_rfl) (by kernel_rfl) (v := .int .i64 (Lib.index s p)) (fun w S => by simp only [Rep]) (fun w S vs hi ha => ?_) h
  obtain ⟨u, v, rfl, hu, hv⟩ := rep2 ha
  obtain ⟨a1, c1, rfl, hc1, k1⟩ := bytes_cells hu hs0
  obtain ⟨a2, c2, rfl, hc2, k2⟩ := bytes_cells hv hp0
  have hr : ∀ l : List UInt8, ∀ x ∈ l.map (fun c => ((c.toNat : Nat) : Int)), 0 ≤ x ∧ x < 256 := by
    intro l x hx
    obtain ⟨c, _, rfl⟩ := List.mem_map.1 hx
    have := c.toNat_lt
    omega
  have := Any.bytes_Index_at Try.lays185 a1 a2 s.length c1 p.length c2 (s.map fun c => ((c.toNat : Nat) : Int)) (p.map fun c => ((c.toNat : Nat) : Int)) m w (by simp) (by simp) (hr s) (hr p) k1 k2 hc1 (by omega) (by omega) (max_of hi.tab)
  rw [bytesOf_map, bytesOf_map] at this
  refine this.mono fun e w' h => ⟨h.1, ?_⟩
  obtain ⟨k, rfl⟩ := h.2
  exact ⟨rfl, rfl, rfl, Nat.le_refl _, fun _ _ => rfl⟩
end Go.Proofs.Ytopegdkhoafajaa
