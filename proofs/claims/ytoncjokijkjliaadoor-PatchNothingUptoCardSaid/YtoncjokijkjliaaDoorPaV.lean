/- Patches: how large what comes in may be. Own work; printed from wip/law22/v.in by pre3.py. -/
import Derived.Test.YtoncjokijkjliaaDoorPaE
import Derived.Test.YtoncjokijkjliaaDoorCore25
namespace Go.Proofs.YtoncjokijkjliaaDoor
open Go.Sv
theorem total_bulk : ∀ (l : List EditT.den), totalL l ≤ bulkT (.sl EditT) l := by
  intro l
  have key : ∀ l : List EditT.den, totalL l ≤ (l.map (bulkT EditT)).sum := by
    intro l
    induction l with
    | nil => simp [totalL]
    | cons x l ih =>
      have h := bulk_sl2 (t := .u8) x.2.2.1
      rw [total_cons, List.map_cons, List.sum_cons]
      have : bulkT EditT x = bulkT (.int .i64) x.1 + (bulkT (.int .i64) x.2.1 + (bulkT (.sl .u8) x.2.2.1 + bulkT .nil x.2.2.2)) ∨ bulkT (.sl .u8) x.2.2.1 ≤ bulkT EditT x := by
        right; simp only [bulkT]; omega
      rcases this with h2 | h2 <;> omega
  have := key l
  simp only [bulkT] at this ⊢
  omega
theorem str_bulk : ∀ {l : List (List UInt8)} {s : List UInt8}, s ∈ l → s.length + 1 ≤ bulkT (.sl .str) l := by
  intro l s hs
  have key : ∀ l : List (List UInt8), s ∈ l → s.length + 1 ≤ (l.map (bulkT .str)).sum := by
    intro l
    induction l with
    | nil => intro h; simp at h
    | cons x l ih =>
      intro h
      rw [List.map_cons, List.sum_cons]
      rcases List.mem_cons.1 h with rfl | h
      · have : bulkT .str s = s.length + 1 := rfl
        omega
      · have := ih h; omega
  have := key l hs
  simp only [bulkT] at this ⊢
  omega
theorem join_bulk (l : List (List UInt8)) (e : List UInt8) : (joinL l e).length ≤ bulkT (.sl .str) l + l.length * e.length := by
  have key : ∀ l : List (List UInt8), (joinL l e).length ≤ (l.map (bulkT .str)).sum + l.length * e.length := by
    intro l
    induction l with
    | nil => simp [joinL]
    | cons x l ih =>
      have h1 : joinL (x :: l) e = x ++ e ++ joinL l e := by simp [joinL]
      rw [h1, List.map_cons, List.sum_cons, List.length_append, List.length_append, List.length_cons, Nat.succ_mul]
      have : bulkT .str x = x.length + 1 := rfl
      omega
  have := key l
  simp only [bulkT] at this ⊢
  omega
theorem join_small {l : List (List UInt8)} {e : List UInt8} (h1 : bulkT (.sl .str) l ≤ 1048576) (h2 : l.length ≤ 1048576) (h3 : e.length ≤ 1048576) : (joinL l e).length ≤ 10000000000000 := by
  have := join_bulk l e
  have := Nat.mul_le_mul h2 h3
  omega
end Go.Proofs.YtoncjokijkjliaaDoor
