/- The walks of cofferlaw0's helpers: Twin, Spoil, Place, Joined, Cut, Sum, Kept, AllKept, Twins. -/
import Derived.Test.YtafakjdolnigaaaOwn
namespace Go.Proofs.Ytafakjdolnigaaa
open Go.RowKit
set_option linter.unusedVariables false

theorem zeros_set (l : List UInt8) (n : Nat) (h : l.length + 3 = n) : (([] : List Value) ++ (l.take l.length).map W8 ++ (row8 (List.replicate n 0)).toList.drop l.length).toArray = row8 (l ++ List.replicate 3 0) := by
  subst h
  simp [row8, List.map_append]
theorem twin_set (l : List UInt8) (k : Nat) (hk : k < 3) : (row8 (l ++ (tail3.take k ++ List.replicate (3 - k) 0))).setIfInBounds (l.length + k) (W8 229) = row8 (l ++ (tail3.take (k + 1) ++ List.replicate (3 - (k + 1)) 0)) := by
  rw [row8_set]
  congr 1
  rw [List.set_append_right _ _ (by omega)]
  congr 1
  have : k = 0 ∨ k = 1 ∨ k = 2 := by omega
  rcases this with rfl | rfl | rfl <;> simp [tail3]

set_option maxRecDepth 100000 in
set_option maxHeartbeats 1000000 in
theorem twin_any {w : World} {r : Option Addr} {len cap : Nat} {bs : List UInt8} (h : BytesAt w r len cap bs) (hsz : len ≤ 1099511627776) :
    Calls Try.prog 36 #[.slice r len cap] w fun e w' => ∃ g, e = .returned (.slice (some ⟨g, 0, none⟩) len (len + 3)) ∧ TwinAt w' g bs ∧ w.heap.size ≤ g ∧ Below w.heap.size w w' := by
  have hlen := h.hlen
  have e3 : len + 3 < 9223372036854775808 := by omega
  go_enter Try.func36, Try.ntmps36
  go_wp2_with (first
    | (refine wpList_make_bytes rfl _ _ rfl (len + 3) (by go_num) (by go_num) (by omega) ?_)
    | (refine wpList_copy_bytes rfl _ _ 29 29 rfl 5 Try.underlying29 info5 w.heap.size 0 (len + 3) (len + 3) r len cap len bs rfl rfl (h.below (below_one _ _)) (by omega) _ 5 (heap_alloc_new _ _) (by rw [row8_size, List.length_replicate]; omega) ?_; intro w1 hw1; have Hw1 := Lib.hid hw1; clear hw1))
  have hw1 := Hw1.out
  clear Hw1
  rw [List.take_of_length_le (by omega : bs.length ≤ len)] at hw1
  have hrow : w1.heap[w.heap.size]? = some (.cells (row8 (bs ++ (tail3.take 0 ++ List.replicate (3 - 0) 0))) 5 (0, 0)) := by
    subst hw1
    rw [setRow_heap _ _ _ _ _ _ (heap_alloc_new _ _)]
    have := zeros_set bs (len + 3) (by omega)
    subst hlen
    simpa using this
  have hb1 : Below w.heap.size w w1 := by
    subst hw1
    exact below_row (below_one _ _) (Nat.le_refl _) _
  clear hw1
  generalize hg : w.heap.size = g at *
  go_loopw [4] (fun v wr => ∃ k : Nat, k ≤ 3 ∧ v = .int .i64 ((len + k : Nat) : Int) ∧ wr.heap[g]? = some (.cells (row8 (bs ++ (tail3.take k ++ List.replicate (3 - k) 0))) 5 (0, 0)) ∧ Below g w wr) (fun v _ => len + 3 - (intOf v).toNat)
  case atStart => exact ⟨0, by omega, by simp, hrow, hb1⟩
  case round =>
    clear hrow hb1
    obtain ⟨k, hk, rfl, hrow, hb⟩ := hrel
    by_cases hlt : k < 3
    · have hc : wr.cell? ⟨g, len + k, none⟩ = some (W8 ((bs ++ (tail3.take k ++ List.replicate (3 - k) 0))[len + k]?.getD 0)) := cell_row hrow (row8_at _ _ (by simp [tail3]; omega))
      have hf := frozen_of_row wr g (len + k) _ _ hrow
      have Hrow := Lib.hid hrow
      have Hb := Lib.hid hb
      have Hlen := Lib.hid hlen
      clear hrow hb hlen
      go_wp2
      refine ⟨⟨k + 1, by omega, by go_num, ?_, Hb.out.setCell (Nat.le_refl _) _⟩, by simp [intOf]; omega⟩
      have ht := twin_set bs k hlt
      rw [Hlen.out] at ht
      rw [← ht]
      exact heap_setCell_same _ _ _ _ _ _ Hrow.out
    · obtain rfl : k = 3 := by omega
      have Hrow := Lib.hid hrow
      have Hb := Lib.hid hb
      have Hlen := Lib.hid hlen
      have Hh := Lib.hid h
      clear hrow hb hlen h
      go_wp2
      go_ret
      refine ⟨g, rfl, ⟨by simpa [tail3] using Hrow.out, by unfold maxLen; rw [Hlen.out]; omega⟩, by omega, by rw [hg]; exact Hb.out⟩

set_option maxRecDepth 100000 in
set_option maxHeartbeats 1000000 in
theorem spoil_any {w : World} {g len : Nat} {bs : List UInt8} (h : TwinAt w g bs) (hlen : bs.length = len) (hsz : len ≤ 1099511627776) :
    Calls Try.prog 37 #[.slice (some ⟨g, 0, none⟩) len (len + 3)] w fun e w' => e = .returned (.tuple #[]) ∧ w.grownBy w' (some g) := by
  have hrow := h.row
  have e3 : len + 3 < 9223372036854775808 := by omega
  have hrow' : ∃ l : List UInt8, l.length = len + 3 ∧ w.heap[g]? = some (.cells (row8 l) 5 (0, 0)) := ⟨_, by simp [tail3, hlen], hrow⟩
  clear hrow h
  go_enter Try.func37, Try.ntmps37
  go_wp2
  go_loopw [3] (fun v wr => ∃ k : Nat, k ≤ len + 3 ∧ v = .int .i64 (k : Int) ∧ (∃ l : List UInt8, l.length = len + 3 ∧ wr.heap[g]? = some (.cells (row8 l) 5 (0, 0))) ∧ w.grownBy wr (some g)) (fun v _ => len + 3 - (intOf v).toNat)
  case atStart => exact ⟨0, by omega, by simp, hrow', ⟨rfl, rfl, rfl, Nat.le_refl _, fun _ _ _ => rfl⟩⟩
  case round =>
    clear hrow'
    obtain ⟨k, hk, rfl, ⟨l, hl, hrow⟩, hb⟩ := hrel
    by_cases hlt : k < len + 3
    · have hc : wr.cell? ⟨g, k, none⟩ = some (W8 (l[k]?.getD 0)) := cell_row hrow (row8_at _ _ (by omega))
      have hf := frozen_of_row wr g k _ _ hrow
      have Hrow := Lib.hid hrow
      have Hb := Lib.hid hb
      have Hl := Lib.hid hl
      clear hrow hb hl
      go_wp2
      refine ⟨⟨k + 1, by omega, by go_num, ⟨l.set k 90, by rw [List.length_set, Hl.out], ?_⟩, grown_setCell Hb.out _ _⟩, by simp [intOf]; omega⟩
      rw [← row8_set]
      exact heap_setCell_same _ _ _ _ _ _ Hrow.out
    · have Hb := Lib.hid hb
      clear hrow hb hl
      go_wp2
      go_end0
      exact ⟨rfl, Hb.out⟩

/-- A place from 0 to n - 1. -/
def placeOf (k n : Int) : Int := if n < 1 then 0 else if k.tmod n < 0 then k.tmod n + n else k.tmod n
theorem placeOf_range (k n : Int) (hn : 1 ≤ n) : 0 ≤ placeOf k n ∧ placeOf k n < n := by
  unfold placeOf
  rw [if_neg (by omega)]
  have h1 := Int.tmod_lt_of_pos k (by omega : 0 < n)
  have h2 : -n < k.tmod n := by
    have := Int.tmod_lt_of_pos (-k) (by omega : 0 < n)
    rw [Int.neg_tmod] at this
    omega
  split <;> omega
set_option maxRecDepth 100000 in
set_option maxHeartbeats 1000000 in
theorem place_any (w : World) (k n : Int) (hk : (Lit.int .i64 k).wf = true) (hn : 1 ≤ n) (hn2 : n ≤ 1099511627776) : Calls Try.prog 38 #[.int .i64 k, .int .i64 n] w fun e w' => e = .returned (.int .i64 (placeOf k n)) ∧ w = w' := by
  have hr := placeOf_range k n hn
  have h1 := Int.tmod_lt_of_pos k (by omega : 0 < n)
  have h2 : -n < k.tmod n := by
    have := Int.tmod_lt_of_pos (-k) (by omega : 0 < n)
    rw [Int.neg_tmod] at this
    omega
  unfold placeOf at *
  rw [if_neg (by omega)] at *
  go_enter Try.func38, Try.ntmps38
  go_wp2
  all_goals (go_ret; exact ⟨rfl, rfl⟩)
end Go.Proofs.Ytafakjdolnigaaa
