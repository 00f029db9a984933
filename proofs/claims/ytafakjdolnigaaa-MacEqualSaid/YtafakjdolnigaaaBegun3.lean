/- cofferlaw3.begun answers true. -/
import Derived.Test.YtafakjdolnigaaaRef3C
namespace Go.Proofs.Ytafakjdolnigaaa
open Go.RowKit
set_option linter.unusedVariables false

theorem hi0 : (hmac (List.replicate 20 0x0b) [72, 105, 32, 84, 104, 101, 114, 101])[0]?.getD 0 = 0xb0 := by
  have h := congrArg (fun l => l[0]?) hi_there
  simp only [List.getElem?_take] at h
  simpa using congrArg (fun o => o.getD 0) h
theorem hi1 : (hmac (List.replicate 20 0x0b) [72, 105, 32, 84, 104, 101, 114, 101])[1]?.getD 0 = 0x34 := by
  have h := congrArg (fun l => l[1]?) hi_there
  simp only [List.getElem?_take] at h
  simpa using congrArg (fun o => o.getD 0) h

/-- The first k of n bytes written. -/
def fillRow (n : Nat) (x : UInt8) (k : Nat) : List UInt8 := List.replicate k x ++ List.replicate (n - k) 0
theorem fillRow_length (n : Nat) (x : UInt8) (k : Nat) (h : k ≤ n) : (fillRow n x k).length = n := by simp [fillRow]; omega
theorem fillRow_none (n : Nat) (x : UInt8) : fillRow n x 0 = List.replicate n 0 := by simp [fillRow]
theorem fillRow_all (n : Nat) (x : UInt8) : fillRow n x n = List.replicate n x := by simp [fillRow]
theorem fillRow_set (n : Nat) (x : UInt8) (k : Nat) (h : k < n) : (fillRow n x k).set k x = fillRow n x (k + 1) := by
  unfold fillRow
  rw [List.set_append_right _ _ (by simp), List.length_replicate, Nat.sub_self, show n - k = (n - (k + 1)) + 1 by omega, List.replicate_succ, List.set_cons_zero, List.replicate_succ', List.append_assoc]
  rfl

theorem hiRow (w : World) : BytesAt (w.alloc (.cells #[.int .u8 72, .int .u8 105, .int .u8 32, .int .u8 84, .int .u8 104, .int .u8 101, .int .u8 114, .int .u8 101] 5 (8, 9))) (some ⟨w.heap.size, 0, none⟩) 8 8 [72, 105, 32, 84, 104, 101, 114, 101] :=
  bytes_row w [72, 105, 32, 84, 104, 101, 114, 101] #[.int .u8 72, .int .u8 105, .int .u8 32, .int .u8 84, .int .u8 104, .int .u8 101, .int .u8 114, .int .u8 101] (8, 9) rfl 8 rfl (maxLen_small _ (by omega)) _ rfl
theorem m0 : Value.int .u8 0 = W8 0 := rfl
theorem m11 : Value.int .u8 11 = W8 11 := rfl

set_option maxRecDepth 100000 in
set_option maxHeartbeats 2000000 in
theorem begun3 (w : World) : Calls Try.prog 51 #[] w fun e w' => e = .returned (.bool true) ∧ Below w.heap.size w w' := by
  obtain ⟨H, hH⟩ : ∃ H, H = hmac (List.replicate 20 0x0b) [72, 105, 32, 84, 104, 101, 114, 101] := ⟨_, rfl⟩
  have hHl : H.length = 32 := by rw [hH]; exact hmac_length _ _
  have hH0 : H[0]?.getD 0 = 0xb0 := by rw [hH]; exact hi0
  have hH1 : H[1]?.getD 0 = 0x34 := by rw [hH]; exact hi1
  obtain ⟨Z, hZ⟩ : ∃ Z : List UInt8, Z = List.replicate 20 0 := ⟨_, rfl⟩
  have HZ := Lib.hid hZ
  have HH := Lib.hid hH
  have HHl := Lib.hid hHl
  have HH0 := Lib.hid hH0
  have HH1 := Lib.hid hH1
  clear hZ hH hHl hH0 hH1
  go_enter Try.func51, Try.ntmps51
  go_upto_region 2 with (refine wpList_make_bytes rfl _ _ rfl 20 (by go_num) (by go_num) (by omega) ?_; rw [← HZ.out])
  have r0 : (w.alloc (.cells (row8 Z) 5)).heap[w.heap.size]? = some (.cells (row8 (fillRow 20 11 0)) 5 (0, 0)) := by rw [fillRow_none, HZ.out]; exact heap_alloc_new _ _
  refine abstract_world (fun W => W.heap[w.heap.size]? = some (.cells (row8 (fillRow 20 11 0)) 5 (0, 0)) ∧ Below w.heap.size w W) ⟨r0, below_one _ _⟩ ?_
  clear r0
  rintro w1 ⟨r0, r1⟩
  have R0 := Lib.hid r0
  have R1 := Lib.hid r1
  clear r0 r1
  go_wp2
  go_loopw [2] (fun v wr => ∃ k : Nat, k ≤ 20 ∧ v = .int .i64 (k : Int) ∧ wr.heap[w.heap.size]? = some (.cells (row8 (fillRow 20 11 k)) 5 (0, 0)) ∧ Below w.heap.size w wr) (fun v _ => 20 - (intOf v).toNat)
  case atStart => exact ⟨0, by omega, rfl, R0.out, R1.out⟩
  case round =>
    clear R0 R1
    obtain ⟨k, hk, rfl, hrow, hb⟩ := hrel
    have Hb := Lib.hid hb
    have Hrow := Lib.hid hrow
    clear hb
    by_cases hlt : k < 20
    · have cx := cell_row hrow (row8_at _ k (by rw [fillRow_length _ _ _ hk]; exact hlt))
      have fx := frozen_of_row wr w.heap.size k _ _ hrow
      clear hrow
      go_wp2
      refine ⟨⟨k + 1, by omega, by go_num, ?_, Hb.out.setCell (Nat.le_refl _) _⟩, by simp [intOf]; omega⟩
      rw [← fillRow_set _ _ _ hlt, ← row8_set, ← m11]
      exact heap_setCell_same _ _ _ _ _ _ Hrow.out
    · obtain rfl : k = 20 := by omega
      rw [fillRow_all] at hrow
      have HB := Lib.hid (bytes_of_row hrow List.length_replicate (maxLen_small 20 (by omega)))
      clear hrow Hrow
      go_upto_region 7 with (first
        | (go_at_call 53; with_reducible refine (raw_any (HB.out.below (below_one _ _)) (hiRow wr) (by omega) (by omega)).mono ?_; rintro e w2 ⟨rfl, hb2⟩; rw [← HH.out]
           have Hb2 : Hid (Below wr.heap.size wr w2) := Lib.hid (below_seq (below_one _ _) hb2)
           clear hb2)
        | (refine wpList_allocRow 31 _ alloc31 rfl rfl ?_)
        | (refine wpList_store_row rfl 31 _ _ rfl _ _ rfl rfl 31 _ (heap_alloc_new _ _) (info31 _ HHl.out) (by rw [row8_size, row8_size, HHl.out]; rfl) (row8_one _) ?_))
      have r0 : ((w2.alloc (.cells (row8 zero32) 31)).setRow w2.heap.size (row8 H)).heap[w2.heap.size]? = some (.cells (row8 H) 31 (0, 0)) := setRow_heap _ _ _ _ _ _ (heap_alloc_new _ _)
      have r1 : Below wr.heap.size wr ((w2.alloc (.cells (row8 zero32) 31)).setRow w2.heap.size (row8 H)) := below_row (below_seq Hb2.out (below_one _ _)) Hb2.out.size _
      refine abstract_world (fun W => W.heap[w2.heap.size]? = some (.cells (row8 H) 31 (0, 0)) ∧ Below wr.heap.size wr W) ⟨r0, r1⟩ ?_
      clear r0 r1
      generalize w2.heap.size = g at *
      rintro w3 ⟨r0, r1⟩
      have c0 : w3.cell? ⟨g, 0, none⟩ = some (W8 0xb0) := by rw [← HH0.out]; exact cell_row r0 (row8_at H 0 (by rw [HHl.out]; omega))
      have c1 : w3.cell? ⟨g, 1, none⟩ = some (W8 0x34) := by rw [← HH1.out]; exact cell_row r0 (row8_at H 1 (by rw [HHl.out]; omega))
      have Hb3 := Lib.hid r1
      clear r0 r1
      go_wp2_with (first
        | (go_at_call 52; with_reducible refine (equal_any (emptyB w3) (emptyB w3)).mono ?_; rintro e w4 ⟨rfl, hb4⟩
           have Hb4 := Lib.hid hb4
           clear hb4)
        | (go_at_call 52; with_reducible refine (equal_any (emptyB _) (bytes_one w4 0 _ m0)).mono ?_; rintro e w5 ⟨rfl, hb5⟩
           have Hb5 : Hid (Below w4.heap.size w4 w5) := Lib.hid (below_seq (below_one _ _) hb5)
           clear hb5))
      go_ret
      exact ⟨rfl, below_seq (below_seq (below_seq Hb.out Hb3.out) Hb4.out) Hb5.out⟩
end Go.Proofs.Ytafakjdolnigaaa
