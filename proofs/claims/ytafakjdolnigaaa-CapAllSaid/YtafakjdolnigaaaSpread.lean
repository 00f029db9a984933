/- Walks: bits.RotateLeft32, sha.primes, sha.spread compute what the plain text says. -/
import Derived.Test.YtafakjdolnigaaaProg
import Derived.KernelRfl
import Derived.Deep.QuietTactic
import Derived.Lib.Hide
import Derived.Test.YtafakjdolnigaaaWords
import Derived.Test.YtafakjdolnigaaaSha
import Derived.Test.YtafakjdolnigaaaMem
import Derived.Test.YtafakjdolnigaaaRegion
namespace Go.Proofs.Ytafakjdolnigaaa
open Go.RowKit
set_option linter.unusedVariables false

theorem rot_arg (k : Nat) (h0 : 0 < k) (h : k < 32) : bits .and .u64 (IntKind.u64.wrap (-(k : Int))) 31 = ((32 - k : Nat) : Int) := by
  have : ∀ k : Fin 32, 0 < k.val → bits .and .u64 (IntKind.u64.wrap (-(k.val : Int))) 31 = ((32 - k.val : Nat) : Int) := by decide +kernel
  exact this ⟨k, h⟩ h0

theorem rot_eq (x : UInt32) (k : Nat) (h0 : 0 < k) (h : k < 32) : x <<< UInt32.ofNat (32 - k) ||| x >>> UInt32.ofNat k = rot x (UInt32.ofNat k) := by
  have : ∀ k : Fin 32, UInt32.ofNat (32 - k.val) = 32 - UInt32.ofNat k.val := by decide +kernel
  unfold rot; rw [this ⟨k, h⟩]

set_option maxHeartbeats 400000 in
theorem rot_any (x : UInt32) (k : Nat) (h0 : 0 < k) (h : k < 32) (w : World) :
    Calls Try.prog 109 #[W32 x, .int .i64 (-(k : Int))] w fun e w' => e = .returned (W32 (rot x (UInt32.ofNat k))) ∧ w = w' := by
  have hb := rot_arg k h0 h
  have h1 : 32 - k < 32 := by omega
  have h2 : (32 : Int) - ((32 - k : Nat) : Int) = (k : Int) := by omega
  have hr := rot_eq x k h0 h
  go_enter Try.func109, Try.ntmps109
  go_wp2
  go_ret
  exact ⟨rfl, rfl⟩

/-- The same at a negative number, as it stands at the calls. -/
theorem rot_n (x : UInt32) (n : Int) (h : -32 < n ∧ n < 0) (w : World) :
    Calls Try.prog 109 #[W32 x, .int .i64 n] w fun e w' => e = .returned (W32 (rot x (UInt32.ofNat (-n).toNat))) ∧ w = w' := by
  obtain ⟨k, rfl⟩ : ∃ k : Nat, n = -(k : Int) := ⟨(-n).toNat, by omega⟩
  have := rot_any x k (by omega) (by omega) w
  simpa using this

end Go.Proofs.Ytafakjdolnigaaa
namespace Go.Proofs.Ytafakjdolnigaaa
open Go.RowKit
theorem info122 (l : List UInt32) (h : l.length = 64) : (Try.prog.info? 122).map (·.size) = some (row32 l).size := by rw [row32_size, h]; kernel_rfl
def zero64 : List UInt32 := List.replicate 64 0
theorem alloc122 : ∀ w : World, (Instr.alloc 122 true (.tuple #[])).run Try.prog w = .ok (.pointer (some ⟨w.heap.size, 0, none⟩)) (w.alloc (.cells (row32 zero64) 122)) := by
  intro w; kernel_rfl

set_option maxRecDepth 100000 in
set_option maxHeartbeats 400000 in
theorem spread_any (b off : Nat) (blk : List UInt8) (w : World)
    (hc : ∀ i, i < 64 → w.cell? ⟨b, off + i, none⟩ = some (W8 (blk[i]?.getD 0))) :
    Calls Try.prog 108 #[.pointer (some ⟨b, off, none⟩)] w fun e w' => e = .returned (.agg (row32 (spread blk))) ∧ Below w.heap.size w w' := by
  go_enter Try.func108, Try.ntmps108
  go_wp2_with (first | (refine wpList_allocRow 122 _ alloc122 rfl rfl ?_))
  go_loopw [8] (fun i wr => ∃ k : Nat, k ≤ 16 ∧ i = .int .i64 k ∧ wr.heap[w.heap.size]? = some (.cells (row32 zero64) 122 (0, 0)) ∧ wr.heap[w.heap.size + 1]? = some (.cells (row32 (fillTo blk k)) 122 (0, 0)) ∧ Below w.heap.size w wr)
    (fun i _ => 16 - (intOf i).toNat)
  case atStart =>
    exact ⟨0, by omega, rfl, heap_alloc2_old _ _ _, heap_alloc2_new _ _ _, ((Below.refl _ _).alloc (Nat.le_refl _) _).alloc (by simp) _⟩
  case round =>
    obtain ⟨k, hk, rfl, hb0, hb1, hbel⟩ := hrel
    have hcw : ∀ i, i < 64 → wr.cell? ⟨b, off + i, none⟩ = some (W8 (blk[i]?.getD 0)) := fun i hi => by
      rw [hbel.cell (p := ⟨b, off + i, none⟩) (block_lt_of_cell (hc i hi))]; exact hc i hi
    by_cases hlt : k < 16
    · have c0 := hcw (4 * k) (by omega)
      have c1 := hcw (4 * k + 1) (by omega)
      have c2 := hcw (4 * k + 2) (by omega)
      have c3 := hcw (4 * k + 3) (by omega)
      have cw := cell_row hb1 (row32_at (fillTo blk k) k (by rw [fillTo_length]; omega))
      have fw := frozen_of_row wr (w.heap.size + 1) k _ _ hb1
      have i0 : (4 : Int) * (k : Int) < 64 := by omega
      have i1 : (4 : Int) * (k : Int) + 1 < 64 := by omega
      have i2 : (4 : Int) * (k : Int) + 2 < 64 := by omega
      have i3 : (4 : Int) * (k : Int) + 3 < 64 := by omega
      have j0 : (0 : Int) ≤ 4 * (k : Int) := by omega
      have j1 : (0 : Int) ≤ 4 * (k : Int) + 1 := by omega
      have j2 : (0 : Int) ≤ 4 * (k : Int) + 2 := by omega
      have j3 : (0 : Int) ≤ 4 * (k : Int) + 3 := by omega
      have k0 : (k : Int) < 64 := by omega
      have Hb0 := Lib.hid hb0
      have Hb1 := Lib.hid hb1
      have Hbel := Lib.hid hbel
      clear hb0 hb1 hcw hc
      clear hbel
      go_wp2_with fail
      refine region_ht (fun w' => w' = wr.drew) 39 (by kernel_rfl) (by kernel_rfl) rfl ?_
      simp only [List.take_succ_cons, List.take_zero, List.drop_succ_cons, List.drop_zero]
      repeat (refine wpQuiet_step (fun K hK => ?_); go_simp; (try go_bits); refine hK _ ?_; clear hK K)
      refine wpQuiet_nil ?_
      rintro _ rfl
      go_wp2
      go_roundw
      case rel =>
        exact ⟨k + 1, by omega, by go_num, (heap_setCell_other _ _ _ _ (by simp)).trans Hb0.out, by rw [fillTo, ← row32_set]; exact heap_setCell_same _ _ _ _ _ _ Hb1.out, (Hbel.out.setCell (by simp) _).drew⟩
      case measure => simp [intOf]; omega
    · have hk16 : k = 16 := by omega
      rw [hk16] at hb1
      have Hk16 := Lib.hid hk16
      clear hcw hc hk16
      go_wp2_with fail
      go_loopw [5] (fun i wr => ∃ k : Nat, 16 ≤ k ∧ k ≤ 64 ∧ i = .int .i64 k ∧ wr.heap[w.heap.size]? = some (.cells (row32 zero64) 122 (0, 0)) ∧ wr.heap[w.heap.size + 1]? = some (.cells (row32 (spreadTo (fillTo blk 16) (k - 16))) 122 (0, 0)) ∧ Below w.heap.size w wr)
        (fun i _ => 64 - (intOf i).toNat)
      case atStart => exact ⟨16, by omega, by omega, rfl, hb0, hb1, hbel⟩
      case round =>
        clear hb0 hb1 hbel
        obtain ⟨k, hk0, hk, rfl, hb0, hb1, hbel⟩ := hrel
        have hlen : (spreadTo (fillTo blk 16) (k - 16)).length = 64 := by rw [spreadTo_length, fillTo_length]
        have Hb0 := Lib.hid hb0
        have Hb1 := Lib.hid hb1
        have Hbel := Lib.hid hbel
        by_cases hlt : k < 64
        · have c15 := cell_row hb1 (row32_at (spreadTo (fillTo blk 16) (k - 16)) (k - 15) (by omega))
          have c2 := cell_row hb1 (row32_at (spreadTo (fillTo blk 16) (k - 16)) (k - 2) (by omega))
          have c16 := cell_row hb1 (row32_at (spreadTo (fillTo blk 16) (k - 16)) (k - 16) (by omega))
          have c7 := cell_row hb1 (row32_at (spreadTo (fillTo blk 16) (k - 16)) (k - 7) (by omega))
          have ck := cell_row hb1 (row32_at (spreadTo (fillTo blk 16) (k - 16)) k (by omega))
          have fw := frozen_of_row wr (w.heap.size + 1) k _ _ hb1
          have hnx := Lib.hid (spreadTo_next (fillTo blk 16) k hk0)
          have Hlen := Lib.hid hlen
          clear hb0 hb1 hbel hlen
          generalize spreadTo (fillTo blk 16) (k - 16) = ws at *
          have i15 : (15 : Int) ≤ (k : Int) := by omega
          have i2 : (2 : Int) ≤ (k : Int) := by omega
          have i7 : (7 : Int) ≤ (k : Int) := by omega
          have i16 : (16 : Int) ≤ (k : Int) := by omega
          have j15 : (k : Int) - 15 < 64 := by omega
          have j2 : (k : Int) - 2 < 64 := by omega
          have j7 : (k : Int) - 7 < 64 := by omega
          have j16 : (k : Int) - 16 < 64 := by omega
          go_wp2_with fail
          refine region_q (fun w' => w' = wr.drew) (by kernel_rfl) (by kernel_rfl) rfl ?_
          repeat (refine wpQuiet_step (fun K hK => ?_); go_simp; (try go_bits); refine hK _ ?_; clear hK K)
          refine wpQuiet_nil ?_
          rintro _ rfl
          go_wp2_with (go_at_call 109; refine (rot_n _ _ (by omega) _).mono ?_; rintro e w' ⟨rfl, rfl⟩)
          refine region_ht (fun w' => w' = wr.drew.drew) 15 (by kernel_rfl) (by kernel_rfl) rfl ?_
          simp only [List.take_succ_cons, List.take_zero, List.drop_succ_cons, List.drop_zero]
          repeat (refine wpQuiet_step (fun K hK => ?_); go_simp; (try go_bits); refine hK _ ?_; clear hK K)
          refine wpQuiet_nil ?_
          rintro _ rfl
          go_wp2
          go_roundw
          case rel =>
            exact ⟨k + 1, by omega, by omega, by go_num, (heap_setCell_other _ _ _ _ (by simp)).trans Hb0.out, by rw [hnx.out, ← row32_set]; exact heap_setCell_same _ _ _ _ _ _ Hb1.out, ((Hbel.out.setCell (by simp) _).drew).drew⟩
          case measure => simp [intOf]; omega
        · obtain rfl : k = 64 := by omega
          clear hb0 hb1 hbel
          generalize hws : spreadTo (fillTo blk 16) (64 - 16) = ws at *
          have Hws := Lib.hid hws
          clear hws
          go_wp2_with (first | (refine wpList_load_row rfl 122 _ rfl _ rfl 122 _ _ _ Hb1.out Try.underlying122 rfl (info122 _ hlen) ?_) | (refine wpList_store_row rfl 122 _ _ rfl _ _ rfl rfl 122 _ Hb0.out (info122 _ hlen) ?_ (row32_one _) ?_))
          · rw [row32_size, row32_size, hlen]; rfl
          · refine bodyPost_ret (results_cell_row rfl _ _ _ 122 _ _ _ rfl (setRow_heap _ _ _ _ _ _ Hb0.out) Try.underlying122 rfl (info122 _ hlen)) rfl ⟨?_, below_row Hbel.out (Nat.le_refl _) _⟩
            rw [spread, ← Hws.out]

set_option maxRecDepth 100000 in
theorem primes_any (w : World) :
    Calls Try.prog 107 #[] w fun e w' => e = .returned (.agg (row32 primes)) ∧ Below w.heap.size w w' := by
  go_enter Try.func107, Try.ntmps107
  go_wp2_with (first | (refine wpList_allocRow 122 _ alloc122 rfl rfl ?_) | (refine wpList_buildV (.agg (row32 primes)) 122 _ rfl rfl (by kernel_rfl) ?_) | (refine wpList_store_row rfl 122 _ _ rfl _ _ rfl rfl 122 _ (heap_alloc_new _ _) (info122 _ rfl) ?_ (row32_one _) ?_))
  · rfl
  · refine bodyPost_ret (results_cell_row rfl _ _ _ 122 _ _ _ rfl (setRow_heap _ _ _ _ _ _ (heap_alloc_new _ _)) Try.underlying122 rfl (info122 _ rfl)) rfl ⟨rfl, below_row ((Below.refl _ _).alloc (Nat.le_refl _) _) (Nat.le_refl _) _⟩
end Go.Proofs.Ytafakjdolnigaaa
