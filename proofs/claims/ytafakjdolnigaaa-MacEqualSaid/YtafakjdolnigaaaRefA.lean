/- Walks of cofferref2: turn, down, keys; words below 2^32 held as 64-bit numbers. -/
import Derived.Test.YtafakjdolnigaaaOwn
namespace Go.Proofs.Ytafakjdolnigaaa
open Go.RowKit
set_option linter.unusedVariables false

/-! ### Turning by one, again and again -/
theorem shl_nat (x : UInt32) (k : Nat) (h : k < 32) : (x <<< (UInt32.ofNat k)).toNat = x.toNat <<< k % 4294967296 := by
  rw [UInt32.toNat_shiftLeft]
  congr 2
  rw [UInt32.toNat_ofNat']
  omega
theorem shr_nat (x : UInt32) (k : Nat) (h : k < 32) : (x >>> (UInt32.ofNat k)).toNat = x.toNat >>> k := by
  rw [UInt32.toNat_shiftRight]
  congr 1
  rw [UInt32.toNat_ofNat']
  omega

theorem rot_bit (x : UInt32) (k i : Nat) (hk : k < 32) (hi : i < 32) : (rot x (UInt32.ofNat k)).toNat.testBit i = x.toNat.testBit ((i + k) % 32) := by
  by_cases h0 : k = 0
  · subst h0
    have : rot x (UInt32.ofNat 0) = x := by
      have h1 : (32 : UInt32) - UInt32.ofNat 0 = UInt32.ofNat 32 := rfl
      have h2 : UInt32.ofNat 0 = 0 := rfl
      unfold rot
      rw [h1, h2, ← UInt32.toNat_inj, UInt32.toNat_or, UInt32.toNat_shiftLeft, UInt32.toNat_shiftRight]
      have := x.toNat_lt
      simp
    rw [this, Nat.add_zero, Nat.mod_eq_of_lt hi]
  · rw [← rot_eq x k (by omega) hk, UInt32.toNat_or, shl_nat x (32 - k) (by omega), shr_nat x k hk, Nat.testBit_or, Nat.testBit_shiftRight]
    have e : (4294967296 : Nat) = 2 ^ 32 := rfl
    rw [e, Nat.testBit_mod_two_pow, Nat.testBit_shiftLeft]
    simp only [hi, decide_true, Bool.true_and]
    have hx := x.toNat_lt
    by_cases h1 : i + k < 32
    · rw [Nat.mod_eq_of_lt h1, Nat.add_comm k i]
      have : ¬ (32 - k ≤ i) := by omega
      simp [this]
    · have h2 : (i + k) % 32 = i - (32 - k) := by omega
      have h3 : x.toNat.testBit (k + i) = false := Nat.testBit_lt_two_pow (Nat.lt_of_lt_of_le hx (Nat.pow_le_pow_right (by omega) (by omega)))
      have h4 : 32 - k ≤ i := by omega
      rw [h2, h3]
      simp [h4]

theorem rot_succ (x : UInt32) (k : Nat) (h : k + 1 < 32) : rot (rot x (UInt32.ofNat k)) (UInt32.ofNat 1) = rot x (UInt32.ofNat (k + 1)) := by
  rw [← UInt32.toNat_inj]
  apply Nat.eq_of_testBit_eq
  intro i
  by_cases hi : i < 32
  · rw [rot_bit _ 1 i (by omega) hi, rot_bit x k _ (by omega) (Nat.mod_lt _ (by omega)), rot_bit x (k + 1) i h hi]
    congr 1
    omega
  · have hb : ∀ y : UInt32, y.toNat.testBit i = false := fun y => Nat.testBit_lt_two_pow (Nat.lt_of_lt_of_le y.toNat_lt (Nat.pow_le_pow_right (by omega : 0 < 2) (by omega : 32 ≤ i)))
    rw [hb, hb]
theorem rot_zero (x : UInt32) : rot x (UInt32.ofNat 0) = x := by
  rw [← UInt32.toNat_inj]
  apply Nat.eq_of_testBit_eq
  intro i
  by_cases hi : i < 32
  · rw [rot_bit _ 0 i (by omega) hi]; congr 1; omega
  · have hb : ∀ y : UInt32, y.toNat.testBit i = false := fun y => Nat.testBit_lt_two_pow (Nat.lt_of_lt_of_le y.toNat_lt (Nat.pow_le_pow_right (by omega : 0 < 2) (by omega : 32 ≤ i)))
    rw [hb, hb]

theorem turn_one (x : UInt32) : x.toUInt64 / UInt64.ofNat 2 + x.toUInt64 % UInt64.ofNat 2 * UInt64.ofNat 2147483648 = (rot x (UInt32.ofNat 1)).toUInt64 := by
  have hx := x.toNat_lt
  have h : (rot x (UInt32.ofNat 1)).toNat = x.toNat / 2 + x.toNat % 2 * 2147483648 := by
    rw [← rot_eq x 1 (by omega) (by omega), UInt32.toNat_or, shl_nat x (32 - 1) (by omega), shr_nat x 1 (by omega)]
    have e1 : x.toNat <<< (32 - 1) % 4294967296 = (x.toNat % 2) <<< 31 := by
      rw [Nat.shiftLeft_eq, Nat.shiftLeft_eq]
      omega
    have e2 : x.toNat >>> 1 < 2 ^ 31 := by rw [Nat.shiftRight_eq_div_pow]; omega
    rw [e1, ← Nat.shiftLeft_add_eq_or_of_lt e2, Nat.shiftLeft_eq, Nat.shiftRight_eq_div_pow]
    omega
  rw [← UInt64.toNat_inj]
  simp only [UInt64.toNat_add, UInt64.toNat_div, UInt64.toNat_mul, UInt64.toNat_mod, UInt32.toNat_toUInt64, UInt64.toNat_ofNat', h, show (2 : Nat) % 2 ^ 64 = 2 from rfl, show (2147483648 : Nat) % 2 ^ 64 = 2147483648 from rfl, show (2 : Nat) ^ 64 = 18446744073709551616 from rfl]
  omega
theorem down_one (x : UInt32) (k : Nat) (hk : k + 1 < 32) : (x >>> UInt32.ofNat k).toUInt64 / UInt64.ofNat 2 = (x >>> UInt32.ofNat (k + 1)).toUInt64 := by
  rw [← UInt64.toNat_inj]
  simp only [UInt64.toNat_div, UInt32.toNat_toUInt64, UInt64.toNat_ofNat', shr_nat x k (by omega), shr_nat x (k + 1) hk]
  rw [Nat.shiftRight_succ]
theorem low32 (x : UInt64) : x &&& UInt64.ofNat 4294967295 = x.toUInt32.toUInt64 := by
  rw [← UInt64.toNat_inj]
  simp only [UInt64.toNat_and, UInt32.toNat_toUInt64, UInt64.toNat_toUInt32, UInt64.toNat_ofNat']
  have : (4294967295 : Nat) % 2 ^ 64 = 2 ^ 32 - 1 := rfl
  rw [this, Nat.and_two_pow_sub_one_eq_mod]

set_option maxHeartbeats 1000000 in
theorem turn_any (x : UInt32) (n : Nat) (hn : n < 32) (w : World) : Calls Try.prog 110 #[W64 x.toUInt64, .int .i64 (n : Int)] w fun e w' => e = .returned (W64 (rot x (UInt32.ofNat n)).toUInt64) ∧ w = w' := by
  have h0 := rot_zero x
  go_enter Try.func110, Try.ntmps110
  go_wp2
  go_loopw [0, 5] (fun v0 v wr => ∃ k : Nat, k ≤ n ∧ v0 = W64 (rot x (UInt32.ofNat k)).toUInt64 ∧ v = .int .i64 (k : Int) ∧ wr = w) (fun _ v _ => n - (intOf v).toNat)
  case atStart => exact ⟨0, by omega, by rw [h0], rfl, rfl⟩
  case round =>
    obtain ⟨k, hk, rfl, rfl, rfl⟩ := hrel
    clear h0
    by_cases hlt : k < n
    · have h1 := turn_one (rot x (UInt32.ofNat k))
      rw [rot_succ x k (by omega)] at h1
      have H1 := Lib.hid h1
      clear h1
      go_wp2
      exact ⟨⟨k + 1, by omega, by rw [← H1.out]; rfl, by go_num, trivial⟩, by simp [intOf]; omega⟩
    · obtain rfl : k = n := by omega
      go_wp2
      go_ret
      exact ⟨rfl, rfl⟩

set_option maxHeartbeats 1000000 in
theorem down_any (x : UInt32) (n : Nat) (hn : n < 32) (w : World) : Calls Try.prog 111 #[W64 x.toUInt64, .int .i64 (n : Int)] w fun e w' => e = .returned (W64 (x >>> UInt32.ofNat n).toUInt64) ∧ w = w' := by
  have h0 : x >>> UInt32.ofNat 0 = x := by rw [← UInt32.toNat_inj, shr_nat x 0 (by omega)]; rfl
  go_enter Try.func111, Try.ntmps111
  go_wp2
  go_loopw [0, 5] (fun v0 v wr => ∃ k : Nat, k ≤ n ∧ v0 = W64 (x >>> UInt32.ofNat k).toUInt64 ∧ v = .int .i64 (k : Int) ∧ wr = w) (fun _ v _ => n - (intOf v).toNat)
  case atStart => exact ⟨0, by omega, by rw [h0], rfl, rfl⟩
  case round =>
    obtain ⟨k, hk, rfl, rfl, rfl⟩ := hrel
    clear h0
    by_cases hlt : k < n
    · have H1 := Lib.hid (down_one x k (by omega))
      generalize x >>> UInt32.ofNat k = y at *
      go_wp2
      exact ⟨⟨k + 1, by omega, by rw [← H1.out]; rfl, by go_num, trivial⟩, by simp [intOf]; omega⟩
    · obtain rfl : k = n := by omega
      go_wp2
      go_ret
      exact ⟨rfl, rfl⟩

/-- Words in 64-bit cells. -/
def rowL (l : List UInt32) : Array Value := row64 (l.map UInt32.toUInt64)
theorem rowL_size (l : List UInt32) : (rowL l).size = l.length := by simp [rowL, row64_size]
theorem rowL_at (l : List UInt32) (i : Nat) (h : i < l.length) : (rowL l)[i]? = some (W64 (l[i]?.getD 0).toUInt64) := by
  unfold rowL
  rw [row64_at _ _ (by simpa using h)]
  simp [List.getElem?_eq_getElem h]
theorem rowL_set (l : List UInt32) (i : Nat) (x : UInt32) : (rowL l).setIfInBounds i (W64 x.toUInt64) = rowL (l.set i x) := by
  unfold rowL
  rw [row64_set, List.map_set]
theorem rowL_one (l : List UInt32) : (rowL l).all (·.oneCell') = true := row64_one _
theorem info98 (l : List UInt32) (h : l.length = 64) : (Try.prog.info? 98).map (·.size) = some (rowL l).size := by rw [rowL_size, h]; kernel_rfl
theorem info100 (l : List UInt32) (h : l.length = 8) : (Try.prog.info? 100).map (·.size) = some (rowL l).size := by rw [rowL_size, h]; kernel_rfl
theorem alloc98 : ∀ w : World, (Instr.alloc 98 true (.tuple #[])).run Try.prog w = .ok (.pointer (some ⟨w.heap.size, 0, none⟩)) (w.alloc (.cells (rowL (List.replicate 64 0)) 98)) := by
  intro w; kernel_rfl
theorem alloc100 : ∀ w : World, (Instr.alloc 100 true (.tuple #[])).run Try.prog w = .ok (.pointer (some ⟨w.heap.size, 0, none⟩)) (w.alloc (.cells (rowL (List.replicate 8 0)) 100)) := by
  intro w; kernel_rfl

set_option maxRecDepth 100000 in
theorem keys_any (w : World) :
    Calls Try.prog 81 #[] w fun e w' => e = .returned (.agg (rowL primes)) ∧ Below w.heap.size w w' := by
  go_enter Try.func81, Try.ntmps81
  go_wp2_with (first | (refine wpList_allocRow 98 _ alloc98 rfl rfl ?_) | (refine wpList_buildV (.agg (rowL primes)) 98 _ rfl rfl (by kernel_rfl) ?_) | (refine wpList_store_row rfl 98 _ _ rfl _ _ rfl rfl 98 _ (heap_alloc_new _ _) (info98 _ rfl) ?_ (rowL_one _) ?_))
  · rfl
  · refine bodyPost_ret (results_cell_row rfl _ _ _ 98 _ _ _ rfl (setRow_heap _ _ _ _ _ _ (heap_alloc_new _ _)) Try.underlying98 rfl (info98 _ rfl)) rfl ⟨rfl, below_row ((Below.refl _ _).alloc (Nat.le_refl _) _) (Nat.le_refl _) _⟩
end Go.Proofs.Ytafakjdolnigaaa
