/- Walks of cofferref2: turn, down, keys; words below 2^32 held as 64-bit numbers. The walk of cofferref2.block. The walks of cofferref2.Sum and Of: SHA-256 of a text laid out whole. The walk of cofferref2.Sum. -/
import Derived.Test.YtafakjdolnigaaaOwn
namespace Go.Proofs.Ytafakjdolnigaaa
open Go.RowKit
set_option linter.unusedVariables false

/-! ### Turning by one, again and again -/
theorem shl_nat (x : UInt32) (k : Nat) (h : k < 32) : (x <<< (UInt32.ofNat k)).toNat = x.toNat <<< k % 4294967296 := by
  rw [UInt32.toNat_shiftLeft]
  congr 2
  rw [UInt32.toNat_ofNat']
  omega
theorem shr_nat (x : UInt32) (k : Nat) (h : k < 32) : (x >>> (UInt32.ofNat k)).toNat = x.toNat >>> k := by
  rw [UInt32.toNat_shiftRight]
  congr 1
  rw [UInt32.toNat_ofNat']
  omega

theorem rot_bit (x : UInt32) (k i : Nat) (hk : k < 32) (hi : i < 32) : (rot x (UInt32.ofNat k)).toNat.testBit i = x.toNat.testBit ((i + k) % 32) := by
  by_cases h0 : k = 0
  · subst h0
    have : rot x (UInt32.ofNat 0) = x := by
      have h1 : (32 : UInt32) - UInt32.ofNat 0 = UInt32.ofNat 32 := rfl
      have h2 : UInt32.ofNat 0 = 0 := rfl
      unfold rot
      rw [h1, h2, ← UInt32.toNat_inj, UInt32.toNat_or, UInt32.toNat_shiftLeft, UInt32.toNat_shiftRight]
      have := x.toNat_lt
      simp
    rw [this, Nat.add_zero, Nat.mod_eq_of_lt hi]
  · rw [← rot_eq x k (by omega) hk, UInt32.toNat_or, shl_nat x (32 - k) (by omega), shr_nat x k hk, Nat.testBit_or, Nat.testBit_shiftRight]
    have e : (4294967296 : Nat) = 2 ^ 32 := rfl
    rw [e, Nat.testBit_mod_two_pow, Nat.testBit_shiftLeft]
    simp only [hi, decide_true, Bool.true_and]
    have hx := x.toNat_lt
    by_cases h1 : i + k < 32
    · rw [Nat.mod_eq_of_lt h1, Nat.add_comm k i]
      have : ¬ (32 - k ≤ i) := by omega
      simp [this]
    · have h2 : (i + k) % 32 = i - (32 - k) := by omega
      have h3 : x.toNat.testBit (k + i) = false := Nat.testBit_lt_two_pow (Nat.lt_of_lt_of_le hx (Nat.pow_le_pow_right (by omega) (by omega)))
      have h4 : 32 - k ≤ i := by omega
      rw [h2, h3]
      simp [h4]

theorem rot_succ (x : UInt32) (k : Nat) (h : k + 1 < 32) : rot (rot x (UInt32.ofNat k)) (UInt32.ofNat 1) = rot x (UInt32.ofNat (k + 1)) := by
  rw [← UInt32.toNat_inj]
  apply Nat.eq_of_testBit_eq
  intro i
  by_cases hi : i < 32
  · rw [rot_bit _ 1 i (by omega) hi, rot_bit x k _ (by omega) (Nat.mod_lt _ (by omega)), rot_bit x (k + 1) i h hi]
    congr 1
    omega
  · have hb : ∀ y : UInt32, y.toNat.testBit i = false := fun y => Nat.testBit_lt_two_pow (Nat.lt_of_lt_of_le y.toNat_lt (Nat.pow_le_pow_right (by omega : 0 < 2) (by omega : 32 ≤ i)))
    rw [hb, hb]
theorem rot_zero (x : UInt32) : rot x (UInt32.ofNat 0) = x := by
  rw [← UInt32.toNat_inj]
  apply Nat.eq_of_testBit_eq
  intro i
  by_cases hi : i < 32
  · rw [rot_bit _ 0 i (by omega) hi]; congr 1; omega
  · have hb : ∀ y : UInt32, y.toNat.testBit i = false := fun y => Nat.testBit_lt_two_pow (Nat.lt_of_lt_of_le y.toNat_lt (Nat.pow_le_pow_right (by omega : 0 < 2) (by omega : 32 ≤ i)))
    rw [hb, hb]

theorem turn_one (x : UInt32) : x.toUInt64 / UInt64.ofNat 2 + x.toUInt64 % UInt64.ofNat 2 * UInt64.ofNat 2147483648 = (rot x (UInt32.ofNat 1)).toUInt64 := by
  have hx := x.toNat_lt
  have h : (rot x (UInt32.ofNat 1)).toNat = x.toNat / 2 + x.toNat % 2 * 2147483648 := by
    rw [← rot_eq x 1 (by omega) (by omega), UInt32.toNat_or, shl_nat x (32 - 1) (by omega), shr_nat x 1 (by omega)]
    have e1 : x.toNat <<< (32 - 1) % 4294967296 = (x.toNat % 2) <<< 31 := by
      rw [Nat.shiftLeft_eq, Nat.shiftLeft_eq]
      omega
    have e2 : x.toNat >>> 1 < 2 ^ 31 := by rw [Nat.shiftRight_eq_div_pow]; omega
    rw [e1, ← Nat.shiftLeft_add_eq_or_of_lt e2, Nat.shiftLeft_eq, Nat.shiftRight_eq_div_pow]
    omega
  rw [← UInt64.toNat_inj]
  simp only [UInt64.toNat_add, UInt64.toNat_div, UInt64.toNat_mul, UInt64.toNat_mod, UInt32.toNat_toUInt64, UInt64.toNat_ofNat', h, show (2 : Nat) % 2 ^ 64 = 2 from rfl, show (2147483648 : Nat) % 2 ^ 64 = 2147483648 from rfl, show (2 : Nat) ^ 64 = 18446744073709551616 from rfl]
  omega
theorem down_one (x : UInt32) (k : Nat) (hk : k + 1 < 32) : (x >>> UInt32.ofNat k).toUInt64 / UInt64.ofNat 2 = (x >>> UInt32.ofNat (k + 1)).toUInt64 := by
  rw [← UInt64.toNat_inj]
  simp only [UInt64.toNat_div, UInt32.toNat_toUInt64, UInt64.toNat_ofNat', shr_nat x k (by omega), shr_nat x (k + 1) hk]
  rw [Nat.shiftRight_succ]
theorem low32 (x : UInt64) : x &&& UInt64.ofNat 4294967295 = x.toUInt32.toUInt64 := by
  rw [← UInt64.toNat_inj]
  simp only [UInt64.toNat_and, UInt32.toNat_toUInt64, UInt64.toNat_toUInt32, UInt64.toNat_ofNat']
  have : (4294967295 : Nat) % 2 ^ 64 = 2 ^ 32 - 1 := rfl
  rw [this, Nat.and_two_pow_sub_one_eq_mod]

set_option maxHeartbeats 1000000 in
theorem turn_any (x : UInt32) (n : Nat) (hn : n < 32) (w : World) : Calls Try.prog 110 #[W64 x.toUInt64, .int .i64 (n : Int)] w fun e w' => e = .returned (W64 (rot x (UInt32.ofNat n)).toUInt64) ∧ w = w' := by
  have h0 := rot_zero x
  go_enter Try.func110, Try.ntmps110
  go_wp2
  go_loopw [0, 5] (fun v0 v wr => ∃ k : Nat, k ≤ n ∧ v0 = W64 (rot x (UInt32.ofNat k)).toUInt64 ∧ v = .int .i64 (k : Int) ∧ wr = w) (fun _ v _ => n - (intOf v).toNat)
  case atStart => exact ⟨0, by omega, by rw [h0], rfl, rfl⟩
  case round =>
    obtain ⟨k, hk, rfl, rfl, rfl⟩ := hrel
    clear h0
    by_cases hlt : k < n
    · have h1 := turn_one (rot x (UInt32.ofNat k))
      rw [rot_succ x k (by omega)] at h1
      have H1 := Lib.hid h1
      clear h1
      go_wp2
      exact ⟨⟨k + 1, by omega, by rw [← H1.out]; rfl, by go_num, trivial⟩, by simp [intOf]; omega⟩
    · obtain rfl : k = n := by omega
      go_wp2
      go_ret
      exact ⟨rfl, rfl⟩

set_option maxHeartbeats 1000000 in
theorem down_any (x : UInt32) (n : Nat) (hn : n < 32) (w : World) : Calls Try.prog 111 #[W64 x.toUInt64, .int .i64 (n : Int)] w fun e w' => e = .returned (W64 (x >>> UInt32.ofNat n).toUInt64) ∧ w = w' := by
  have h0 : x >>> UInt32.ofNat 0 = x := by rw [← UInt32.toNat_inj, shr_nat x 0 (by omega)]; rfl
  go_enter Try.func111, Try.ntmps111
  go_wp2
  go_loopw [0, 5] (fun v0 v wr => ∃ k : Nat, k ≤ n ∧ v0 = W64 (x >>> UInt32.ofNat k).toUInt64 ∧ v = .int .i64 (k : Int) ∧ wr = w) (fun _ v _ => n - (intOf v).toNat)
  case atStart => exact ⟨0, by omega, by rw [h0], rfl, rfl⟩
  case round =>
    obtain ⟨k, hk, rfl, rfl, rfl⟩ := hrel
    clear h0
    by_cases hlt : k < n
    · have H1 := Lib.hid (down_one x k (by omega))
      generalize x >>> UInt32.ofNat k = y at *
      go_wp2
      exact ⟨⟨k + 1, by omega, by rw [← H1.out]; rfl, by go_num, trivial⟩, by simp [intOf]; omega⟩
    · obtain rfl : k = n := by omega
      go_wp2
      go_ret
      exact ⟨rfl, rfl⟩

/-- Words in 64-bit cells. -/
def rowL (l : List UInt32) : Array Value := row64 (l.map UInt32.toUInt64)
theorem rowL_size (l : List UInt32) : (rowL l).size = l.length := by simp [rowL, row64_size]
theorem rowL_at (l : List UInt32) (i : Nat) (h : i < l.length) : (rowL l)[i]? = some (W64 (l[i]?.getD 0).toUInt64) := by
  unfold rowL
  rw [row64_at _ _ (by simpa using h)]
  simp [List.getElem?_eq_getElem h]
theorem rowL_set (l : List UInt32) (i : Nat) (x : UInt32) : (rowL l).setIfInBounds i (W64 x.toUInt64) = rowL (l.set i x) := by
  unfold rowL
  rw [row64_set, List.map_set]
theorem rowL_one (l : List UInt32) : (rowL l).all (·.oneCell') = true := row64_one _
theorem info98 (l : List UInt32) (h : l.length = 64) : (Try.prog.info? 98).map (·.size) = some (rowL l).size := by rw [rowL_size, h]; kernel_rfl
theorem info100 (l : List UInt32) (h : l.length = 8) : (Try.prog.info? 100).map (·.size) = some (rowL l).size := by rw [rowL_size, h]; kernel_rfl
theorem alloc98 : ∀ w : World, (Instr.alloc 98 true (.tuple #[])).run Try.prog w = .ok (.pointer (some ⟨w.heap.size, 0, none⟩)) (w.alloc (.cells (rowL (List.replicate 64 0)) 98)) := by
  intro w; kernel_rfl
theorem alloc100 : ∀ w : World, (Instr.alloc 100 true (.tuple #[])).run Try.prog w = .ok (.pointer (some ⟨w.heap.size, 0, none⟩)) (w.alloc (.cells (rowL (List.replicate 8 0)) 100)) := by
  intro w; kernel_rfl

set_option maxRecDepth 100000 in
theorem keys_any (w : World) :
    Calls Try.prog 81 #[] w fun e w' => e = .returned (.agg (rowL primes)) ∧ Below w.heap.size w w' := by
  go_enter Try.func81, Try.ntmps81
  go_wp2_with (first | (refine wpList_allocRow 98 _ alloc98 rfl rfl ?_) | (refine wpList_buildV (.agg (rowL primes)) 98 _ rfl rfl (by kernel_rfl) ?_) | (refine wpList_store_row rfl 98 _ _ rfl _ _ rfl rfl 98 _ (heap_alloc_new _ _) (info98 _ rfl) ?_ (rowL_one _) ?_))
  · rfl
  · refine bodyPost_ret (results_cell_row rfl _ _ _ 98 _ _ _ rfl (setRow_heap _ _ _ _ _ _ (heap_alloc_new _ _)) Try.underlying98 rfl (info98 _ rfl)) rfl ⟨rfl, below_row ((Below.refl _ _).alloc (Nat.le_refl _) _) (Nat.le_refl _) _⟩
end Go.Proofs.Ytafakjdolnigaaa

namespace Go.Proofs.Ytafakjdolnigaaa
open Go.RowKit
set_option linter.unusedVariables false

theorem turn_i (x : UInt32) (c : Int) (h0 : 0 ≤ c) (h : c < 32) (w : World) : Calls Try.prog 110 #[W64 x.toUInt64, .int .i64 c] w fun e w' => e = .returned (W64 (rot x (UInt32.ofNat c.toNat)).toUInt64) ∧ w = w' := by
  have := turn_any x c.toNat (by omega) w
  rwa [Int.toNat_of_nonneg h0] at this
theorem down_i (x : UInt32) (c : Int) (h0 : 0 ≤ c) (h : c < 32) (w : World) : Calls Try.prog 111 #[W64 x.toUInt64, .int .i64 c] w fun e w' => e = .returned (W64 (x >>> UInt32.ofNat c.toNat).toUInt64) ∧ w = w' := by
  have := down_any x c.toNat (by omega) w
  rwa [Int.toNat_of_nonneg h0] at this

theorem next_eq (ws : List UInt32) (k : Nat) : (ws[k - 16]?.getD 0).toUInt64 + ((rot (ws[k - 15]?.getD 0) (UInt32.ofNat 7)).toUInt64 ^^^ (rot (ws[k - 15]?.getD 0) (UInt32.ofNat 18)).toUInt64 ^^^ (ws[k - 15]?.getD 0 >>> UInt32.ofNat 3).toUInt64) + (ws[k - 7]?.getD 0).toUInt64 +
    ((rot (ws[k - 2]?.getD 0) (UInt32.ofNat 17)).toUInt64 ^^^ (rot (ws[k - 2]?.getD 0) (UInt32.ofNat 19)).toUInt64 ^^^ (ws[k - 2]?.getD 0 >>> UInt32.ofNat 10).toUInt64) &&& UInt64.ofNat 4294967295 = (nextWord ws k).toUInt64 := by
  rw [low32]
  congr 1
  simp only [UInt64.toUInt32_add, UInt64.toUInt32_xor, UInt32.toUInt32_toUInt64]
  rfl

theorem low32' (x : UInt64) : x &&& 4294967295 = x.toUInt32.toUInt64 := low32 x
theorem not_sub (x : UInt32) : (4294967295 : UInt64).toUInt32 - x = ~~~x := by
  rw [← UInt32.toNat_inj, UInt32.toNat_sub, UInt32.toNat_not]
  have := x.toNat_lt
  have e : ((4294967295 : UInt64).toUInt32).toNat = 4294967295 := rfl
  rw [e]
  simp only [UInt32.size]
  omega
theorem info100' (l : List UInt64) (h : l.length = 8) : (Try.prog.info? 100).map (·.size) = some (row64 l).size := by rw [row64_size, h]; kernel_rfl

/-- The round's row as the code makes it. -/
theorem rnd_row (sa sb sc sd se sf sg sh pk wk : UInt32) (X T M : UInt64)
    (hX : X = sh.toUInt64 + ((rot se 6).toUInt64 ^^^ (rot se 11).toUInt64 ^^^ (rot se 25).toUInt64) + (se.toUInt64 &&& sf.toUInt64 ^^^ 4294967295 - se.toUInt64 &&& sg.toUInt64) + pk.toUInt64 + wk.toUInt64)
    (hT : T = (rot sa 2).toUInt64 ^^^ (rot sa 13).toUInt64 ^^^ (rot sa 22).toUInt64)
    (hM : M = sa.toUInt64 &&& sb.toUInt64 ^^^ sa.toUInt64 &&& sc.toUInt64 ^^^ sb.toUInt64 &&& sc.toUInt64) :
    row64 [X + T + M &&& 4294967295, sa.toUInt64, sb.toUInt64, sc.toUInt64, sd.toUInt64 + X &&& 4294967295, se.toUInt64, sf.toUInt64, sg.toUInt64] = rowL (rnd ⟨sa, sb, sc, sd, se, sf, sg, sh⟩ pk wk).list := by
  have h1 : X.toUInt32 = tempX ⟨sa, sb, sc, sd, se, sf, sg, sh⟩ pk wk := by
    subst hX
    simp only [UInt64.toUInt32_add, UInt64.toUInt32_xor, UInt64.toUInt32_and, UInt64.toUInt32_sub, UInt32.toUInt32_toUInt64, not_sub]
    rfl
  have h2 : (T + M).toUInt32 = tempY ⟨sa, sb, sc, sd, se, sf, sg, sh⟩ := by
    subst hT hM
    simp only [UInt64.toUInt32_add, UInt64.toUInt32_xor, UInt64.toUInt32_and, UInt32.toUInt32_toUInt64]
    rfl
  have a1 : X + T + M &&& 4294967295 = (tempX ⟨sa, sb, sc, sd, se, sf, sg, sh⟩ pk wk + tempY ⟨sa, sb, sc, sd, se, sf, sg, sh⟩).toUInt64 := by
    rw [low32', UInt64.add_assoc, UInt64.toUInt32_add, h1, h2]
  have a2 : sd.toUInt64 + X &&& 4294967295 = (sd + tempX ⟨sa, sb, sc, sd, se, sf, sg, sh⟩ pk wk).toUInt64 := by
    rw [low32', UInt64.toUInt32_add, h1, UInt32.toUInt32_toUInt64]
  rw [a1, a2]
  rfl

/-- The state when k of the eight words have been added. -/
def addL (s t : S8) (k : Nat) : List UInt32 := (s.add t).list.take k ++ s.list.drop k
theorem addL_length (s t : S8) (k : Nat) (h : k ≤ 8) : (addL s t k).length = 8 := by
  simp [addL, S8.list]; omega
theorem addL_step (s t : S8) (k : Nat) (h : k < 8) : (addL s t k).set k ((addL s t k)[k]?.getD 0 + t.list[k]?.getD 0) = addL s t (k + 1) := by
  match k, h with
  | 0, _ => rfl
  | 1, _ => rfl
  | 2, _ => rfl
  | 3, _ => rfl
  | 4, _ => rfl
  | 5, _ => rfl
  | 6, _ => rfl
  | 7, _ => rfl
theorem add_eq (x y : UInt32) : x.toUInt64 + y.toUInt64 &&& 4294967295 = (x + y).toUInt64 := by
  rw [low32', UInt64.toUInt32_add, UInt32.toUInt32_toUInt64, UInt32.toUInt32_toUInt64]

set_option maxRecDepth 100000 in
set_option maxHeartbeats 4000000 in
theorem block_any (w : World) (s : S8) (ws0 : List UInt32) (hw0 : ws0.length = 64) :
    Calls Try.prog 82 #[.agg (rowL s.list), .agg (rowL ws0), .agg (rowL primes)] w fun e w' => e = .returned (.agg (rowL (s.add (roundsTo primes (spreadTo ws0 48) s 64)).list)) ∧ Below w.heap.size w w' := by
  have hb3 : ∀ A B C D : Obj, Below w.heap.size w ((((w.alloc A).alloc B).alloc C).alloc D) := fun A B C D => below_seq (below_seq (below_seq (below_one _ _) (below_one _ _)) (below_one _ _)) (below_one _ _)
  go_enter Try.func82, Try.ntmps82
  go_upto_region 1 with (first
    | (refine wpList_box rfl 100 _ rfl _ rfl ?_)
    | (refine wpList_box rfl 98 _ rfl _ rfl ?_)
    | (refine wpList_allocRow 100 _ alloc100 rfl rfl ?_))
  have h4 : ∀ A B C D : Obj, ((((w.alloc A).alloc B).alloc C).alloc D).heap[w.heap.size]? = some A ∧ ((((w.alloc A).alloc B).alloc C).alloc D).heap[w.heap.size + 1]? = some B ∧ ((((w.alloc A).alloc B).alloc C).alloc D).heap[w.heap.size + 1 + 1]? = some C ∧ ((((w.alloc A).alloc B).alloc C).alloc D).heap[w.heap.size + 1 + 1 + 1]? = some D := fun A B C D => by
    have s1 : (w.alloc A).heap.size = w.heap.size + 1 := by simp
    have s2 : ((w.alloc A).alloc B).heap.size = w.heap.size + 1 + 1 := by simp
    have s3 : (((w.alloc A).alloc B).alloc C).heap.size = w.heap.size + 1 + 1 + 1 := by simp
    have n1 := heap_alloc_new (w.alloc A) B
    have n2 := heap_alloc_new ((w.alloc A).alloc B) C
    have n3 := heap_alloc_new (((w.alloc A).alloc B).alloc C) D
    rw [s1] at n1
    rw [s2] at n2
    rw [s3] at n3
    refine ⟨?_, ?_, ?_, n3⟩
    · rw [Below.heap_alloc _ _ _ (by omega), Below.heap_alloc _ _ _ (by omega), Below.heap_alloc _ _ _ (by omega)]; exact heap_alloc_new _ _
    · rw [Below.heap_alloc _ _ _ (by omega), Below.heap_alloc _ _ _ (by omega)]; exact n1
    · rw [Below.heap_alloc _ _ _ (by omega)]; exact n2
  refine abstract_world (fun W => W.heap[w.heap.size]? = some (.cells (rowL s.list) 100 (0, 0)) ∧ W.heap[w.heap.size + 1]? = some (.cells (rowL ws0) 98 (0, 0)) ∧ W.heap[w.heap.size + 1 + 1]? = some (.cells (rowL primes) 98 (0, 0)) ∧ W.heap[w.heap.size + 1 + 1 + 1]? = some (.cells (rowL (List.replicate 8 0)) 100 (0, 0)) ∧ Below w.heap.size w W) ⟨(h4 _ _ _ _).1, (h4 _ _ _ _).2.1, (h4 _ _ _ _).2.2.1, (h4 _ _ _ _).2.2.2, hb3 _ _ _ _⟩ ?_
  clear h4 hb3
  rintro w1 ⟨h0, h1, h2, h3, hb⟩
  have e1 : w.heap.size + 1 + 1 = w.heap.size + 2 := rfl
  have e2 : w.heap.size + 1 + 1 + 1 = w.heap.size + 3 := rfl
  have H0 := Lib.hid h0
  have H1 := Lib.hid h1
  have H2 := Lib.hid h2
  have H3 := Lib.hid h3
  have Hb := Lib.hid hb
  clear h0 h1 h2 h3 hb e1 e2
  go_wp2
  go_loopw [7] (fun v wr => ∃ k : Nat, 16 ≤ k ∧ k ≤ 64 ∧ v = .int .i64 (k : Int) ∧ wr.heap[w.heap.size]? = some (.cells (rowL s.list) 100 (0, 0)) ∧ wr.heap[w.heap.size + 1]? = some (.cells (rowL (spreadTo ws0 (k - 16))) 98 (0, 0)) ∧ wr.heap[w.heap.size + 1 + 1]? = some (.cells (rowL primes) 98 (0, 0)) ∧ wr.heap[w.heap.size + 1 + 1 + 1]? = some (.cells (rowL (List.replicate 8 0)) 100 (0, 0)) ∧ Below w.heap.size w wr)
    (fun v _ => 64 - (intOf v).toNat)
  case atStart => exact ⟨16, by omega, by omega, rfl, H0.out, H1.out, H2.out, H3.out, Hb.out⟩
  case round =>
    clear H0 H1 H2 H3 Hb
    obtain ⟨k, hk0, hk, rfl, h0, h1, h2, h3, hb⟩ := hrel
    have hlen : (spreadTo ws0 (k - 16)).length = 64 := by rw [spreadTo_length, hw0]
    have H0 := Lib.hid h0
    have H1 := Lib.hid h1
    have H2 := Lib.hid h2
    have H3 := Lib.hid h3
    have Hb := Lib.hid hb
    clear h0 h2 h3 hb
    by_cases hlt : k < 64
    · have c15 := cell_row h1 (rowL_at (spreadTo ws0 (k - 16)) (k - 15) (by omega))
      have c2 := cell_row h1 (rowL_at (spreadTo ws0 (k - 16)) (k - 2) (by omega))
      have c16 := cell_row h1 (rowL_at (spreadTo ws0 (k - 16)) (k - 16) (by omega))
      have c7 := cell_row h1 (rowL_at (spreadTo ws0 (k - 16)) (k - 7) (by omega))
      have ck := cell_row h1 (rowL_at (spreadTo ws0 (k - 16)) k (by omega))
      have fw := frozen_of_row wr (w.heap.size + 1) k _ _ h1
      have hnx := Lib.hid (spreadTo_next ws0 k hk0)
      have Hlen := Lib.hid hlen
      clear h1 hlen
      generalize spreadTo ws0 (k - 16) = ws at *
      have Hne := Lib.hid (next_eq ws k)
      have i15 : (15 : Int) ≤ (k : Int) := by omega
      have i2 : (2 : Int) ≤ (k : Int) := by omega
      have i7 : (7 : Int) ≤ (k : Int) := by omega
      have i16 : (16 : Int) ≤ (k : Int) := by omega
      have j15 : (k : Int) - 15 < 64 := by omega
      have j2 : (k : Int) - 2 < 64 := by omega
      have j7 : (k : Int) - 7 < 64 := by omega
      have j16 : (k : Int) - 16 < 64 := by omega
      generalize ws[k - 15]?.getD 0 = x15 at *
      generalize ws[k - 2]?.getD 0 = x2 at *
      generalize ws[k - 16]?.getD 0 = x16 at *
      generalize ws[k - 7]?.getD 0 = x7 at *
      go_wp2_with fail
      refine region_q (fun w' => w' = wr.drew) (by kernel_rfl) (by kernel_rfl) rfl ?_
      repeat (refine wpQuiet_step (fun K hK => ?_); go_simp; (try go_bits); refine hK _ ?_; clear hK K)
      refine wpQuiet_nil ?_
      rintro _ rfl
      go_wp2_with (first
        | (go_at_call 110; with_reducible refine (turn_i _ _ (by omega) (by omega) _).mono ?_; rintro e w' ⟨rfl, rfl⟩)
        | (go_at_call 111; with_reducible refine (down_i _ _ (by omega) (by omega) _).mono ?_; rintro e w' ⟨rfl, rfl⟩))
      refine region_ht (fun w' => w' = wr.drew.drew) 16 (by kernel_rfl) (by kernel_rfl) rfl ?_
      simp only [List.take_succ_cons, List.take_zero, List.drop_succ_cons, List.drop_zero]
      repeat (refine wpQuiet_step (fun K hK => ?_); go_simp; (try go_bits); refine hK _ ?_; clear hK K)
      refine wpQuiet_nil ?_
      rintro _ rfl
      go_wp2
      refine ⟨⟨k + 1, by omega, by omega, by go_num, (heap_setCell_other _ _ _ _ (show w.heap.size ≠ w.heap.size + 1 by omega)).trans H0.out, ?_, (heap_setCell_other _ _ _ _ (show w.heap.size + 1 + 1 ≠ w.heap.size + 1 by omega)).trans H2.out, (heap_setCell_other _ _ _ _ (show w.heap.size + 1 + 1 + 1 ≠ w.heap.size + 1 by omega)).trans H3.out, ((Hb.out.setCell (by simp) _).drew).drew⟩, by simp [intOf]; omega⟩
      rw [hnx.out, ← rowL_set, ← Hne.out]
      exact heap_setCell_same _ _ _ _ _ _ H1.out
    · obtain rfl : k = 64 := by omega
      have H1 := Lib.hid h1
      have e48 : 64 - 16 = 48 := rfl
      rw [e48] at H1 hlen
      clear h1 e48
      obtain ⟨W, hW⟩ : ∃ W, W = spreadTo ws0 48 := ⟨_, rfl⟩
      rw [← hW] at H1 hlen
      have HW := Lib.hid hW
      clear hW
      have Hlen := Lib.hid hlen
      clear hlen
      have hsl : s.list.length = 8 := rfl
      go_upto_region 9 with (first
        | (refine wpList_load_row rfl 100 _ rfl _ rfl 100 _ _ _ H0.out Try.underlying100 rfl (info100 _ rfl) ?_)
        | (refine wpList_allocRow 100 _ alloc100 rfl rfl ?_)
        | (refine wpList_store_row rfl 100 _ _ rfl _ _ rfl rfl 100 _ (heap_alloc_new _ _) (info100 _ rfl) rfl (rowL_one _) ?_))
      have hg : ((wr.alloc (.cells (rowL (List.replicate 8 0)) 100)).setRow wr.heap.size (rowL s.list)).heap[wr.heap.size]? = some (.cells (rowL s.list) 100 (0, 0)) := setRow_heap _ _ _ _ _ _ (heap_alloc_new _ _)
      have ho : ∀ i, i < wr.heap.size → ((wr.alloc (.cells (rowL (List.replicate 8 0)) 100)).setRow wr.heap.size (rowL s.list)).heap[i]? = wr.heap[i]? := fun i hi => by
        rw [setRow_other _ _ _ _ (by omega), Below.heap_alloc _ _ _ hi]
      have hbel : Below w.heap.size w ((wr.alloc (.cells (rowL (List.replicate 8 0)) 100)).setRow wr.heap.size (rowL s.list)) := below_row (below_seq Hb.out (below_one _ _)) Hb.out.size _
      have hg3 := heap_lt H3.out
      refine abstract_world (fun V => V.heap[w.heap.size]? = some (.cells (rowL s.list) 100 (0, 0)) ∧ V.heap[w.heap.size + 1]? = some (.cells (rowL W) 98 (0, 0)) ∧ V.heap[w.heap.size + 1 + 1]? = some (.cells (rowL primes) 98 (0, 0)) ∧ V.heap[w.heap.size + 1 + 1 + 1]? = some (.cells (rowL (List.replicate 8 0)) 100 (0, 0)) ∧ V.heap[wr.heap.size]? = some (.cells (rowL s.list) 100 (0, 0)) ∧ Below w.heap.size w V) ⟨(ho _ (by omega)).trans H0.out, (ho _ (by omega)).trans H1.out, (ho _ (by omega)).trans H2.out, (ho _ (by omega)).trans H3.out, hg, hbel⟩ ?_
      clear hg ho hbel H0 H1 H2 H3 Hb
      generalize wr.heap.size = g at *
      rintro w2 ⟨h0, h1, h2, h3, hg, hb⟩
      have H0 := Lib.hid h0
      have H1 := Lib.hid h1
      have H2 := Lib.hid h2
      have H3 := Lib.hid h3
      have Hg := Lib.hid hg
      have Hb := Lib.hid hb
      clear h0 h1 h2 h3 hg hb
      go_wp2
      go_loopw [13] (fun v wr => ∃ k : Nat, k ≤ 64 ∧ v = .int .i64 (k : Int) ∧ wr.heap[w.heap.size]? = some (.cells (rowL s.list) 100 (0, 0)) ∧ wr.heap[w.heap.size + 1]? = some (.cells (rowL W) 98 (0, 0)) ∧ wr.heap[w.heap.size + 1 + 1]? = some (.cells (rowL primes) 98 (0, 0)) ∧ wr.heap[w.heap.size + 1 + 1 + 1]? = some (.cells (rowL (List.replicate 8 0)) 100 (0, 0)) ∧ wr.heap[g]? = some (.cells (rowL (roundsTo primes W s k).list) 100 (0, 0)) ∧ Below w.heap.size w wr)
        (fun v _ => 64 - (intOf v).toNat)
      case atStart => exact ⟨0, by omega, rfl, H0.out, H1.out, H2.out, H3.out, Hg.out, Hb.out⟩
      case round =>
        clear H0 H1 H2 H3 Hb Hg
        obtain ⟨k, hk, rfl, h0, h1, h2, h3, hg, hb⟩ := hrel
        have H0 := Lib.hid h0
        have H1 := Lib.hid h1
        have H2 := Lib.hid h2
        have H3 := Lib.hid h3
        have Hg := Lib.hid hg
        have Hb := Lib.hid hb
        clear h3 hb
        by_cases hlt : k < 64
        · have cp := cell_row h2 (rowL_at primes k hlt)
          have cw := cell_row h1 (rowL_at W k (by have := Hlen.out; omega))
          have v0 := cell_row hg (rowL_at (roundsTo primes W s k).list 0 (by simp [S8.list]))
          have v1 := cell_row hg (rowL_at (roundsTo primes W s k).list 1 (by simp [S8.list]))
          have v2 := cell_row hg (rowL_at (roundsTo primes W s k).list 2 (by simp [S8.list]))
          have v3 := cell_row hg (rowL_at (roundsTo primes W s k).list 3 (by simp [S8.list]))
          have v4 := cell_row hg (rowL_at (roundsTo primes W s k).list 4 (by simp [S8.list]))
          have v5 := cell_row hg (rowL_at (roundsTo primes W s k).list 5 (by simp [S8.list]))
          have v6 := cell_row hg (rowL_at (roundsTo primes W s k).list 6 (by simp [S8.list]))
          have v7 := cell_row hg (rowL_at (roundsTo primes W s k).list 7 (by simp [S8.list]))
          have hst : roundsTo primes W s (k + 1) = rnd (roundsTo primes W s k) (primes[k]?.getD 0) (W[k]?.getD 0) := rfl
          have Hst := Lib.hid hst
          clear h0 h1 h2 hg hst
          generalize roundsTo primes W s k = st at *
          generalize primes[k]?.getD 0 = pk at *
          generalize W[k]?.getD 0 = wk at *
          obtain ⟨sa, sb, sc, sd, se, sf, sg, sh⟩ := st
          simp only [S8.list, List.getElem?_cons_zero, List.getElem?_cons_succ, Option.getD_some] at v0 v1 v2 v3 v4 v5 v6 v7
          go_wp2_with fail
          refine region_q (fun w' => w' = wr.drew) (by kernel_rfl) (by kernel_rfl) rfl ?_
          repeat (refine wpQuiet_step (fun K hK => ?_); go_simp; (try go_bits); refine hK _ ?_; clear hK K)
          refine wpQuiet_nil ?_
          rintro _ rfl
          go_wp2_with (first
            | (go_at_call 110; with_reducible refine (turn_i _ _ (by omega) (by omega) _).mono ?_; rintro e w' ⟨rfl, rfl⟩))
          refine region_q (fun w' => w' = wr.drew.drew) (by kernel_rfl) (by kernel_rfl) rfl ?_
          repeat (refine wpQuiet_step (fun K hK => ?_); go_simp; (try go_bits); refine hK _ ?_; clear hK K)
          refine wpQuiet_nil ?_
          rintro _ rfl
          go_upto_region 18 with (first
            | (go_at_call 110; with_reducible refine (turn_i _ _ (by omega) (by omega) _).mono ?_; rintro e w' ⟨rfl, rfl⟩))
          obtain ⟨X, hX⟩ : ∃ X, X = sh.toUInt64 + ((rot se 6).toUInt64 ^^^ (rot se 11).toUInt64 ^^^ (rot se 25).toUInt64) + (se.toUInt64 &&& sf.toUInt64 ^^^ 4294967295 - se.toUInt64 &&& sg.toUInt64) + pk.toUInt64 + wk.toUInt64 := ⟨_, rfl⟩
          obtain ⟨T, hT⟩ : ∃ T, T = (rot sa 2).toUInt64 ^^^ (rot sa 13).toUInt64 ^^^ (rot sa 22).toUInt64 := ⟨_, rfl⟩
          obtain ⟨M, hM⟩ : ∃ M, M = sa.toUInt64 &&& sb.toUInt64 ^^^ sa.toUInt64 &&& sc.toUInt64 ^^^ sb.toUInt64 &&& sc.toUInt64 := ⟨_, rfl⟩
          rw [← hX, ← hT, ← hM]
          have Hrow := Lib.hid (rnd_row sa sb sc sd se sf sg sh pk wk X T M hX hT hM)
          clear hX hT hM
          go_wp2_with (first
            | (refine wpList_buildV (.agg (row64 [X + T + M &&& 4294967295, sa.toUInt64, sb.toUInt64, sc.toUInt64, sd.toUInt64 + X &&& 4294967295, se.toUInt64, sf.toUInt64, sg.toUInt64])) 100 _ rfl rfl (by kernel_rfl) ?_)
            | (refine wpList_store_row rfl 100 _ _ rfl _ _ rfl rfl 100 _ Hg.out (info100' _ rfl) rfl (row64_one _) ?_))
          rw [Hrow.out]
          refine ⟨⟨k + 1, by omega, by go_num, ?_, ?_, ?_, ?_, ?_, ?_⟩, by simp [intOf]; omega⟩
          · exact (setRow_other _ _ _ _ (by omega)).trans H0.out
          · exact (setRow_other _ _ _ _ (by omega)).trans H1.out
          · exact (setRow_other _ _ _ _ (by omega)).trans H2.out
          · exact (setRow_other _ _ _ _ (by omega)).trans H3.out
          · rw [Hst.out]; exact setRow_heap _ _ _ _ _ _ Hg.out
          · exact below_row Hb.out.drew.drew (by omega) _
        · obtain rfl : k = 64 := by omega
          obtain ⟨R, hR⟩ : ∃ R, R = roundsTo primes W s 64 := ⟨_, rfl⟩
          rw [← hR] at Hg
          have HR := Lib.hid hR
          clear hR h0 h1 h2 hg
          go_wp2
          go_loopw [21] (fun v wr => ∃ k : Nat, k ≤ 8 ∧ v = .int .i64 (k : Int) ∧ wr.heap[w.heap.size]? = some (.cells (rowL (addL s R k)) 100 (0, 0)) ∧ wr.heap[w.heap.size + 1 + 1 + 1]? = some (.cells (rowL (List.replicate 8 0)) 100 (0, 0)) ∧ wr.heap[g]? = some (.cells (rowL R.list) 100 (0, 0)) ∧ Below w.heap.size w wr)
            (fun v _ => 8 - (intOf v).toNat)
          case atStart => exact ⟨0, by omega, rfl, H0.out, H3.out, Hg.out, Hb.out⟩
          case round =>
            clear H0 H1 H2 H3 Hb Hg
            obtain ⟨k, hk, rfl, h0, h3, hg, hb⟩ := hrel
            have H0 := Lib.hid h0
            have H3 := Lib.hid h3
            have Hg := Lib.hid hg
            have Hb := Lib.hid hb
            clear h3 hb
            by_cases hlt : k < 8
            · have cx := cell_row h0 (rowL_at (addL s R k) k (by rw [addL_length _ _ _ hk]; exact hlt))
              have cy := cell_row hg (rowL_at R.list k (by simp [S8.list]; exact hlt))
              have fx := frozen_of_row wr w.heap.size k _ _ h0
              have Hs := Lib.hid (addL_step s R k hlt)
              clear h0 hg
              generalize (addL s R k)[k]?.getD 0 = x at *
              generalize R.list[k]?.getD 0 = y at *
              have Ha := Lib.hid (add_eq x y)
              go_wp2_with fail
              refine region_ht (fun w' => w' = wr.drew) 10 (by kernel_rfl) (by kernel_rfl) rfl ?_
              simp only [List.take_succ_cons, List.take_zero, List.drop_succ_cons, List.drop_zero]
              repeat (refine wpQuiet_step (fun K hK => ?_); go_simp; (try go_bits); refine hK _ ?_; clear hK K)
              refine wpQuiet_nil ?_
              rintro _ rfl
              go_wp2
              go_roundw
              case rel =>
                refine ⟨_, _, _, _, _, _, _, _, _, _, _, _, _, _, _, ⟨k + 1, by omega, by go_num, ?_, (heap_setCell_other _ _ _ _ (show w.heap.size + 1 + 1 + 1 ≠ w.heap.size by omega)).trans H3.out, (heap_setCell_other _ _ _ _ (show g ≠ w.heap.size by omega)).trans Hg.out, (Hb.out.setCell (Nat.le_refl _) _).drew⟩, rfl⟩
                rw [← Hs.out, ← rowL_set, ← Ha.out]
                exact heap_setCell_same _ _ _ _ _ _ H0.out
              case measure => simp [intOf]; omega
            · obtain rfl : k = 8 := by omega
              have e8 : addL s R 8 = (s.add R).list := by rfl
              rw [e8] at H0
              clear h0 hg e8
              go_wp2_with (first
                | (refine wpList_load_row rfl 100 _ rfl _ rfl 100 _ _ _ H0.out Try.underlying100 rfl (info100 _ rfl) ?_)
                | (refine wpList_store_row rfl 100 _ _ rfl _ _ rfl rfl 100 _ H3.out (info100 _ rfl) rfl (rowL_one _) ?_))
              refine bodyPost_ret (results_cell_row rfl _ _ _ 100 _ _ _ rfl (setRow_heap _ _ _ _ _ _ H3.out) Try.underlying100 rfl (info100 _ rfl)) rfl ⟨by rw [← HW.out, ← HR.out], below_row Hb.out (by omega) _⟩
end Go.Proofs.Ytafakjdolnigaaa

namespace Go.Proofs.Ytafakjdolnigaaa
open Go.RowKit
set_option linter.unusedVariables false

/-! ### The words of a block, one byte after another -/
/-- Word j when k bytes of the block have been laid. -/
def partWord (blk : List UInt8) (k j : Nat) : UInt64 := ((List.range (min (k - 4 * j) 4)).foldl (fun x i => x * 256 + (blk[4 * j + i]?.getD 0).toUInt64) 0)
def partRow (blk : List UInt8) (k : Nat) : List UInt64 := (List.range 64).map (partWord blk k)
theorem partRow_length (blk : List UInt8) (k : Nat) : (partRow blk k).length = 64 := by simp [partRow]
theorem partRow_zero (blk : List UInt8) : partRow blk 0 = List.replicate 64 0 := by
  simp [partRow]
  rfl
theorem partRow_at (blk : List UInt8) (k j : Nat) (h : j < 64) : (partRow blk k)[j]?.getD 0 = partWord blk k j := by simp [partRow, h]
theorem partRow_step (blk : List UInt8) (k : Nat) (h : k < 64) : (partRow blk k).set (k / 4) (partWord blk k (k / 4) * 256 + (blk[k]?.getD 0).toUInt64) = partRow blk (k + 1) := by
  apply List.ext_getElem?
  intro j
  by_cases hj : j < 64
  · by_cases he : k / 4 = j
    · subst he
      rw [List.getElem?_set_self (by rw [partRow_length]; omega)]
      simp only [partRow, List.getElem?_map, List.getElem?_range hj, Option.map_some, partWord]
      have e1 : min (k + 1 - 4 * (k / 4)) 4 = min (k - 4 * (k / 4)) 4 + 1 := by omega
      have e2 : 4 * (k / 4) + min (k - 4 * (k / 4)) 4 = k := by omega
      rw [e1, List.range_succ, List.foldl_append]
      simp only [List.foldl_cons, List.foldl_nil, e2]
    · rw [List.getElem?_set_ne he]
      simp only [partRow, List.getElem?_map, List.getElem?_range hj, Option.map_some, partWord]
      have : min (k + 1 - 4 * j) 4 = min (k - 4 * j) 4 := by omega
      rw [this]
  · rw [List.getElem?_eq_none (by rw [List.length_set, partRow_length]; omega), List.getElem?_eq_none (by rw [partRow_length]; omega)]

theorem word_bytes (a b c d : UInt8) : (((((0 : UInt64) * (256 : UInt64) + a.toUInt64 : UInt64) * (256 : UInt64) + b.toUInt64 : UInt64) * (256 : UInt64) + c.toUInt64 : UInt64) * (256 : UInt64) + d.toUInt64 : UInt64) = (a.toUInt32 <<< (24 : UInt32) ||| b.toUInt32 <<< (16 : UInt32) ||| c.toUInt32 <<< (8 : UInt32) ||| d.toUInt32 : UInt32).toUInt64 := by
  have ha := a.toNat_lt
  have hb := b.toNat_lt
  have hc := c.toNat_lt
  have hd := d.toNat_lt
  have h : (a.toUInt32 <<< (24 : UInt32) ||| b.toUInt32 <<< (16 : UInt32) ||| c.toUInt32 <<< (8 : UInt32) ||| d.toUInt32 : UInt32).toNat = ((a.toNat * 256 + b.toNat) * 256 + c.toNat) * 256 + d.toNat := by
    simp only [UInt32.toNat_or, UInt32.toNat_shiftLeft, UInt8.toNat_toUInt32]
    have e24 : (24 : UInt32).toNat % 32 = 24 := rfl
    have e16 : (16 : UInt32).toNat % 32 = 16 := rfl
    have e8 : (8 : UInt32).toNat % 32 = 8 := rfl
    rw [e24, e16, e8]
    have m1 : a.toNat <<< 24 % 2 ^ 32 = a.toNat <<< 24 := Nat.mod_eq_of_lt (by rw [Nat.shiftLeft_eq]; omega)
    have m2 : b.toNat <<< 16 % 2 ^ 32 = b.toNat <<< 16 := Nat.mod_eq_of_lt (by rw [Nat.shiftLeft_eq]; omega)
    have m3 : c.toNat <<< 8 % 2 ^ 32 = c.toNat <<< 8 := Nat.mod_eq_of_lt (by rw [Nat.shiftLeft_eq]; omega)
    rw [m1, m2, m3]
    have s1 : a.toNat <<< 24 ||| b.toNat <<< 16 = (a.toNat <<< 8 + b.toNat) <<< 16 := by
      rw [← Nat.shiftLeft_add_eq_or_of_lt (show b.toNat <<< 16 < 2 ^ 24 by rw [Nat.shiftLeft_eq]; omega)]
      simp only [Nat.shiftLeft_eq]; omega
    rw [s1]
    have s2 : (a.toNat <<< 8 + b.toNat) <<< 16 ||| c.toNat <<< 8 = ((a.toNat <<< 8 + b.toNat) <<< 8 + c.toNat) <<< 8 := by
      rw [← Nat.shiftLeft_add_eq_or_of_lt (show c.toNat <<< 8 < 2 ^ 16 by rw [Nat.shiftLeft_eq]; omega)]
      simp only [Nat.shiftLeft_eq]; omega
    rw [s2, ← Nat.shiftLeft_add_eq_or_of_lt (show d.toNat < 2 ^ 8 by omega)]
    simp only [Nat.shiftLeft_eq]
  rw [← UInt64.toNat_inj]
  simp only [UInt64.toNat_add, UInt64.toNat_mul, UInt32.toNat_toUInt64, UInt8.toNat_toUInt64, h]
  have e0 : (0 : UInt64).toNat = 0 := rfl
  have e256 : (256 : UInt64).toNat = 256 := rfl
  rw [e0, e256]
  omega

theorem fillTo_at (blk : List UInt8) (k j : Nat) (hk : k ≤ 64) (hj : j < 64) : (fillTo blk k)[j]? = some (if j < k then wordOf blk j else 0) := by
  induction k with
  | zero =>
    have h0 : ¬ j < 0 := by omega
    rw [fillTo, if_neg h0, List.getElem?_replicate, if_pos hj]
  | succ k ih =>
    rw [fillTo]
    by_cases he : k = j
    · subst he
      rw [List.getElem?_set_self (by rw [fillTo_length]; omega)]
      simp
    · rw [List.getElem?_set_ne he, ih (by omega)]
      congr 1
      by_cases h : j < k
      · rw [if_pos h, if_pos (by omega)]
      · rw [if_neg h, if_neg (by omega)]

theorem partRow_all (blk : List UInt8) : row64 (partRow blk 64) = rowL (fillTo blk 16) := by
  unfold rowL
  congr 1
  apply List.ext_getElem?
  intro j
  by_cases hj : j < 64
  · rw [List.getElem?_map, fillTo_at blk 16 j (by omega) hj]
    simp only [partRow, List.getElem?_map, List.getElem?_range hj, Option.map_some, partWord]
    congr 1
    by_cases h : j < 16
    · have e : min (64 - 4 * j) 4 = 4 := by omega
      rw [e, if_pos h]
      have := word_bytes (blk[4 * j]?.getD 0) (blk[4 * j + 1]?.getD 0) (blk[4 * j + 2]?.getD 0) (blk[4 * j + 3]?.getD 0)
      simpa [List.range_succ, wordOf] using this
    · have e : min (64 - 4 * j) 4 = 0 := by omega
      rw [e, if_neg h]
      rfl
  · rw [List.getElem?_eq_none (by rw [partRow_length]; omega), List.getElem?_eq_none (by rw [List.length_map, fillTo_length]; omega)]
end Go.Proofs.Ytafakjdolnigaaa

namespace Go.Proofs.Ytafakjdolnigaaa
open Go.RowKit
set_option linter.unusedVariables false

theorem shr_byte (x : UInt32) (c : Nat) (h : c < 32) : (x.toUInt64 >>> UInt64.ofNat c).toUInt8 = (x >>> UInt32.ofNat c).toUInt8 := by
  rw [← UInt8.toNat_inj, UInt64.toNat_toUInt8, UInt32.toNat_toUInt8, UInt64.toNat_shiftRight, shr_nat x c h, UInt32.toNat_toUInt64, UInt64.toNat_ofNat']
  congr 2
  omega

theorem times8 (n : Nat) (h : n ≤ 1048576) : Value.int .u64 ((n : Int) * 8) = W64 (UInt64.ofNat n <<< 3) := by
  unfold W64
  congr 1
  rw [UInt64.toNat_shiftLeft, UInt64.toNat_ofNat']
  have : (3 : UInt64).toNat % 64 = 3 := rfl
  rw [this, Nat.shiftLeft_eq]
  omega

theorem wpList_mul8 {P : Program} {ops : Array Oper} {rest : List Oper} {o : Oper} {a : Act} {w : World} {Q : Exit → Act → World → Prop} (hgd : o.guard = none) (t t' : TypeId) (x : Operand) (ho : o.op = .binOp .mul t x (.const (.int .u64 8)) t') (n : Nat) (hx : a.eval x = .int .u64 (n : Int)) (hn : n ≤ 1048576)
    (h : wpList P ops Q rest (a.put o.dst (W64 (UInt64.ofNat n <<< 3))) w) : wpList P ops Q (o :: rest) a w := by
  have e2 : UInt64.ofNat n * UInt64.ofNat 8 = UInt64.ofNat n <<< 3 := by
    rw [← UInt64.toNat_inj, UInt64.toNat_mul, UInt64.toNat_shiftLeft, UInt64.toNat_ofNat', UInt64.toNat_ofNat']
    have : (3 : UInt64).toNat % 64 = 3 := rfl
    rw [this, Nat.shiftLeft_eq]
  exact wpList_val hgd _ _ (by
    unfold execOp
    have e : a.eval (.const (.int .u64 8)) = .int .u64 ((8 : Nat) : Int) := rfl
    simp only [ho, hx, e, lit64 n (by omega), lit64 8 (by omega), mul64, e2]
    rfl) h

theorem sLenMod (n z : Nat) (hz : z ≤ zeros n) : (((n : Int) + 1 + (z : Int)) % 64 != 56) = decide (z < zeros n) := by
  unfold zeros at *
  by_cases h : z < (119 - n % 64) % 64
  · have : (n + 1 + z) % 64 ≠ 56 := by omega
    simp [h]; omega
  · have : (n + 1 + z) % 64 = 56 := by omega
    simp [h]; omega

set_option maxRecDepth 100000 in
set_option maxHeartbeats 4000000 in
theorem refSum_any {w : World} {r : Option Addr} {len cap : Nat} {bs : List UInt8} (h : BytesAt w r len cap bs) (hsz : len ≤ 1048576) :
    Calls Try.prog 39 #[.slice r len cap] w fun e w' => e = .returned (.agg (row8 (digest bs))) ∧ Below w.heap.size w w' := by
  have hlen := Lib.hid h.hlen
  go_enter Try.func39, Try.ntmps39
  go_upto_region 2 with (first
    | (refine wpList_allocRow 31 _ alloc31 rfl rfl ?_)
    | (go_at_call 81; refine (keys_any _).mono ?_; rintro e w1 ⟨rfl, hb1⟩)
    | (refine wpList_allocRow 98 _ alloc98 rfl rfl ?_)
    | (refine wpList_store_row rfl 98 _ _ rfl _ _ rfl rfl 98 _ (heap_alloc_new _ _) (info98 _ rfl) rfl (rowL_one _) ?_))
  have hlt1 : w.heap.size < w1.heap.size := by have := hb1.size; simp at this; omega
  have o0 : ((w1.alloc (.cells (rowL (List.replicate 64 0)) 98)).setRow w1.heap.size (rowL primes)).heap[w.heap.size]? = some (.cells (row8 zero32) 31 (0, 0)) := by
    rw [setRow_other _ _ _ _ (by omega), Below.heap_alloc _ _ _ hlt1, hb1.block _ (by simp)]
    exact heap_alloc_new _ _
  have o1 := setRow_heap _ _ _ (rowL primes) _ _ (heap_alloc_new w1 (.cells (rowL (List.replicate 64 0)) 98))
  have o2 : Below w.heap.size w ((w1.alloc (.cells (rowL (List.replicate 64 0)) 98)).setRow w1.heap.size (rowL primes)) := below_row (below_seq (below_seq (below_one _ _) hb1) (below_one _ _)) (by omega) _
  have o3 : w1.heap.size < ((w1.alloc (.cells (rowL (List.replicate 64 0)) 98)).setRow w1.heap.size (rowL primes)).heap.size := by simp
  refine abstract_world (fun W => W.heap[w.heap.size]? = some (.cells (row8 zero32) 31 (0, 0)) ∧ W.heap[w1.heap.size]? = some (.cells (rowL primes) 98 (0, 0)) ∧ Below w.heap.size w W ∧ w1.heap.size < W.heap.size) ⟨o0, o1, o2, o3⟩ ?_
  clear o0 o1 o2 o3 hb1
  generalize w1.heap.size = b3 at *
  rintro w2 ⟨o0, o1, o2, o3⟩
  have h2 := h.below o2
  have O0 := Lib.hid o0
  have O1 := Lib.hid o1
  have O2 := Lib.hid o2
  clear o0 o1 o2
  have own0 : OwnB (w2.alloc (.cells #[] 5)) w2.heap.size (.slice (some ⟨w2.heap.size, 0, none⟩) 0 0) [] := ⟨rfl, .inr ⟨w2.heap.size, 0, #[], rfl, Nat.le_refl _, heap_alloc_new _ _, Nat.le_refl _, by unfold maxLen; omega, rfl, rfl⟩⟩
  go_wp2_with (first
    | (refine wpList_append_bytes rfl _ _ rfl w2.heap.size _ [] bs r len cap rfl rfl own0 (h2.below (below_one _ _)) (by have := hlen.out; simp; omega) (by simp) ?_; intro v4 w3 hv3 hg3; have hb3 := own0.below (below_one w2 _) (by simp) hg3; rw [List.nil_append] at hv3; clear own0 hg3)
    | (refine wpList_append_bytes rfl _ _ rfl w2.heap.size v4 bs [128] (some ⟨w3.heap.size, 0, none⟩) 1 1 rfl rfl (hv3.keep (below_one _ _)) (bytes_row w3 [128] _ (0, 0) rfl 1 rfl (maxLen_small _ (by omega)) _ rfl) (by have := hlen.out; simp; omega) (by have := hb3.size; simp; omega) ?_; intro v5 w5 hv5 hg5; have hb5 := (hv3.keep (below_one w3 (.cells #[.int .u8 128] 5))).below (hb3.trans ((below_one w3 _).mono hb3.size)) (by have := hb3.size; simp; omega) hg5; clear hv3 hg5 hb3))
  have hgo : bs.length ≤ 1048576 := by have := hlen.out; omega
  have hB5 : OwnB w5 w2.heap.size v5 (bs ++ [128]) := hv5
  have Hv5 := Lib.hid hB5
  have Hb5 := Lib.hid hb5
  have Hn := Lib.hid hlen.out
  clear hv5 hB5 hb5 h h2
  go_loopw [4] (fun v wr => ∃ z : Nat, z ≤ zeros bs.length ∧ OwnB wr w2.heap.size v (bs ++ (128 :: List.replicate z 0)) ∧ Below w2.heap.size w2 wr) (fun v _ => bs.length + 65 - sliceLen v)
  case atStart => exact ⟨0, Nat.zero_le _, by simpa using Hv5.out, Hb5.out⟩
  case round =>
    clear Hv5 Hb5
    obtain ⟨z, hz, hv, hb⟩ := hrel
    have hzz : zeros bs.length < 64 := by unfold zeros; omega
    have hml : (bs ++ (128 :: List.replicate z (0 : UInt8))).length = bs.length + 1 + z := by simp; omega
    have hap : bs ++ (128 :: List.replicate (z + 1) (0 : UInt8)) = (bs ++ (128 :: List.replicate z 0)) ++ [0] := by simp [List.replicate_succ']
    obtain ⟨r4, c4, hv4, hr4, _⟩ := hv.at
    have hc4 : c4 ≤ 9223372036854775807 := hr4.hmax
    rw [hml] at hv4 hr4
    have hle4 := hr4.hle
    subst hv4
    have Hml := Lib.hid hml
    have Hap := Lib.hid hap
    have Hv := Lib.hid hv
    have Hb := Lib.hid hb
    have Hr4 := Lib.hid hr4
    clear hml hap hv hb hr4
    by_cases hzl : z < zeros bs.length
    · have hmod : (bs.length + 1 + z) % 64 ≠ 56 := by unfold zeros at hzl; omega
      have hne : ((((bs.length : Int) + 1 + (z : Int)) % 64) == 56) = false := by simp; omega
      have hne2 : ((((bs.length : Int) + 1 + (z : Int)).tmod 64) == 56) = false := by rw [Int.tmod_eq_emod_of_nonneg (by omega)]; exact hne
      go_wp2_with (refine wpList_append_bytes rfl _ _ rfl w2.heap.size _ (bs ++ (128 :: List.replicate z 0)) [0] (some ⟨wr.heap.size, 0, none⟩) 1 1 rfl rfl (Hv.out.keep (below_one _ _)) (bytes_row wr [0] _ (0, 0) rfl 1 rfl (maxLen_small _ (by omega)) _ rfl) (by rw [Hml.out]; simp; omega) (by have := Hb.out.size; simp; omega) ?_; intro v5 w6 hv6 hg6)
      obtain ⟨r6, c6, rfl, _, _⟩ := hv6.at
      refine ⟨⟨z + 1, by omega, by rw [Hap.out]; exact hv6, ?_⟩, ?_⟩
      · exact (Hv.out.keep (below_one _ _)).below (Hb.out.trans ((below_one wr _).mono Hb.out.size)) (by have := Hb.out.size; simp; omega) hg6
      · simp only [sliceLen]; rw [List.length_append, Hml.out]; simp; omega
    · have hzz' : z = zeros bs.length := by omega
      have hmod : (bs.length + 1 + z) % 64 = 56 := by rw [hzz']; unfold zeros; omega
      have hne : ((((bs.length : Int) + 1 + (z : Int)) % 64) == 56) = true := by simp; omega
      have hne2 : ((((bs.length : Int) + 1 + (z : Int)).tmod 64) == 56) = true := by rw [Int.tmod_eq_emod_of_nonneg (by omega)]; exact hne
      have Hz := Lib.hid hzz'
      have Hmod := Lib.hid hmod
      have hz64 : z < 64 := by omega
      clear hzz' hmod hz
      obtain ⟨m, hm⟩ : ∃ m, m = bs ++ (128 :: List.replicate z (0 : UInt8)) := ⟨_, rfl⟩
      rw [← hm] at Hml Hv Hr4
      have Hm := Lib.hid hm
      clear hm
      go_wp2_with (refine wpList_mul8 rfl 35 35 _ rfl len rfl hsz ?_)
      obtain ⟨X, hX⟩ : ∃ X, X = UInt64.ofNat len <<< 3 := ⟨_, rfl⟩
      rw [← hX]
      have HX := Lib.hid hX
      clear hX hne hne2
      go_loopw [4, 6] (fun v4 v wr => ∃ i : Nat, i ≤ 8 ∧ v = .int .i64 (i : Int) ∧ OwnB wr w2.heap.size v4 (m ++ (be64 X).take i) ∧ Below w2.heap.size w2 wr) (fun _ v _ => 8 - (intOf v).toNat)
      case atStart => exact ⟨0, by omega, rfl, by simpa using Hv.out, Hb.out⟩
      case round =>
        clear Hv Hb Hr4
        obtain ⟨i, hi8, rfl, hv, hb⟩ := hrel
        obtain ⟨r5, c5, hv5, hr5, _⟩ := hv.at
        have hli : ((be64 X).take i).length = i := by rw [List.length_take, be64_length]; omega
        have hml5 : (m ++ (be64 X).take i).length = bs.length + 1 + z + i := by rw [List.length_append, Hml.out, hli]
        rw [hml5] at hv5 hr5
        subst hv5
        have hc5 : c5 ≤ 9223372036854775807 := hr5.hmax
        have hle5 := hr5.hle
        have Hv := Lib.hid hv
        have Hb := Lib.hid hb
        have Hr5 := Lib.hid hr5
        have Hml5 := Lib.hid hml5
        clear hv hb hr5 hml5 hli
        by_cases hlt8 : i < 8
        · have hat := be64_at X i hlt8
          have hap : m ++ (be64 X).take (i + 1) = (m ++ (be64 X).take i) ++ [(X >>> UInt64.ofNat (56 - 8 * i)).toUInt8] := by
            rw [List.take_add_one, hat, List.append_assoc]; rfl
          have Hap := Lib.hid hap
          clear hap hat
          have i0 : (8 : Int) * (i : Int) ≤ 56 := by omega
          have i1 : ((56 - 8 * i : Nat) : Int) = 56 - 8 * (i : Int) := by omega
          have I1 := Lib.hid i1
          clear i1
          go_wp2_with (first
            | (refine wpList_shr64 rfl 35 3 _ _ rfl X rfl _ _ rfl (56 - 8 * i) I1.out.symm (by omega) ?_)
            | (refine wpList_append_bytes rfl _ _ rfl w2.heap.size _ (m ++ (be64 X).take i) [(X >>> UInt64.ofNat (56 - 8 * i)).toUInt8] (some ⟨wr.heap.size, 0, none⟩) 1 1 rfl rfl (Hv.out.keep (below_one _ _)) (bytes_row wr [(X >>> UInt64.ofNat (56 - 8 * i)).toUInt8] _ (0, 0) rfl 1 rfl (maxLen_small _ (by omega)) _ rfl) (by rw [Hml5.out]; simp; omega) (by have := Hb.out.size; simp; omega) ?_; intro v5 w6 hv6 hg6))
          refine ⟨⟨i + 1, by omega, by go_num, by rw [Hap.out]; exact hv6, ?_⟩, by simp [intOf]; omega⟩
          exact (Hv.out.keep (below_one _ _)).below (Hb.out.trans ((below_one wr _).mono Hb.out.size)) (by have := Hb.out.size; simp; omega) hg6
        · obtain rfl : i = 8 := by omega
          obtain ⟨P, hP⟩ : ∃ P, P = m ++ (be64 X).take 8 := ⟨_, rfl⟩
          rw [← hP] at Hv Hr5 Hml5
          have HP := Lib.hid hP
          clear hP
          go_wp2_with (first
            | (refine wpList_buildV (.agg (rowL init8.list)) 100 _ rfl rfl (by kernel_rfl) ?_)
            | (refine wpList_allocRow 100 _ alloc100 rfl rfl ?_)
            | (refine wpList_store_row rfl 100 _ _ rfl _ _ rfl rfl 100 _ (heap_alloc_new _ _) (info100 _ rfl) rfl (rowL_one _) ?_))
          have hPm : ∃ nb : Nat, P.length = 64 * nb := ⟨(bs.length + 1 + z + 8) / 64, by have := Hml5.out; have := Hmod.out; omega⟩
          obtain ⟨nb, hnb⟩ := hPm
          have hnb2 : nb ≤ 100000 := by have := Hml5.out; omega
          have hnl : bs.length + 1 + z + 8 = 64 * nb := by have := Hml5.out; omega
          rw [hnl] at Hr5 hle5 ⊢
          have Hnb := Lib.hid hnb
          have Hnl := Lib.hid hnl
          clear hnb hnl
          have r0 : ((wr.alloc (.cells (rowL [0, 0, 0, 0, 0, 0, 0, 0]) 100)).setRow wr.heap.size (rowL init8.list)).heap[wr.heap.size]? = some (.cells (rowL init8.list) 100 (0, 0)) := setRow_heap _ _ _ _ _ _ (heap_alloc_new _ _)
          have r1 : Below wr.heap.size wr ((wr.alloc (.cells (rowL [0, 0, 0, 0, 0, 0, 0, 0]) 100)).setRow wr.heap.size (rowL init8.list)) := below_row (below_one _ _) (Nat.le_refl _) _
          refine abstract_world (fun W => W.heap[wr.heap.size]? = some (.cells (rowL init8.list) 100 (0, 0)) ∧ Below wr.heap.size wr W) ⟨r0, r1⟩ ?_
          clear r0 r1
          obtain ⟨wA, hwA⟩ : ∃ wA, wA = wr := ⟨_, rfl⟩
          rw [← hwA] at Hv Hr5 Hb ⊢
          clear hwA
          rintro w7 ⟨r0, r1⟩
          have R0 := Lib.hid r0
          have R1 := Lib.hid r1
          clear r0 r1
          go_loopw [8] (fun v wr => ∃ j : Nat, j ≤ nb ∧ v = .int .i64 ((64 * j : Nat) : Int) ∧ wr.heap[wA.heap.size]? = some (.cells (rowL (blocksTo j init8 P).list) 100 (0, 0)) ∧ Below wA.heap.size wA wr) (fun v _ => 64 * nb - (intOf v).toNat)
          case atStart => exact ⟨0, by omega, rfl, R0.out, R1.out⟩
          case round =>
            clear R0 R1
            obtain ⟨j, hj, rfl, h0, hb7⟩ := hrel
            have H0 := Lib.hid h0
            have Hb7 := Lib.hid hb7
            clear h0 hb7
            by_cases hjl : j < nb
            · have hlt : (64 : Int) * (j : Int) < 64 * (nb : Int) := by omega
              go_wp2_with (refine wpList_allocRow 98 _ alloc98 rfl rfl ?_)
              obtain ⟨bP, oP, rfl, hcP⟩ := Hr5.out.hcells (by omega)
              obtain ⟨blk, hblk⟩ : ∃ blk, blk = (P.drop (64 * j)).take 64 := ⟨_, rfl⟩
              have hcB : ∀ k, k < 64 → wr.cell? ⟨bP, oP + (64 * j + k), none⟩ = some (W8 (blk[k]?.getD 0)) := fun k hk => by
                rw [Hb7.out.cell (p := ⟨bP, oP + (64 * j + k), none⟩) (block_lt_of_cell (hcP (64 * j + k) (by omega))), hcP (64 * j + k) (by omega), hblk]
                congr 2
                simp [hk]
              have HcB := Lib.hid hcB
              have Hblk := Lib.hid hblk
              have hz0 : row64 (partRow blk 0) = rowL (List.replicate 64 0) := by rw [partRow_zero]; rfl
              have r0 : (wr.alloc (.cells (row64 (partRow blk 0)) 98)).heap[wr.heap.size]? = some (.cells (row64 (partRow blk 0)) 98 (0, 0)) := heap_alloc_new _ _
              have r1 : Below wr.heap.size wr (wr.alloc (.cells (row64 (partRow blk 0)) 98)) := below_one _ _
              rw [hz0] at r1
              have r0' : (wr.alloc (.cells (rowL (List.replicate 64 0)) 98)).heap[wr.heap.size]? = some (.cells (row64 (partRow blk 0)) 98 (0, 0)) := by rw [← hz0]; exact heap_alloc_new _ _
              refine abstract_world (fun W => W.heap[wr.heap.size]? = some (.cells (row64 (partRow blk 0)) 98 (0, 0)) ∧ Below wr.heap.size wr W) ⟨r0', r1⟩ ?_
              clear r0 r0' r1 hz0 hcB hblk hcP
              obtain ⟨wo, hwo⟩ : ∃ wo, wo = wr := ⟨_, rfl⟩
              rw [← hwo] at H0 Hb7 HcB ⊢
              clear hwo
              rintro w8 ⟨r0, r1⟩
              have R0 := Lib.hid r0
              have R1 := Lib.hid r1
              clear r0 r1
              go_loopw [10] (fun v wr => ∃ k : Nat, k ≤ 64 ∧ v = .int .i64 (k : Int) ∧ wr.heap[wo.heap.size]? = some (.cells (row64 (partRow blk k)) 98 (0, 0)) ∧ Below wo.heap.size wo wr) (fun v _ => 64 - (intOf v).toNat)
              case atStart => exact ⟨0, by omega, rfl, R0.out, R1.out⟩
              case round =>
                clear R0 R1
                obtain ⟨k, hk, rfl, h8, hb8⟩ := hrel
                by_cases hkl : k < 64
                · have cx := cell_row h8 (row64_at (partRow blk k) (k / 4) (by rw [partRow_length]; omega))
                  rw [partRow_at blk k (k / 4) (by omega)] at cx
                  have fx := frozen_of_row wr wo.heap.size (k / 4) _ _ h8
                  have cy : wr.cell? ⟨bP, oP + (64 * j + k), none⟩ = some (W8 (blk[k]?.getD 0)) := by
                    rw [hb8.cell (p := ⟨bP, oP + (64 * j + k), none⟩) (block_lt_of_cell (HcB.out k hkl))]; exact HcB.out k hkl
                  have Hst := Lib.hid (partRow_step blk k hkl)
                  have H8 := Lib.hid h8
                  have Hb8 := Lib.hid hb8
                  clear h8 hb8
                  generalize partWord blk k (k / 4) = pw at *
                  generalize blk[k]?.getD 0 = y at *
                  have q0 : (k : Int) / 4 < 64 := by omega
                  have q1 : (0 : Int) ≤ (k : Int) / 4 := by omega
                  have q2 : (64 : Int) * (j : Int) + (k : Int) < 64 * (nb : Int) := by omega
                  have q3 : (0 : Int) ≤ 64 * (j : Int) + (k : Int) := by omega
                  have q4 : ((k : Int) / 4).toNat = k / 4 := by omega
                  go_wp2_with fail
                  refine region_ht (fun w' => w' = wr.drew) 16 (by kernel_rfl) (by kernel_rfl) rfl ?_
                  simp only [List.take_succ_cons, List.take_zero, List.drop_succ_cons, List.drop_zero]
                  repeat (refine wpQuiet_step (fun K hK => ?_); go_simp; (try go_bits); refine hK _ ?_; clear hK K)
                  refine wpQuiet_nil ?_
                  rintro _ rfl
                  go_wp2
                  refine ⟨⟨k + 1, by omega, by go_num, ?_, ?_⟩, by simp [intOf]; omega⟩
                  · rw [← Hst.out, ← row64_set]
                    exact heap_setCell_same _ _ _ _ _ _ H8.out
                  · first
                      | exact (Hb8.out.setCell (Nat.le_refl _) _).drew
                      | exact (Hb8.out.drew.setCell (Nat.le_refl _) _)
                · obtain rfl : k = 64 := by omega
                  rw [partRow_all] at h8
                  have hA7 : wA.heap.size < wo.heap.size := heap_lt H0.out
                  have h7 : wr.heap[wA.heap.size]? = some (.cells (rowL (blocksTo j init8 P).list) 100 (0, 0)) := (hb8.block _ hA7).trans H0.out
                  have h3 : wr.heap[b3]? = some (.cells (rowL primes) 98 (0, 0)) := by
                    have s1 := Hb.out.size
                    rw [hb8.block _ (by omega), Hb7.out.block _ (by omega), Hb.out.block _ o3]
                    exact O1.out
                  have hbw : Below wA.heap.size wA wr := Hb7.out.trans (hb8.mono (by omega))
                  have hS : blocksTo (j + 1) init8 P = (blocksTo j init8 P).add (roundsTo primes (spreadTo (fillTo blk 16) 48) (blocksTo j init8 P) 64) := by rw [blocksTo_succ, ← Hblk.out]; rfl
                  have H8 := Lib.hid h8
                  have H7 := Lib.hid h7
                  have H3 := Lib.hid h3
                  have Hbw := Lib.hid hbw
                  have HS := Lib.hid hS
                  have HA7 := Lib.hid hA7
                  have Hlf := Lib.hid (fillTo_length blk 16)
                  clear h8 h7 h3 hbw hS hb8 hA7
                  obtain ⟨F, hF⟩ : ∃ F, F = fillTo blk 16 := ⟨_, rfl⟩
                  rw [← hF] at H8 HS Hlf
                  clear hF
                  obtain ⟨S, hS⟩ : ∃ S, S = blocksTo j init8 P := ⟨_, rfl⟩
                  rw [← hS] at H7 HS
                  clear hS
                  obtain ⟨S2, hS2⟩ : ∃ S2, S2 = blocksTo (j + 1) init8 P := ⟨_, rfl⟩
                  rw [← hS2] at HS
                  have HS2 := Lib.hid hS2
                  clear hS2
                  go_wp2_with (first
                    | (refine wpList_load_row rfl 100 _ rfl _ rfl 100 _ _ _ H7.out Try.underlying100 rfl (info100 _ rfl) ?_)
                    | (refine wpList_load_row rfl 98 _ rfl wo.heap.size rfl 98 _ _ _ H8.out Try.underlying98 rfl (info98 _ Hlf.out) ?_)
                    | (refine wpList_load_row rfl 98 _ rfl b3 rfl 98 _ _ _ H3.out Try.underlying98 rfl (info98 _ rfl) ?_)
                    | (go_at_call 82; with_reducible refine (block_any _ S F Hlf.out).mono ?_; rintro e w9 ⟨he9, hb9⟩; rw [← HS.out] at he9; subst he9)
                    | (refine wpList_store_row rfl 100 _ _ rfl _ _ rfl rfl 100 _ ((hb9.block _ (heap_lt H7.out)).trans H7.out) (info100 _ rfl) rfl (rowL_one _) ?_))
                  refine ⟨⟨j + 1, by omega, by go_num, ?_, ?_⟩, by simp [intOf]; omega⟩
                  · rw [← HS2.out]
                    exact setRow_heap _ _ _ _ _ _ ((hb9.block _ (heap_lt H7.out)).trans H7.out)
                  · exact below_row (below_seq Hbw.out hb9) (Nat.le_refl _) _
            · obtain rfl : j = nb := by omega
              have hst : digest bs = outOf (blocksTo j init8 P) := by
                have e1 : P = bs ++ padding bs.length := by
                  rw [HP.out, Hm.out, HX.out, ← Hn.out, Hz.out, padding, List.take_of_length_le (Nat.le_of_eq (be64_length _)), List.append_assoc, List.cons_append]
                rw [digest, ← e1, stateOf, Hnb.out, Nat.mul_div_cancel_left _ (by omega)]
              have HD := Lib.hid hst
              clear hst
              obtain ⟨S, hS⟩ : ∃ S, S = blocksTo j init8 P := ⟨_, rfl⟩
              rw [← hS] at H0 HD
              clear hS
              have h0 : wr.heap[w.heap.size]? = some (.cells (row8 zero32) 31 (0, 0)) := by
                have s1 := Hb.out.size
                rw [Hb7.out.block _ (by omega), Hb.out.block _ (by omega)]
                exact O0.out
              have Hz0 := Lib.hid h0
              have hA7 : wA.heap.size < wr.heap.size := heap_lt H0.out
              have hAw : w.heap.size < wA.heap.size := by have := Hb.out.size; omega
              have hbw : Below w.heap.size w wr := (O2.out.trans (Hb.out.mono (by omega))).trans (Hb7.out.mono (by omega))
              have Hbw := Lib.hid hbw
              clear h0 hbw
              go_wp2_with (refine wpList_allocRow 31 _ alloc31 rfl rfl ?_)
              obtain ⟨D, hDD⟩ : ∃ D, D = outOf S := ⟨_, rfl⟩
              rw [← hDD] at HD
              have hDl : D.length = 32 := by rw [hDD]; exact of_eq_true (eq_self 32)
              have hDat : ∀ i k, i < 8 → k < 4 → D[4 * i + k]? = some ((S.list[i]?.getD 0) >>> UInt32.ofNat (24 - 8 * k)).toUInt8 := fun i k h1 h2 => by rw [hDD]; exact outOf_at S i k h1 h2
              have HDl := Lib.hid hDl
              have HDat := Lib.hid hDat
              have HDD := Lib.hid hDD
              clear hDl hDat hDD
              have r0 : (wr.alloc (.cells (row8 zero32) 31)).heap[wr.heap.size]? = some (.cells (row8 (laidTo D 0)) 31 (0, 0)) := by rw [laidTo_none]; exact heap_alloc_new _ _
              refine abstract_world (fun W => W.heap[wr.heap.size]? = some (.cells (row8 (laidTo D 0)) 31 (0, 0)) ∧ Below wr.heap.size wr W) ⟨r0, below_one _ _⟩ ?_
              clear r0
              obtain ⟨wo, hwo⟩ : ∃ wo, wo = wr := ⟨_, rfl⟩
              rw [← hwo] at H0 Hz0 hA7 Hbw ⊢
              clear hwo
              rintro w8 ⟨r0, r1⟩
              have R0 := Lib.hid r0
              have R1 := Lib.hid r1
              clear r0 r1
              go_loopw [12] (fun v wr => ∃ k : Nat, k ≤ 32 ∧ v = .int .i64 (k : Int) ∧ wr.heap[wo.heap.size]? = some (.cells (row8 (laidTo D k)) 31 (0, 0)) ∧ Below wo.heap.size wo wr) (fun v _ => 32 - (intOf v).toNat)
              case atStart => exact ⟨0, by omega, rfl, R0.out, R1.out⟩
              case round =>
                clear R0 R1
                obtain ⟨k, hk, rfl, h8, hb8⟩ := hrel
                have h7 : wr.heap[wA.heap.size]? = some (.cells (rowL S.list) 100 (0, 0)) := (hb8.block _ hA7).trans H0.out
                by_cases hkl : k < 32
                · have cx := cell_row h7 (rowL_at S.list (k / 4) (by simp [S8.list]; omega))
                  have c0 := cell_row h8 (row8_at (laidTo D k) k (by rw [laidTo_length _ _ HDl.out (by omega)]; omega))
                  have fx := frozen_of_row wr wo.heap.size k _ _ h8
                  have hset := laidTo_set D k ((S.list[k / 4]?.getD 0) >>> UInt32.ofNat (24 - 8 * (k % 4))).toUInt8 (by
                    have := HDat.out (k / 4) (k % 4) (by omega) (by omega)
                    rwa [show 4 * (k / 4) + k % 4 = k by omega] at this) hkl HDl.out
                  have Hset := Lib.hid hset
                  have H8 := Lib.hid h8
                  have Hb8 := Lib.hid hb8
                  clear h8 hb8 h7 hset
                  generalize S.list[k / 4]?.getD 0 = x at *
                  have hsb := Lib.hid (shr_byte x (24 - 8 * (k % 4)) (by omega))
                  have q0 : (k : Int) / 4 < 8 := by omega
                  have q1 : (0 : Int) ≤ (k : Int) / 4 := by omega
                  have q4 : ((k : Int) / 4).toNat = k / 4 := by omega
                  have q5 : (8 : Int) * ((k : Int) % 4) ≤ 24 := by omega
                  have q6 : (0 : Int) ≤ (k : Int) % 4 := by omega
                  have I1 := Lib.hid (show ((24 - 8 * (k % 4) : Nat) : Int) = 24 - 8 * ((k : Int) % 4) by omega)
                  go_wp2_with (refine wpList_shr64 rfl 35 3 _ _ rfl x.toUInt64 rfl _ _ rfl (24 - 8 * (k % 4)) I1.out.symm (by omega) ?_)
                  refine ⟨⟨k + 1, by omega, by go_num, ?_, Hb8.out.setCell (Nat.le_refl _) _⟩, by simp [intOf]; omega⟩
                  rw [← Hset.out, ← row8_set, ← hsb.out]
                  exact heap_setCell_same _ _ _ _ _ _ H8.out
                · obtain rfl : k = 32 := by omega
                  rw [laidTo_all _ HDl.out] at h8
                  have hz : wr.heap[w.heap.size]? = some (.cells (row8 zero32) 31 (0, 0)) := (hb8.block _ (by omega)).trans Hz0.out
                  have Hz1 := Lib.hid hz
                  have H8 := Lib.hid h8
                  have Hb8 := Lib.hid hb8
                  clear h8 hb8 h7 hz
                  go_wp2_with (first
                    | (refine wpList_load_row rfl 31 _ rfl _ rfl 31 _ _ _ H8.out Try.underlying31 rfl (info31 _ HDl.out) ?_)
                    | (refine wpList_store_row rfl 31 _ _ rfl _ _ rfl rfl 31 _ Hz1.out (info31 _ HDl.out) (by rw [row8_size, row8_size, HDl.out]; rfl) (row8_one _) ?_))
                  refine bodyPost_ret (results_cell_row rfl _ _ _ 31 _ _ _ rfl (setRow_heap _ _ _ _ _ _ Hz1.out) Try.underlying31 rfl (info31 _ HDl.out)) rfl ⟨by rw [HD.out], below_row (below_seq Hbw.out Hb8.out) (Nat.le_refl _) _⟩
end Go.Proofs.Ytafakjdolnigaaa
