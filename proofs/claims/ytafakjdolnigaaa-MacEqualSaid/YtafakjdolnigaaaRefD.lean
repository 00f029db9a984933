/- The walk of cofferref2.Sum. -/
import Derived.Test.YtafakjdolnigaaaRefC
namespace Go.Proofs.Ytafakjdolnigaaa
open Go.RowKit
set_option linter.unusedVariables false

theorem shr_byte (x : UInt32) (c : Nat) (h : c < 32) : (x.toUInt64 >>> UInt64.ofNat c).toUInt8 = (x >>> UInt32.ofNat c).toUInt8 := by
  rw [← UInt8.toNat_inj, UInt64.toNat_toUInt8, UInt32.toNat_toUInt8, UInt64.toNat_shiftRight, shr_nat x c h, UInt32.toNat_toUInt64, UInt64.toNat_ofNat']
  congr 2
  omega

theorem times8 (n : Nat) (h : n ≤ 1048576) : Value.int .u64 ((n : Int) * 8) = W64 (UInt64.ofNat n <<< 3) := by
  unfold W64
  congr 1
  rw [UInt64.toNat_shiftLeft, UInt64.toNat_ofNat']
  have : (3 : UInt64).toNat % 64 = 3 := rfl
  rw [this, Nat.shiftLeft_eq]
  omega

theorem wpList_mul8 {P : Program} {ops : Array Oper} {rest : List Oper} {o : Oper} {a : Act} {w : World} {Q : Exit → Act → World → Prop} (hgd : o.guard = none) (t t' : TypeId) (x : Operand) (ho : o.op = .binOp .mul t x (.const (.int .u64 8)) t') (n : Nat) (hx : a.eval x = .int .u64 (n : Int)) (hn : n ≤ 1048576)
    (h : wpList P ops Q rest (a.put o.dst (W64 (UInt64.ofNat n <<< 3))) w) : wpList P ops Q (o :: rest) a w := by
  have e2 : UInt64.ofNat n * UInt64.ofNat 8 = UInt64.ofNat n <<< 3 := by
    rw [← UInt64.toNat_inj, UInt64.toNat_mul, UInt64.toNat_shiftLeft, UInt64.toNat_ofNat', UInt64.toNat_ofNat']
    have : (3 : UInt64).toNat % 64 = 3 := rfl
    rw [this, Nat.shiftLeft_eq]
  exact wpList_val hgd _ _ (by
    unfold execOp
    have e : a.eval (.const (.int .u64 8)) = .int .u64 ((8 : Nat) : Int) := rfl
    simp only [ho, hx, e, lit64 n (by omega), lit64 8 (by omega), mul64, e2]
    rfl) h

theorem sLenMod (n z : Nat) (hz : z ≤ zeros n) : (((n : Int) + 1 + (z : Int)) % 64 != 56) = decide (z < zeros n) := by
  unfold zeros at *
  by_cases h : z < (119 - n % 64) % 64
  · have : (n + 1 + z) % 64 ≠ 56 := by omega
    simp [h]; omega
  · have : (n + 1 + z) % 64 = 56 := by omega
    simp [h]; omega

set_option maxRecDepth 100000 in
set_option maxHeartbeats 4000000 in
theorem refSum_any {w : World} {r : Option Addr} {len cap : Nat} {bs : List UInt8} (h : BytesAt w r len cap bs) (hsz : len ≤ 1048576) :
    Calls Try.prog 39 #[.slice r len cap] w fun e w' => e = .returned (.agg (row8 (digest bs))) ∧ Below w.heap.size w w' := by
  have hlen := Lib.hid h.hlen
  go_enter Try.func39, Try.ntmps39
  go_upto_region 2 with (first
    | (refine wpList_allocRow 31 _ alloc31 rfl rfl ?_)
    | (go_at_call 81; refine (keys_any _).mono ?_; rintro e w1 ⟨rfl, hb1⟩)
    | (refine wpList_allocRow 98 _ alloc98 rfl rfl ?_)
    | (refine wpList_store_row rfl 98 _ _ rfl _ _ rfl rfl 98 _ (heap_alloc_new _ _) (info98 _ rfl) rfl (rowL_one _) ?_))
  have hlt1 : w.heap.size < w1.heap.size := by have := hb1.size; simp at this; omega
  have o0 : ((w1.alloc (.cells (rowL (List.replicate 64 0)) 98)).setRow w1.heap.size (rowL primes)).heap[w.heap.size]? = some (.cells (row8 zero32) 31 (0, 0)) := by
    rw [setRow_other _ _ _ _ (by omega), Below.heap_alloc _ _ _ hlt1, hb1.block _ (by simp)]
    exact heap_alloc_new _ _
  have o1 := setRow_heap _ _ _ (rowL primes) _ _ (heap_alloc_new w1 (.cells (rowL (List.replicate 64 0)) 98))
  have o2 : Below w.heap.size w ((w1.alloc (.cells (rowL (List.replicate 64 0)) 98)).setRow w1.heap.size (rowL primes)) := below_row (below_seq (below_seq (below_one _ _) hb1) (below_one _ _)) (by omega) _
  have o3 : w1.heap.size < ((w1.alloc (.cells (rowL (List.replicate 64 0)) 98)).setRow w1.heap.size (rowL primes)).heap.size := by simp
  refine abstract_world (fun W => W.heap[w.heap.size]? = some (.cells (row8 zero32) 31 (0, 0)) ∧ W.heap[w1.heap.size]? = some (.cells (rowL primes) 98 (0, 0)) ∧ Below w.heap.size w W ∧ w1.heap.size < W.heap.size) ⟨o0, o1, o2, o3⟩ ?_
  clear o0 o1 o2 o3 hb1
  generalize w1.heap.size = b3 at *
  rintro w2 ⟨o0, o1, o2, o3⟩
  have h2 := h.below o2
  have O0 := Lib.hid o0
  have O1 := Lib.hid o1
  have O2 := Lib.hid o2
  clear o0 o1 o2
  have own0 : OwnB (w2.alloc (.cells #[] 5)) w2.heap.size (.slice (some ⟨w2.heap.size, 0, none⟩) 0 0) [] := ⟨rfl, .inr ⟨w2.heap.size, 0, #[], rfl, Nat.le_refl _, heap_alloc_new _ _, Nat.le_refl _, by unfold maxLen; omega, rfl, rfl⟩⟩
  go_wp2_with (first
    | (refine wpList_append_bytes rfl _ _ rfl w2.heap.size _ [] bs r len cap rfl rfl own0 (h2.below (below_one _ _)) (by have := hlen.out; simp; omega) (by simp) ?_; intro v4 w3 hv3 hg3; have hb3 := own0.below (below_one w2 _) (by simp) hg3; rw [List.nil_append] at hv3; clear own0 hg3)
    | (refine wpList_append_bytes rfl _ _ rfl w2.heap.size v4 bs [128] (some ⟨w3.heap.size, 0, none⟩) 1 1 rfl rfl (hv3.keep (below_one _ _)) (bytes_row w3 [128] _ (0, 0) rfl 1 rfl (maxLen_small _ (by omega)) _ rfl) (by have := hlen.out; simp; omega) (by have := hb3.size; simp; omega) ?_; intro v5 w5 hv5 hg5; have hb5 := (hv3.keep (below_one w3 (.cells #[.int .u8 128] 5))).below (hb3.trans ((below_one w3 _).mono hb3.size)) (by have := hb3.size; simp; omega) hg5; clear hv3 hg5 hb3))
  have hgo : bs.length ≤ 1048576 := by have := hlen.out; omega
  have hB5 : OwnB w5 w2.heap.size v5 (bs ++ [128]) := hv5
  have Hv5 := Lib.hid hB5
  have Hb5 := Lib.hid hb5
  have Hn := Lib.hid hlen.out
  clear hv5 hB5 hb5 h h2
  go_loopw [4] (fun v wr => ∃ z : Nat, z ≤ zeros bs.length ∧ OwnB wr w2.heap.size v (bs ++ (128 :: List.replicate z 0)) ∧ Below w2.heap.size w2 wr) (fun v _ => bs.length + 65 - sliceLen v)
  case atStart => exact ⟨0, Nat.zero_le _, by simpa using Hv5.out, Hb5.out⟩
  case round =>
    clear Hv5 Hb5
    obtain ⟨z, hz, hv, hb⟩ := hrel
    have hzz : zeros bs.length < 64 := by unfold zeros; omega
    have hml : (bs ++ (128 :: List.replicate z (0 : UInt8))).length = bs.length + 1 + z := by simp; omega
    have hap : bs ++ (128 :: List.replicate (z + 1) (0 : UInt8)) = (bs ++ (128 :: List.replicate z 0)) ++ [0] := by simp [List.replicate_succ']
    obtain ⟨r4, c4, hv4, hr4, _⟩ := hv.at
    have hc4 : c4 ≤ 9223372036854775807 := hr4.hmax
    rw [hml] at hv4 hr4
    have hle4 := hr4.hle
    subst hv4
    have Hml := Lib.hid hml
    have Hap := Lib.hid hap
    have Hv := Lib.hid hv
    have Hb := Lib.hid hb
    have Hr4 := Lib.hid hr4
    clear hml hap hv hb hr4
    by_cases hzl : z < zeros bs.length
    · have hmod : (bs.length + 1 + z) % 64 ≠ 56 := by unfold zeros at hzl; omega
      have hne : ((((bs.length : Int) + 1 + (z : Int)) % 64) == 56) = false := by simp; omega
      have hne2 : ((((bs.length : Int) + 1 + (z : Int)).tmod 64) == 56) = false := by rw [Int.tmod_eq_emod_of_nonneg (by omega)]; exact hne
      go_wp2_with (refine wpList_append_bytes rfl _ _ rfl w2.heap.size _ (bs ++ (128 :: List.replicate z 0)) [0] (some ⟨wr.heap.size, 0, none⟩) 1 1 rfl rfl (Hv.out.keep (below_one _ _)) (bytes_row wr [0] _ (0, 0) rfl 1 rfl (maxLen_small _ (by omega)) _ rfl) (by rw [Hml.out]; simp; omega) (by have := Hb.out.size; simp; omega) ?_; intro v5 w6 hv6 hg6)
      obtain ⟨r6, c6, rfl, _, _⟩ := hv6.at
      refine ⟨⟨z + 1, by omega, by rw [Hap.out]; exact hv6, ?_⟩, ?_⟩
      · exact (Hv.out.keep (below_one _ _)).below (Hb.out.trans ((below_one wr _).mono Hb.out.size)) (by have := Hb.out.size; simp; omega) hg6
      · simp only [sliceLen]; rw [List.length_append, Hml.out]; simp; omega
    · have hzz' : z = zeros bs.length := by omega
      have hmod : (bs.length + 1 + z) % 64 = 56 := by rw [hzz']; unfold zeros; omega
      have hne : ((((bs.length : Int) + 1 + (z : Int)) % 64) == 56) = true := by simp; omega
      have hne2 : ((((bs.length : Int) + 1 + (z : Int)).tmod 64) == 56) = true := by rw [Int.tmod_eq_emod_of_nonneg (by omega)]; exact hne
      have Hz := Lib.hid hzz'
      have Hmod := Lib.hid hmod
      have hz64 : z < 64 := by omega
      clear hzz' hmod hz
      obtain ⟨m, hm⟩ : ∃ m, m = bs ++ (128 :: List.replicate z (0 : UInt8)) := ⟨_, rfl⟩
      rw [← hm] at Hml Hv Hr4
      have Hm := Lib.hid hm
      clear hm
      go_wp2_with (refine wpList_mul8 rfl 35 35 _ rfl len rfl hsz ?_)
      obtain ⟨X, hX⟩ : ∃ X, X = UInt64.ofNat len <<< 3 := ⟨_, rfl⟩
      rw [← hX]
      have HX := Lib.hid hX
      clear hX hne hne2
      go_loopw [4, 6] (fun v4 v wr => ∃ i : Nat, i ≤ 8 ∧ v = .int .i64 (i : Int) ∧ OwnB wr w2.heap.size v4 (m ++ (be64 X).take i) ∧ Below w2.heap.size w2 wr) (fun _ v _ => 8 - (intOf v).toNat)
      case atStart => exact ⟨0, by omega, rfl, by simpa using Hv.out, Hb.out⟩
      case round =>
        clear Hv Hb Hr4
        obtain ⟨i, hi8, rfl, hv, hb⟩ := hrel
        obtain ⟨r5, c5, hv5, hr5, _⟩ := hv.at
        have hli : ((be64 X).take i).length = i := by rw [List.length_take, be64_length]; omega
        have hml5 : (m ++ (be64 X).take i).length = bs.length + 1 + z + i := by rw [List.length_append, Hml.out, hli]
        rw [hml5] at hv5 hr5
        subst hv5
        have hc5 : c5 ≤ 9223372036854775807 := hr5.hmax
        have hle5 := hr5.hle
        have Hv := Lib.hid hv
        have Hb := Lib.hid hb
        have Hr5 := Lib.hid hr5
        have Hml5 := Lib.hid hml5
        clear hv hb hr5 hml5 hli
        by_cases hlt8 : i < 8
        · have hat := be64_at X i hlt8
          have hap : m ++ (be64 X).take (i + 1) = (m ++ (be64 X).take i) ++ [(X >>> UInt64.ofNat (56 - 8 * i)).toUInt8] := by
            rw [List.take_add_one, hat, List.append_assoc]; rfl
          have Hap := Lib.hid hap
          clear hap hat
          have i0 : (8 : Int) * (i : Int) ≤ 56 := by omega
          have i1 : ((56 - 8 * i : Nat) : Int) = 56 - 8 * (i : Int) := by omega
          have I1 := Lib.hid i1
          clear i1
          go_wp2_with (first
            | (refine wpList_shr64 rfl 35 3 _ _ rfl X rfl _ _ rfl (56 - 8 * i) I1.out.symm (by omega) ?_)
            | (refine wpList_append_bytes rfl _ _ rfl w2.heap.size _ (m ++ (be64 X).take i) [(X >>> UInt64.ofNat (56 - 8 * i)).toUInt8] (some ⟨wr.heap.size, 0, none⟩) 1 1 rfl rfl (Hv.out.keep (below_one _ _)) (bytes_row wr [(X >>> UInt64.ofNat (56 - 8 * i)).toUInt8] _ (0, 0) rfl 1 rfl (maxLen_small _ (by omega)) _ rfl) (by rw [Hml5.out]; simp; omega) (by have := Hb.out.size; simp; omega) ?_; intro v5 w6 hv6 hg6))
          refine ⟨⟨i + 1, by omega, by go_num, by rw [Hap.out]; exact hv6, ?_⟩, by simp [intOf]; omega⟩
          exact (Hv.out.keep (below_one _ _)).below (Hb.out.trans ((below_one wr _).mono Hb.out.size)) (by have := Hb.out.size; simp; omega) hg6
        · obtain rfl : i = 8 := by omega
          obtain ⟨P, hP⟩ : ∃ P, P = m ++ (be64 X).take 8 := ⟨_, rfl⟩
          rw [← hP] at Hv Hr5 Hml5
          have HP := Lib.hid hP
          clear hP
          go_wp2_with (first
            | (refine wpList_buildV (.agg (rowL init8.list)) 100 _ rfl rfl (by kernel_rfl) ?_)
            | (refine wpList_allocRow 100 _ alloc100 rfl rfl ?_)
            | (refine wpList_store_row rfl 100 _ _ rfl _ _ rfl rfl 100 _ (heap_alloc_new _ _) (info100 _ rfl) rfl (rowL_one _) ?_))
          have hPm : ∃ nb : Nat, P.length = 64 * nb := ⟨(bs.length + 1 + z + 8) / 64, by have := Hml5.out; have := Hmod.out; omega⟩
          obtain ⟨nb, hnb⟩ := hPm
          have hnb2 : nb ≤ 100000 := by have := Hml5.out; omega
          have hnl : bs.length + 1 + z + 8 = 64 * nb := by have := Hml5.out; omega
          rw [hnl] at Hr5 hle5 ⊢
          have Hnb := Lib.hid hnb
          have Hnl := Lib.hid hnl
          clear hnb hnl
          have r0 : ((wr.alloc (.cells (rowL [0, 0, 0, 0, 0, 0, 0, 0]) 100)).setRow wr.heap.size (rowL init8.list)).heap[wr.heap.size]? = some (.cells (rowL init8.list) 100 (0, 0)) := setRow_heap _ _ _ _ _ _ (heap_alloc_new _ _)
          have r1 : Below wr.heap.size wr ((wr.alloc (.cells (rowL [0, 0, 0, 0, 0, 0, 0, 0]) 100)).setRow wr.heap.size (rowL init8.list)) := below_row (below_one _ _) (Nat.le_refl _) _
          refine abstract_world (fun W => W.heap[wr.heap.size]? = some (.cells (rowL init8.list) 100 (0, 0)) ∧ Below wr.heap.size wr W) ⟨r0, r1⟩ ?_
          clear r0 r1
          obtain ⟨wA, hwA⟩ : ∃ wA, wA = wr := ⟨_, rfl⟩
          rw [← hwA] at Hv Hr5 Hb ⊢
          clear hwA
          rintro w7 ⟨r0, r1⟩
          have R0 := Lib.hid r0
          have R1 := Lib.hid r1
          clear r0 r1
          go_loopw [8] (fun v wr => ∃ j : Nat, j ≤ nb ∧ v = .int .i64 ((64 * j : Nat) : Int) ∧ wr.heap[wA.heap.size]? = some (.cells (rowL (blocksTo j init8 P).list) 100 (0, 0)) ∧ Below wA.heap.size wA wr) (fun v _ => 64 * nb - (intOf v).toNat)
          case atStart => exact ⟨0, by omega, rfl, R0.out, R1.out⟩
          case round =>
            clear R0 R1
            obtain ⟨j, hj, rfl, h0, hb7⟩ := hrel
            have H0 := Lib.hid h0
            have Hb7 := Lib.hid hb7
            clear h0 hb7
            by_cases hjl : j < nb
            · have hlt : (64 : Int) * (j : Int) < 64 * (nb : Int) := by omega
              go_wp2_with (refine wpList_allocRow 98 _ alloc98 rfl rfl ?_)
              obtain ⟨bP, oP, rfl, hcP⟩ := Hr5.out.hcells (by omega)
              obtain ⟨blk, hblk⟩ : ∃ blk, blk = (P.drop (64 * j)).take 64 := ⟨_, rfl⟩
              have hcB : ∀ k, k < 64 → wr.cell? ⟨bP, oP + (64 * j + k), none⟩ = some (W8 (blk[k]?.getD 0)) := fun k hk => by
                rw [Hb7.out.cell (p := ⟨bP, oP + (64 * j + k), none⟩) (block_lt_of_cell (hcP (64 * j + k) (by omega))), hcP (64 * j + k) (by omega), hblk]
                congr 2
                simp [hk]
              have HcB := Lib.hid hcB
              have Hblk := Lib.hid hblk
              have hz0 : row64 (partRow blk 0) = rowL (List.replicate 64 0) := by rw [partRow_zero]; rfl
              have r0 : (wr.alloc (.cells (row64 (partRow blk 0)) 98)).heap[wr.heap.size]? = some (.cells (row64 (partRow blk 0)) 98 (0, 0)) := heap_alloc_new _ _
              have r1 : Below wr.heap.size wr (wr.alloc (.cells (row64 (partRow blk 0)) 98)) := below_one _ _
              rw [hz0] at r1
              have r0' : (wr.alloc (.cells (rowL (List.replicate 64 0)) 98)).heap[wr.heap.size]? = some (.cells (row64 (partRow blk 0)) 98 (0, 0)) := by rw [← hz0]; exact heap_alloc_new _ _
              refine abstract_world (fun W => W.heap[wr.heap.size]? = some (.cells (row64 (partRow blk 0)) 98 (0, 0)) ∧ Below wr.heap.size wr W) ⟨r0', r1⟩ ?_
              clear r0 r0' r1 hz0 hcB hblk hcP
              obtain ⟨wo, hwo⟩ : ∃ wo, wo = wr := ⟨_, rfl⟩
              rw [← hwo] at H0 Hb7 HcB ⊢
              clear hwo
              rintro w8 ⟨r0, r1⟩
              have R0 := Lib.hid r0
              have R1 := Lib.hid r1
              clear r0 r1
              go_loopw [10] (fun v wr => ∃ k : Nat, k ≤ 64 ∧ v = .int .i64 (k : Int) ∧ wr.heap[wo.heap.size]? = some (.cells (row64 (partRow blk k)) 98 (0, 0)) ∧ Below wo.heap.size wo wr) (fun v _ => 64 - (intOf v).toNat)
              case atStart => exact ⟨0, by omega, rfl, R0.out, R1.out⟩
              case round =>
                clear R0 R1
                obtain ⟨k, hk, rfl, h8, hb8⟩ := hrel
                by_cases hkl : k < 64
                · have cx := cell_row h8 (row64_at (partRow blk k) (k / 4) (by rw [partRow_length]; omega))
                  rw [partRow_at blk k (k / 4) (by omega)] at cx
                  have fx := frozen_of_row wr wo.heap.size (k / 4) _ _ h8
                  have cy : wr.cell? ⟨bP, oP + (64 * j + k), none⟩ = some (W8 (blk[k]?.getD 0)) := by
                    rw [hb8.cell (p := ⟨bP, oP + (64 * j + k), none⟩) (block_lt_of_cell (HcB.out k hkl))]; exact HcB.out k hkl
                  have Hst := Lib.hid (partRow_step blk k hkl)
                  have H8 := Lib.hid h8
                  have Hb8 := Lib.hid hb8
                  clear h8 hb8
                  generalize partWord blk k (k / 4) = pw at *
                  generalize blk[k]?.getD 0 = y at *
                  have q0 : (k : Int) / 4 < 64 := by omega
                  have q1 : (0 : Int) ≤ (k : Int) / 4 := by omega
                  have q2 : (64 : Int) * (j : Int) + (k : Int) < 64 * (nb : Int) := by omega
                  have q3 : (0 : Int) ≤ 64 * (j : Int) + (k : Int) := by omega
                  have q4 : ((k : Int) / 4).toNat = k / 4 := by omega
                  go_wp2_with fail
                  refine region_ht (fun w' => w' = wr.drew) 16 (by kernel_rfl) (by kernel_rfl) rfl ?_
                  simp only [List.take_succ_cons, List.take_zero, List.drop_succ_cons, List.drop_zero]
                  repeat (refine wpQuiet_step (fun K hK => ?_); go_simp; (try go_bits); refine hK _ ?_; clear hK K)
                  refine wpQuiet_nil ?_
                  rintro _ rfl
                  go_wp2
                  refine ⟨⟨k + 1, by omega, by go_num, ?_, ?_⟩, by simp [intOf]; omega⟩
                  · rw [← Hst.out, ← row64_set]
                    exact heap_setCell_same _ _ _ _ _ _ H8.out
                  · first
                      | exact (Hb8.out.setCell (Nat.le_refl _) _).drew
                      | exact (Hb8.out.drew.setCell (Nat.le_refl _) _)
                · obtain rfl : k = 64 := by omega
                  rw [partRow_all] at h8
                  have hA7 : wA.heap.size < wo.heap.size := heap_lt H0.out
                  have h7 : wr.heap[wA.heap.size]? = some (.cells (rowL (blocksTo j init8 P).list) 100 (0, 0)) := (hb8.block _ hA7).trans H0.out
                  have h3 : wr.heap[b3]? = some (.cells (rowL primes) 98 (0, 0)) := by
                    have s1 := Hb.out.size
                    rw [hb8.block _ (by omega), Hb7.out.block _ (by omega), Hb.out.block _ o3]
                    exact O1.out
                  have hbw : Below wA.heap.size wA wr := Hb7.out.trans (hb8.mono (by omega))
                  have hS : blocksTo (j + 1) init8 P = (blocksTo j init8 P).add (roundsTo primes (spreadTo (fillTo blk 16) 48) (blocksTo j init8 P) 64) := by rw [blocksTo_succ, ← Hblk.out]; rfl
                  have H8 := Lib.hid h8
                  have H7 := Lib.hid h7
                  have H3 := Lib.hid h3
                  have Hbw := Lib.hid hbw
                  have HS := Lib.hid hS
                  have HA7 := Lib.hid hA7
                  have Hlf := Lib.hid (fillTo_length blk 16)
                  clear h8 h7 h3 hbw hS hb8 hA7
                  obtain ⟨F, hF⟩ : ∃ F, F = fillTo blk 16 := ⟨_, rfl⟩
                  rw [← hF] at H8 HS Hlf
                  clear hF
                  obtain ⟨S, hS⟩ : ∃ S, S = blocksTo j init8 P := ⟨_, rfl⟩
                  rw [← hS] at H7 HS
                  clear hS
                  obtain ⟨S2, hS2⟩ : ∃ S2, S2 = blocksTo (j + 1) init8 P := ⟨_, rfl⟩
                  rw [← hS2] at HS
                  have HS2 := Lib.hid hS2
                  clear hS2
                  go_wp2_with (first
                    | (refine wpList_load_row rfl 100 _ rfl _ rfl 100 _ _ _ H7.out Try.underlying100 rfl (info100 _ rfl) ?_)
                    | (refine wpList_load_row rfl 98 _ rfl wo.heap.size rfl 98 _ _ _ H8.out Try.underlying98 rfl (info98 _ Hlf.out) ?_)
                    | (refine wpList_load_row rfl 98 _ rfl b3 rfl 98 _ _ _ H3.out Try.underlying98 rfl (info98 _ rfl) ?_)
                    | (go_at_call 82; with_reducible refine (block_any _ S F Hlf.out).mono ?_; rintro e w9 ⟨he9, hb9⟩; rw [← HS.out] at he9; subst he9)
                    | (refine wpList_store_row rfl 100 _ _ rfl _ _ rfl rfl 100 _ ((hb9.block _ (heap_lt H7.out)).trans H7.out) (info100 _ rfl) rfl (rowL_one _) ?_))
                  refine ⟨⟨j + 1, by omega, by go_num, ?_, ?_⟩, by simp [intOf]; omega⟩
                  · rw [← HS2.out]
                    exact setRow_heap _ _ _ _ _ _ ((hb9.block _ (heap_lt H7.out)).trans H7.out)
                  · exact below_row (below_seq Hbw.out hb9) (Nat.le_refl _) _
            · obtain rfl : j = nb := by omega
              have hst : digest bs = outOf (blocksTo j init8 P) := by
                have e1 : P = bs ++ padding bs.length := by
                  rw [HP.out, Hm.out, HX.out, ← Hn.out, Hz.out, padding, List.take_of_length_le (Nat.le_of_eq (be64_length _)), List.append_assoc, List.cons_append]
                rw [digest, ← e1, stateOf, Hnb.out, Nat.mul_div_cancel_left _ (by omega)]
              have HD := Lib.hid hst
              clear hst
              obtain ⟨S, hS⟩ : ∃ S, S = blocksTo j init8 P := ⟨_, rfl⟩
              rw [← hS] at H0 HD
              clear hS
              have h0 : wr.heap[w.heap.size]? = some (.cells (row8 zero32) 31 (0, 0)) := by
                have s1 := Hb.out.size
                rw [Hb7.out.block _ (by omega), Hb.out.block _ (by omega)]
                exact O0.out
              have Hz0 := Lib.hid h0
              have hA7 : wA.heap.size < wr.heap.size := heap_lt H0.out
              have hAw : w.heap.size < wA.heap.size := by have := Hb.out.size; omega
              have hbw : Below w.heap.size w wr := (O2.out.trans (Hb.out.mono (by omega))).trans (Hb7.out.mono (by omega))
              have Hbw := Lib.hid hbw
              clear h0 hbw
              go_wp2_with (refine wpList_allocRow 31 _ alloc31 rfl rfl ?_)
              obtain ⟨D, hDD⟩ : ∃ D, D = outOf S := ⟨_, rfl⟩
              rw [← hDD] at HD
              have hDl : D.length = 32 := by rw [hDD]; exact of_eq_true (eq_self 32)
              have hDat : ∀ i k, i < 8 → k < 4 → D[4 * i + k]? = some ((S.list[i]?.getD 0) >>> UInt32.ofNat (24 - 8 * k)).toUInt8 := fun i k h1 h2 => by rw [hDD]; exact outOf_at S i k h1 h2
              have HDl := Lib.hid hDl
              have HDat := Lib.hid hDat
              have HDD := Lib.hid hDD
              clear hDl hDat hDD
              have r0 : (wr.alloc (.cells (row8 zero32) 31)).heap[wr.heap.size]? = some (.cells (row8 (laidTo D 0)) 31 (0, 0)) := by rw [laidTo_none]; exact heap_alloc_new _ _
              refine abstract_world (fun W => W.heap[wr.heap.size]? = some (.cells (row8 (laidTo D 0)) 31 (0, 0)) ∧ Below wr.heap.size wr W) ⟨r0, below_one _ _⟩ ?_
              clear r0
              obtain ⟨wo, hwo⟩ : ∃ wo, wo = wr := ⟨_, rfl⟩
              rw [← hwo] at H0 Hz0 hA7 Hbw ⊢
              clear hwo
              rintro w8 ⟨r0, r1⟩
              have R0 := Lib.hid r0
              have R1 := Lib.hid r1
              clear r0 r1
              go_loopw [12] (fun v wr => ∃ k : Nat, k ≤ 32 ∧ v = .int .i64 (k : Int) ∧ wr.heap[wo.heap.size]? = some (.cells (row8 (laidTo D k)) 31 (0, 0)) ∧ Below wo.heap.size wo wr) (fun v _ => 32 - (intOf v).toNat)
              case atStart => exact ⟨0, by omega, rfl, R0.out, R1.out⟩
              case round =>
                clear R0 R1
                obtain ⟨k, hk, rfl, h8, hb8⟩ := hrel
                have h7 : wr.heap[wA.heap.size]? = some (.cells (rowL S.list) 100 (0, 0)) := (hb8.block _ hA7).trans H0.out
                by_cases hkl : k < 32
                · have cx := cell_row h7 (rowL_at S.list (k / 4) (by simp [S8.list]; omega))
                  have c0 := cell_row h8 (row8_at (laidTo D k) k (by rw [laidTo_length _ _ HDl.out (by omega)]; omega))
                  have fx := frozen_of_row wr wo.heap.size k _ _ h8
                  have hset := laidTo_set D k ((S.list[k / 4]?.getD 0) >>> UInt32.ofNat (24 - 8 * (k % 4))).toUInt8 (by
                    have := HDat.out (k / 4) (k % 4) (by omega) (by omega)
                    rwa [show 4 * (k / 4) + k % 4 = k by omega] at this) hkl HDl.out
                  have Hset := Lib.hid hset
                  have H8 := Lib.hid h8
                  have Hb8 := Lib.hid hb8
                  clear h8 hb8 h7 hset
                  generalize S.list[k / 4]?.getD 0 = x at *
                  have hsb := Lib.hid (shr_byte x (24 - 8 * (k % 4)) (by omega))
                  have q0 : (k : Int) / 4 < 8 := by omega
                  have q1 : (0 : Int) ≤ (k : Int) / 4 := by omega
                  have q4 : ((k : Int) / 4).toNat = k / 4 := by omega
                  have q5 : (8 : Int) * ((k : Int) % 4) ≤ 24 := by omega
                  have q6 : (0 : Int) ≤ (k : Int) % 4 := by omega
                  have I1 := Lib.hid (show ((24 - 8 * (k % 4) : Nat) : Int) = 24 - 8 * ((k : Int) % 4) by omega)
                  go_wp2_with (refine wpList_shr64 rfl 35 3 _ _ rfl x.toUInt64 rfl _ _ rfl (24 - 8 * (k % 4)) I1.out.symm (by omega) ?_)
                  refine ⟨⟨k + 1, by omega, by go_num, ?_, Hb8.out.setCell (Nat.le_refl _) _⟩, by simp [intOf]; omega⟩
                  rw [← Hset.out, ← row8_set, ← hsb.out]
                  exact heap_setCell_same _ _ _ _ _ _ H8.out
                · obtain rfl : k = 32 := by omega
                  rw [laidTo_all _ HDl.out] at h8
                  have hz : wr.heap[w.heap.size]? = some (.cells (row8 zero32) 31 (0, 0)) := (hb8.block _ (by omega)).trans Hz0.out
                  have Hz1 := Lib.hid hz
                  have H8 := Lib.hid h8
                  have Hb8 := Lib.hid hb8
                  clear h8 hb8 h7 hz
                  go_wp2_with (first
                    | (refine wpList_load_row rfl 31 _ rfl _ rfl 31 _ _ _ H8.out Try.underlying31 rfl (info31 _ HDl.out) ?_)
                    | (refine wpList_store_row rfl 31 _ _ rfl _ _ rfl rfl 31 _ Hz1.out (info31 _ HDl.out) (by rw [row8_size, row8_size, HDl.out]; rfl) (row8_one _) ?_))
                  refine bodyPost_ret (results_cell_row rfl _ _ _ 31 _ _ _ rfl (setRow_heap _ _ _ _ _ _ Hz1.out) Try.underlying31 rfl (info31 _ HDl.out)) rfl ⟨by rw [HD.out], below_row (below_seq Hbw.out Hb8.out) (Nat.le_refl _) _⟩
end Go.Proofs.Ytafakjdolnigaaa
