/- The walk of cofferlaw10.FrameTurned. -/
import Derived.Test.YtafakjdolnigaaaFrameBack
import Derived.Test.YtafakjdolnigaaaMacEqA
import Derived.Test.YtafakjdolnigaaaShaNone
import Derived.Test.YtafakjdolnigaaaChain3
namespace Go.Proofs.Ytafakjdolnigaaa
open Go.RowKit
set_option linter.unusedVariables false

theorem set_xor_zero (L : List UInt8) (c : Nat) (hc : c < L.length) : L.set c (L[c]?.getD 0 ^^^ 0) = L := by
  rw [UInt8.xor_zero, List.getElem?_eq_getElem hc]
  exact List.set_getElem_self hc
/-- What one owns and is not empty, with its row. -/
theorem OwnB.some_of {w : World} {base : Nat} {v : Value} {bs : List UInt8} (h : OwnB w base v bs) (n : Nat) (hn : bs.length = n) (h0 : 0 < n) :
    ∃ g cap cur, v = .slice (some ⟨g, 0, none⟩) n cap ∧ base ≤ g ∧ w.heap[g]? = some (.cells cur 5 (0, 0)) ∧ n ≤ cap ∧ cap ≤ maxLen := by
  obtain ⟨hl, ⟨rfl, h1⟩ | ⟨g, cap, cur, rfl, hb, hg, hc, hm, hs, ht⟩⟩ := h
  · omega
  · subst hn
    exact ⟨g, cap, cur, rfl, hb, hg, hc, hm⟩

set_option maxRecDepth 100000 in
set_option maxHeartbeats 4000000 in
theorem frameTurned_walk8 {w : World} {key : List UInt8} (hk : key.length = 32) {r : Option Addr} {len cap : Nat} {b : List UInt8} (hb : BytesAt w r len cap b) {n : Int} (hn : (Lit.int .i64 n).wf = true) (x : UInt8) :
    Calls Try.prog 19 #[.agg (row8 key), .slice r len cap, .int .i64 n, W8 x] w fun e w' => e = .returned (.bool true) ∧ Below w.heap.size w w' := by
  by_cases ha : 4200 < len
  · clear hb
    go_enter Try.func19, Try.ntmps19
    go_wp2_with (first
      | (refine wpList_box rfl 31 _ rfl _ rfl ?_)
      | (go_at_call 62; refine (begun10 _).mono ?_; rintro e w1 ⟨rfl, h1⟩))
    go_ret
    exact ⟨rfl, below_seq (below_one _ _) h1⟩
  have hbl := hb.hlen
  subst hbl
  obtain ⟨L, hL⟩ : ∃ L, L = frameOf key b := ⟨_, rfl⟩
  obtain ⟨m, hm⟩ : ∃ m, m = 46 + b.length := ⟨_, rfl⟩
  have hbl : b.length ≤ 4200 := by omega
  have hm2 : m ≤ 4246 := by omega
  have hm0 : 46 ≤ m := by omega
  have hl : L.length = m := by rw [hL, frameOf_length _ _ hk, hm]
  have hpr := placeOf_range n ((m : Nat) : Int) (by omega)
  obtain ⟨c, hpc⟩ : ∃ c : Nat, placeOf n ((m : Nat) : Int) = (c : Int) := ⟨_, (Int.toNat_of_nonneg hpr.1).symm⟩
  have hcl : c < m := by omega
  have hpl : ∀ w, Calls Try.prog 38 #[.int .i64 n, .int .i64 ((m : Nat) : Int)] w fun e w' => e = .returned (.int .i64 (c : Int)) ∧ w = w' := fun w => by
    rw [← hpc]; exact place_any w n _ hn (by omega) (by omega)
  obtain ⟨y, hy⟩ : ∃ y, y = L[c]?.getD 0 := ⟨_, rfl⟩
  obtain ⟨M, hM⟩ : ∃ M, M = L.set c (y ^^^ x) := ⟨_, rfl⟩
  have hml : M.length = m := by rw [hM, List.length_set, hl]
  have hL0 : takeErr L = 0 := (take_frame (b := b) hk (by omega) (by rw [List.take_of_length_le (by omega), hL])).1
  have hx0 : takeErr M ≠ 0 → (x != 0) = true := fun h => by
    simp only [bne_iff_ne, ne_eq]
    rintro rfl
    rw [hM, hy, set_xor_zero _ _ (by omega)] at h
    exact h hL0
  have HL := Lib.hid hL
  have Hl := Lib.hid hl
  have HM := Lib.hid hM
  have Hml := Lib.hid hml
  have Hpl := Lib.hid hpl
  have Hk := Lib.hid hk
  have Hb := Lib.hid hb
  have Hy := Lib.hid hy
  have Hx0 := Lib.hid hx0
  have Hcl := Lib.hid hcl
  clear ha hm hL hl hM hml hpr hpc hpl hk hb hn hy hx0 hL0 hcl
  go_enter Try.func19, Try.ntmps19
  go_upto_region 5 with (first
    | (refine wpList_box rfl 31 _ rfl _ rfl ?_)
    | (go_at_call 62; refine (begun10 _).mono ?_; rintro e w1 ⟨rfl, h1⟩))
  have r0 : w1.heap[w.heap.size]? = some (.cells (row8 key) 31 (0, 0)) := (h1.block _ (by simp)).trans (heap_alloc_new _ _)
  have r1 : Below w.heap.size w w1 := below_seq (below_one _ _) h1
  have R0 := Lib.hid r0
  have R1 := Lib.hid r1
  clear h1 r0 r1
  go_upto_region 6 with (first
    | (refine wpList_load_row rfl 31 _ rfl _ rfl 31 _ _ _ R0.out Try.underlying31 rfl (info31 _ Hk.out) ?_)
    | (go_at_call 63; refine (framePut_any Hk.out (Hb.out.below R1.out) (by omega)).mono ?_; rintro e w2 ⟨v, rfl, ho, hb2⟩
       rw [← HL.out] at ho
       obtain ⟨g, cf, cur, rfl, hg, hcur, hcf, hmx⟩ := ho.some_of (m) Hl.out (by omega)
       have Ho := Lib.hid ho
       have Hb2 := Lib.hid hb2
       have Hg := Lib.hid hg
       have Hcur := Lib.hid hcur
       have Hcf := Lib.hid hcf
       clear hg ho hb2 hcur hcf hmx))
  go_upto_region 9 with (go_at_call 38; refine (Hpl.out _).mono ?_; rintro e w9 ⟨rfl, rfl⟩)
  obtain ⟨rg, cg, hrg, hB2, _⟩ := Ho.out.at_len (m) Hl.out
  have hcx : w2.cell? ⟨g, c, none⟩ = some (W8 y) := by
    simp only [Value.slice.injEq] at hrg
    obtain ⟨rfl, _, rfl⟩ := hrg
    obtain ⟨b0, o0, hr0, hc0⟩ := hB2.hcells (by omega)
    simp only [Option.some.injEq, Addr.mk.injEq] at hr0
    obtain ⟨rfl, rfl, _⟩ := hr0
    have := hc0 c Hcl.out
    rw [Nat.zero_add] at this
    rw [this, Hy.out]
  clear hrg hB2
  have hfz := frozen_of_row w2 g c _ _ Hcur.out
  have hcl := Hcl.out
  go_upto_region 10 with (fail)
  have hoM : OwnB (w2.setCell ⟨g, c, none⟩ (W8 (y ^^^ x))) w1.heap.size (.slice (some ⟨g, 0, none⟩) (m) cf) M := by rw [HM.out]; exact Ho.out.set c _
  have r1 : Below w1.heap.size w1 (w2.setCell ⟨g, c, none⟩ (W8 (y ^^^ x))) := Hb2.out.setCell Hg.out _
  clear hcx hfz
  refine abstract_world (fun W => OwnB W w1.heap.size (.slice (some ⟨g, 0, none⟩) (m) cf) M ∧ Below w1.heap.size w1 W) ⟨hoM, r1⟩ ?_
  clear hoM r1
  rintro w3 ⟨hoM, hb3⟩
  obtain ⟨rf, cf', hrf, hF, _⟩ := hoM.at_len (m) Hml.out
  simp only [Value.slice.injEq] at hrf
  obtain ⟨hrf, _, rfl⟩ := hrf
  rw [hrf]
  have HF := Lib.hid hF
  have Hb3 := Lib.hid hb3
  clear hF hb3 hoM Ho Hb2 Hcur Hg hrf
  by_cases ht : takeErr M = 0
  · obtain ⟨q1, q2, q3, q4, q5⟩ := frame_is ht
    obtain ⟨n', hn'⟩ : ∃ n', n' = (frameNum M).toNat := ⟨_, rfl⟩
    obtain ⟨key', hk'⟩ : ∃ key', key' = (M.drop 14).take 32 := ⟨_, rfl⟩
    obtain ⟨d', hd'⟩ : ∃ d', d' = (M.drop 46).take (frameNum M).toNat := ⟨_, rfl⟩
    rw [← hk'] at q3 q5
    rw [← hd'] at q4 q5
    rw [← hn'] at q1 q2 q4 q5 hd'
    rw [Hml.out] at q2
    subst q4
    obtain ⟨A, hA⟩ : ∃ A, A = frameOf key' d' := ⟨_, rfl⟩
    have hAl : A.length = 46 + d'.length := by rw [hA, frameOf_length _ _ q3]
    have HA := Lib.hid hA
    have HAl := Lib.hid hAl
    have T1 := Lib.hid ht
    have T2 := Lib.hid hn'.symm
    have T3 := Lib.hid hk'.symm
    have T4 := Lib.hid hd'.symm
    have Q3 := Lib.hid q3
    have Q5 := Lib.hid q5
    clear hA hAl ht hn' hk' hd' q3 q5
    go_upto_region 11 with (first
      | (go_at_call 67; refine (take_good HF.out (by omega) T1.out T2.out T3.out T4.out).mono ?_; rintro e w7 ⟨v7, rfl, ho7, hb7⟩
         obtain ⟨r7, c7, rfl, hB7, _⟩ := ho7.at_len d'.length rfl
         have HB7 := Lib.hid hB7
         have Hb7 := Lib.hid hb7
         clear hB7 hb7 ho7)
      | (refine wpList_allocRow 31 _ alloc31 rfl rfl ?_)
      | (refine wpList_store_row rfl 31 _ _ rfl _ _ rfl rfl 31 _ (heap_alloc_new _ _) (info31 _ Q3.out) (by rw [row8_size, row8_size, Q3.out]; rfl) (row8_one _) ?_))
    have r0 : ((w7.alloc (.cells (row8 zero32) 31)).setRow w7.heap.size (row8 key')).heap[w7.heap.size]? = some (.cells (row8 key') 31 (0, 0)) := setRow_heap _ _ _ _ _ _ (heap_alloc_new _ _)
    have r1 : Below w7.heap.size w7 ((w7.alloc (.cells (row8 zero32) 31)).setRow w7.heap.size (row8 key')) := below_row (below_one _ _) (Nat.le_refl _) _
    refine abstract_world (fun W => W.heap[w7.heap.size]? = some (.cells (row8 key') 31 (0, 0)) ∧ Below w7.heap.size w7 W) ⟨r0, r1⟩ ?_
    clear r0 r1
    generalize hg12 : w7.heap.size = g12 at *
    rintro w8 ⟨r0, r1⟩
    rw [← hg12] at r1
    have S0 := Lib.hid r0
    have HB8 := Lib.hid (HB7.out.below r1)
    have Hb8 : Hid (Below w3.heap.size w3 w8) := Lib.hid (below_seq Hb7.out r1)
    clear r0 r1 HB7 Hb7
    go_upto_region 14 with (first
      | (refine wpList_load_row rfl 31 _ rfl _ rfl 31 _ _ _ S0.out Try.underlying31 rfl (info31 _ Q3.out) ?_)
      | (go_at_call 63; refine (framePut_any Q3.out HB8.out (by omega)).mono ?_; rintro e w9 ⟨v9, rfl, ho9, hb9⟩
         rw [← HA.out] at ho9
         obtain ⟨r9, c9, rfl, hB9, _⟩ := ho9.at_len (46 + d'.length) HAl.out
         have HB9 := Lib.hid hB9
         have Hb9 := Lib.hid (below_seq Hb8.out hb9)
         clear hB9 hb9 ho9))
    have HF9 := Lib.hid (HF.out.below Hb9.out)
    have hsub := HF9.out.sub 0 (46 + d'.length) (by omega) (by omega) cf (by have := HF9.out.hle; omega) (Nat.le_refl _)
    rw [List.drop_zero, ← Q5.out, ← HA.out] at hsub
    obtain ⟨rs, hrs⟩ : ∃ rs, rs = (if cf = 0 then rf else rf.map (·.add (0 * 1))) := ⟨_, rfl⟩
    rw [← hrs, Nat.sub_zero, Nat.sub_zero] at hsub
    have Hsub := Lib.hid hsub
    have Hrs := Lib.hid hrs
    have hle9 := HF9.out.hle
    clear hsub hrs
    refine region_k (fun w' => Below w9.heap.size w9 w') (by kernel_rfl) ((Below.refl _ _).drew) (fun Kr hKr => ?_)
    have hcd : Below w9.heap.size w9 w9.drew := (Below.refl _ _).drew
    refine g_quiet hcd 0 71 (.int .i64 0) (by kernel_rfl) (by kernel_rfl) (by kernel_rfl) (by kernel_rfl) (fun _ _ => by kernel_rfl) ?_
    refine g_quiet hcd 1 72 (.bool true) (by kernel_rfl) (by kernel_rfl) (by kernel_rfl) (by kernel_rfl) (fun w2 hw2 => by go_simp) ?_
    refine g_quiet hcd 2 73 (.bool true) (by kernel_rfl) (by kernel_rfl) (by kernel_rfl) (by kernel_rfl) (fun _ _ => by kernel_rfl) ?_
    refine g_quiet hcd 3 74 (.int .i64 ((46 + d'.length : Nat) : Int)) (by kernel_rfl) (by kernel_rfl) (by kernel_rfl) (by kernel_rfl) (fun _ _ => by kernel_rfl) ?_
    refine g_quiet hcd 4 75 (.slice r9 (46 + d'.length) c9) (by kernel_rfl) (by kernel_rfl) (by kernel_rfl) (by kernel_rfl) (fun _ _ => by kernel_rfl) ?_
    refine g_quiet hcd 5 76 (.int .i64 ((46 + d'.length : Nat) : Int)) (by kernel_rfl) (by kernel_rfl) (by kernel_rfl) (by kernel_rfl) (fun w2 hw2 => by go_simp) ?_
    refine g_quiet hcd 6 77 (.bool true) (by kernel_rfl) (by kernel_rfl) (by kernel_rfl) (by kernel_rfl) (fun w2 hw2 => by go_simp) ?_
    refine g_quiet hcd 7 78 (.bool true) (by kernel_rfl) (by kernel_rfl) (by kernel_rfl) (by kernel_rfl) (fun _ _ => by kernel_rfl) ?_
    refine g_quiet hcd 8 79 (.bool true) (by kernel_rfl) (by kernel_rfl) (by kernel_rfl) (by kernel_rfl) (fun _ _ => by kernel_rfl) ?_
    refine g_quiet hcd 9 80 (.slice rf (m) cf) (by kernel_rfl) (by kernel_rfl) (by kernel_rfl) (by kernel_rfl) (fun _ _ => by kernel_rfl) ?_
    refine g_quiet hcd 10 81 (.int .i64 ((46 + d'.length : Nat) : Int)) (by kernel_rfl) (by kernel_rfl) (by kernel_rfl) (by kernel_rfl) (fun _ _ => by kernel_rfl) ?_
    refine g_quiet hcd 11 82 (.slice rs (46 + d'.length) cf) (by kernel_rfl) (by kernel_rfl) (by kernel_rfl) (by kernel_rfl) (fun w2 hw2 => slice_hy (t := 29) (x := .tmp 80) (lo := none) (hi := some (.tmp 81)) (mx := none) (by kernel_rfl) Try.underlying29 rf (m) cf (by kernel_rfl) 0 (46 + d'.length) cf bnd_none (bnd_some (y := .tmp 81) .i64 (by kernel_rfl)) bnd_none (by omega) (by omega) (Nat.le_refl _) (by simp) _ (by rw [Hrs.out]; rfl) w2) ?_
    refine g_quiet hcd 12 83 (.string ⟨A.toArray⟩) (by kernel_rfl) (by kernel_rfl) (by kernel_rfl) (by kernel_rfl) (fun w2 hw2 => by have s1 := conv_str (Hsub.out.below hw2); go_simp) ?_
    refine g_quiet hcd 13 84 (.slice r9 (46 + d'.length) c9) (by kernel_rfl) (by kernel_rfl) (by kernel_rfl) (by kernel_rfl) (fun _ _ => by kernel_rfl) ?_
    refine g_quiet hcd 14 85 (.string ⟨A.toArray⟩) (by kernel_rfl) (by kernel_rfl) (by kernel_rfl) (by kernel_rfl) (fun w2 hw2 => by have s1 := conv_str (HB9.out.below hw2); go_simp) ?_
    refine g_quiet hcd 15 86 (.bool true) (by kernel_rfl) (by kernel_rfl) (by kernel_rfl) (by kernel_rfl) (fun w2 hw2 => by go_simp) ?_
    refine g_quiet hcd 16 87 (.bool true) (by kernel_rfl) (by kernel_rfl) (by kernel_rfl) (by kernel_rfl) (fun _ _ => by kernel_rfl) ?_
    refine g_quiet hcd 17 8 (.bool true) (by kernel_rfl) (by kernel_rfl) (by kernel_rfl) (by kernel_rfl) (fun _ _ => by kernel_rfl) ?_
    refine m_end (by kernel_rfl) ?_
    simp only [Act.put, List.setIfInBounds_toArray, List.set_cons_succ, List.set_cons_zero]
    go_wp2
    go_ret
    exact ⟨rfl, below_seq (below_seq R1.out Hb3.out) (below_seq Hb9.out hcd)⟩
  · have hx := Hx0.out ht
    obtain ⟨k, hkk⟩ : ∃ k, takeErr M = k := ⟨_, rfl⟩
    rw [hkk] at ht
    have hk0 : ((k : Int) != 0) = true := by simpa using ht
    have Hkk := Lib.hid hkk
    have Ht := Lib.hid ht
    have e0 := id_eq_self zero32
    have hz32 := zero32_length
    clear hkk ht
    go_upto_region 11 with (first
      | (go_at_call 67; refine (take_bad HF.out (by omega) Hkk.out Ht.out).mono ?_; rintro e w7 ⟨rfl, hb7⟩
         have Hb7 := Lib.hid hb7
         clear hb7)
      | (refine wpList_allocRow 31 _ alloc31 rfl rfl ?_)
      | (refine wpList_store_row rfl 31 _ _ rfl _ _ rfl rfl 31 _ (heap_alloc_new _ _) (info31 _ zero32_length) rfl (row8_one _) ?_))
    have r0 : ((w7.alloc (.cells (row8 zero32) 31)).setRow w7.heap.size (row8 zero32)).heap[w7.heap.size]? = some (.cells (row8 zero32) 31 (0, 0)) := setRow_heap _ _ _ _ _ _ (heap_alloc_new _ _)
    have r1 : Below w7.heap.size w7 ((w7.alloc (.cells (row8 zero32) 31)).setRow w7.heap.size (row8 zero32)) := below_row (below_one _ _) (Nat.le_refl _) _
    refine abstract_world (fun W => W.heap[w7.heap.size]? = some (.cells (row8 zero32) 31 (0, 0)) ∧ Below w7.heap.size w7 W) ⟨r0, r1⟩ ?_
    clear r0 r1
    generalize hg12 : w7.heap.size = g12 at *
    rintro w8 ⟨r0, r1⟩
    rw [← hg12] at r1
    have S0 := Lib.hid r0
    have Hb8 : Hid (Below w3.heap.size w3 w8) := Lib.hid (below_seq Hb7.out r1)
    clear r0 r1 Hb7
    go_wp2_with (first
      | (refine wpList_load_G (by kernel_rfl) _ rfl g12 rfl zero32 zero32_length S0.out ?_)
      | (refine wpList_buildVg (.agg (row8 zero32)) 31 _ (by kernel_rfl) rfl (by kernel_rfl) ?_))
    go_ret
    exact ⟨rfl, below_seq (below_seq R1.out Hb3.out) Hb8.out⟩

theorem frameTurned_walk {w : World} {key : List UInt8} (hk : key.length = 32) {r : Option Addr} {len cap : Nat} {b : List UInt8} (hb : BytesAt w r len cap b) {n : Int} (hn : (Lit.int .i64 n).wf = true) {x : Int} (hx : (Lit.int .u8 x).wf = true) :
    Calls Try.prog 19 #[.agg (row8 key), .slice r len cap, .int .i64 n, .int .u8 x] w fun e w' => e = .returned (.bool true) ∧ Below w.heap.size w w' := by
  rw [byte_ofInt hx]
  exact frameTurned_walk8 hk hb hn _
end Go.Proofs.Ytafakjdolnigaaa
