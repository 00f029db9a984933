/- The walks of mac.padded. The walk of mac.Raw. -/
import Derived.Test.YtafakjdolnigaaaOctPut
import Derived.Test.YtafakjdolnigaaaShaCopies
import Derived.Test.YtafakjdolnigaaaChain
namespace Go.Proofs.Ytafakjdolnigaaa
open Go.RowKit
set_option linter.unusedVariables false

theorem bytes_of_row {w : World} {g n : Nat} {l : List UInt8} {t : TypeId} {fr : Nat × Nat} (h : w.heap[g]? = some (.cells (row8 l) t fr)) (hn : l.length = n) (hm : n ≤ maxLen) : BytesAt w (some ⟨g, 0, none⟩) n n l :=
  ⟨hn, Nat.le_refl _, hm, fun _ => ⟨g, 0, rfl, fun i hi => by rw [Nat.zero_add]; exact cell_row h (row8_at l i (by omega))⟩, fun h => by cases h⟩

theorem pad_row (l : List UInt8) (n c : Nat) (hc : l.length = c) : ((row8 (List.replicate n 0)).toList.take 0 ++ (l.take c).map W8 ++ (row8 (List.replicate n 0)).toList.drop (0 + c)).toArray = row8 (l ++ List.replicate (n - l.length) 0) := by
  subst hc
  rw [Nat.zero_add, List.take_of_length_le (Nat.le_refl _)]
  simp [row8, List.map_append]

/-- The first k bytes turned by a mask. -/
def xorTo (K : List UInt8) (m : UInt8) (k : Nat) : List UInt8 := (K.take k).map (· ^^^ m) ++ K.drop k
theorem xorTo_length (K : List UInt8) (m : UInt8) (k : Nat) : (xorTo K m k).length = K.length := by simp [xorTo]; omega
theorem xorTo_none (K : List UInt8) (m : UInt8) : xorTo K m 0 = K := by simp [xorTo]
theorem xorTo_all (K : List UInt8) (m : UInt8) : xorTo K m K.length = K.map (· ^^^ m) := by simp [xorTo]
theorem xorTo_at (K : List UInt8) (m : UInt8) (k : Nat) (h : k < K.length) : (xorTo K m k)[k]?.getD 0 = K[k]?.getD 0 := by
  unfold xorTo
  rw [List.getElem?_append_right (by simp; omega)]
  simp [Nat.min_eq_left (Nat.le_of_lt h)]
theorem xorTo_set (K : List UInt8) (m : UInt8) (k : Nat) (h : k < K.length) : (xorTo K m k).set k (K[k]?.getD 0 ^^^ m) = xorTo K m (k + 1) := by
  unfold xorTo
  rw [List.set_append_right _ _ (by simp; omega)]
  have e : k - ((K.take k).map (· ^^^ m)).length = 0 := by simp; omega
  rw [e, List.drop_eq_getElem_cons h, List.set_cons_zero, List.take_succ_eq_append_getElem h, List.map_append, List.getElem?_eq_getElem h]
  simp

set_option maxRecDepth 100000 in
set_option maxHeartbeats 2000000 in
theorem padded_short {w : World} {r : Option Addr} {len cap : Nat} {key : List UInt8} (h : BytesAt w r len cap key) (mv : Value) (m : UInt8) (hm : mv = W8 m) (hsz : len ≤ 64) :
    Calls Try.prog 94 #[.slice r len cap, mv] w fun e w' => ∃ g, e = .returned (.slice (some ⟨g, 0, none⟩) 64 64) ∧ BytesAt w' (some ⟨g, 0, none⟩) 64 64 (padK key m) ∧ w.heap.size ≤ g ∧ Below w.heap.size w w' := by
  subst hm
  have Hk := Lib.hid h
  obtain ⟨K0, hK0⟩ : ∃ K0, K0 = key := ⟨_, rfl⟩
  have hK : padK key m = (K0 ++ List.replicate (64 - K0.length) 0).map (· ^^^ m) := by
    have : keyOf key = key := by unfold keyOf; rw [if_neg]; have := h.hlen; omega
    unfold padK; rw [this, hK0]
  have hB : BytesAt w r len cap K0 := by rw [hK0]; exact h
  have HK := Lib.hid hK
  have HB := Lib.hid hB
  obtain ⟨w2, hw2⟩ : ∃ w2, w2 = w := ⟨_, rfl⟩
  have hb2 : Below w.heap.size w w2 := by rw [hw2]; exact Below.refl _ _
  have HB2 : Hid (BytesAt w2 r len cap K0) := by rw [hw2]; exact HB
  have Hb2 := Lib.hid hb2
  clear h hK hK0 hB hb2
  go_enter Try.func94, Try.ntmps94
  go_upto_region 4 with fail
  rw [← hw2]
  clear hw2 HB
  obtain ⟨Z, hZ⟩ : ∃ Z : List UInt8, Z = List.replicate 64 0 := ⟨_, rfl⟩
  have hZl : Z.length = 64 := by rw [hZ, List.length_replicate]
  have HZ := Lib.hid hZ
  have HZl := Lib.hid hZl
  clear hZ hZl
  go_wp2_with (first
    | (refine wpList_make_bytes rfl _ _ rfl 64 (by go_num) (by go_num) (by omega) ?_; rw [← HZ.out])
    | (refine wpList_copy_bytes rfl _ _ 29 29 rfl 5 Try.underlying29 info5 w2.heap.size 0 64 64 r len cap len K0 rfl rfl (HB2.out.below (below_one _ _)) (by omega) _ 5 (heap_alloc_new _ _) (by rw [row8_size, HZl.out]; omega) ?_; intro w3 hw3; have Hw3 := Lib.hid hw3; clear hw3))
  have hw3 := Hw3.out
  clear Hw3
  have hKl : K0.length = len := HB2.out.hlen
  have hrow : w3.heap[w2.heap.size]? = some (.cells (row8 (xorTo (K0 ++ List.replicate (64 - K0.length) 0) m 0)) 5 (0, 0)) := by
    subst hw3
    rw [setRow_heap _ _ _ _ _ _ (heap_alloc_new _ _), xorTo_none, HZ.out, pad_row K0 64 _ hKl]
  have hb3 : Below w.heap.size w w3 := by
    subst hw3
    exact below_row (below_seq Hb2.out (below_one _ _)) Hb2.out.size _
  clear hw3
  have hge := Hb2.out.size
  have hpk : (K0 ++ List.replicate (64 - K0.length) 0).map (· ^^^ m) = padK key m := by rw [HK.out]
  have hPl : (K0 ++ List.replicate (64 - K0.length) (0 : UInt8)).length = 64 := by simp; omega
  generalize K0 ++ List.replicate (64 - K0.length) 0 = KK at *
  generalize w2.heap.size = g at *
  have Hpk := Lib.hid hpk
  have HPl := Lib.hid hPl
  have Hrow := Lib.hid hrow
  have Hb3 := Lib.hid hb3
  clear hpk hPl hrow hb3 hKl
  go_loopw [21] (fun v wr => ∃ k : Nat, k ≤ 64 ∧ v = .int .i64 (k : Int) ∧ wr.heap[g]? = some (.cells (row8 (xorTo KK m k)) 5 (0, 0)) ∧ Below w.heap.size w wr) (fun v _ => 64 - (intOf v).toNat)
  case atStart => exact ⟨0, by omega, rfl, Hrow.out, Hb3.out⟩
  case round =>
    clear Hrow Hb3
    obtain ⟨k, hk, rfl, hrow, hb⟩ := hrel
    have Hb := Lib.hid hb
    have Hrow := Lib.hid hrow
    clear hb
    by_cases hlt : k < 64
    · have cx := cell_row hrow (row8_at _ k (by rw [xorTo_length, HPl.out]; exact hlt))
      rw [xorTo_at KK m k (by rw [HPl.out]; exact hlt)] at cx
      have fx := frozen_of_row wr g k _ _ hrow
      have Hset := Lib.hid (xorTo_set KK m k (by rw [HPl.out]; exact hlt))
      clear hrow
      generalize KK[k]?.getD 0 = x at *
      go_wp2
      refine ⟨⟨k + 1, by omega, by go_num, ?_, Hb.out.setCell hge _⟩, by simp [intOf]; omega⟩
      rw [← Hset.out, ← row8_set]
      exact heap_setCell_same _ _ _ _ _ _ Hrow.out
    · obtain rfl : k = 64 := by omega
      clear hrow
      go_wp2
      go_ret
      have hr := Hrow.out
      rw [← HPl.out, xorTo_all, Hpk.out] at hr
      exact ⟨g, rfl, bytes_of_row hr (padK_length _ _) (by unfold maxLen; omega), hge, Hb.out⟩

set_option maxRecDepth 100000 in
set_option maxHeartbeats 2000000 in
theorem padded_long {w : World} {r : Option Addr} {len cap : Nat} {key : List UInt8} (h : BytesAt w r len cap key) (mv : Value) (m : UInt8) (hm : mv = W8 m) (hlong : 64 < len) (hsz : len ≤ 1048576) :
    Calls Try.prog 94 #[.slice r len cap, mv] w fun e w' => ∃ g, e = .returned (.slice (some ⟨g, 0, none⟩) 64 64) ∧ BytesAt w' (some ⟨g, 0, none⟩) 64 64 (padK key m) ∧ w.heap.size ≤ g ∧ Below w.heap.size w w' := by
  subst hm
  have Hk := Lib.hid h
  obtain ⟨K0, hK0⟩ : ∃ K0, K0 = digest key := ⟨_, rfl⟩
  have hK : padK key m = (K0 ++ List.replicate (64 - K0.length) 0).map (· ^^^ m) := by
    have : keyOf key = digest key := by unfold keyOf; rw [if_pos]; have := h.hlen; omega
    unfold padK; rw [this, hK0]
  have hkl := Lib.hid h.hlen
  have hKl : K0.length = 32 := by rw [hK0]; exact digest_length _
  have HK := Lib.hid hK
  have HKl := Lib.hid hKl
  have HK0 := Lib.hid hK0
  clear h hK hK0 hKl
  go_enter Try.func94, Try.ntmps94
  go_upto_region 4 with (first
    | (go_at_call 31; with_reducible refine (of_one Hk.out (by have := hkl.out; omega) _ rfl).mono ?_; rintro e w1 ⟨rfl, h1⟩; rw [← HK0.out])
    | (refine wpList_allocRow 31 _ alloc31 rfl rfl ?_)
    | (refine wpList_store_row rfl 31 _ _ rfl _ _ rfl rfl 31 _ (heap_alloc_new _ _) (info31 _ HKl.out) (by rw [row8_size, row8_size, HKl.out]; rfl) (row8_one _) ?_))
  have r0 : ((w1.alloc (.cells (row8 zero32) 31)).setRow w1.heap.size (row8 K0)).heap[w1.heap.size]? = some (.cells (row8 K0) 31 (0, 0)) := setRow_heap _ _ _ _ _ _ (heap_alloc_new _ _)
  have r1 : Below w.heap.size w ((w1.alloc (.cells (row8 zero32) 31)).setRow w1.heap.size (row8 K0)) := below_row (below_seq h1 (below_one _ _)) h1.size _
  refine abstract_world (fun W => W.heap[w1.heap.size]? = some (.cells (row8 K0) 31 (0, 0)) ∧ Below w.heap.size w W) ⟨r0, r1⟩ ?_
  clear r0 r1
  generalize w1.heap.size = gs at *
  clear h1
  rintro w2 ⟨r0, hb2⟩
  have HB2 := Lib.hid (bytes_of_row r0 HKl.out (by unfold maxLen; omega))
  have Hb2 := Lib.hid hb2
  clear r0 hb2
  obtain ⟨Z, hZ⟩ : ∃ Z : List UInt8, Z = List.replicate 64 0 := ⟨_, rfl⟩
  have hZl : Z.length = 64 := by rw [hZ, List.length_replicate]
  have HZ := Lib.hid hZ
  have HZl := Lib.hid hZl
  clear hZ hZl
  go_wp2_with (first
    | (refine wpList_make_bytes rfl _ _ rfl 64 (by go_num) (by go_num) (by omega) ?_; rw [← HZ.out])
    | (refine wpList_copy_bytes rfl _ _ 29 29 rfl 5 Try.underlying29 info5 w2.heap.size 0 64 64 (some ⟨gs, 0, none⟩) 32 32 32 K0 rfl rfl (HB2.out.below (below_one _ _)) (by omega) _ 5 (heap_alloc_new _ _) (by rw [row8_size, HZl.out]; omega) ?_; intro w3 hw3; have Hw3 := Lib.hid hw3; clear hw3))
  have hw3 := Hw3.out
  clear Hw3
  have hKl : K0.length = 32 := HB2.out.hlen
  have hrow : w3.heap[w2.heap.size]? = some (.cells (row8 (xorTo (K0 ++ List.replicate (64 - K0.length) 0) m 0)) 5 (0, 0)) := by
    subst hw3
    rw [setRow_heap _ _ _ _ _ _ (heap_alloc_new _ _), xorTo_none, HZ.out, pad_row K0 64 _ hKl]
  have hb3 : Below w.heap.size w w3 := by
    subst hw3
    exact below_row (below_seq Hb2.out (below_one _ _)) Hb2.out.size _
  clear hw3
  have hge := Hb2.out.size
  have hpk : (K0 ++ List.replicate (64 - K0.length) 0).map (· ^^^ m) = padK key m := by rw [HK.out]
  have hPl : (K0 ++ List.replicate (64 - K0.length) (0 : UInt8)).length = 64 := by simp; omega
  generalize K0 ++ List.replicate (64 - K0.length) 0 = KK at *
  generalize w2.heap.size = g at *
  have Hpk := Lib.hid hpk
  have HPl := Lib.hid hPl
  have Hrow := Lib.hid hrow
  have Hb3 := Lib.hid hb3
  clear hpk hPl hrow hb3 hKl
  go_loopw [21] (fun v wr => ∃ k : Nat, k ≤ 64 ∧ v = .int .i64 (k : Int) ∧ wr.heap[g]? = some (.cells (row8 (xorTo KK m k)) 5 (0, 0)) ∧ Below w.heap.size w wr) (fun v _ => 64 - (intOf v).toNat)
  case atStart => exact ⟨0, by omega, rfl, Hrow.out, Hb3.out⟩
  case round =>
    clear Hrow Hb3
    obtain ⟨k, hk, rfl, hrow, hb⟩ := hrel
    have Hb := Lib.hid hb
    have Hrow := Lib.hid hrow
    clear hb
    by_cases hlt : k < 64
    · have cx := cell_row hrow (row8_at _ k (by rw [xorTo_length, HPl.out]; exact hlt))
      rw [xorTo_at KK m k (by rw [HPl.out]; exact hlt)] at cx
      have fx := frozen_of_row wr g k _ _ hrow
      have Hset := Lib.hid (xorTo_set KK m k (by rw [HPl.out]; exact hlt))
      clear hrow
      generalize KK[k]?.getD 0 = x at *
      go_wp2
      refine ⟨⟨k + 1, by omega, by go_num, ?_, Hb.out.setCell hge _⟩, by simp [intOf]; omega⟩
      rw [← Hset.out, ← row8_set]
      exact heap_setCell_same _ _ _ _ _ _ Hrow.out
    · obtain rfl : k = 64 := by omega
      clear hrow
      go_wp2
      go_ret
      have hr := Hrow.out
      rw [← HPl.out, xorTo_all, Hpk.out] at hr
      exact ⟨g, rfl, bytes_of_row hr (padK_length _ _) (by unfold maxLen; omega), hge, Hb.out⟩

theorem padded_any {w : World} {r : Option Addr} {len cap : Nat} {key : List UInt8} (h : BytesAt w r len cap key) (mv : Value) (m : UInt8) (hm : mv = W8 m) (hsz : len ≤ 1048576) :
    Calls Try.prog 94 #[.slice r len cap, mv] w fun e w' => ∃ g, e = .returned (.slice (some ⟨g, 0, none⟩) 64 64) ∧ BytesAt w' (some ⟨g, 0, none⟩) 64 64 (padK key m) ∧ w.heap.size ≤ g ∧ Below w.heap.size w w' := by
  by_cases hl : 64 < len
  · exact padded_long h mv m hm hl hsz
  · exact padded_short h mv m hm (by omega)
end Go.Proofs.Ytafakjdolnigaaa

namespace Go.Proofs.Ytafakjdolnigaaa
open Go.RowKit
set_option linter.unusedVariables false

theorem m54 : Value.int .u8 54 = W8 54 := rfl
theorem m92 : Value.int .u8 92 = W8 92 := rfl

set_option maxRecDepth 100000 in
set_option maxHeartbeats 2000000 in
theorem raw_any {w : World} {r r2 : Option Addr} {len cap len2 cap2 : Nat} {key b : List UInt8} (h : BytesAt w r len cap key) (h2 : BytesAt w r2 len2 cap2 b) (hsz : len ≤ 1048576) (hsz2 : len2 ≤ 1099520016384) :
    Calls Try.prog 53 #[.slice r len cap, .slice r2 len2 cap2] w fun e w' => e = .returned (.agg (row8 (hmac key b))) ∧ Below w.heap.size w w' := by
  have hl2 := Lib.hid h2.hlen
  have H := Lib.hid h
  have H2 := Lib.hid h2
  obtain ⟨D1, hD1⟩ : ∃ D1, D1 = digest (padK key 54 ++ b) := ⟨_, rfl⟩
  have hD1l : D1.length = 32 := by rw [hD1]; exact digest_length _
  obtain ⟨D2, hDD⟩ : ∃ D2, D2 = hmac key b := ⟨_, rfl⟩
  have hD2 : D2 = digest (padK key 92 ++ D1) := by rw [hDD, hD1]; rfl
  have hD2l : D2.length = 32 := by rw [hDD]; exact hmac_length _ _
  rw [← hDD]
  have HD2l := Lib.hid hD2l
  have HD1 := Lib.hid hD1
  have HD1l := Lib.hid hD1l
  have HD2 := Lib.hid hD2
  clear h h2 hD1 hD1l hD2 hD2l hDD
  have hz0 : ∀ o, Below w.heap.size w (w.alloc o) := fun o => below_one _ _
  have Hz0 := Lib.hid hz0
  clear hz0
  go_enter Try.func53, Try.ntmps53
  go_upto_region 2 with (first
    | (go_at_call 94; with_reducible refine (padded_any (H.out.below (Hz0.out _)) _ 54 m54 hsz).mono ?_; rintro e w1 ⟨g, rfl, hp1, hg1, hb1⟩
       have HP1 := Lib.hid hp1
       have Hb1 := Lib.hid hb1
       clear hp1 hb1)
    | (go_at_call 31; with_reducible refine (of_two HP1.out (H2.out.below ((Hz0.out _).trans (Hb1.out.mono (Hz0.out (.cells (row8 zero32) 31)).size))) (by rw [padK_length]; have := hl2.out; omega) _ rfl).mono ?_; rintro e w2 ⟨rfl, hb2⟩; rw [← HD1.out]; have Hb2 := Lib.hid hb2; clear hb2)
    | (refine wpList_store_row rfl 31 _ _ rfl _ _ rfl rfl 31 _ (heap_alloc_new _ _) (info31 _ HD1l.out) (by rw [row8_size, row8_size, HD1l.out]; rfl) (row8_one _) ?_)
    | (refine wpList_allocRow 31 _ alloc31 rfl rfl ?_))
  have hw1 : Below w.heap.size w w1 := below_seq (Hz0.out _) Hb1.out
  have hw2 : Below w.heap.size w w2 := below_seq hw1 Hb2.out
  have z1 : w1.heap[w.heap.size]? = some (.cells (row8 zero32) 31 (0, 0)) := (Hb1.out.block _ (by simp)).trans (heap_alloc_new w _)
  have z2 : w2.heap[w.heap.size]? = some (.cells (row8 zero32) 31 (0, 0)) := (Hb2.out.block _ (heap_lt z1)).trans z1
  have r0 : ((w2.alloc (.cells (row8 zero32) 31)).setRow w2.heap.size (row8 D1)).heap[w2.heap.size]? = some (.cells (row8 D1) 31 (0, 0)) := setRow_heap _ _ _ _ _ _ (heap_alloc_new _ _)
  have r1 : Below w.heap.size w ((w2.alloc (.cells (row8 zero32) 31)).setRow w2.heap.size (row8 D1)) := below_row (below_seq hw2 (below_one _ _)) hw2.size _
  have r2' : ((w2.alloc (.cells (row8 zero32) 31)).setRow w2.heap.size (row8 D1)).heap[w.heap.size]? = some (.cells (row8 zero32) 31 (0, 0)) := by
    rw [setRow_other _ _ _ _ (Nat.ne_of_lt (heap_lt z2))]
    exact ((below_one w2 _).block _ (heap_lt z2)).trans z2
  refine abstract_world (fun W => W.heap[w2.heap.size]? = some (.cells (row8 D1) 31 (0, 0)) ∧ Below w.heap.size w W ∧ W.heap[w.heap.size]? = some (.cells (row8 zero32) 31 (0, 0))) ⟨r0, r1, r2'⟩ ?_
  clear r0 r1 r2' hw1 z1
  generalize w2.heap.size = gs at *
  rintro w3 ⟨r0, r1, r2'⟩
  have HD := Lib.hid (bytes_of_row r0 HD1l.out (by unfold maxLen; omega))
  have H3 := Lib.hid r1
  have Hz := Lib.hid r2'
  clear r0 r1 r2' hw2 z2 HP1 Hb1 Hb2 hg1
  refine region_c (by kernel_rfl) (fun Kr hKr => ?_)
  refine c_quiet 0 11 (.slice r len cap) (by kernel_rfl) (by kernel_rfl) (by kernel_rfl) (by kernel_rfl) (fun _ => by kernel_rfl) ?_
  refine c_quiet 2 13 (.slice (some ⟨gs, 0, none⟩) 32 32) (by kernel_rfl) (by kernel_rfl) (by kernel_rfl) (by kernel_rfl) (fun _ => by kernel_rfl) ?_
  refine m_chain [1, 3, 4, 5] (by kernel_rfl) (by kernel_rfl) (fun Qn => ?_)
  simp only [pickOps, Option.toList_some, List.cons_append, List.nil_append, List.getElem?_toArray, List.getElem?_cons_succ, List.getElem?_cons_zero, Act.put, List.setIfInBounds_toArray, List.set_cons_succ, List.set_cons_zero]
  have hb3 : Below w.heap.size w w3.drew := H3.out.drew
  have Hb3 := Lib.hid hb3
  have HDd := Lib.hid HD.out.drew
  clear hb3
  go_wp2_with (first
    | (go_at_call 94; with_reducible refine (padded_any (H.out.below Hb3.out) _ 92 m92 hsz).mono ?_; rintro e w4 ⟨g4, rfl, hp4, hg4, hb4⟩
       have HP4 := Lib.hid hp4
       have Hb4 := Lib.hid hb4
       clear hp4 hb4)
    | (go_at_call 31; with_reducible refine (of_two HP4.out (HDd.out.below Hb4.out) (by rw [padK_length, HD1l.out]; omega) _ rfl).mono ?_; rintro e w5 ⟨rfl, hb5⟩; rw [← HD2.out]; have Hb5 := Lib.hid hb5; clear hb5
       have Hz5 : Hid (w5.heap[w.heap.size]? = some (.cells (row8 zero32) 31 (0, 0))) := Lib.hid (((below_seq Hb4.out Hb5.out).block _ (heap_lt Hz.out)).trans Hz.out))
    | (refine wpList_store_row rfl 31 _ _ rfl _ _ rfl rfl 31 _ Hz5.out (info31 _ HD2l.out) (by rw [row8_size, row8_size, HD2l.out]; rfl) (row8_one _) ?_))
  refine bodyPost_ret (results_cell_row rfl _ _ _ 31 _ _ _ rfl (setRow_heap _ _ _ _ _ _ Hz5.out) Try.underlying31 rfl (info31 _ HD2l.out)) rfl ⟨rfl, below_row (below_seq (below_seq Hb3.out Hb4.out) Hb5.out) (Nat.le_refl _) _⟩
end Go.Proofs.Ytafakjdolnigaaa
