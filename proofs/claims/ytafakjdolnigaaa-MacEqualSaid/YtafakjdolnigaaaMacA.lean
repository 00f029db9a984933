/- The walks of mac.padded. -/
import Derived.Test.YtafakjdolnigaaaOctPut
import Derived.Test.YtafakjdolnigaaaShaCopies
import Derived.Test.YtafakjdolnigaaaChain
namespace Go.Proofs.Ytafakjdolnigaaa
open Go.RowKit
set_option linter.unusedVariables false

theorem bytes_of_row {w : World} {g n : Nat} {l : List UInt8} {t : TypeId} {fr : Nat × Nat} (h : w.heap[g]? = some (.cells (row8 l) t fr)) (hn : l.length = n) (hm : n ≤ maxLen) : BytesAt w (some ⟨g, 0, none⟩) n n l :=
  ⟨hn, Nat.le_refl _, hm, fun _ => ⟨g, 0, rfl, fun i hi => by rw [Nat.zero_add]; exact cell_row h (row8_at l i (by omega))⟩, fun h => by cases h⟩

theorem pad_row (l : List UInt8) (n c : Nat) (hc : l.length = c) : ((row8 (List.replicate n 0)).toList.take 0 ++ (l.take c).map W8 ++ (row8 (List.replicate n 0)).toList.drop (0 + c)).toArray = row8 (l ++ List.replicate (n - l.length) 0) := by
  subst hc
  rw [Nat.zero_add, List.take_of_length_le (Nat.le_refl _)]
  simp [row8, List.map_append]

/-- The first k bytes turned by a mask. -/
def xorTo (K : List UInt8) (m : UInt8) (k : Nat) : List UInt8 := (K.take k).map (· ^^^ m) ++ K.drop k
theorem xorTo_length (K : List UInt8) (m : UInt8) (k : Nat) : (xorTo K m k).length = K.length := by simp [xorTo]; omega
theorem xorTo_none (K : List UInt8) (m : UInt8) : xorTo K m 0 = K := by simp [xorTo]
theorem xorTo_all (K : List UInt8) (m : UInt8) : xorTo K m K.length = K.map (· ^^^ m) := by simp [xorTo]
theorem xorTo_at (K : List UInt8) (m : UInt8) (k : Nat) (h : k < K.length) : (xorTo K m k)[k]?.getD 0 = K[k]?.getD 0 := by
  unfold xorTo
  rw [List.getElem?_append_right (by simp; omega)]
  simp [Nat.min_eq_left (Nat.le_of_lt h)]
theorem xorTo_set (K : List UInt8) (m : UInt8) (k : Nat) (h : k < K.length) : (xorTo K m k).set k (K[k]?.getD 0 ^^^ m) = xorTo K m (k + 1) := by
  unfold xorTo
  rw [List.set_append_right _ _ (by simp; omega)]
  have e : k - ((K.take k).map (· ^^^ m)).length = 0 := by simp; omega
  rw [e, List.drop_eq_getElem_cons h, List.set_cons_zero, List.take_succ_eq_append_getElem h, List.map_append, List.getElem?_eq_getElem h]
  simp

set_option maxRecDepth 100000 in
set_option maxHeartbeats 2000000 in
theorem padded_short {w : World} {r : Option Addr} {len cap : Nat} {key : List UInt8} (h : BytesAt w r len cap key) (mv : Value) (m : UInt8) (hm : mv = W8 m) (hsz : len ≤ 64) :
    Calls Try.prog 94 #[.slice r len cap, mv] w fun e w' => ∃ g, e = .returned (.slice (some ⟨g, 0, none⟩) 64 64) ∧ BytesAt w' (some ⟨g, 0, none⟩) 64 64 (padK key m) ∧ w.heap.size ≤ g ∧ Below w.heap.size w w' := by
  subst hm
  have Hk := Lib.hid h
  obtain ⟨K0, hK0⟩ : ∃ K0, K0 = key := ⟨_, rfl⟩
  have hK : padK key m = (K0 ++ List.replicate (64 - K0.length) 0).map (· ^^^ m) := by
    have : keyOf key = key := by unfold keyOf; rw [if_neg]; have := h.hlen; omega
    unfold padK; rw [this, hK0]
  have hB : BytesAt w r len cap K0 := by rw [hK0]; exact h
  have HK := Lib.hid hK
  have HB := Lib.hid hB
  obtain ⟨w2, hw2⟩ : ∃ w2, w2 = w := ⟨_, rfl⟩
  have hb2 : Below w.heap.size w w2 := by rw [hw2]; exact Below.refl _ _
  have HB2 : Hid (BytesAt w2 r len cap K0) := by rw [hw2]; exact HB
  have Hb2 := Lib.hid hb2
  clear h hK hK0 hB hb2
  go_enter Try.func94, Try.ntmps94
  go_upto_region 4 with fail
  rw [← hw2]
  clear hw2 HB
  obtain ⟨Z, hZ⟩ : ∃ Z : List UInt8, Z = List.replicate 64 0 := ⟨_, rfl⟩
  have hZl : Z.length = 64 := by rw [hZ, List.length_replicate]
  have HZ := Lib.hid hZ
  have HZl := Lib.hid hZl
  clear hZ hZl
  go_wp2_with (first
    | (refine wpList_make_bytes rfl _ _ rfl 64 (by go_num) (by go_num) (by omega) ?_; rw [← HZ.out])
    | (refine wpList_copy_bytes rfl _ _ 29 29 rfl 5 Try.underlying29 info5 w2.heap.size 0 64 64 r len cap len K0 rfl rfl (HB2.out.below (below_one _ _)) (by omega) _ 5 (heap_alloc_new _ _) (by rw [row8_size, HZl.out]; omega) ?_; intro w3 hw3; have Hw3 := Lib.hid hw3; clear hw3))
  have hw3 := Hw3.out
  clear Hw3
  have hKl : K0.length = len := HB2.out.hlen
  have hrow : w3.heap[w2.heap.size]? = some (.cells (row8 (xorTo (K0 ++ List.replicate (64 - K0.length) 0) m 0)) 5 (0, 0)) := by
    subst hw3
    rw [setRow_heap _ _ _ _ _ _ (heap_alloc_new _ _), xorTo_none, HZ.out, pad_row K0 64 _ hKl]
  have hb3 : Below w.heap.size w w3 := by
    subst hw3
    exact below_row (below_seq Hb2.out (below_one _ _)) Hb2.out.size _
  clear hw3
  have hge := Hb2.out.size
  have hpk : (K0 ++ List.replicate (64 - K0.length) 0).map (· ^^^ m) = padK key m := by rw [HK.out]
  have hPl : (K0 ++ List.replicate (64 - K0.length) (0 : UInt8)).length = 64 := by simp; omega
  generalize K0 ++ List.replicate (64 - K0.length) 0 = KK at *
  generalize w2.heap.size = g at *
  have Hpk := Lib.hid hpk
  have HPl := Lib.hid hPl
  have Hrow := Lib.hid hrow
  have Hb3 := Lib.hid hb3
  clear hpk hPl hrow hb3 hKl
  go_loopw [21] (fun v wr => ∃ k : Nat, k ≤ 64 ∧ v = .int .i64 (k : Int) ∧ wr.heap[g]? = some (.cells (row8 (xorTo KK m k)) 5 (0, 0)) ∧ Below w.heap.size w wr) (fun v _ => 64 - (intOf v).toNat)
  case atStart => exact ⟨0, by omega, rfl, Hrow.out, Hb3.out⟩
  case round =>
    clear Hrow Hb3
    obtain ⟨k, hk, rfl, hrow, hb⟩ := hrel
    have Hb := Lib.hid hb
    have Hrow := Lib.hid hrow
    clear hb
    by_cases hlt : k < 64
    · have cx := cell_row hrow (row8_at _ k (by rw [xorTo_length, HPl.out]; exact hlt))
      rw [xorTo_at KK m k (by rw [HPl.out]; exact hlt)] at cx
      have fx := frozen_of_row wr g k _ _ hrow
      have Hset := Lib.hid (xorTo_set KK m k (by rw [HPl.out]; exact hlt))
      clear hrow
      generalize KK[k]?.getD 0 = x at *
      go_wp2
      refine ⟨⟨k + 1, by omega, by go_num, ?_, Hb.out.setCell hge _⟩, by simp [intOf]; omega⟩
      rw [← Hset.out, ← row8_set]
      exact heap_setCell_same _ _ _ _ _ _ Hrow.out
    · obtain rfl : k = 64 := by omega
      clear hrow
      go_wp2
      go_ret
      have hr := Hrow.out
      rw [← HPl.out, xorTo_all, Hpk.out] at hr
      exact ⟨g, rfl, bytes_of_row hr (padK_length _ _) (by unfold maxLen; omega), hge, Hb.out⟩

set_option maxRecDepth 100000 in
set_option maxHeartbeats 2000000 in
theorem padded_long {w : World} {r : Option Addr} {len cap : Nat} {key : List UInt8} (h : BytesAt w r len cap key) (mv : Value) (m : UInt8) (hm : mv = W8 m) (hlong : 64 < len) (hsz : len ≤ 1048576) :
    Calls Try.prog 94 #[.slice r len cap, mv] w fun e w' => ∃ g, e = .returned (.slice (some ⟨g, 0, none⟩) 64 64) ∧ BytesAt w' (some ⟨g, 0, none⟩) 64 64 (padK key m) ∧ w.heap.size ≤ g ∧ Below w.heap.size w w' := by
  subst hm
  have Hk := Lib.hid h
  obtain ⟨K0, hK0⟩ : ∃ K0, K0 = digest key := ⟨_, rfl⟩
  have hK : padK key m = (K0 ++ List.replicate (64 - K0.length) 0).map (· ^^^ m) := by
    have : keyOf key = digest key := by unfold keyOf; rw [if_pos]; have := h.hlen; omega
    unfold padK; rw [this, hK0]
  have hkl := Lib.hid h.hlen
  have hKl : K0.length = 32 := by rw [hK0]; exact digest_length _
  have HK := Lib.hid hK
  have HKl := Lib.hid hKl
  have HK0 := Lib.hid hK0
  clear h hK hK0 hKl
  go_enter Try.func94, Try.ntmps94
  go_upto_region 4 with (first
    | (go_at_call 31; with_reducible refine (of_one Hk.out (by have := hkl.out; omega) _ rfl).mono ?_; rintro e w1 ⟨rfl, h1⟩; rw [← HK0.out])
    | (refine wpList_allocRow 31 _ alloc31 rfl rfl ?_)
    | (refine wpList_store_row rfl 31 _ _ rfl _ _ rfl rfl 31 _ (heap_alloc_new _ _) (info31 _ HKl.out) (by rw [row8_size, row8_size, HKl.out]; rfl) (row8_one _) ?_))
  have r0 : ((w1.alloc (.cells (row8 zero32) 31)).setRow w1.heap.size (row8 K0)).heap[w1.heap.size]? = some (.cells (row8 K0) 31 (0, 0)) := setRow_heap _ _ _ _ _ _ (heap_alloc_new _ _)
  have r1 : Below w.heap.size w ((w1.alloc (.cells (row8 zero32) 31)).setRow w1.heap.size (row8 K0)) := below_row (below_seq h1 (below_one _ _)) h1.size _
  refine abstract_world (fun W => W.heap[w1.heap.size]? = some (.cells (row8 K0) 31 (0, 0)) ∧ Below w.heap.size w W) ⟨r0, r1⟩ ?_
  clear r0 r1
  generalize w1.heap.size = gs at *
  clear h1
  rintro w2 ⟨r0, hb2⟩
  have HB2 := Lib.hid (bytes_of_row r0 HKl.out (by unfold maxLen; omega))
  have Hb2 := Lib.hid hb2
  clear r0 hb2
  obtain ⟨Z, hZ⟩ : ∃ Z : List UInt8, Z = List.replicate 64 0 := ⟨_, rfl⟩
  have hZl : Z.length = 64 := by rw [hZ, List.length_replicate]
  have HZ := Lib.hid hZ
  have HZl := Lib.hid hZl
  clear hZ hZl
  go_wp2_with (first
    | (refine wpList_make_bytes rfl _ _ rfl 64 (by go_num) (by go_num) (by omega) ?_; rw [← HZ.out])
    | (refine wpList_copy_bytes rfl _ _ 29 29 rfl 5 Try.underlying29 info5 w2.heap.size 0 64 64 (some ⟨gs, 0, none⟩) 32 32 32 K0 rfl rfl (HB2.out.below (below_one _ _)) (by omega) _ 5 (heap_alloc_new _ _) (by rw [row8_size, HZl.out]; omega) ?_; intro w3 hw3; have Hw3 := Lib.hid hw3; clear hw3))
  have hw3 := Hw3.out
  clear Hw3
  have hKl : K0.length = 32 := HB2.out.hlen
  have hrow : w3.heap[w2.heap.size]? = some (.cells (row8 (xorTo (K0 ++ List.replicate (64 - K0.length) 0) m 0)) 5 (0, 0)) := by
    subst hw3
    rw [setRow_heap _ _ _ _ _ _ (heap_alloc_new _ _), xorTo_none, HZ.out, pad_row K0 64 _ hKl]
  have hb3 : Below w.heap.size w w3 := by
    subst hw3
    exact below_row (below_seq Hb2.out (below_one _ _)) Hb2.out.size _
  clear hw3
  have hge := Hb2.out.size
  have hpk : (K0 ++ List.replicate (64 - K0.length) 0).map (· ^^^ m) = padK key m := by rw [HK.out]
  have hPl : (K0 ++ List.replicate (64 - K0.length) (0 : UInt8)).length = 64 := by simp; omega
  generalize K0 ++ List.replicate (64 - K0.length) 0 = KK at *
  generalize w2.heap.size = g at *
  have Hpk := Lib.hid hpk
  have HPl := Lib.hid hPl
  have Hrow := Lib.hid hrow
  have Hb3 := Lib.hid hb3
  clear hpk hPl hrow hb3 hKl
  go_loopw [21] (fun v wr => ∃ k : Nat, k ≤ 64 ∧ v = .int .i64 (k : Int) ∧ wr.heap[g]? = some (.cells (row8 (xorTo KK m k)) 5 (0, 0)) ∧ Below w.heap.size w wr) (fun v _ => 64 - (intOf v).toNat)
  case atStart => exact ⟨0, by omega, rfl, Hrow.out, Hb3.out⟩
  case round =>
    clear Hrow Hb3
    obtain ⟨k, hk, rfl, hrow, hb⟩ := hrel
    have Hb := Lib.hid hb
    have Hrow := Lib.hid hrow
    clear hb
    by_cases hlt : k < 64
    · have cx := cell_row hrow (row8_at _ k (by rw [xorTo_length, HPl.out]; exact hlt))
      rw [xorTo_at KK m k (by rw [HPl.out]; exact hlt)] at cx
      have fx := frozen_of_row wr g k _ _ hrow
      have Hset := Lib.hid (xorTo_set KK m k (by rw [HPl.out]; exact hlt))
      clear hrow
      generalize KK[k]?.getD 0 = x at *
      go_wp2
      refine ⟨⟨k + 1, by omega, by go_num, ?_, Hb.out.setCell hge _⟩, by simp [intOf]; omega⟩
      rw [← Hset.out, ← row8_set]
      exact heap_setCell_same _ _ _ _ _ _ Hrow.out
    · obtain rfl : k = 64 := by omega
      clear hrow
      go_wp2
      go_ret
      have hr := Hrow.out
      rw [← HPl.out, xorTo_all, Hpk.out] at hr
      exact ⟨g, rfl, bytes_of_row hr (padK_length _ _) (by unfold maxLen; omega), hge, Hb.out⟩

theorem padded_any {w : World} {r : Option Addr} {len cap : Nat} {key : List UInt8} (h : BytesAt w r len cap key) (mv : Value) (m : UInt8) (hm : mv = W8 m) (hsz : len ≤ 1048576) :
    Calls Try.prog 94 #[.slice r len cap, mv] w fun e w' => ∃ g, e = .returned (.slice (some ⟨g, 0, none⟩) 64 64) ∧ BytesAt w' (some ⟨g, 0, none⟩) 64 64 (padK key m) ∧ w.heap.size ≤ g ∧ Below w.heap.size w w' := by
  by_cases hl : 64 < len
  · exact padded_long h mv m hm hl hsz
  · exact padded_short h mv m hm (by omega)
end Go.Proofs.Ytafakjdolnigaaa
