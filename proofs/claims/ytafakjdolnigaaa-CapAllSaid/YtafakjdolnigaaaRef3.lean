/- The walk of cofferref3.Raw. -/
import Derived.Test.YtafakjdolnigaaaGMacs
import Derived.Test.YtafakjdolnigaaaOwnSep
import Derived.Test.YtafakjdolnigaaaRefPut
import Derived.Test.YtafakjdolnigaaaGRef2
namespace Go.Proofs.Ytafakjdolnigaaa
open Go.RowKit
set_option linter.unusedVariables false

theorem x54 : Value.int .u8 (bits BinOp.xor IntKind.u8 0 54) = W8 54 := by kernel_rfl
theorem x92 : Value.int .u8 (bits BinOp.xor IntKind.u8 0 92) = W8 92 := by kernel_rfl

set_option maxRecDepth 100000 in
set_option maxHeartbeats 4000000 in
theorem refRaw_short {w : World} {r r2 : Option Addr} {len cap len2 cap2 : Nat} {key b : List UInt8} (h : BytesAt w r len cap key) (h2 : BytesAt w r2 len2 cap2 b) (hsz : len ≤ 64) (hsz2 : len2 ≤ 1000000) :
    Calls Try.prog 54 #[.slice r len cap, .slice r2 len2 cap2] w fun e w' => e = .returned (.agg (row8 (hmac key b))) ∧ Below w.heap.size w w' := by
  obtain ⟨K0, hK0⟩ : ∃ K0, K0 = key := ⟨_, rfl⟩
  have hkk : keyOf key = K0 := by
    rw [hK0]; unfold keyOf; rw [if_neg]; have := h.hlen; omega
  have HK := Lib.hid hkk
  have HK0 := Lib.hid hK0
  obtain ⟨D1, hD1⟩ : ∃ D1, D1 = digest (padK key 54 ++ b) := ⟨_, rfl⟩
  have hD1l : D1.length = 32 := by rw [hD1]; exact digest_length _
  obtain ⟨D2, hDD⟩ : ∃ D2, D2 = hmac key b := ⟨_, rfl⟩
  have hD2 : D2 = digest (padK key 92 ++ D1) := by rw [hDD, hD1]; rfl
  have hD2l : D2.length = 32 := by rw [hDD]; exact hmac_length _ _
  rw [← hDD]
  have HD1 := Lib.hid hD1
  have HD1l := Lib.hid hD1l
  have HD2 := Lib.hid hD2
  have HD2l := Lib.hid hD2l
  have Hkey := Lib.hid h
  have Hkl := Lib.hid h.hlen
  have h2' := Lib.hid h2
  have Hbl := Lib.hid h2.hlen
  clear hkk hK0 hD1 hD1l hD2 hD2l hDD h h2
  go_enter Try.func54, Try.ntmps54
  go_upto_region 1 with (refine wpList_allocRow 31 _ alloc31 rfl rfl ?_)
  refine abstract_world (fun W => W.heap[w.heap.size]? = some (.cells (row8 zero32) 31 (0, 0)) ∧ Below w.heap.size w W ∧ W.heap.size = w.heap.size + 1) (box31 w) ?_
  rintro w1 ⟨r0, r1, r2s⟩
  have Hz1 := Lib.hid r0
  have Hb1 := Lib.hid r1
  have Hs1 := Lib.hid r2s
  clear r0 r1 r2s
  go_upto_region 2 with (first
    | ((with_reducible refine wpList_append_bytes rfl (.tmp 12) (.tmp 13) rfl w1.heap.size (.slice (some ⟨w1.heap.size, 0, none⟩) 0 0) [] key r len cap rfl rfl (ownB_nil w1 w1.heap.size (Nat.le_refl _)) ((Hkey.out.below Hb1.out).below (below_one _ _)) (by have := Hkl.out; simp; omega) (below_one _ _).size ?_); intro v5 w5 ho5 hg5
       have hb5 : Below w1.heap.size w1 w5 := (ownB_nil w1 w1.heap.size (Nat.le_refl _)).below (below_one _ _) (below_one _ _).size hg5
       rw [List.nil_append] at ho5
       obtain ⟨r5, c5, rfl, hB5, _⟩ := ho5.at_len len Hkl.out
       have HB5 := Lib.hid hB5
       have Hb5 := Lib.hid hb5
       clear ho5 hg5 hb5 hB5))
  obtain ⟨w2, hw2⟩ : ∃ w2, w2 = w5 := ⟨_, rfl⟩
  rw [← hw2] at HB5 Hb5 ⊢
  clear hw2
  rw [← HK0.out] at HB5
  have HB2 := HB5
  have Hb2 : Hid (Below w.heap.size w w2) := Lib.hid (below_seq Hb1.out Hb5.out)
  have Hz2 : Hid (w2.heap[w.heap.size]? = some (.cells (row8 zero32) 31 (0, 0))) := Lib.hid ((Hb5.out.block _ (heap_lt Hz1.out)).trans Hz1.out)
  clear HB5 Hb5
  have hKl : K0.length = len := HB2.out.hlen
  have hpl : ∀ (m : UInt8) (k : Nat), k < 64 → (padK key m).take (k + 1) = (padK key m).take k ++ [K0[k]?.getD 0 ^^^ m] := fun m k hk => by
    rw [List.take_add_one, padK_at key m k hk, HK.out]; rfl
  have Hpl := Lib.hid hpl
  have HKl := Lib.hid hKl
  have hcm : c5 ≤ 9223372036854775807 := HB2.out.hmax
  have hlc := HB2.out.hle
  clear hpl hKl
  go_wp2
  go_loopw [7, 8, 9, 10] (fun v7 v8 v9 _ wr => ∃ (k : Nat) (P7 P8 : List UInt8), k ≤ 64 ∧ v9 = .int .i64 (k : Int) ∧ P7 = (padK key 54).take k ∧ P8 = (padK key 92).take k ∧ OwnB wr w2.heap.size v7 P7 ∧ OwnB wr w2.heap.size v8 P8 ∧ Apart v7 v8 ∧ Below w2.heap.size w2 wr) (fun _ _ v _ _ => 64 - (intOf v).toNat)
  case atStart => exact ⟨0, [], [], by omega, rfl, rfl, rfl, ownB_none _ _, ownB_none _ _, apart_none _, Below.refl _ _⟩
  case round =>
    obtain ⟨k, P7, P8, hk, rfl, hP7, hP8, ho7, ho8, hap, hbel⟩ := hrel
    have hl7 : P7.length = k := by rw [hP7, List.length_take, padK_length]; omega
    have hl8 : P8.length = k := by rw [hP8, List.length_take, padK_length]; omega
    have HP7 := Lib.hid hP7
    have HP8 := Lib.hid hP8
    have Hl7 := Lib.hid hl7
    have Hl8 := Lib.hid hl8
    have Ho7 := Lib.hid ho7
    have Ho8 := Lib.hid ho8
    have Hap := Lib.hid hap
    have Hbel := Lib.hid hbel
    clear hP7 hP8 hl7 hl8 ho7 ho8 hap hbel
    obtain ⟨r7, c7, rfl, _, _⟩ := Ho7.out.at_len k Hl7.out
    obtain ⟨r8, c8, rfl, _, _⟩ := Ho8.out.at_len k Hl8.out
    by_cases hlt : k < 64
    · have hp7 := Hpl.out 54 k hlt
      have hp8 := Hpl.out 92 k hlt
      rw [← HP7.out] at hp7
      rw [← HP8.out] at hp8
      have Hp7 := Lib.hid hp7
      have Hp8 := Lib.hid hp8
      clear hp7 hp8
      by_cases hkl : k < len
      · obtain ⟨bk, ok, hrk, hck⟩ := HB2.out.hcells (by omega)
        have cx : wr.cell? ⟨bk, ok + k, none⟩ = some (W8 (K0[k]?.getD 0)) := by
          rw [Hbel.out.cell (p := ⟨bk, ok + k, none⟩) (block_lt_of_cell (hck k hkl))]; exact hck k hkl
        clear hck
        subst hrk
        skip
        generalize K0[k]?.getD 0 = x at *
        go_wp2_with (first
          | ((with_reducible refine wpList_append_sep rfl (.tmp 33) (.tmp 36) rfl w2.heap.size (.slice r7 k c7) P7 [x ^^^ 54] _ 1 1 rfl rfl (Ho7.out.keep (below_one _ _)) (bytes_one wr _ _ rfl) (by have := Hl7.out; simp; omega) (Nat.le_trans Hbel.out.size (below_one _ _).size) ?_); intro v5 w5 ho5 hg5 hf5
             have Ho5 := Lib.hid ho5
             have Hg5 := Lib.hid hg5
             have Hf5 := Lib.hid hf5
             clear ho5 hg5 hf5)
          | ((with_reducible refine wpList_append_sep rfl (.tmp 38) (.tmp 41) rfl w2.heap.size (.slice r8 k c8) P8 [x ^^^ 92] _ 1 1 rfl rfl (((Ho8.out.keep (below_one _ _)).beside Hg5.out Hap.out).keep (below_one _ _)) (bytes_one w5 _ _ rfl) (by have := Hl8.out; simp; omega) (Nat.le_trans (Nat.le_trans Hbel.out.size (below_one _ _).size) (Nat.le_trans Hg5.out.size (below_one _ _).size)) ?_); intro v6 w6 ho6 hg6 hf6))
        have hw5 : Below w2.heap.size w2 w5 := (Ho7.out.keep (below_one _ _)).below (Hbel.out.trans ((below_one _ _).mono Hbel.out.size)) (Nat.le_trans Hbel.out.size (below_one _ _).size) Hg5.out
        have h8 := ((Ho8.out.keep (below_one _ _)).beside Hg5.out Hap.out).keep (below_one w5 (.cells #[W8 (x ^^^ 92)] 5))
        have ha5 : Apart v5 (.slice r8 k c8) := apart_grown (Ho8.out.keep (below_one _ _)) Hap.out Hf5.out
        have h5 := Ho5.out.keep (below_one w5 (.cells #[W8 (x ^^^ 92)] 5))
        refine ⟨⟨k + 1, _, _, by omega, by go_num, Hp7.out.symm, Hp8.out.symm, h5.beside hg6 ha5.symm, ho6, (apart_grown h5 ha5.symm hf6).symm, h8.below (hw5.trans ((below_one _ _).mono hw5.size)) (Nat.le_trans hw5.size (below_one _ _).size) hg6⟩, by simp [intOf]; omega⟩
      · have hx0 : K0[k]?.getD 0 = 0 := by rw [List.getElem?_eq_none (by have := HKl.out; omega)]; rfl
        rw [hx0] at Hp7 Hp8
        have e7 : (0 : UInt8) ^^^ 54 = 54 := rfl
        have e8 : (0 : UInt8) ^^^ 92 = 92 := rfl
        rw [e7] at Hp7
        rw [e8] at Hp8
        clear hx0 e7 e8
        go_wp2_with (first
          | ((with_reducible refine wpList_append_sep rfl (.tmp 33) (.tmp 36) rfl w2.heap.size (.slice r7 k c7) P7 [54] _ 1 1 rfl rfl (Ho7.out.keep (below_one _ _)) (bytes_one wr 54 _ x54) (by have := Hl7.out; simp; omega) (Nat.le_trans Hbel.out.size (below_one _ _).size) ?_); intro v5 w5 ho5 hg5 hf5
             have Ho5 := Lib.hid ho5
             have Hg5 := Lib.hid hg5
             have Hf5 := Lib.hid hf5
             clear ho5 hg5 hf5)
          | ((with_reducible refine wpList_append_sep rfl (.tmp 38) (.tmp 41) rfl w2.heap.size (.slice r8 k c8) P8 [92] _ 1 1 rfl rfl (((Ho8.out.keep (below_one _ _)).beside Hg5.out Hap.out).keep (below_one _ _)) (bytes_one w5 92 _ x92) (by have := Hl8.out; simp; omega) (Nat.le_trans (Nat.le_trans Hbel.out.size (below_one _ _).size) (Nat.le_trans Hg5.out.size (below_one _ _).size)) ?_); intro v6 w6 ho6 hg6 hf6))
        have hw5 : Below w2.heap.size w2 w5 := (Ho7.out.keep (below_one _ _)).below (Hbel.out.trans ((below_one _ _).mono Hbel.out.size)) (Nat.le_trans Hbel.out.size (below_one _ _).size) Hg5.out
        have h8 := ((Ho8.out.keep (below_one _ _)).beside Hg5.out Hap.out).keep (below_one w5 (.cells #[.int .u8 (bits BinOp.xor IntKind.u8 0 92)] 5))
        have ha5 : Apart v5 (.slice r8 k c8) := apart_grown (Ho8.out.keep (below_one _ _)) Hap.out Hf5.out
        have h5 := Ho5.out.keep (below_one w5 (.cells #[.int .u8 (bits BinOp.xor IntKind.u8 0 92)] 5))
        refine ⟨⟨k + 1, _, _, by omega, by go_num, Hp7.out.symm, Hp8.out.symm, h5.beside hg6 ha5.symm, ho6, (apart_grown h5 ha5.symm hf6).symm, h8.below (hw5.trans ((below_one _ _).mono hw5.size)) (Nat.le_trans hw5.size (below_one _ _).size) hg6⟩, by simp [intOf]; omega⟩
    · obtain rfl : k = 64 := by omega
      have e7 : P7 = padK key 54 := by rw [HP7.out]; exact List.take_of_length_le (by rw [padK_length]; omega)
      have e8 : P8 = padK key 92 := by rw [HP8.out]; exact List.take_of_length_le (by rw [padK_length]; omega)
      rw [← e7] at HD1
      rw [← e8] at HD2
      have Hwr : Hid (Below w.heap.size w wr) := Lib.hid (below_seq Hb2.out Hbel.out)
      have Hz : Hid (wr.heap[w.heap.size]? = some (.cells (row8 zero32) 31 (0, 0))) := Lib.hid ((Hbel.out.block _ (heap_lt Hz2.out)).trans Hz2.out)
      have hbase : w.heap.size + 1 ≤ w2.heap.size := heap_lt Hz2.out
      have Hb := Lib.hid (h2'.out.below Hwr.out)
      clear e7 e8
      go_upto_region 14 with (first
        | ((with_reducible refine wpList_append_sep rfl (.tmp 43) (.tmp 44) rfl w2.heap.size (.slice r7 64 c7) P7 b r2 len2 cap2 rfl rfl Ho7.out Hb.out (by have := Hl7.out; have := Hbl.out; omega) Hbel.out.size ?_); intro v5 w5 ho5 hg5 hf5
           have Hb5 : Hid (Below w2.heap.size w2 w5) := Lib.hid (Ho7.out.below Hbel.out Hbel.out.size hg5)
           have H8 := Lib.hid (Ho8.out.beside hg5 Hap.out)
           obtain ⟨r5', c5', rfl, hB5, _⟩ := ho5.at_len (64 + len2) (by rw [List.length_append, Hl7.out, Hbl.out])
           have HB5 := Lib.hid hB5
           clear ho5 hg5 hf5 hB5)
        | (go_at_call 39; with_reducible refine (refSum_any HB5.out (by omega)).mono ?_; rintro e w6 ⟨rfl, hb6⟩; rw [← HD1.out]
           have Hb6 := Lib.hid hb6
           clear hb6)
        | (refine wpList_allocRow 31 _ alloc31 rfl rfl ?_)
        | (refine wpList_store_row rfl 31 (.tmp 11) (.tmp 46) rfl _ _ rfl rfl 31 _ (heap_alloc_new _ _) (info31 _ HD1l.out) (by rw [row8_size, row8_size, HD1l.out]; rfl) (row8_one _) ?_))
      have r0 : ((w6.alloc (.cells (row8 zero32) 31)).setRow w6.heap.size (row8 D1)).heap[w6.heap.size]? = some (.cells (row8 D1) 31 (0, 0)) := setRow_heap _ _ _ _ _ _ (heap_alloc_new _ _)
      have r1 : Below w5.heap.size w5 ((w6.alloc (.cells (row8 zero32) 31)).setRow w6.heap.size (row8 D1)) := below_row (below_seq Hb6.out (below_one _ _)) Hb6.out.size _
      refine abstract_world (fun W => W.heap[w6.heap.size]? = some (.cells (row8 D1) 31 (0, 0)) ∧ Below w5.heap.size w5 W) ⟨r0, r1⟩ ?_
      clear r0 r1
      generalize w6.heap.size = g6 at *
      rintro w7 ⟨r0, r1⟩
      have HB7 := Lib.hid (bytes_of_row r0 HD1l.out (by unfold maxLen; omega))
      have Hb7 : Hid (Below w2.heap.size w2 w7) := Lib.hid (Hb5.out.trans (r1.mono Hb5.out.size))
      have H8' := Lib.hid (H8.out.keep r1)
      clear r0 r1
      go_wp2_with (first
        | ((with_reducible refine wpList_append_sep rfl (.tmp 47) (.tmp 48) rfl w2.heap.size (.slice r8 64 c8) P8 D1 _ 32 32 rfl rfl H8'.out HB7.out (by rw [Hl8.out, HD1l.out]; omega) Hb7.out.size ?_); intro v8 w8 ho8 hg8 hf8
           have Hb8 : Hid (Below w2.heap.size w2 w8) := Lib.hid (H8'.out.below Hb7.out Hb7.out.size hg8)
           obtain ⟨r8', c8', rfl, hB8, _⟩ := ho8.at_len 96 (by rw [List.length_append, Hl8.out, HD1l.out])
           have HB8 := Lib.hid hB8
           clear ho8 hg8 hf8 hB8)
        | (go_at_call 39; with_reducible refine (refSum_any HB8.out (by omega)).mono ?_; rintro e w9 ⟨rfl, hb9⟩; rw [← HD2.out]
           have Hb9 : Hid (Below w.heap.size w w9) := Lib.hid (below_seq (below_seq Hb2.out Hb8.out) hb9)
           have Hz9 : Hid (w9.heap[w.heap.size]? = some (.cells (row8 zero32) 31 (0, 0))) := Lib.hid ((below_seq Hb8.out hb9).block _ (heap_lt Hz2.out) |>.trans Hz2.out)
           clear hb9)
        | (refine wpList_store_row rfl 31 _ _ rfl _ _ rfl rfl 31 _ Hz9.out (info31 _ HD2l.out) (by rw [row8_size, row8_size, HD2l.out]; rfl) (row8_one _) ?_))
      refine bodyPost_ret (results_cell_row rfl _ _ _ 31 _ _ _ rfl (setRow_heap _ _ _ _ _ _ Hz9.out) Try.underlying31 rfl (info31 _ HD2l.out)) rfl ⟨rfl, below_row Hb9.out (Nat.le_refl _) _⟩

set_option maxRecDepth 100000 in
set_option maxHeartbeats 4000000 in
theorem refRaw_long {w : World} {r r2 : Option Addr} {len cap len2 cap2 : Nat} {key b : List UInt8} (h : BytesAt w r len cap key) (h2 : BytesAt w r2 len2 cap2 b) (hlong : 64 < len) (hsz : len ≤ 1048576) (hsz2 : len2 ≤ 1000000) :
    Calls Try.prog 54 #[.slice r len cap, .slice r2 len2 cap2] w fun e w' => e = .returned (.agg (row8 (hmac key b))) ∧ Below w.heap.size w w' := by
  obtain ⟨K0, hK0⟩ : ∃ K0, K0 = digest key := ⟨_, rfl⟩
  have hkk : keyOf key = K0 := by
    rw [hK0]; unfold keyOf; rw [if_pos]; have := h.hlen; omega
  have HK := Lib.hid hkk
  have HK0 := Lib.hid hK0
  obtain ⟨D1, hD1⟩ : ∃ D1, D1 = digest (padK key 54 ++ b) := ⟨_, rfl⟩
  have hD1l : D1.length = 32 := by rw [hD1]; exact digest_length _
  obtain ⟨D2, hDD⟩ : ∃ D2, D2 = hmac key b := ⟨_, rfl⟩
  have hD2 : D2 = digest (padK key 92 ++ D1) := by rw [hDD, hD1]; rfl
  have hD2l : D2.length = 32 := by rw [hDD]; exact hmac_length _ _
  rw [← hDD]
  have HD1 := Lib.hid hD1
  have HD1l := Lib.hid hD1l
  have HD2 := Lib.hid hD2
  have HD2l := Lib.hid hD2l
  have Hkey := Lib.hid h
  have Hkl := Lib.hid h.hlen
  have h2' := Lib.hid h2
  have Hbl := Lib.hid h2.hlen
  clear hkk hK0 hD1 hD1l hD2 hD2l hDD h h2
  go_enter Try.func54, Try.ntmps54
  go_upto_region 1 with (refine wpList_allocRow 31 _ alloc31 rfl rfl ?_)
  refine abstract_world (fun W => W.heap[w.heap.size]? = some (.cells (row8 zero32) 31 (0, 0)) ∧ Below w.heap.size w W ∧ W.heap.size = w.heap.size + 1) (box31 w) ?_
  rintro w1 ⟨r0, r1, r2s⟩
  have Hz1 := Lib.hid r0
  have Hb1 := Lib.hid r1
  have Hs1 := Lib.hid r2s
  clear r0 r1 r2s
  go_upto_region 5 with (first
    | ((with_reducible refine wpList_append_bytes rfl (.tmp 12) (.tmp 13) rfl w1.heap.size (.slice (some ⟨w1.heap.size, 0, none⟩) 0 0) [] key r len cap rfl rfl (ownB_nil w1 w1.heap.size (Nat.le_refl _)) ((Hkey.out.below Hb1.out).below (below_one _ _)) (by have := Hkl.out; simp; omega) (below_one _ _).size ?_); intro v5 w5 ho5 hg5
       have hb5 : Below w1.heap.size w1 w5 := (ownB_nil w1 w1.heap.size (Nat.le_refl _)).below (below_one _ _) (below_one _ _).size hg5
       rw [List.nil_append] at ho5
       obtain ⟨r5, c5, rfl, hB5, _⟩ := ho5.at_len len Hkl.out
       have HB5 := Lib.hid hB5
       have Hb5 := Lib.hid hb5
       clear ho5 hg5 hb5 hB5)
    | (go_at_call 39; with_reducible refine (refSum_any HB5.out hsz).mono ?_; rintro e w6 ⟨rfl, hb6⟩; rw [← HK0.out]
       have Hb6 := Lib.hid hb6
       have hK0l : K0.length = 32 := by rw [HK0.out]; exact digest_length _
       have HK0l := Lib.hid hK0l
       clear hb6 hK0l)
    | (refine wpList_allocRow 31 _ alloc31 rfl rfl ?_)
    | (refine wpList_store_row rfl 31 (.tmp 6) (.tmp 19) rfl _ _ rfl rfl 31 _ (heap_alloc_new _ _) (info31 _ HK0l.out) (by rw [row8_size, row8_size, HK0l.out]; rfl) (row8_one _) ?_))
  have r0 : ((w6.alloc (.cells (row8 zero32) 31)).setRow w6.heap.size (row8 K0)).heap[w6.heap.size]? = some (.cells (row8 K0) 31 (0, 0)) := setRow_heap _ _ _ _ _ _ (heap_alloc_new _ _)
  have r1 : Below w1.heap.size w1 ((w6.alloc (.cells (row8 zero32) 31)).setRow w6.heap.size (row8 K0)) := below_row (below_seq (below_seq Hb5.out Hb6.out) (below_one _ _)) (Nat.le_trans Hb5.out.size Hb6.out.size) _
  refine abstract_world (fun W => W.heap[w6.heap.size]? = some (.cells (row8 K0) 31 (0, 0)) ∧ Below w1.heap.size w1 W) ⟨r0, r1⟩ ?_
  clear r0 r1
  generalize w6.heap.size = gs at *
  rintro w2 ⟨r0, r1⟩
  have HB2 := Lib.hid (bytes_of_row r0 HK0l.out (by unfold maxLen; omega))
  have Hb2 : Hid (Below w.heap.size w w2) := Lib.hid (below_seq Hb1.out r1)
  have Hz2 : Hid (w2.heap[w.heap.size]? = some (.cells (row8 zero32) 31 (0, 0))) := Lib.hid ((r1.block _ (heap_lt Hz1.out)).trans Hz1.out)
  clear r0 r1 HB5 Hb5 Hb6
  have hKl : K0.length = 32 := HB2.out.hlen
  have hpl : ∀ (m : UInt8) (k : Nat), k < 64 → (padK key m).take (k + 1) = (padK key m).take k ++ [K0[k]?.getD 0 ^^^ m] := fun m k hk => by
    rw [List.take_add_one, padK_at key m k hk, HK.out]; rfl
  have Hpl := Lib.hid hpl
  have HKl := Lib.hid hKl
  have hcm : 32 ≤ 9223372036854775807 := HB2.out.hmax
  have hlc := HB2.out.hle
  clear hpl hKl
  go_wp2
  go_loopw [7, 8, 9, 10] (fun v7 v8 v9 _ wr => ∃ (k : Nat) (P7 P8 : List UInt8), k ≤ 64 ∧ v9 = .int .i64 (k : Int) ∧ P7 = (padK key 54).take k ∧ P8 = (padK key 92).take k ∧ OwnB wr w2.heap.size v7 P7 ∧ OwnB wr w2.heap.size v8 P8 ∧ Apart v7 v8 ∧ Below w2.heap.size w2 wr) (fun _ _ v _ _ => 64 - (intOf v).toNat)
  case atStart => exact ⟨0, [], [], by omega, rfl, rfl, rfl, ownB_none _ _, ownB_none _ _, apart_none _, Below.refl _ _⟩
  case round =>
    obtain ⟨k, P7, P8, hk, rfl, hP7, hP8, ho7, ho8, hap, hbel⟩ := hrel
    have hl7 : P7.length = k := by rw [hP7, List.length_take, padK_length]; omega
    have hl8 : P8.length = k := by rw [hP8, List.length_take, padK_length]; omega
    have HP7 := Lib.hid hP7
    have HP8 := Lib.hid hP8
    have Hl7 := Lib.hid hl7
    have Hl8 := Lib.hid hl8
    have Ho7 := Lib.hid ho7
    have Ho8 := Lib.hid ho8
    have Hap := Lib.hid hap
    have Hbel := Lib.hid hbel
    clear hP7 hP8 hl7 hl8 ho7 ho8 hap hbel
    obtain ⟨r7, c7, rfl, _, _⟩ := Ho7.out.at_len k Hl7.out
    obtain ⟨r8, c8, rfl, _, _⟩ := Ho8.out.at_len k Hl8.out
    by_cases hlt : k < 64
    · have hp7 := Hpl.out 54 k hlt
      have hp8 := Hpl.out 92 k hlt
      rw [← HP7.out] at hp7
      rw [← HP8.out] at hp8
      have Hp7 := Lib.hid hp7
      have Hp8 := Lib.hid hp8
      clear hp7 hp8
      by_cases hkl : k < 32
      · obtain ⟨bk, ok, hrk, hck⟩ := HB2.out.hcells (by omega)
        have cx : wr.cell? ⟨bk, ok + k, none⟩ = some (W8 (K0[k]?.getD 0)) := by
          rw [Hbel.out.cell (p := ⟨bk, ok + k, none⟩) (block_lt_of_cell (hck k hkl))]; exact hck k hkl
        clear hck
        obtain ⟨rfl, rfl⟩ : bk = gs ∧ ok = 0 := by simpa [eq_comm] using hrk
        rw [Nat.zero_add] at cx; clear hrk
        generalize K0[k]?.getD 0 = x at *
        go_wp2_with (first
          | ((with_reducible refine wpList_append_sep rfl (.tmp 33) (.tmp 36) rfl w2.heap.size (.slice r7 k c7) P7 [x ^^^ 54] _ 1 1 rfl rfl (Ho7.out.keep (below_one _ _)) (bytes_one wr _ _ rfl) (by have := Hl7.out; simp; omega) (Nat.le_trans Hbel.out.size (below_one _ _).size) ?_); intro v5 w5 ho5 hg5 hf5
             have Ho5 := Lib.hid ho5
             have Hg5 := Lib.hid hg5
             have Hf5 := Lib.hid hf5
             clear ho5 hg5 hf5)
          | ((with_reducible refine wpList_append_sep rfl (.tmp 38) (.tmp 41) rfl w2.heap.size (.slice r8 k c8) P8 [x ^^^ 92] _ 1 1 rfl rfl (((Ho8.out.keep (below_one _ _)).beside Hg5.out Hap.out).keep (below_one _ _)) (bytes_one w5 _ _ rfl) (by have := Hl8.out; simp; omega) (Nat.le_trans (Nat.le_trans Hbel.out.size (below_one _ _).size) (Nat.le_trans Hg5.out.size (below_one _ _).size)) ?_); intro v6 w6 ho6 hg6 hf6))
        have hw5 : Below w2.heap.size w2 w5 := (Ho7.out.keep (below_one _ _)).below (Hbel.out.trans ((below_one _ _).mono Hbel.out.size)) (Nat.le_trans Hbel.out.size (below_one _ _).size) Hg5.out
        have h8 := ((Ho8.out.keep (below_one _ _)).beside Hg5.out Hap.out).keep (below_one w5 (.cells #[W8 (x ^^^ 92)] 5))
        have ha5 : Apart v5 (.slice r8 k c8) := apart_grown (Ho8.out.keep (below_one _ _)) Hap.out Hf5.out
        have h5 := Ho5.out.keep (below_one w5 (.cells #[W8 (x ^^^ 92)] 5))
        refine ⟨⟨k + 1, _, _, by omega, by go_num, Hp7.out.symm, Hp8.out.symm, h5.beside hg6 ha5.symm, ho6, (apart_grown h5 ha5.symm hf6).symm, h8.below (hw5.trans ((below_one _ _).mono hw5.size)) (Nat.le_trans hw5.size (below_one _ _).size) hg6⟩, by simp [intOf]; omega⟩
      · have hx0 : K0[k]?.getD 0 = 0 := by rw [List.getElem?_eq_none (by have := HKl.out; omega)]; rfl
        rw [hx0] at Hp7 Hp8
        have e7 : (0 : UInt8) ^^^ 54 = 54 := rfl
        have e8 : (0 : UInt8) ^^^ 92 = 92 := rfl
        rw [e7] at Hp7
        rw [e8] at Hp8
        clear hx0 e7 e8
        go_wp2_with (first
          | ((with_reducible refine wpList_append_sep rfl (.tmp 33) (.tmp 36) rfl w2.heap.size (.slice r7 k c7) P7 [54] _ 1 1 rfl rfl (Ho7.out.keep (below_one _ _)) (bytes_one wr 54 _ x54) (by have := Hl7.out; simp; omega) (Nat.le_trans Hbel.out.size (below_one _ _).size) ?_); intro v5 w5 ho5 hg5 hf5
             have Ho5 := Lib.hid ho5
             have Hg5 := Lib.hid hg5
             have Hf5 := Lib.hid hf5
             clear ho5 hg5 hf5)
          | ((with_reducible refine wpList_append_sep rfl (.tmp 38) (.tmp 41) rfl w2.heap.size (.slice r8 k c8) P8 [92] _ 1 1 rfl rfl (((Ho8.out.keep (below_one _ _)).beside Hg5.out Hap.out).keep (below_one _ _)) (bytes_one w5 92 _ x92) (by have := Hl8.out; simp; omega) (Nat.le_trans (Nat.le_trans Hbel.out.size (below_one _ _).size) (Nat.le_trans Hg5.out.size (below_one _ _).size)) ?_); intro v6 w6 ho6 hg6 hf6))
        have hw5 : Below w2.heap.size w2 w5 := (Ho7.out.keep (below_one _ _)).below (Hbel.out.trans ((below_one _ _).mono Hbel.out.size)) (Nat.le_trans Hbel.out.size (below_one _ _).size) Hg5.out
        have h8 := ((Ho8.out.keep (below_one _ _)).beside Hg5.out Hap.out).keep (below_one w5 (.cells #[.int .u8 (bits BinOp.xor IntKind.u8 0 92)] 5))
        have ha5 : Apart v5 (.slice r8 k c8) := apart_grown (Ho8.out.keep (below_one _ _)) Hap.out Hf5.out
        have h5 := Ho5.out.keep (below_one w5 (.cells #[.int .u8 (bits BinOp.xor IntKind.u8 0 92)] 5))
        refine ⟨⟨k + 1, _, _, by omega, by go_num, Hp7.out.symm, Hp8.out.symm, h5.beside hg6 ha5.symm, ho6, (apart_grown h5 ha5.symm hf6).symm, h8.below (hw5.trans ((below_one _ _).mono hw5.size)) (Nat.le_trans hw5.size (below_one _ _).size) hg6⟩, by simp [intOf]; omega⟩
    · obtain rfl : k = 64 := by omega
      have e7 : P7 = padK key 54 := by rw [HP7.out]; exact List.take_of_length_le (by rw [padK_length]; omega)
      have e8 : P8 = padK key 92 := by rw [HP8.out]; exact List.take_of_length_le (by rw [padK_length]; omega)
      rw [← e7] at HD1
      rw [← e8] at HD2
      have Hwr : Hid (Below w.heap.size w wr) := Lib.hid (below_seq Hb2.out Hbel.out)
      have Hz : Hid (wr.heap[w.heap.size]? = some (.cells (row8 zero32) 31 (0, 0))) := Lib.hid ((Hbel.out.block _ (heap_lt Hz2.out)).trans Hz2.out)
      have hbase : w.heap.size + 1 ≤ w2.heap.size := heap_lt Hz2.out
      have Hb := Lib.hid (h2'.out.below Hwr.out)
      clear e7 e8
      go_upto_region 14 with (first
        | ((with_reducible refine wpList_append_sep rfl (.tmp 43) (.tmp 44) rfl w2.heap.size (.slice r7 64 c7) P7 b r2 len2 cap2 rfl rfl Ho7.out Hb.out (by have := Hl7.out; have := Hbl.out; omega) Hbel.out.size ?_); intro v5 w5 ho5 hg5 hf5
           have Hb5 : Hid (Below w2.heap.size w2 w5) := Lib.hid (Ho7.out.below Hbel.out Hbel.out.size hg5)
           have H8 := Lib.hid (Ho8.out.beside hg5 Hap.out)
           obtain ⟨r5', c5', rfl, hB5, _⟩ := ho5.at_len (64 + len2) (by rw [List.length_append, Hl7.out, Hbl.out])
           have HB5 := Lib.hid hB5
           clear ho5 hg5 hf5 hB5)
        | (go_at_call 39; with_reducible refine (refSum_any HB5.out (by omega)).mono ?_; rintro e w6 ⟨rfl, hb6⟩; rw [← HD1.out]
           have Hb6 := Lib.hid hb6
           clear hb6)
        | (refine wpList_allocRow 31 _ alloc31 rfl rfl ?_)
        | (refine wpList_store_row rfl 31 (.tmp 11) (.tmp 46) rfl _ _ rfl rfl 31 _ (heap_alloc_new _ _) (info31 _ HD1l.out) (by rw [row8_size, row8_size, HD1l.out]; rfl) (row8_one _) ?_))
      have r0 : ((w6.alloc (.cells (row8 zero32) 31)).setRow w6.heap.size (row8 D1)).heap[w6.heap.size]? = some (.cells (row8 D1) 31 (0, 0)) := setRow_heap _ _ _ _ _ _ (heap_alloc_new _ _)
      have r1 : Below w5.heap.size w5 ((w6.alloc (.cells (row8 zero32) 31)).setRow w6.heap.size (row8 D1)) := below_row (below_seq Hb6.out (below_one _ _)) Hb6.out.size _
      refine abstract_world (fun W => W.heap[w6.heap.size]? = some (.cells (row8 D1) 31 (0, 0)) ∧ Below w5.heap.size w5 W) ⟨r0, r1⟩ ?_
      clear r0 r1
      generalize w6.heap.size = g6 at *
      rintro w7 ⟨r0, r1⟩
      have HB7 := Lib.hid (bytes_of_row r0 HD1l.out (by unfold maxLen; omega))
      have Hb7 : Hid (Below w2.heap.size w2 w7) := Lib.hid (Hb5.out.trans (r1.mono Hb5.out.size))
      have H8' := Lib.hid (H8.out.keep r1)
      clear r0 r1
      go_wp2_with (first
        | ((with_reducible refine wpList_append_sep rfl (.tmp 47) (.tmp 48) rfl w2.heap.size (.slice r8 64 c8) P8 D1 _ 32 32 rfl rfl H8'.out HB7.out (by rw [Hl8.out, HD1l.out]; omega) Hb7.out.size ?_); intro v8 w8 ho8 hg8 hf8
           have Hb8 : Hid (Below w2.heap.size w2 w8) := Lib.hid (H8'.out.below Hb7.out Hb7.out.size hg8)
           obtain ⟨r8', c8', rfl, hB8, _⟩ := ho8.at_len 96 (by rw [List.length_append, Hl8.out, HD1l.out])
           have HB8 := Lib.hid hB8
           clear ho8 hg8 hf8 hB8)
        | (go_at_call 39; with_reducible refine (refSum_any HB8.out (by omega)).mono ?_; rintro e w9 ⟨rfl, hb9⟩; rw [← HD2.out]
           have Hb9 : Hid (Below w.heap.size w w9) := Lib.hid (below_seq (below_seq Hb2.out Hb8.out) hb9)
           have Hz9 : Hid (w9.heap[w.heap.size]? = some (.cells (row8 zero32) 31 (0, 0))) := Lib.hid ((below_seq Hb8.out hb9).block _ (heap_lt Hz2.out) |>.trans Hz2.out)
           clear hb9)
        | (refine wpList_store_row rfl 31 _ _ rfl _ _ rfl rfl 31 _ Hz9.out (info31 _ HD2l.out) (by rw [row8_size, row8_size, HD2l.out]; rfl) (row8_one _) ?_))
      refine bodyPost_ret (results_cell_row rfl _ _ _ 31 _ _ _ rfl (setRow_heap _ _ _ _ _ _ Hz9.out) Try.underlying31 rfl (info31 _ HD2l.out)) rfl ⟨rfl, below_row Hb9.out (Nat.le_refl _) _⟩

theorem refRaw_any {w : World} {r r2 : Option Addr} {len cap len2 cap2 : Nat} {key b : List UInt8} (h : BytesAt w r len cap key) (h2 : BytesAt w r2 len2 cap2 b) (hsz : len ≤ 1048576) (hsz2 : len2 ≤ 1000000) :
    Calls Try.prog 54 #[.slice r len cap, .slice r2 len2 cap2] w fun e w' => e = .returned (.agg (row8 (hmac key b))) ∧ Below w.heap.size w w' := by
  by_cases hl : 64 < len
  · exact refRaw_long h h2 hl hsz hsz2
  · exact refRaw_short h h2 (by omega) hsz2
end Go.Proofs.Ytafakjdolnigaaa
