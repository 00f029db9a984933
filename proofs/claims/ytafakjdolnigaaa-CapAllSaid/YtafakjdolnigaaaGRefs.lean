/- The reference's Tag. Printed by gen_reftag.py. The reference's Issue and Effect. The reference's Check. -/
import Derived.Test.YtafakjdolnigaaaCapY
import Derived.Test.YtafakjdolnigaaaGOn
import Derived.Test.YtafakjdolnigaaaGCheck
namespace Go.Proofs.Ytafakjdolnigaaa
open Go.RowKit
set_option linter.unusedVariables false

set_option maxRecDepth 100000 in
set_option maxHeartbeats 16000000 in
theorem refTag_any {w : World} {key : List UInt8} {t : Tok} {r : Option Addr} {len cap : Nat} {cs : List (UInt8 × Int)} (hk : key.length = 32) (ht : t.Ok) (h : CavsAt w r len cap cs) (hn : t.tn.size ≤ 16) :
    Calls Try.prog 93 #[.agg (row8 key), .agg (tokRow t (.slice r len cap))] w fun e w' => e = .returned (.agg (row8 (onOf (macOf key [headOf t]) cs))) ∧ Below w.heap.size w w' := by
  have hcl := h.hlen
  subst hcl
  obtain ⟨A, hA⟩ : ∃ A, A = headOf t := ⟨_, rfl⟩
  obtain ⟨T, hT⟩ : ∃ T, T = macOf key [A] := ⟨_, rfl⟩
  obtain ⟨Z, hZ⟩ : ∃ S, S = onOf T cs := ⟨_, rfl⟩
  obtain ⟨n5, hn5⟩ : ∃ n, A.length = n := ⟨_, rfl⟩
  have hTl : T.length = 32 := by rw [hT]; exact macOf_length _ _
  have hZl : Z.length = 32 := by rw [hZ]; exact onOf_length _ _ hTl
  have hAl : n5 ≤ 42 := by rw [← hn5, hA, headOf_length]; omega
  have hz : onOf (macOf key [headOf t]) cs = Z := by rw [hZ, hT, hA]
  rw [hz]
  have hcap := h.hmax
  have hle := h.hle
  unfold maxLen at hcap
  have Hs := Lib.hid hn
  have HA := Lib.hid hA
  have HT := Lib.hid hT
  have HZ := Lib.hid hZ
  have Hn5 := Lib.hid hn5
  have HTl := Lib.hid hTl
  have HZl := Lib.hid hZl
  have HAl := Lib.hid (show A.length ≤ 42 by omega)
  have Ht := Lib.hid ht
  have H := Lib.hid h
  have Hk := Lib.hid hk
  clear ht h hA hT hZ hTl hZl hk hn5 hz hn
  go_enter Try.func93, Try.ntmps93
  go_upto_region 1 with (first
    | (refine wpList_box rfl 31 _ rfl _ rfl ?_)
    | (refine wpList_box rfl 51 _ rfl (tokRow _ _) rfl ?_)
    | (refine wpList_allocRow 31 _ alloc31 rfl rfl ?_))
  have e1 : (w.alloc (.cells (row8 key) 31)).heap.size = w.heap.size + 1 := by simp
  have e2 : ((w.alloc (.cells (row8 key) 31)).alloc (.cells (tokRow t (.slice r cs.length cap)) 51)).heap.size = w.heap.size + 2 := by simp
  simp only [Act.put, List.setIfInBounds_toArray, List.set_cons_succ, List.set_cons_zero]
  rw [e1, e2]
  clear e1 e2
  obtain ⟨⟨a0, a1, a2⟩, a3, a4⟩ := alloc3 w (.cells (row8 key) 31) (.cells (tokRow t (.slice r cs.length cap)) 51) (.cells (row8 zero32) 31)
  refine abstract_world (fun W => W.heap[w.heap.size]? = some (.cells (row8 key) 31 (0, 0)) ∧ W.heap[w.heap.size + 1]? = some (.cells (tokRow t (.slice r cs.length cap)) 51 (0, 0)) ∧ W.heap[w.heap.size + 2]? = some (.cells (row8 zero32) 31 (0, 0)) ∧ Below w.heap.size w W ∧ W.heap.size = w.heap.size + 3) ⟨a0, a1, a2, a3, a4⟩ ?_
  clear a0 a1 a2 a3 a4
  rintro w1 ⟨r0, r1, r2, r3, r4⟩
  have R0 := Lib.hid r0
  have R1 := Lib.hid r1
  have R2 := Lib.hid r2
  have R3 := Lib.hid r3
  have R4 := Lib.hid r4
  clear r0 r1 r2 r3 r4
  have T1 : Hid (∀ w', Below w1.heap.size w1 w' → w'.heap[w.heap.size + 1]? = some (.cells (tokRow t (.slice r cs.length cap)) 51 (0, 0))) := Lib.hid fun w' hw => (hw.block _ (heap_lt R1.out)).trans R1.out
  have K0 : Hid (∀ w', Below w1.heap.size w1 w' → BytesAt w' (some ⟨w.heap.size, 0, none⟩) 32 32 key) := Lib.hid fun w' hw => bytes_of_row ((hw.block _ (heap_lt R0.out)).trans R0.out) Hk.out (by unfold maxLen; omega)
  go_cut [5] from 7 to 28 (fun v5 wx => ∃ g, v5 = .pointer (some ⟨g, 0, none⟩) ∧ wx.heap[g]? = some (.cells (row8 T) 31 (0, 0)) ∧ Below w1.heap.size w1 wx ∧ w1.heap.size ≤ g)
  case first =>
    have hcd : Below w1.heap.size w1 w1.drew := (Below.refl _ _).drew
    refine region_k (fun w' => Below w1.heap.size w1 w') (by kernel_rfl) hcd (fun Kr hKr => ?_)
    refine g_quiet hcd 0 7 (.slice (some ⟨w.heap.size, 0, none⟩) 32 32) (by kernel_rfl) (by kernel_rfl) (by kernel_rfl) (by kernel_rfl) (fun w2 hw2 => by go_simp) ?_
    refine g_quiet hcd 1 8 (.agg (tokRow t (.slice r cs.length cap))) (by kernel_rfl) (by kernel_rfl) (by kernel_rfl) (by kernel_rfl) (fun w2 hw2 => load51_hy (.tmp 3) (by kernel_rfl) (w.heap.size + 1) t _ Ht.out.tag (by kernel_rfl) _ (T1.out w2 hw2)) ?_
    simp only [Act.put, List.setIfInBounds_toArray, List.set_cons_succ, List.set_cons_zero]
    refine m_pick2 2 5 (by kernel_rfl) ?_ ?_
    · skip
      refine (g_call (d := 9) 106 #[.agg (tokRow t (.slice r cs.length cap))] (by kernel_rfl) (by kernel_rfl) ((refHead_any _ t _ Ht.out (by have := Hs.out; omega)).mono ?_))
      rintro e w5 ⟨v5, rfl, ho, hb5⟩
      rw [← HA.out] at ho
      obtain ⟨r5, c5, rfl, hB5, _⟩ := ho.at_len n5 Hn5.out
      have h5 := below_seq hcd hb5
      refine ⟨_, rfl, h5, ?_⟩
      simp only [Act.put, List.setIfInBounds_toArray, List.set_cons_succ, List.set_cons_zero]
      refine m_pick2 3 5 (by kernel_rfl) ?_ ?_
      · skip
        refine (g_val (d := 10) (.slice (some ⟨w5.heap.size, 0, none⟩) 1 1) (w5.alloc (.cells #[.slice r5 n5 c5] 29)) (by kernel_rfl) (by kernel_rfl) ?_)
        have h6 := below_seq h5 (below_one w5 (.cells #[.slice r5 n5 c5] 29))
        have hP := parts_one hB5 (w5.heap.size) rfl
        obtain ⟨k6, hk6⟩ : ∃ k, k = w5.heap.size := ⟨_, rfl⟩
        obtain ⟨w6, hw6⟩ : ∃ x, x = w5.alloc (.cells #[.slice r5 n5 c5] 29) := ⟨_, rfl⟩
        rw [← hk6, ← hw6] at hP
        rw [← hw6] at h6
        rw [← hk6, ← hw6]
        refine ⟨h6, ?_⟩
        simp only [Act.put, List.setIfInBounds_toArray, List.set_cons_succ, List.set_cons_zero]
        refine m_pick2 4 5 (by kernel_rfl) ?_ ?_
        · skip
          refine (g_call (d := 11) 57 #[.slice (some ⟨w.heap.size, 0, none⟩) 32 32, .slice (some ⟨k6, 0, none⟩) 1 1] (by kernel_rfl) (by kernel_rfl) ((refMacOf_any (K0.out _ h6) hP (by omega) (by omega) (by have := HAl.out; simp; omega)).mono ?_))
          rintro e w7 ⟨rfl, hb7⟩
          rw [← HT.out]
          have h7 := below_seq h6 hb7
          refine ⟨_, rfl, h7, ?_⟩
          simp only [Act.put, List.setIfInBounds_toArray, List.set_cons_succ, List.set_cons_zero]
          refine m_pick 5 (by kernel_rfl) ?_
          refine (g_val (d := 5) (.pointer (some ⟨w7.heap.size, 0, none⟩)) (w7.alloc (.cells (row8 zero32) 31)) (by kernel_rfl) (by kernel_rfl) ?_)
          have h9 := below_seq h7 (below_one w7 (.cells (row8 zero32) 31))
          have hG := heap_alloc_new w7 (.cells (row8 zero32) 31)
          have hgs := h7.size
          obtain ⟨g9, hg9⟩ : ∃ k, k = w7.heap.size := ⟨_, rfl⟩
          obtain ⟨w9, hw9⟩ : ∃ x, x = w7.alloc (.cells (row8 zero32) 31) := ⟨_, rfl⟩
          rw [← hg9, ← hw9] at hG
          rw [← hw9] at h9
          rw [← hg9] at hgs
          rw [← hg9, ← hw9]
          refine ⟨h9, ?_⟩
          simp only [Act.put, List.setIfInBounds_toArray, List.set_cons_succ, List.set_cons_zero]
          refine m_pick 6 (by kernel_rfl) (step_store_row 31 (.tmp 5) (.tmp 11) (by kernel_rfl) g9 (row8 T) (by kernel_rfl) (by kernel_rfl) 31 (row8 zero32) hG (info31 _ HTl.out) (by rw [row8_size, row8_size, HTl.out]; rfl) (row8_one _) ?_)
          have hE := below_row h9 hgs (row8 T)
          refine ⟨hE, ?_⟩
          refine m_end (by kernel_rfl) ?_
          have hG := setRow_heap _ _ _ (row8 T) _ _ hG
          obtain ⟨wE, hwE⟩ : ∃ x, x = w9.setRow g9 (row8 T) := ⟨_, rfl⟩
          rw [← hwE] at hE hG
          rw [← hwE]
          go_wp2
          go_meet
          exact ⟨g9, rfl, hG, hE, hgs⟩
        · skip
          refine (g_val (d := 5) (.pointer (some ⟨w6.heap.size, 0, none⟩)) (w6.alloc (.cells (row8 zero32) 31)) (by kernel_rfl) (by kernel_rfl) ?_)
          have h9 := below_seq h6 (below_one w6 (.cells (row8 zero32) 31))
          have hG := heap_alloc_new w6 (.cells (row8 zero32) 31)
          have hgs := h6.size
          have hP := hP.below (below_one w6 (.cells (row8 zero32) 31))
          obtain ⟨g9, hg9⟩ : ∃ k, k = w6.heap.size := ⟨_, rfl⟩
          obtain ⟨w9, hw9⟩ : ∃ x, x = w6.alloc (.cells (row8 zero32) 31) := ⟨_, rfl⟩
          rw [← hg9, ← hw9] at hG
          rw [← hw9] at h9
          rw [← hw9] at hP
          rw [← hg9] at hgs
          rw [← hg9, ← hw9]
          refine ⟨h9, ?_⟩
          simp only [Act.put, List.setIfInBounds_toArray, List.set_cons_succ, List.set_cons_zero]
          refine m_pick 4 (by kernel_rfl) ?_
          refine (g_call (d := 11) 57 #[.slice (some ⟨w.heap.size, 0, none⟩) 32 32, .slice (some ⟨k6, 0, none⟩) 1 1] (by kernel_rfl) (by kernel_rfl) ((refMacOf_any (K0.out _ h9) hP (by omega) (by omega) (by have := HAl.out; simp; omega)).mono ?_))
          rintro e w7 ⟨rfl, hb7⟩
          rw [← HT.out]
          have h7 := below_seq h9 hb7
          have hG := (hb7.block _ (heap_lt hG)).trans hG
          refine ⟨_, rfl, h7, ?_⟩
          simp only [Act.put, List.setIfInBounds_toArray, List.set_cons_succ, List.set_cons_zero]
          refine m_pick 6 (by kernel_rfl) (step_store_row 31 (.tmp 5) (.tmp 11) (by kernel_rfl) g9 (row8 T) (by kernel_rfl) (by kernel_rfl) 31 (row8 zero32) hG (info31 _ HTl.out) (by rw [row8_size, row8_size, HTl.out]; rfl) (row8_one _) ?_)
          have hE := below_row h7 hgs (row8 T)
          refine ⟨hE, ?_⟩
          refine m_end (by kernel_rfl) ?_
          have hG := setRow_heap _ _ _ (row8 T) _ _ hG
          obtain ⟨wE, hwE⟩ : ∃ x, x = w7.setRow g9 (row8 T) := ⟨_, rfl⟩
          rw [← hwE] at hE hG
          rw [← hwE]
          go_wp2
          go_meet
          exact ⟨g9, rfl, hG, hE, hgs⟩
      · skip
        refine (g_val (d := 5) (.pointer (some ⟨w5.heap.size, 0, none⟩)) (w5.alloc (.cells (row8 zero32) 31)) (by kernel_rfl) (by kernel_rfl) ?_)
        have h9 := below_seq h5 (below_one w5 (.cells (row8 zero32) 31))
        have hG := heap_alloc_new w5 (.cells (row8 zero32) 31)
        have hgs := h5.size
        have hB5 := hB5.below (below_one w5 (.cells (row8 zero32) 31))
        obtain ⟨g9, hg9⟩ : ∃ k, k = w5.heap.size := ⟨_, rfl⟩
        obtain ⟨w9, hw9⟩ : ∃ x, x = w5.alloc (.cells (row8 zero32) 31) := ⟨_, rfl⟩
        rw [← hg9, ← hw9] at hG
        rw [← hw9] at h9
        rw [← hw9] at hB5
        rw [← hg9] at hgs
        rw [← hg9, ← hw9]
        refine ⟨h9, ?_⟩
        simp only [Act.put, List.setIfInBounds_toArray, List.set_cons_succ, List.set_cons_zero]
        refine m_pick 3 (by kernel_rfl) ?_
        refine (g_val (d := 10) (.slice (some ⟨w9.heap.size, 0, none⟩) 1 1) (w9.alloc (.cells #[.slice r5 n5 c5] 29)) (by kernel_rfl) (by kernel_rfl) ?_)
        have h6 := below_seq h9 (below_one w9 (.cells #[.slice r5 n5 c5] 29))
        have hP := parts_one hB5 (w9.heap.size) rfl
        obtain ⟨k6, hk6⟩ : ∃ k, k = w9.heap.size := ⟨_, rfl⟩
        have hG := ((below_one w9 (.cells #[.slice r5 n5 c5] 29)).block _ (heap_lt hG)).trans hG
        obtain ⟨w6, hw6⟩ : ∃ x, x = w9.alloc (.cells #[.slice r5 n5 c5] 29) := ⟨_, rfl⟩
        rw [← hk6, ← hw6] at hP
        rw [← hw6] at h6
        rw [← hw6] at hG
        rw [← hk6, ← hw6]
        refine ⟨h6, ?_⟩
        simp only [Act.put, List.setIfInBounds_toArray, List.set_cons_succ, List.set_cons_zero]
        refine m_pick 4 (by kernel_rfl) ?_
        refine (g_call (d := 11) 57 #[.slice (some ⟨w.heap.size, 0, none⟩) 32 32, .slice (some ⟨k6, 0, none⟩) 1 1] (by kernel_rfl) (by kernel_rfl) ((refMacOf_any (K0.out _ h6) hP (by omega) (by omega) (by have := HAl.out; simp; omega)).mono ?_))
        rintro e w7 ⟨rfl, hb7⟩
        rw [← HT.out]
        have h7 := below_seq h6 hb7
        have hG := (hb7.block _ (heap_lt hG)).trans hG
        refine ⟨_, rfl, h7, ?_⟩
        simp only [Act.put, List.setIfInBounds_toArray, List.set_cons_succ, List.set_cons_zero]
        refine m_pick 6 (by kernel_rfl) (step_store_row 31 (.tmp 5) (.tmp 11) (by kernel_rfl) g9 (row8 T) (by kernel_rfl) (by kernel_rfl) 31 (row8 zero32) hG (info31 _ HTl.out) (by rw [row8_size, row8_size, HTl.out]; rfl) (row8_one _) ?_)
        have hE := below_row h7 hgs (row8 T)
        refine ⟨hE, ?_⟩
        refine m_end (by kernel_rfl) ?_
        have hG := setRow_heap _ _ _ (row8 T) _ _ hG
        obtain ⟨wE, hwE⟩ : ∃ x, x = w7.setRow g9 (row8 T) := ⟨_, rfl⟩
        rw [← hwE] at hE hG
        rw [← hwE]
        go_wp2
        go_meet
        exact ⟨g9, rfl, hG, hE, hgs⟩
    · skip
      refine (g_val (d := 5) (.pointer (some ⟨w1.drew.heap.size, 0, none⟩)) (w1.drew.alloc (.cells (row8 zero32) 31)) (by kernel_rfl) (by kernel_rfl) ?_)
      have h9 := below_seq hcd (below_one w1.drew (.cells (row8 zero32) 31))
      have hG := heap_alloc_new w1.drew (.cells (row8 zero32) 31)
      have hgs := hcd.size
      obtain ⟨g9, hg9⟩ : ∃ k, k = w1.drew.heap.size := ⟨_, rfl⟩
      obtain ⟨w9, hw9⟩ : ∃ x, x = w1.drew.alloc (.cells (row8 zero32) 31) := ⟨_, rfl⟩
      rw [← hg9, ← hw9] at hG
      rw [← hw9] at h9
      rw [← hg9] at hgs
      rw [← hg9, ← hw9]
      refine ⟨h9, ?_⟩
      simp only [Act.put, List.setIfInBounds_toArray, List.set_cons_succ, List.set_cons_zero]
      refine m_pick 2 (by kernel_rfl) ?_
      refine (g_call (d := 9) 106 #[.agg (tokRow t (.slice r cs.length cap))] (by kernel_rfl) (by kernel_rfl) ((refHead_any _ t _ Ht.out (by have := Hs.out; omega)).mono ?_))
      rintro e w5 ⟨v5, rfl, ho, hb5⟩
      rw [← HA.out] at ho
      obtain ⟨r5, c5, rfl, hB5, _⟩ := ho.at_len n5 Hn5.out
      have h5 := below_seq h9 hb5
      have hG := (hb5.block _ (heap_lt hG)).trans hG
      refine ⟨_, rfl, h5, ?_⟩
      simp only [Act.put, List.setIfInBounds_toArray, List.set_cons_succ, List.set_cons_zero]
      refine m_pick 3 (by kernel_rfl) ?_
      refine (g_val (d := 10) (.slice (some ⟨w5.heap.size, 0, none⟩) 1 1) (w5.alloc (.cells #[.slice r5 n5 c5] 29)) (by kernel_rfl) (by kernel_rfl) ?_)
      have h6 := below_seq h5 (below_one w5 (.cells #[.slice r5 n5 c5] 29))
      have hP := parts_one hB5 (w5.heap.size) rfl
      obtain ⟨k6, hk6⟩ : ∃ k, k = w5.heap.size := ⟨_, rfl⟩
      have hG := ((below_one w5 (.cells #[.slice r5 n5 c5] 29)).block _ (heap_lt hG)).trans hG
      obtain ⟨w6, hw6⟩ : ∃ x, x = w5.alloc (.cells #[.slice r5 n5 c5] 29) := ⟨_, rfl⟩
      rw [← hk6, ← hw6] at hP
      rw [← hw6] at h6
      rw [← hw6] at hG
      rw [← hk6, ← hw6]
      refine ⟨h6, ?_⟩
      simp only [Act.put, List.setIfInBounds_toArray, List.set_cons_succ, List.set_cons_zero]
      refine m_pick 4 (by kernel_rfl) ?_
      refine (g_call (d := 11) 57 #[.slice (some ⟨w.heap.size, 0, none⟩) 32 32, .slice (some ⟨k6, 0, none⟩) 1 1] (by kernel_rfl) (by kernel_rfl) ((refMacOf_any (K0.out _ h6) hP (by omega) (by omega) (by have := HAl.out; simp; omega)).mono ?_))
      rintro e w7 ⟨rfl, hb7⟩
      rw [← HT.out]
      have h7 := below_seq h6 hb7
      have hG := (hb7.block _ (heap_lt hG)).trans hG
      refine ⟨_, rfl, h7, ?_⟩
      simp only [Act.put, List.setIfInBounds_toArray, List.set_cons_succ, List.set_cons_zero]
      refine m_pick 6 (by kernel_rfl) (step_store_row 31 (.tmp 5) (.tmp 11) (by kernel_rfl) g9 (row8 T) (by kernel_rfl) (by kernel_rfl) 31 (row8 zero32) hG (info31 _ HTl.out) (by rw [row8_size, row8_size, HTl.out]; rfl) (row8_one _) ?_)
      have hE := below_row h7 hgs (row8 T)
      refine ⟨hE, ?_⟩
      refine m_end (by kernel_rfl) ?_
      have hG := setRow_heap _ _ _ (row8 T) _ _ hG
      obtain ⟨wE, hwE⟩ : ∃ x, x = w7.setRow g9 (row8 T) := ⟨_, rfl⟩
      rw [← hwE] at hE hG
      rw [← hwE]
      go_wp2
      go_meet
      exact ⟨g9, rfl, hG, hE, hgs⟩
  case rest =>
    obtain ⟨g, rfl, hg, hbx, hgs⟩ := hcut
    have Hg := Lib.hid hg
    have Hbx := Lib.hid hbx
    clear hg hbx
    go_upto_region 3 with (fail)
    go_loopw [6] (fun v wr => ∃ k : Nat, k ≤ cs.length ∧ v = .int .i64 (k : Int) ∧ wr.heap[g]? = some (.cells (row8 (onOf T (cs.take k))) 31 (0, 0)) ∧ Below w1.heap.size w1 wr) (fun v _ => cs.length - (intOf v).toNat)
    case atStart => exact ⟨0, by omega, rfl, Hg.out, Hbx.out⟩
    case round =>
      clear Hg Hbx
      obtain ⟨k, hk, rfl, hg, hb⟩ := hrel
      have Hg := Lib.hid hg
      have Hb := Lib.hid hb
      clear hg hb
      have c5 := (tok_in (T1.out wr Hb.out) Ht.out.tag).c5
      by_cases hlt : k < cs.length
      · obtain ⟨b, o, rfl, hc⟩ := ((H.out.below R3.out).below Hb.out).hcells (by omega)
        obtain ⟨hc1, hc2⟩ := hc k hlt
        have hst := onOf_take T cs k hlt
        have hz : (Lit.int .i64 (cs[k]?.getD (0, 0)).2).wf = true := by rw [List.getElem?_eq_getElem hlt]; exact H.out.hwf _ (List.getElem_mem hlt)
        obtain ⟨⟨x, z⟩, hxz⟩ : ∃ c, c = cs[k]?.getD (0, 0) := ⟨_, rfl⟩
        rw [← hxz] at hc1 hc2 hst hz
        obtain ⟨S, hS⟩ : ∃ S, S = onOf T (cs.take k) := ⟨_, rfl⟩
        have hSl : S.length = 32 := by rw [hS]; exact onOf_length _ _ HTl.out
        rw [← hS] at hst Hg
        simp only at hc1 hc2 hz
        obtain ⟨S2, hS2⟩ : ∃ S2, S2 = macOf S [cavOf x z] := ⟨_, rfl⟩
        have hS2l : S2.length = 32 := by rw [hS2]; exact macOf_length _ _
        have Hst : Hid (onOf T (cs.take (k + 1)) = S2) := Lib.hid (by rw [hst, hS2])
        have HS2 := Lib.hid hS2
        have HSl := Lib.hid hSl
        have HS2l := Lib.hid hS2l
        have Hz := Lib.hid hz
        clear hc hxz hst hS hSl hS2 hS2l hz
        go_upto_region 5 with (fail)
        have c5' : wr.drew.cell? ⟨w.heap.size + 1, 5, none⟩ = some (.slice (some ⟨b, o, none⟩) cs.length cap) := c5
        have hc1' : wr.drew.cell? ⟨b, o + k * 2, none⟩ = some (W8 x) := hc1
        have hc2' : wr.drew.cell? ⟨b, o + k * 2 + 1, none⟩ = some (.int .i64 z) := hc2
        have hcd : Below wr.heap.size wr wr.drew := (Below.refl _ _).drew
        have HK := Lib.hid (bytes_of_row Hg.out HSl.out (by unfold maxLen; omega))
        refine region_k (fun _ => True) (by kernel_rfl) trivial (fun Kr hKr => ?_)
        refine g_quiet trivial 0 19 (.slice (some ⟨g, 0, none⟩) 32 32) (by kernel_rfl) (by kernel_rfl) (by kernel_rfl) (by kernel_rfl) (fun w2 hw2 => by go_simp) ?_
        refine g_quiet trivial 1 20 (.pointer (some ⟨w.heap.size + 1, 5, none⟩)) (by kernel_rfl) (by kernel_rfl) (by kernel_rfl) (by kernel_rfl) (fun w2 hw2 => by go_simp) ?_
        refine g_quiet trivial 3 22 (.int .i64 (k : Int)) (by kernel_rfl) (by kernel_rfl) (by kernel_rfl) (by kernel_rfl) (fun _ _ => by kernel_rfl) ?_
        simp only [Act.put, List.setIfInBounds_toArray, List.set_cons_succ, List.set_cons_zero]
        refine m_pick 2 (by kernel_rfl) (g_val (d := 21) (.slice (some ⟨b, o, none⟩) cs.length cap) wr.drew (by kernel_rfl) (by go_simp) ?_)
        refine ⟨trivial, ?_⟩
        refine g_quiet trivial 4 23 (.pointer (some ⟨b, o + k * 2, none⟩)) (by kernel_rfl) (by kernel_rfl) (by kernel_rfl) (by kernel_rfl) (fun w2 hw2 => by go_simp) ?_
        simp only [Act.put, List.setIfInBounds_toArray, List.set_cons_succ, List.set_cons_zero]
        refine m_pick 5 (by kernel_rfl) (g_val (d := 24) (.agg (cavRow x z)) wr.drew (by kernel_rfl) (load87_hy (.tmp 23) (by kernel_rfl) b (o + k * 2) x z (by kernel_rfl) _ hc1' hc2') ?_)
        refine ⟨trivial, ?_⟩
        simp only [Act.put, List.setIfInBounds_toArray, List.set_cons_succ, List.set_cons_zero]
        refine m_pick 6 (by kernel_rfl) (g_call (d := 25) 102 #[.agg (cavRow x z)] (by kernel_rfl) (by kernel_rfl) ((refCaveat_any _ x z Hz.out).mono ?_))
        rintro e w5 ⟨v5, rfl, ho, hb5⟩
        obtain ⟨r5, c5, rfl, hB5, _⟩ := ho.at_len 9 (cavOf_length _ _)
        have h5 := below_seq hcd hb5
        refine ⟨_, rfl, trivial, ?_⟩
        simp only [Act.put, List.setIfInBounds_toArray, List.set_cons_succ, List.set_cons_zero]
        refine m_pick 7 (by kernel_rfl) (g_val (d := 26) (.slice (some ⟨w5.heap.size, 0, none⟩) 1 1) (w5.alloc (.cells #[.slice r5 9 c5] 29)) (by kernel_rfl) (by kernel_rfl) ?_)
        have h6 := below_seq h5 (below_one w5 (.cells #[.slice r5 9 c5] 29))
        refine ⟨trivial, ?_⟩
        simp only [Act.put, List.setIfInBounds_toArray, List.set_cons_succ, List.set_cons_zero]
        refine m_pick 8 (by kernel_rfl) (g_call (d := 27) 57 #[.slice (some ⟨g, 0, none⟩) 32 32, .slice (some ⟨w5.heap.size, 0, none⟩) 1 1] (by kernel_rfl) (by kernel_rfl) ((refMacOf_any (HK.out.below h6) (parts_one hB5 _ rfl) (by omega) (by omega) (by simp [cavOf_length])).mono ?_))
        rintro e w7 ⟨rfl, hb7⟩
        rw [← HS2.out]
        have h7 := below_seq h6 hb7
        refine ⟨_, rfl, trivial, ?_⟩
        have R07 := (h7.block _ (heap_lt Hg.out)).trans Hg.out
        simp only [Act.put, List.setIfInBounds_toArray, List.set_cons_succ, List.set_cons_zero]
        refine m_pick 9 (by kernel_rfl) (step_store_row 31 (.tmp 5) (.tmp 27) (by kernel_rfl) g (row8 S2) (by kernel_rfl) (by kernel_rfl) 31 (row8 S) R07 (info31 _ HS2l.out) (by rw [row8_size, row8_size, HS2l.out, HSl.out]) (row8_one _) ?_)
        refine ⟨trivial, ?_⟩
        refine m_end (by kernel_rfl) ?_
        have r0 : (w7.setRow g (row8 S2)).heap[g]? = some (.cells (row8 (onOf T (cs.take (k + 1)))) 31 (0, 0)) := by rw [Hst.out]; exact setRow_heap _ _ _ _ _ _ R07
        have r2 : Below w1.heap.size w1 (w7.setRow g (row8 S2)) := below_row (below_seq Hb.out h7) hgs _
        obtain ⟨w8, hw8⟩ : ∃ w8, w8 = w7.setRow g (row8 S2) := ⟨_, rfl⟩
        rw [← hw8] at r0 r2 ⊢
        clear hw8 R07 h7 h6 h5 hcd hB5 ho c5' hc1' hc2'
        have P0 := Lib.hid r0
        have P2 := Lib.hid r2
        clear r0 r2
        go_wp2
        exact ⟨⟨k + 1, by omega, by go_num, P0.out, P2.out⟩, by simp [intOf]; omega⟩
      · obtain rfl : k = cs.length := by omega
        rw [List.take_length, ← HZ.out] at Hg
        go_wp2_with (first
          | (refine wpList_load_row rfl 31 _ rfl _ rfl 31 _ _ _ Hg.out Try.underlying31 rfl (info31 _ HZl.out) ?_)
          | (refine wpList_store_row rfl 31 _ _ rfl _ _ rfl rfl 31 _ ((Hb.out.block _ (heap_lt R2.out)).trans R2.out) (info31 _ HZl.out) (by rw [row8_size, row8_size, HZl.out]; rfl) (row8_one _) ?_))
        refine bodyPost_ret (results_cell_row rfl _ _ _ 31 _ _ _ rfl (setRow_heap _ _ _ _ _ _ ((Hb.out.block _ (heap_lt R2.out)).trans R2.out)) Try.underlying31 rfl (info31 _ HZl.out)) rfl ⟨rfl, below_row (below_seq R3.out Hb.out) (by omega) _⟩
end Go.Proofs.Ytafakjdolnigaaa

namespace Go.Proofs.Ytafakjdolnigaaa
open Go.RowKit
set_option linter.unusedVariables false

set_option maxRecDepth 100000 in
set_option maxHeartbeats 4000000 in
theorem refIssue_bad {w : World} {key : List UInt8} {t : Tok} {r : Option Addr} {len cap : Nat} {cs : List (UInt8 × Int)} (hk : key.length = 32) (ht : t.Ok) (h : CavsAt w r len cap cs) (hm : mayOk t cs = false ∨ 0 < len) :
    Calls Try.prog 70 #[.agg (row8 key), .agg (tokRow t (.slice r len cap))] w fun e w' => e = .returned (.tuple #[.agg (tokRow zeroTok (.slice none 0 0)), .int .i64 1]) ∧ Below w.heap.size w w' := by
  obtain ⟨M, hM⟩ : ∃ M, M = mayOk t cs := ⟨_, rfl⟩
  rw [← hM] at hm
  have HM := Lib.hid hM
  have Ht := Lib.hid ht
  have H := Lib.hid h
  have Hm := Lib.hid hm
  clear ht h hm hM
  go_enter Try.func70, Try.ntmps70
  go_upto_region 1 with (first
    | (refine wpList_box rfl 31 _ rfl _ rfl ?_)
    | (refine wpList_box rfl 51 _ rfl (tokRow _ _) rfl ?_)
    | (refine wpList_allocRow 51 _ alloc51 rfl rfl ?_))
  obtain ⟨⟨a0, a1, a2⟩, a3, a4⟩ := alloc3 w (.cells (row8 key) 31) (.cells (tokRow t (.slice r len cap)) 51) (.cells (tokRow zeroTok (.slice none 0 0)) 51)
  refine abstract_world (fun W => W.heap[w.heap.size + 1]? = some (.cells (tokRow t (.slice r len cap)) 51 (0, 0)) ∧ W.heap[w.heap.size + 2]? = some (.cells (tokRow zeroTok (.slice none 0 0)) 51 (0, 0)) ∧ Below w.heap.size w W) ⟨a1, a2, a3⟩ ?_
  clear a0 a1 a2 a3 a4
  rintro w1 ⟨r1, r2, r3⟩
  have R1 := Lib.hid r1
  have R2 := Lib.hid r2
  have R3 := Lib.hid r3
  clear r1 r2 r3
  cases M with
  | false =>
    go_wp2_with (first
      | (refine wpList_load_row rfl 51 _ rfl _ rfl 51 _ _ _ R1.out Try.underlying51 rfl (info51 t _ Ht.out.tag) ?_)
      | (go_at_call 75; refine (refMay_any Ht.out (H.out.below R3.out)).mono ?_; rintro e w2 ⟨rfl, hb⟩; rw [← HM.out]; have Hb := Lib.hid hb; clear hb)
      | (refine wpList_buildV (.agg (tokRow zeroTok (.slice none 0 0))) 51 _ rfl rfl (by kernel_rfl) ?_)
      | (refine wpList_store_row rfl 51 _ _ rfl _ _ rfl rfl 51 _ ((Hb.out.block _ (heap_lt R2.out)).trans R2.out) (info51 _ _ zero32_length) rfl (tokRow_one _ _ rfl) ?_))
    exact bodyPost_ret (results_cell_2 (p := 4) (t1 := 5) rfl _ _ _ 51 _ _ _ rfl (setRow_heap _ _ _ _ _ _ ((Hb.out.block _ (heap_lt R2.out)).trans R2.out)) Try.underlying51 rfl (info51 _ _ zero32_length)) rfl ⟨rfl, below_row (below_seq R3.out Hb.out) (by omega) _⟩
  | true =>
    have h0 : 0 < len := by rcases Hm.out with h | h; cases h; exact h
    go_wp2_with (first
      | (refine wpList_load_row rfl 51 _ rfl _ rfl 51 _ _ _ R1.out Try.underlying51 rfl (info51 t _ Ht.out.tag) ?_)
      | (go_at_call 75; refine (refMay_any Ht.out (H.out.below R3.out)).mono ?_; rintro e w2 ⟨rfl, hb⟩; rw [← HM.out]; have c5 := (tok_in ((hb.block _ (heap_lt R1.out)).trans R1.out) Ht.out.tag).c5; have Hb := Lib.hid hb; clear hb)
      | (refine wpList_buildV (.agg (tokRow zeroTok (.slice none 0 0))) 51 _ rfl rfl (by kernel_rfl) ?_)
      | (refine wpList_store_row rfl 51 _ _ rfl _ _ rfl rfl 51 _ ((Hb.out.block _ (heap_lt R2.out)).trans R2.out) (info51 _ _ zero32_length) rfl (tokRow_one _ _ rfl) ?_))
    exact bodyPost_ret (results_cell_2 (p := 4) (t1 := 5) rfl _ _ _ 51 _ _ _ rfl (setRow_heap _ _ _ _ _ _ ((Hb.out.block _ (heap_lt R2.out)).trans R2.out)) Try.underlying51 rfl (info51 _ _ zero32_length)) rfl ⟨rfl, below_row (below_seq R3.out Hb.out) (by omega) _⟩

set_option maxRecDepth 100000 in
set_option maxHeartbeats 4000000 in
theorem refIssue_good {w : World} {key : List UInt8} {t : Tok} {r : Option Addr} {cap : Nat} (hk : key.length = 32) (ht : t.Ok) (h : CavsAt w r 0 cap []) (hm : mayOk t [] = true) :
    Calls Try.prog 70 #[.agg (row8 key), .agg (tokRow t (.slice r 0 cap))] w fun e w' => e = .returned (.tuple #[.agg (tokRow (issued key t) (.slice r 0 cap)), .int .i64 0]) ∧ Below w.heap.size w w' := by
  obtain ⟨T, hT⟩ : ∃ T, T = onOf (macOf key [headOf t]) [] := ⟨_, rfl⟩
  have hTl : T.length = 32 := by rw [hT]; exact macOf_length _ _
  have he : issued key t = { t with tag := T } := by rw [hT]; rfl
  obtain ⟨t2, ht2⟩ : ∃ t2 : Tok, t2 = { t with tag := T } := ⟨_, rfl⟩
  rw [he, ← ht2]
  have ht2l : t2.tag.length = 32 := by rw [ht2]; exact hTl
  have hput : ∀ l, ((tokRow t l).toList.take 6 ++ (row8 T).toList ++ (tokRow t l).toList.drop (6 + (row8 T).size)).toArray = tokRow t2 l := fun l => by rw [ht2]; exact tokRow_putTag t l T ht.tag hTl
  have Hs := Lib.hid (mayOk_size hm)
  have HT := Lib.hid hT
  have HTl := Lib.hid hTl
  have Ht := Lib.hid ht
  have Ht2l := Lib.hid ht2l
  have Hput := Lib.hid hput
  have H := Lib.hid h
  have Hm := Lib.hid hm
  have Hk := Lib.hid hk
  clear ht h hm hT hTl he hk ht2 ht2l hput
  go_enter Try.func70, Try.ntmps70
  go_upto_region 1 with (first
    | (refine wpList_box rfl 31 _ rfl _ rfl ?_)
    | (refine wpList_box rfl 51 _ rfl (tokRow _ _) rfl ?_)
    | (refine wpList_allocRow 51 _ alloc51 rfl rfl ?_))
  obtain ⟨⟨a0, a1, a2⟩, a3, a4⟩ := alloc3 w (.cells (row8 key) 31) (.cells (tokRow t (.slice r 0 cap)) 51) (.cells (tokRow zeroTok (.slice none 0 0)) 51)
  refine abstract_world (fun W => W.heap[w.heap.size]? = some (.cells (row8 key) 31 (0, 0)) ∧ W.heap[w.heap.size + 1]? = some (.cells (tokRow t (.slice r 0 cap)) 51 (0, 0)) ∧ W.heap[w.heap.size + 2]? = some (.cells (tokRow zeroTok (.slice none 0 0)) 51 (0, 0)) ∧ Below w.heap.size w W ∧ W.heap.size = w.heap.size + 3) ⟨a0, a1, a2, a3, a4⟩ ?_
  clear a0 a1 a2 a3 a4
  rintro w1 ⟨r0, r1, r2, r3, r4⟩
  have R0 := Lib.hid r0
  have R1 := Lib.hid r1
  have R2 := Lib.hid r2
  have R3 := Lib.hid r3
  clear r0 r1 r2 r3 r4
  go_upto_region 4 with (first
    | (refine wpList_store_sub rfl 31 _ _ rfl (w.heap.size + 1) 6 (row8 T) rfl rfl 51 (tokRow t (.slice r 0 cap)) (tokRow t2 (.slice r 0 cap)) ((Hb4.out.block _ (heap_lt R1.out)).trans R1.out) (info31 _ HTl.out) (by rw [row8_size, HTl.out, tokRow_size _ _ Ht.out.tag]; omega) (row8_one _) (Hput.out _) ?_)
    | (go_at_call 93; refine (refTag_any Hk.out Ht.out ((H.out.below R3.out).below Hb.out) Hs.out).mono ?_; rintro e w4 ⟨rfl, hb⟩; rw [← HT.out]; have Hb4 : Hid (Below w1.heap.size w1 w4) := Lib.hid (below_seq Hb.out hb); clear hb)
    | (refine wpList_load_row rfl 51 _ rfl _ rfl 51 _ _ _ ((Hb.out.block _ (heap_lt R1.out)).trans R1.out) Try.underlying51 rfl (info51 t _ Ht.out.tag) ?_)
    | (refine wpList_load_row rfl 31 _ rfl _ rfl 31 _ _ _ ((Hb.out.block _ (heap_lt R0.out)).trans R0.out) Try.underlying31 rfl (info31 _ Hk.out) ?_)
    | (go_at_call 75; refine (refMay_any Ht.out (H.out.below R3.out)).mono ?_; rintro e w2 ⟨rfl, hb⟩; rw [Hm.out]; have c5 := (tok_in ((hb.block _ (heap_lt R1.out)).trans R1.out) Ht.out.tag).c5; have Hb := Lib.hid hb; clear hb)
    | (refine wpList_load_row rfl 51 _ rfl _ rfl 51 _ _ _ R1.out Try.underlying51 rfl (info51 t _ Ht.out.tag) ?_))
  clear c5
  have r14 := (Hb4.out.block _ (heap_lt R1.out)).trans R1.out
  have r24 := (Hb4.out.block _ (heap_lt R2.out)).trans R2.out
  refine abstract_world (fun W => W.heap[w.heap.size + 1]? = some (.cells (tokRow t2 (.slice r 0 cap)) 51 (0, 0)) ∧ W.heap[w.heap.size + 2]? = some (.cells (tokRow zeroTok (.slice none 0 0)) 51 (0, 0)) ∧ Below w.heap.size w W) ⟨setRow_heap _ _ _ _ _ _ r14, (setRow_other _ _ _ _ (by omega)).trans r24, below_row (below_seq R3.out Hb4.out) (by omega) _⟩ ?_
  clear r14 r24
  rintro w5 ⟨r0, r1, r2⟩
  have P0 := Lib.hid r0
  have P1 := Lib.hid r1
  have P2 := Lib.hid r2
  clear r0 r1 r2
  go_wp2_with (first
    | (refine wpList_load_row rfl 51 _ rfl _ rfl 51 _ _ _ P0.out Try.underlying51 rfl (info51 _ _ Ht2l.out) ?_)
    | (refine wpList_store_row rfl 51 _ _ rfl _ _ rfl rfl 51 _ P1.out (info51 _ _ Ht2l.out) (by rw [tokRow_size _ _ zero32_length, tokRow_size _ _ Ht2l.out]) (tokRow_one _ _ rfl) ?_))
  exact bodyPost_ret (results_cell_2 (p := 4) (t1 := 5) rfl _ _ _ 51 _ _ _ rfl (setRow_heap _ _ _ _ _ _ P1.out) Try.underlying51 rfl (info51 _ _ Ht2l.out)) rfl ⟨rfl, below_row P2.out (by omega) _⟩

set_option maxRecDepth 100000 in
set_option maxHeartbeats 4000000 in
theorem refEffect_any {w : World} {t : Tok} {r : Option Addr} {len cap : Nat} {cs : List (UInt8 × Int)} (ht : t.Ok) (h : CavsAt w r len cap cs) :
    Calls Try.prog 74 #[.agg (tokRow t (.slice r len cap))] w fun e w' => e = .returned (.tuple #[W8 (effOf t.r t.u cs).1, .int .i64 (effOf t.r t.u cs).2]) ∧ Below w.heap.size w w' := by
  have hcl := h.hlen
  subst hcl
  obtain ⟨Z, hZ⟩ : ∃ Z, Z = effOf t.r t.u cs := ⟨_, rfl⟩
  rw [← hZ]
  have HZ := Lib.hid hZ
  have Ht := Lib.hid ht.tag
  have H := Lib.hid h
  have hcap := h.hmax
  have hle := h.hle
  unfold maxLen at hcap
  clear ht h hZ
  go_enter Try.func74, Try.ntmps74
  go_upto_region 1 with (refine wpList_box rfl 51 _ rfl (tokRow _ _) rfl ?_)
  have r0 := heap_alloc_new w (.cells (tokRow t (.slice r cs.length cap)) 51)
  refine abstract_world (fun W => W.heap[w.heap.size]? = some (.cells (tokRow t (.slice r cs.length cap)) 51 (0, 0)) ∧ Below w.heap.size w W) ⟨r0, below_one _ _⟩ ?_
  clear r0
  rintro w1 ⟨r0, r1⟩
  have T : Hid (∀ w2, Below w1.heap.size w1 w2 → TokIn w2 w.heap.size t (.slice r cs.length cap)) := Lib.hid fun w2 h2 => tok_in ((h2.block _ (heap_lt r0)).trans r0) Ht.out
  have R1 := Lib.hid r1
  clear r0 r1
  have hcd : Below w1.heap.size w1 w1.drew := (Below.refl _ _).drew
  refine region_k (fun w' => Below w1.heap.size w1 w') (by kernel_rfl) hcd (fun Kr hKr => ?_)
  refine g_quiet hcd 0 7 (.pointer (some ⟨w.heap.size, 2, none⟩)) (by kernel_rfl) (by kernel_rfl) (by kernel_rfl) (by kernel_rfl) (fun w2 hw2 => by go_simp) ?_
  refine g_quiet hcd 1 8 (W8 t.r) (by kernel_rfl) (by kernel_rfl) (by kernel_rfl) (by kernel_rfl) (fun w2 hw2 => by have c := (T.out w2 hw2).c2; go_simp) ?_
  refine g_quiet hcd 2 9 (.pointer (some ⟨w.heap.size, 4, none⟩)) (by kernel_rfl) (by kernel_rfl) (by kernel_rfl) (by kernel_rfl) (fun w2 hw2 => by go_simp) ?_
  refine g_quiet hcd 3 10 (.int .i64 t.u) (by kernel_rfl) (by kernel_rfl) (by kernel_rfl) (by kernel_rfl) (fun w2 hw2 => by have c := (T.out w2 hw2).c4; go_simp) ?_
  refine g_quiet hcd 4 4 (W8 t.r) (by kernel_rfl) (by kernel_rfl) (by kernel_rfl) (by kernel_rfl) (fun _ _ => by kernel_rfl) ?_
  refine g_quiet hcd 5 5 (.int .i64 t.u) (by kernel_rfl) (by kernel_rfl) (by kernel_rfl) (by kernel_rfl) (fun _ _ => by kernel_rfl) ?_
  refine m_end (by kernel_rfl) ?_
  simp only [Act.put, List.setIfInBounds_toArray, List.set_cons_succ, List.set_cons_zero]
  have Hcd := Lib.hid hcd
  clear hcd
  go_upto_region 3 with (fail)
  go_loopw [6, 4, 5] (fun v v4 v5 wr => ∃ k : Nat, k ≤ cs.length ∧ v = .int .i64 (k : Int) ∧ v4 = W8 (effOf t.r t.u (cs.take k)).1 ∧ v5 = .int .i64 (effOf t.r t.u (cs.take k)).2 ∧ Below w1.heap.size w1 wr) (fun v _ _ _ => cs.length - (intOf v).toNat)
  case atStart => exact ⟨0, by omega, rfl, rfl, rfl, Hcd.out⟩
  case round =>
    obtain ⟨k, hk, rfl, rfl, rfl, hb⟩ := hrel
    have c5 := (T.out wr hb).c5
    have Hb := Lib.hid hb
    clear hb
    by_cases hlt : k < cs.length
    · obtain ⟨b, o, rfl, hc⟩ := ((H.out.below R1.out).below Hb.out).hcells (by omega)
      obtain ⟨hc1, hc2⟩ := hc k hlt
      have hst := effOf_take t.r t.u cs k hlt
      obtain ⟨⟨x, z⟩, hxz⟩ : ∃ c, c = cs[k]?.getD (0, 0) := ⟨_, rfl⟩
      rw [← hxz] at hc1 hc2 hst
      obtain ⟨⟨y, q⟩, hyq⟩ : ∃ c, c = effOf t.r t.u (cs.take k) := ⟨_, rfl⟩
      rw [← hyq] at hst
      rw [← hyq]
      have Hst := Lib.hid hst
      simp only at hc1 hc2
      clear hc hxz hst hyq
      go_wp2_with (go_at_call 104; refine (refMeet_any _ y x).mono ?_; rintro e w5 ⟨rfl, hb5⟩; have c5 := (T.out w5 (below_seq Hb.out hb5)).c5; have hc2 : w5.cell? ⟨b, o + k * 2 + 1, none⟩ = some (.int .i64 z) := (hb5.cell (p := ⟨b, o + k * 2 + 1, none⟩) (block_lt_of_cell hc2)).trans hc2; have Hb5 := Lib.hid hb5; clear hb5)
      all_goals first
        | (refine ⟨⟨k + 1, by omega, by go_num, by rw [Hst.out], ?_, below_seq Hb.out Hb5.out⟩, by simp [intOf]; omega⟩
           rw [Hst.out]
           simp only
           congr 1
           omega)
        | trace_state
    · obtain rfl : k = cs.length := by omega
      have e : effOf t.r t.u (cs.take cs.length) = Z := by rw [List.take_length, HZ.out]
      rw [e]
      go_wp2
      go_ret2
      exact ⟨rfl, below_seq R1.out Hb.out⟩
end Go.Proofs.Ytafakjdolnigaaa

namespace Go.Proofs.Ytafakjdolnigaaa
open Go.RowKit
set_option linter.unusedVariables false

set_option maxRecDepth 100000 in
set_option maxHeartbeats 8000000 in
theorem refCheck_bad {w : World} {key : List UInt8} {t : Tok} {r : Option Addr} {len cap : Nat} {cs : List (UInt8 × Int)} {now : Int} (ht : t.Ok) (h : CavsAt w r len cap cs) (hm : mayOk t cs = false) :
    Calls Try.prog 50 #[.agg (row8 key), .agg (tokRow t (.slice r len cap)), .int .i64 now] w fun e w' => e = .returned (.int .i64 1) ∧ Below w.heap.size w w' := by
  have Ht := Lib.hid ht
  have H := Lib.hid h
  have Hm := Lib.hid hm
  clear ht h hm
  go_enter Try.func50, Try.ntmps50
  go_upto_region 1 with (first
    | (refine wpList_box rfl 31 _ rfl _ rfl ?_)
    | (refine wpList_box rfl 51 _ rfl (tokRow _ _) rfl ?_))
  have r0 : ((w.alloc (.cells (row8 key) 31)).alloc (.cells (tokRow t (.slice r len cap)) 51)).heap[w.heap.size + 1]? = some (.cells (tokRow t (.slice r len cap)) 51 (0, 0)) := heap_alloc2_new _ _ _
  refine abstract_world (fun W => W.heap[w.heap.size + 1]? = some (.cells (tokRow t (.slice r len cap)) 51 (0, 0)) ∧ Below w.heap.size w W) ⟨r0, below_seq (below_one _ _) (below_one _ _)⟩ ?_
  clear r0
  rintro w1 ⟨r0, r1⟩
  have R0 := Lib.hid r0
  have R1 := Lib.hid r1
  clear r0 r1
  go_wp2_with (first
    | (refine wpList_load_row rfl 51 _ rfl _ rfl 51 _ _ _ R0.out Try.underlying51 rfl (info51 t _ Ht.out.tag) ?_)
    | (go_at_call 75; refine (refMay_any Ht.out (H.out.below R1.out)).mono ?_; rintro e w2 ⟨rfl, hb⟩; rw [Hm.out]; have Hb := Lib.hid hb; clear hb))
  go_ret
  exact ⟨rfl, below_seq R1.out Hb.out⟩

set_option maxRecDepth 100000 in
set_option maxHeartbeats 16000000 in
theorem refCheck_good {w : World} {key : List UInt8} {t : Tok} {r : Option Addr} {len cap : Nat} {cs : List (UInt8 × Int)} {now : Int} (hk : key.length = 32) (ht : t.Ok) (h : CavsAt w r len cap cs) (hm : mayOk t cs = true) :
    Calls Try.prog 50 #[.agg (row8 key), .agg (tokRow t (.slice r len cap)), .int .i64 now] w fun e w' => e = .returned (.int .i64 (checkOf key t cs now)) ∧ Below w.heap.size w w' := by
  have hcl := h.hlen
  subst hcl
  obtain ⟨S, hS⟩ : ∃ S, S = onOf (macOf key [headOf t]) cs := ⟨_, rfl⟩
  have hSl : S.length = 32 := by rw [hS]; exact onOf_length _ _ (macOf_length _ _)
  obtain ⟨E, hE⟩ : ∃ E, E = effOf t.r t.u cs := ⟨_, rfl⟩
  obtain ⟨C, hC⟩ : ∃ C, C = checkOf key t cs now := ⟨_, rfl⟩
  rw [← hC]
  have hc : C = if S ≠ t.tag then 13 else if now < t.f ∨ E.2 ≤ now then 14 else 0 := by
    rw [hC]
    unfold checkOf
    rw [if_neg (by rw [hm]; decide), hS, hE]
  have HC := Lib.hid hc
  have Hs := Lib.hid (mayOk_size hm)
  have HS := Lib.hid hS
  have HE := Lib.hid hE
  have HSl := Lib.hid hSl
  have Ht := Lib.hid ht
  have H := Lib.hid h
  have Hm := Lib.hid hm
  have Hk := Lib.hid hk
  clear ht h hm hS hSl hk hc hE hC
  go_enter Try.func50, Try.ntmps50
  go_upto_region 1 with (first
    | (refine wpList_box rfl 31 _ rfl _ rfl ?_)
    | (refine wpList_box rfl 51 _ rfl (tokRow _ _) rfl ?_))
  have r0 : ((w.alloc (.cells (row8 key) 31)).alloc (.cells (tokRow t (.slice r cs.length cap)) 51)).heap[w.heap.size]? = some (.cells (row8 key) 31 (0, 0)) := heap_alloc2_old _ _ _
  have r1 : ((w.alloc (.cells (row8 key) 31)).alloc (.cells (tokRow t (.slice r cs.length cap)) 51)).heap[w.heap.size + 1]? = some (.cells (tokRow t (.slice r cs.length cap)) 51 (0, 0)) := heap_alloc2_new _ _ _
  refine abstract_world (fun W => W.heap[w.heap.size]? = some (.cells (row8 key) 31 (0, 0)) ∧ W.heap[w.heap.size + 1]? = some (.cells (tokRow t (.slice r cs.length cap)) 51 (0, 0)) ∧ Below w.heap.size w W) ⟨r0, r1, below_seq (below_one _ _) (below_one _ _)⟩ ?_
  clear r0 r1
  rintro w1 ⟨r0, r1, r3⟩
  have R0 := Lib.hid r0
  have R1 := Lib.hid r1
  have R3 := Lib.hid r3
  clear r0 r1 r3
  go_upto_region 3 with (first
    | (refine wpList_load_row rfl 51 _ rfl _ rfl 51 _ _ _ R1.out Try.underlying51 rfl (info51 t _ Ht.out.tag) ?_)
    | (go_at_call 75; refine (refMay_any Ht.out (H.out.below R3.out)).mono ?_; rintro e w2 ⟨rfl, hb⟩; rw [Hm.out]; have Hb := Lib.hid hb; clear hb))
  have T1 : Hid (∀ w', Below w1.heap.size w1 w' → w'.heap[w.heap.size + 1]? = some (.cells (tokRow t (.slice r cs.length cap)) 51 (0, 0))) := Lib.hid fun w' hw => (hw.block _ (heap_lt R1.out)).trans R1.out
  have K0 : Hid (∀ w', Below w1.heap.size w1 w' → w'.heap[w.heap.size]? = some (.cells (row8 key) 31 (0, 0))) := Lib.hid fun w' hw => (hw.block _ (heap_lt R0.out)).trans R0.out
  have hcd : Below w1.heap.size w1 w2.drew := Hb.out.drew
  refine region_k (fun w' => Below w1.heap.size w1 w') (by kernel_rfl) hcd (fun Kr hKr => ?_)
  refine g_quiet hcd 0 12 (.agg (row8 key)) (by kernel_rfl) (by kernel_rfl) (by kernel_rfl) (by kernel_rfl) (fun w2 hw2 => load_hy (x := .tmp 3) (by kernel_rfl) w.heap.size 0 key Hk.out (by kernel_rfl) w2 (fun j hj => by rw [Nat.zero_add]; exact cell_row (K0.out w2 hw2) (row8_at key j (by rw [Hk.out]; exact hj)))) ?_
  refine g_quiet hcd 1 13 (.agg (tokRow t (.slice r cs.length cap))) (by kernel_rfl) (by kernel_rfl) (by kernel_rfl) (by kernel_rfl) (fun w2 hw2 => load51_hy (.tmp 4) (by kernel_rfl) (w.heap.size + 1) t _ Ht.out.tag (by kernel_rfl) _ (T1.out w2 hw2)) ?_
  refine g_quiet hcd 3 15 (.pointer (some ⟨w.heap.size + 1, 6, none⟩)) (by kernel_rfl) (by kernel_rfl) (by kernel_rfl) (by kernel_rfl) (fun w2 hw2 => by go_simp) ?_
  refine g_quiet hcd 4 16 (.agg (row8 t.tag)) (by kernel_rfl) (by kernel_rfl) (by kernel_rfl) (by kernel_rfl) (fun w2 hw2 => load_hy (x := .tmp 15) (by kernel_rfl) (w.heap.size + 1) 6 t.tag Ht.out.tag (by kernel_rfl) w2 (fun j hj => cell_row (T1.out w2 hw2) (tokRow_tag t _ j (by rw [Ht.out.tag]; exact hj)))) ?_
  simp only [Act.put, List.setIfInBounds_toArray, List.set_cons_succ, List.set_cons_zero]
  refine m_pick 2 (by kernel_rfl) (g_call (d := 14) 93 #[.agg (row8 key), .agg (tokRow t (.slice r cs.length cap))] (by kernel_rfl) (by kernel_rfl) ((refTag_any Hk.out Ht.out ((H.out.below R3.out).below hcd) Hs.out).mono ?_))
  rintro e w3 ⟨rfl, hb3⟩
  rw [← HS.out]
  replace hcd := below_seq hcd hb3
  clear hb3
  refine ⟨_, rfl, hcd, ?_⟩
  simp only [Act.put, List.setIfInBounds_toArray, List.set_cons_succ, List.set_cons_zero]
  have hsl := HSl.out
  have htl := Ht.out.tag
  refine g_quiet hcd 5 17 (.bool (!(S == t.tag))) (by kernel_rfl) (by kernel_rfl) (by kernel_rfl) (by kernel_rfl) (fun w2 hw2 => by go_simp) ?_
  clear hsl htl
  refine m_end (by kernel_rfl) ?_
  simp only [Act.put, List.setIfInBounds_toArray, List.set_cons_succ, List.set_cons_zero]
  have Hcd := Lib.hid hcd
  have T1c := Lib.hid (T1.out _ hcd)
  clear hcd
  by_cases hST : S = t.tag
  · have hb : (!(S == t.tag)) = false := by simp [hST]
    rw [hb]
    have HC2 : Hid (C = if now < t.f ∨ E.2 ≤ now then 14 else 0) := Lib.hid (by rw [HC.out, if_neg (by simpa using hST)])
    clear hb hST HC
    go_upto_region 6 with (first
      | (refine wpList_load_row rfl 51 _ rfl _ rfl 51 _ _ _ T1c.out Try.underlying51 rfl (info51 t _ Ht.out.tag) ?_)
      | (go_at_call 74; refine (refEffect_any Ht.out (H.out.below (below_seq R3.out Hcd.out))).mono ?_; rintro e w5 ⟨rfl, hb⟩; rw [← HE.out]; have c3 := (tok_in (T1.out _ (below_seq Hcd.out hb)) Ht.out.tag).c3; have Hb5 := Lib.hid hb; clear hb))
    have hB : Hid (Below w.heap.size w w5) := Lib.hid (below_seq R3.out (below_seq Hcd.out Hb5.out))
    by_cases h1 : now < t.f
    · obtain rfl : C = 14 := by rw [HC2.out, if_pos (Or.inl h1)]
      clear HC2
      go_wp2
      go_ret
      exact ⟨rfl, hB.out⟩
    · by_cases h2 : E.2 ≤ now
      · obtain rfl : C = 14 := by rw [HC2.out, if_pos (Or.inr h2)]
        clear HC2
        go_wp2
        go_ret
        exact ⟨rfl, hB.out⟩
      · obtain rfl : C = 0 := by rw [HC2.out, if_neg (by omega)]
        clear HC2
        go_wp2
        go_ret
        exact ⟨rfl, hB.out⟩
  · have hb : (!(S == t.tag)) = true := by simp [hST]
    rw [hb]
    obtain rfl : C = 13 := by rw [HC.out, if_pos hST]
    clear hb hST HC
    go_wp2
    go_ret
    exact ⟨rfl, below_seq R3.out Hcd.out⟩
end Go.Proofs.Ytafakjdolnigaaa
