/- cap.Check. Printed by gen_check.py (the region whose alloc may come at any time). cofferlaw14.begun answers true. -/
import Derived.Deep.DeepCutAuto
import Derived.Test.YtafakjdolnigaaaGTok
namespace Go.Proofs.Ytafakjdolnigaaa
open Go.RowKit
set_option linter.unusedVariables false

theorem alloc31' : ∀ w : World, (Instr.alloc 31 true (.tuple #[])).run Try.prog w = .ok (.pointer (some ⟨w.heap.size, 0, none⟩)) (w.alloc (.cells (row8 zero32) 31)) := alloc31
/-- P14.3. -/
noncomputable def checkOf (key : List UInt8) (t : Tok) (cs : List (UInt8 × Int)) (now : Int) : Int :=
  if mayOk t cs = false then 1 else if onOf (macOf key [headOf t]) cs ≠ t.tag then 13 else if now < t.f ∨ (effOf t.r t.u cs).2 ≤ now then 14 else 0

set_option maxRecDepth 100000 in
set_option maxHeartbeats 4000000 in
theorem check_bad {w : World} {key : List UInt8} {t : Tok} {r : Option Addr} {len cap : Nat} {cs : List (UInt8 × Int)} {now : Int} (ht : t.Ok) (h : CavsAt w r len cap cs) (hm : mayOk t cs = false) :
    Calls Try.prog 49 #[.agg (row8 key), .agg (tokRow t (.slice r len cap)), .int .i64 now] w fun e w' => e = .returned (.int .i64 1) ∧ Below w.heap.size w w' := by
  have Ht := Lib.hid ht
  have H := Lib.hid h
  have Hm := Lib.hid hm
  clear ht h hm
  go_enter Try.func49, Try.ntmps49
  go_upto_region 1 with (first
    | (refine wpList_box rfl 31 _ rfl _ rfl ?_)
    | (refine wpList_box rfl 51 _ rfl (tokRow _ _) rfl ?_))
  have r0 : ((w.alloc (.cells (row8 key) 31)).alloc (.cells (tokRow t (.slice r len cap)) 51)).heap[w.heap.size + 1]? = some (.cells (tokRow t (.slice r len cap)) 51 (0, 0)) := heap_alloc2_new _ _ _
  refine abstract_world (fun W => W.heap[w.heap.size + 1]? = some (.cells (tokRow t (.slice r len cap)) 51 (0, 0)) ∧ Below w.heap.size w W) ⟨r0, below_seq (below_one _ _) (below_one _ _)⟩ ?_
  clear r0
  rintro w1 ⟨r0, r1⟩
  have R0 := Lib.hid r0
  have R1 := Lib.hid r1
  clear r0 r1
  go_wp2_with (first
    | (refine wpList_load_row rfl 51 _ rfl _ rfl 51 _ _ _ R0.out Try.underlying51 rfl (info51 t _ Ht.out.tag) ?_)
    | (go_at_call 43; refine (may_any Ht.out (H.out.below R1.out)).mono ?_; rintro e w2 ⟨rfl, hb⟩; rw [Hm.out]; have Hb := Lib.hid hb; clear hb))
  go_ret
  exact ⟨rfl, below_seq R1.out Hb.out⟩

set_option maxRecDepth 100000 in
set_option maxHeartbeats 16000000 in
theorem check_good {w : World} {key : List UInt8} {t : Tok} {r : Option Addr} {len cap : Nat} {cs : List (UInt8 × Int)} {now : Int} (hk : key.length = 32) (ht : t.Ok) (h : CavsAt w r len cap cs) (hm : mayOk t cs = true) :
    Calls Try.prog 49 #[.agg (row8 key), .agg (tokRow t (.slice r len cap)), .int .i64 now] w fun e w' => e = .returned (.int .i64 (checkOf key t cs now)) ∧ Below w.heap.size w w' := by
  have hcl := h.hlen
  subst hcl
  obtain ⟨A, hA⟩ : ∃ A, A = headOf t := ⟨_, rfl⟩
  obtain ⟨T, hT⟩ : ∃ T, T = macOf key [A] := ⟨_, rfl⟩
  obtain ⟨S, hS⟩ : ∃ S, S = onOf T cs := ⟨_, rfl⟩
  obtain ⟨n5, hn5⟩ : ∃ n, A.length = n := ⟨_, rfl⟩
  have hTl : T.length = 32 := by rw [hT]; exact macOf_length _ _
  have hSl : S.length = 32 := by rw [hS]; exact onOf_length _ _ hTl
  have hAl : n5 ≤ 42 := by rw [← hn5, hA, headOf_length]; have := mayOk_size hm; omega
  obtain ⟨E, hE⟩ : ∃ E, E = effOf t.r t.u cs := ⟨_, rfl⟩
  obtain ⟨C, hC⟩ : ∃ C, C = checkOf key t cs now := ⟨_, rfl⟩
  rw [← hC]
  have hc : C = if S ≠ t.tag then 13 else if now < t.f ∨ E.2 ≤ now then 14 else 0 := by
    rw [hC]
    unfold checkOf
    rw [if_neg (by rw [hm]; decide), hS, hT, hA, hE]
  have HC := Lib.hid hc
  have Hs := Lib.hid (mayOk_size hm)
  have HA := Lib.hid hA
  have HT := Lib.hid hT
  have HS := Lib.hid hS
  have HE := Lib.hid hE
  have Hn5 := Lib.hid hn5
  have HTl := Lib.hid hTl
  have HSl := Lib.hid hSl
  have HAl := Lib.hid (show A.length ≤ 42 by omega)
  have Ht := Lib.hid ht
  have H := Lib.hid h
  have Hm := Lib.hid hm
  have Hk := Lib.hid hk
  clear ht h hm hA hT hS hTl hSl hk hc hn5 hE hC
  go_enter Try.func49, Try.ntmps49
  go_upto_region 1 with (first
    | (refine wpList_box rfl 31 _ rfl _ rfl ?_)
    | (refine wpList_box rfl 51 _ rfl (tokRow _ _) rfl ?_))
  have r0 : ((w.alloc (.cells (row8 key) 31)).alloc (.cells (tokRow t (.slice r cs.length cap)) 51)).heap[w.heap.size]? = some (.cells (row8 key) 31 (0, 0)) := heap_alloc2_old _ _ _
  have r1 : ((w.alloc (.cells (row8 key) 31)).alloc (.cells (tokRow t (.slice r cs.length cap)) 51)).heap[w.heap.size + 1]? = some (.cells (tokRow t (.slice r cs.length cap)) 51 (0, 0)) := heap_alloc2_new _ _ _
  refine abstract_world (fun W => W.heap[w.heap.size]? = some (.cells (row8 key) 31 (0, 0)) ∧ W.heap[w.heap.size + 1]? = some (.cells (tokRow t (.slice r cs.length cap)) 51 (0, 0)) ∧ Below w.heap.size w W) ⟨r0, r1, below_seq (below_one _ _) (below_one _ _)⟩ ?_
  clear r0 r1
  rintro w1 ⟨r0, r1, r3⟩
  have R0 := Lib.hid r0
  have R1 := Lib.hid r1
  have R3 := Lib.hid r3
  clear r0 r1 r3
  go_upto_region 3 with (first
    | (refine wpList_load_row rfl 51 _ rfl _ rfl 51 _ _ _ R1.out Try.underlying51 rfl (info51 t _ Ht.out.tag) ?_)
    | (go_at_call 43; refine (may_any Ht.out (H.out.below R3.out)).mono ?_; rintro e w2 ⟨rfl, hb⟩; rw [Hm.out]; have Hb := Lib.hid hb; clear hb))
  have T1 : Hid (∀ w', Below w1.heap.size w1 w' → w'.heap[w.heap.size + 1]? = some (.cells (tokRow t (.slice r cs.length cap)) 51 (0, 0))) := Lib.hid fun w' hw => (hw.block _ (heap_lt R1.out)).trans R1.out
  have K0 : Hid (∀ w', Below w1.heap.size w1 w' → BytesAt w' (some ⟨w.heap.size, 0, none⟩) 32 32 key) := Lib.hid fun w' hw => bytes_of_row ((hw.block _ (heap_lt R0.out)).trans R0.out) Hk.out (by unfold maxLen; omega)
  go_cut [7] from 13 to 39 (fun v7 wx => ∃ g, v7 = .pointer (some ⟨g, 0, none⟩) ∧ wx.heap[g]? = some (.cells (row8 S) 31 (0, 0)) ∧ Below w1.heap.size w1 wx)
  case first =>
    have hcd : Below w1.heap.size w1 w2.drew := Hb.out.drew
    refine region_k (fun w' => Below w1.heap.size w1 w') (by kernel_rfl) hcd (fun Kr hKr => ?_)
    refine g_quiet hcd 0 13 (.slice (some ⟨w.heap.size, 0, none⟩) 32 32) (by kernel_rfl) (by kernel_rfl) (by kernel_rfl) (by kernel_rfl) (fun w2 hw2 => by go_simp) ?_
    refine g_quiet hcd 1 14 (.agg (tokRow t (.slice r cs.length cap))) (by kernel_rfl) (by kernel_rfl) (by kernel_rfl) (by kernel_rfl) (fun w2 hw2 => load51_hy (.tmp 4) (by kernel_rfl) (w.heap.size + 1) t _ Ht.out.tag (by kernel_rfl) _ (T1.out w2 hw2)) ?_
    refine g_quiet hcd 5 18 (.pointer (some ⟨w.heap.size + 1, 5, none⟩)) (by kernel_rfl) (by kernel_rfl) (by kernel_rfl) (by kernel_rfl) (fun w2 hw2 => by go_simp) ?_
    refine g_quiet hcd 6 19 (.slice r cs.length cap) (by kernel_rfl) (by kernel_rfl) (by kernel_rfl) (by kernel_rfl) (fun w2 hw2 => by have c := (tok_in (T1.out w2 hw2) Ht.out.tag).c5; go_simp) ?_
    simp only [Act.put, List.setIfInBounds_toArray, List.set_cons_succ, List.set_cons_zero]
    refine m_pick2 2 8 (by kernel_rfl) ?_ ?_
    · skip
      refine (g_call (d := 15) 85 #[.agg (tokRow t (.slice r cs.length cap))] (by kernel_rfl) (by kernel_rfl) ((head_any _ t _ Ht.out (by have := Hs.out; omega)).mono ?_))
      rintro e w5 ⟨v5, rfl, ho, hb5⟩
      rw [← HA.out] at ho
      obtain ⟨r5, c5, rfl, hB5, _⟩ := ho.at_len n5 Hn5.out
      have h5 := below_seq hcd hb5
      refine ⟨_, rfl, h5, ?_⟩
      simp only [Act.put, List.setIfInBounds_toArray, List.set_cons_succ, List.set_cons_zero]
      refine m_pick2 3 8 (by kernel_rfl) ?_ ?_
      · skip
        refine (g_val (d := 16) (.slice (some ⟨w5.heap.size, 0, none⟩) 1 1) (w5.alloc (.cells #[.slice r5 n5 c5] 29)) (by kernel_rfl) (by kernel_rfl) ?_)
        have h6 := below_seq h5 (below_one w5 (.cells #[.slice r5 n5 c5] 29))
        have hP := parts_one hB5 (w5.heap.size) rfl
        obtain ⟨k6, hk6⟩ : ∃ k, k = w5.heap.size := ⟨_, rfl⟩
        obtain ⟨w6, hw6⟩ : ∃ x, x = w5.alloc (.cells #[.slice r5 n5 c5] 29) := ⟨_, rfl⟩
        rw [← hk6, ← hw6] at hP
        rw [← hw6] at h6
        rw [← hk6, ← hw6]
        refine ⟨h6, ?_⟩
        simp only [Act.put, List.setIfInBounds_toArray, List.set_cons_succ, List.set_cons_zero]
        refine m_pick2 4 8 (by kernel_rfl) ?_ ?_
        · skip
          refine (g_call (d := 17) 56 #[.slice (some ⟨w.heap.size, 0, none⟩) 32 32, .slice (some ⟨k6, 0, none⟩) 1 1] (by kernel_rfl) (by kernel_rfl) ((macOf_any (K0.out _ h6) hP (by omega) (by omega) (by have := HAl.out; simp; omega)).mono ?_))
          rintro e w7 ⟨rfl, hb7⟩
          rw [← HT.out]
          have h7 := below_seq h6 hb7
          refine ⟨_, rfl, h7, ?_⟩
          simp only [Act.put, List.setIfInBounds_toArray, List.set_cons_succ, List.set_cons_zero]
          refine m_pick2 7 8 (by kernel_rfl) ?_ ?_
          · skip
            refine (g_call (d := 20) 92 #[.agg (row8 T), .slice r cs.length cap] (by kernel_rfl) (by kernel_rfl) ((on_any HTl.out ((H.out.below R3.out).below h7)).mono ?_))
            rintro e w8 ⟨rfl, hb8⟩
            rw [← HS.out]
            have h8 := below_seq h7 hb8
            refine ⟨_, rfl, h8, ?_⟩
            simp only [Act.put, List.setIfInBounds_toArray, List.set_cons_succ, List.set_cons_zero]
            refine m_pick 8 (by kernel_rfl) ?_
            refine (g_val (d := 7) (.pointer (some ⟨w8.heap.size, 0, none⟩)) (w8.alloc (.cells (row8 zero32) 31)) (by kernel_rfl) (by kernel_rfl) ?_)
            have h9 := below_seq h8 (below_one w8 (.cells (row8 zero32) 31))
            have hG := heap_alloc_new w8 (.cells (row8 zero32) 31)
            have hgs := h8.size
            obtain ⟨g9, hg9⟩ : ∃ k, k = w8.heap.size := ⟨_, rfl⟩
            obtain ⟨w9, hw9⟩ : ∃ x, x = w8.alloc (.cells (row8 zero32) 31) := ⟨_, rfl⟩
            rw [← hg9, ← hw9] at hG
            rw [← hw9] at h9
            rw [← hg9] at hgs
            rw [← hg9, ← hw9]
            refine ⟨h9, ?_⟩
            simp only [Act.put, List.setIfInBounds_toArray, List.set_cons_succ, List.set_cons_zero]
            refine m_pick 9 (by kernel_rfl) (step_store_row 31 (.tmp 7) (.tmp 20) (by kernel_rfl) g9 (row8 S) (by kernel_rfl) (by kernel_rfl) 31 (row8 zero32) hG (info31 _ HSl.out) (by rw [row8_size, row8_size, HSl.out]; rfl) (row8_one _) ?_)
            have hE := below_row h9 hgs (row8 S)
            refine ⟨hE, ?_⟩
            refine m_end (by kernel_rfl) ?_
            have hG := setRow_heap _ _ _ (row8 S) _ _ hG
            obtain ⟨wE, hwE⟩ : ∃ x, x = w9.setRow g9 (row8 S) := ⟨_, rfl⟩
            rw [← hwE] at hE hG
            rw [← hwE]
            go_wp2
            go_meet
            exact ⟨g9, rfl, hG, hE⟩
          · skip
            refine (g_val (d := 7) (.pointer (some ⟨w7.heap.size, 0, none⟩)) (w7.alloc (.cells (row8 zero32) 31)) (by kernel_rfl) (by kernel_rfl) ?_)
            have h9 := below_seq h7 (below_one w7 (.cells (row8 zero32) 31))
            have hG := heap_alloc_new w7 (.cells (row8 zero32) 31)
            have hgs := h7.size
            obtain ⟨g9, hg9⟩ : ∃ k, k = w7.heap.size := ⟨_, rfl⟩
            obtain ⟨w9, hw9⟩ : ∃ x, x = w7.alloc (.cells (row8 zero32) 31) := ⟨_, rfl⟩
            rw [← hg9, ← hw9] at hG
            rw [← hw9] at h9
            rw [← hg9] at hgs
            rw [← hg9, ← hw9]
            refine ⟨h9, ?_⟩
            simp only [Act.put, List.setIfInBounds_toArray, List.set_cons_succ, List.set_cons_zero]
            refine m_pick 7 (by kernel_rfl) ?_
            refine (g_call (d := 20) 92 #[.agg (row8 T), .slice r cs.length cap] (by kernel_rfl) (by kernel_rfl) ((on_any HTl.out ((H.out.below R3.out).below h9)).mono ?_))
            rintro e w8 ⟨rfl, hb8⟩
            rw [← HS.out]
            have h8 := below_seq h9 hb8
            have hG := (hb8.block _ (heap_lt hG)).trans hG
            refine ⟨_, rfl, h8, ?_⟩
            simp only [Act.put, List.setIfInBounds_toArray, List.set_cons_succ, List.set_cons_zero]
            refine m_pick 9 (by kernel_rfl) (step_store_row 31 (.tmp 7) (.tmp 20) (by kernel_rfl) g9 (row8 S) (by kernel_rfl) (by kernel_rfl) 31 (row8 zero32) hG (info31 _ HSl.out) (by rw [row8_size, row8_size, HSl.out]; rfl) (row8_one _) ?_)
            have hE := below_row h8 hgs (row8 S)
            refine ⟨hE, ?_⟩
            refine m_end (by kernel_rfl) ?_
            have hG := setRow_heap _ _ _ (row8 S) _ _ hG
            obtain ⟨wE, hwE⟩ : ∃ x, x = w8.setRow g9 (row8 S) := ⟨_, rfl⟩
            rw [← hwE] at hE hG
            rw [← hwE]
            go_wp2
            go_meet
            exact ⟨g9, rfl, hG, hE⟩
        · skip
          refine (g_val (d := 7) (.pointer (some ⟨w6.heap.size, 0, none⟩)) (w6.alloc (.cells (row8 zero32) 31)) (by kernel_rfl) (by kernel_rfl) ?_)
          have h9 := below_seq h6 (below_one w6 (.cells (row8 zero32) 31))
          have hG := heap_alloc_new w6 (.cells (row8 zero32) 31)
          have hgs := h6.size
          have hP := hP.below (below_one w6 (.cells (row8 zero32) 31))
          obtain ⟨g9, hg9⟩ : ∃ k, k = w6.heap.size := ⟨_, rfl⟩
          obtain ⟨w9, hw9⟩ : ∃ x, x = w6.alloc (.cells (row8 zero32) 31) := ⟨_, rfl⟩
          rw [← hg9, ← hw9] at hG
          rw [← hw9] at h9
          rw [← hw9] at hP
          rw [← hg9] at hgs
          rw [← hg9, ← hw9]
          refine ⟨h9, ?_⟩
          simp only [Act.put, List.setIfInBounds_toArray, List.set_cons_succ, List.set_cons_zero]
          refine m_pick 4 (by kernel_rfl) ?_
          refine (g_call (d := 17) 56 #[.slice (some ⟨w.heap.size, 0, none⟩) 32 32, .slice (some ⟨k6, 0, none⟩) 1 1] (by kernel_rfl) (by kernel_rfl) ((macOf_any (K0.out _ h9) hP (by omega) (by omega) (by have := HAl.out; simp; omega)).mono ?_))
          rintro e w7 ⟨rfl, hb7⟩
          rw [← HT.out]
          have h7 := below_seq h9 hb7
          have hG := (hb7.block _ (heap_lt hG)).trans hG
          refine ⟨_, rfl, h7, ?_⟩
          simp only [Act.put, List.setIfInBounds_toArray, List.set_cons_succ, List.set_cons_zero]
          refine m_pick 7 (by kernel_rfl) ?_
          refine (g_call (d := 20) 92 #[.agg (row8 T), .slice r cs.length cap] (by kernel_rfl) (by kernel_rfl) ((on_any HTl.out ((H.out.below R3.out).below h7)).mono ?_))
          rintro e w8 ⟨rfl, hb8⟩
          rw [← HS.out]
          have h8 := below_seq h7 hb8
          have hG := (hb8.block _ (heap_lt hG)).trans hG
          refine ⟨_, rfl, h8, ?_⟩
          simp only [Act.put, List.setIfInBounds_toArray, List.set_cons_succ, List.set_cons_zero]
          refine m_pick 9 (by kernel_rfl) (step_store_row 31 (.tmp 7) (.tmp 20) (by kernel_rfl) g9 (row8 S) (by kernel_rfl) (by kernel_rfl) 31 (row8 zero32) hG (info31 _ HSl.out) (by rw [row8_size, row8_size, HSl.out]; rfl) (row8_one _) ?_)
          have hE := below_row h8 hgs (row8 S)
          refine ⟨hE, ?_⟩
          refine m_end (by kernel_rfl) ?_
          have hG := setRow_heap _ _ _ (row8 S) _ _ hG
          obtain ⟨wE, hwE⟩ : ∃ x, x = w8.setRow g9 (row8 S) := ⟨_, rfl⟩
          rw [← hwE] at hE hG
          rw [← hwE]
          go_wp2
          go_meet
          exact ⟨g9, rfl, hG, hE⟩
      · skip
        refine (g_val (d := 7) (.pointer (some ⟨w5.heap.size, 0, none⟩)) (w5.alloc (.cells (row8 zero32) 31)) (by kernel_rfl) (by kernel_rfl) ?_)
        have h9 := below_seq h5 (below_one w5 (.cells (row8 zero32) 31))
        have hG := heap_alloc_new w5 (.cells (row8 zero32) 31)
        have hgs := h5.size
        have hB5 := hB5.below (below_one w5 (.cells (row8 zero32) 31))
        obtain ⟨g9, hg9⟩ : ∃ k, k = w5.heap.size := ⟨_, rfl⟩
        obtain ⟨w9, hw9⟩ : ∃ x, x = w5.alloc (.cells (row8 zero32) 31) := ⟨_, rfl⟩
        rw [← hg9, ← hw9] at hG
        rw [← hw9] at h9
        rw [← hw9] at hB5
        rw [← hg9] at hgs
        rw [← hg9, ← hw9]
        refine ⟨h9, ?_⟩
        simp only [Act.put, List.setIfInBounds_toArray, List.set_cons_succ, List.set_cons_zero]
        refine m_pick 3 (by kernel_rfl) ?_
        refine (g_val (d := 16) (.slice (some ⟨w9.heap.size, 0, none⟩) 1 1) (w9.alloc (.cells #[.slice r5 n5 c5] 29)) (by kernel_rfl) (by kernel_rfl) ?_)
        have h6 := below_seq h9 (below_one w9 (.cells #[.slice r5 n5 c5] 29))
        have hP := parts_one hB5 (w9.heap.size) rfl
        obtain ⟨k6, hk6⟩ : ∃ k, k = w9.heap.size := ⟨_, rfl⟩
        have hG := ((below_one w9 (.cells #[.slice r5 n5 c5] 29)).block _ (heap_lt hG)).trans hG
        obtain ⟨w6, hw6⟩ : ∃ x, x = w9.alloc (.cells #[.slice r5 n5 c5] 29) := ⟨_, rfl⟩
        rw [← hk6, ← hw6] at hP
        rw [← hw6] at h6
        rw [← hw6] at hG
        rw [← hk6, ← hw6]
        refine ⟨h6, ?_⟩
        simp only [Act.put, List.setIfInBounds_toArray, List.set_cons_succ, List.set_cons_zero]
        refine m_pick 4 (by kernel_rfl) ?_
        refine (g_call (d := 17) 56 #[.slice (some ⟨w.heap.size, 0, none⟩) 32 32, .slice (some ⟨k6, 0, none⟩) 1 1] (by kernel_rfl) (by kernel_rfl) ((macOf_any (K0.out _ h6) hP (by omega) (by omega) (by have := HAl.out; simp; omega)).mono ?_))
        rintro e w7 ⟨rfl, hb7⟩
        rw [← HT.out]
        have h7 := below_seq h6 hb7
        have hG := (hb7.block _ (heap_lt hG)).trans hG
        refine ⟨_, rfl, h7, ?_⟩
        simp only [Act.put, List.setIfInBounds_toArray, List.set_cons_succ, List.set_cons_zero]
        refine m_pick 7 (by kernel_rfl) ?_
        refine (g_call (d := 20) 92 #[.agg (row8 T), .slice r cs.length cap] (by kernel_rfl) (by kernel_rfl) ((on_any HTl.out ((H.out.below R3.out).below h7)).mono ?_))
        rintro e w8 ⟨rfl, hb8⟩
        rw [← HS.out]
        have h8 := below_seq h7 hb8
        have hG := (hb8.block _ (heap_lt hG)).trans hG
        refine ⟨_, rfl, h8, ?_⟩
        simp only [Act.put, List.setIfInBounds_toArray, List.set_cons_succ, List.set_cons_zero]
        refine m_pick 9 (by kernel_rfl) (step_store_row 31 (.tmp 7) (.tmp 20) (by kernel_rfl) g9 (row8 S) (by kernel_rfl) (by kernel_rfl) 31 (row8 zero32) hG (info31 _ HSl.out) (by rw [row8_size, row8_size, HSl.out]; rfl) (row8_one _) ?_)
        have hE := below_row h8 hgs (row8 S)
        refine ⟨hE, ?_⟩
        refine m_end (by kernel_rfl) ?_
        have hG := setRow_heap _ _ _ (row8 S) _ _ hG
        obtain ⟨wE, hwE⟩ : ∃ x, x = w8.setRow g9 (row8 S) := ⟨_, rfl⟩
        rw [← hwE] at hE hG
        rw [← hwE]
        go_wp2
        go_meet
        exact ⟨g9, rfl, hG, hE⟩
    · skip
      refine (g_val (d := 7) (.pointer (some ⟨w2.drew.heap.size, 0, none⟩)) (w2.drew.alloc (.cells (row8 zero32) 31)) (by kernel_rfl) (by kernel_rfl) ?_)
      have h9 := below_seq hcd (below_one w2.drew (.cells (row8 zero32) 31))
      have hG := heap_alloc_new w2.drew (.cells (row8 zero32) 31)
      have hgs := hcd.size
      obtain ⟨g9, hg9⟩ : ∃ k, k = w2.drew.heap.size := ⟨_, rfl⟩
      obtain ⟨w9, hw9⟩ : ∃ x, x = w2.drew.alloc (.cells (row8 zero32) 31) := ⟨_, rfl⟩
      rw [← hg9, ← hw9] at hG
      rw [← hw9] at h9
      rw [← hg9] at hgs
      rw [← hg9, ← hw9]
      refine ⟨h9, ?_⟩
      simp only [Act.put, List.setIfInBounds_toArray, List.set_cons_succ, List.set_cons_zero]
      refine m_pick 2 (by kernel_rfl) ?_
      refine (g_call (d := 15) 85 #[.agg (tokRow t (.slice r cs.length cap))] (by kernel_rfl) (by kernel_rfl) ((head_any _ t _ Ht.out (by have := Hs.out; omega)).mono ?_))
      rintro e w5 ⟨v5, rfl, ho, hb5⟩
      rw [← HA.out] at ho
      obtain ⟨r5, c5, rfl, hB5, _⟩ := ho.at_len n5 Hn5.out
      have h5 := below_seq h9 hb5
      have hG := (hb5.block _ (heap_lt hG)).trans hG
      refine ⟨_, rfl, h5, ?_⟩
      simp only [Act.put, List.setIfInBounds_toArray, List.set_cons_succ, List.set_cons_zero]
      refine m_pick 3 (by kernel_rfl) ?_
      refine (g_val (d := 16) (.slice (some ⟨w5.heap.size, 0, none⟩) 1 1) (w5.alloc (.cells #[.slice r5 n5 c5] 29)) (by kernel_rfl) (by kernel_rfl) ?_)
      have h6 := below_seq h5 (below_one w5 (.cells #[.slice r5 n5 c5] 29))
      have hP := parts_one hB5 (w5.heap.size) rfl
      obtain ⟨k6, hk6⟩ : ∃ k, k = w5.heap.size := ⟨_, rfl⟩
      have hG := ((below_one w5 (.cells #[.slice r5 n5 c5] 29)).block _ (heap_lt hG)).trans hG
      obtain ⟨w6, hw6⟩ : ∃ x, x = w5.alloc (.cells #[.slice r5 n5 c5] 29) := ⟨_, rfl⟩
      rw [← hk6, ← hw6] at hP
      rw [← hw6] at h6
      rw [← hw6] at hG
      rw [← hk6, ← hw6]
      refine ⟨h6, ?_⟩
      simp only [Act.put, List.setIfInBounds_toArray, List.set_cons_succ, List.set_cons_zero]
      refine m_pick 4 (by kernel_rfl) ?_
      refine (g_call (d := 17) 56 #[.slice (some ⟨w.heap.size, 0, none⟩) 32 32, .slice (some ⟨k6, 0, none⟩) 1 1] (by kernel_rfl) (by kernel_rfl) ((macOf_any (K0.out _ h6) hP (by omega) (by omega) (by have := HAl.out; simp; omega)).mono ?_))
      rintro e w7 ⟨rfl, hb7⟩
      rw [← HT.out]
      have h7 := below_seq h6 hb7
      have hG := (hb7.block _ (heap_lt hG)).trans hG
      refine ⟨_, rfl, h7, ?_⟩
      simp only [Act.put, List.setIfInBounds_toArray, List.set_cons_succ, List.set_cons_zero]
      refine m_pick 7 (by kernel_rfl) ?_
      refine (g_call (d := 20) 92 #[.agg (row8 T), .slice r cs.length cap] (by kernel_rfl) (by kernel_rfl) ((on_any HTl.out ((H.out.below R3.out).below h7)).mono ?_))
      rintro e w8 ⟨rfl, hb8⟩
      rw [← HS.out]
      have h8 := below_seq h7 hb8
      have hG := (hb8.block _ (heap_lt hG)).trans hG
      refine ⟨_, rfl, h8, ?_⟩
      simp only [Act.put, List.setIfInBounds_toArray, List.set_cons_succ, List.set_cons_zero]
      refine m_pick 9 (by kernel_rfl) (step_store_row 31 (.tmp 7) (.tmp 20) (by kernel_rfl) g9 (row8 S) (by kernel_rfl) (by kernel_rfl) 31 (row8 zero32) hG (info31 _ HSl.out) (by rw [row8_size, row8_size, HSl.out]; rfl) (row8_one _) ?_)
      have hE := below_row h8 hgs (row8 S)
      refine ⟨hE, ?_⟩
      refine m_end (by kernel_rfl) ?_
      have hG := setRow_heap _ _ _ (row8 S) _ _ hG
      obtain ⟨wE, hwE⟩ : ∃ x, x = w8.setRow g9 (row8 S) := ⟨_, rfl⟩
      rw [← hwE] at hE hG
      rw [← hwE]
      go_wp2
      go_meet
      exact ⟨g9, rfl, hG, hE⟩
  case rest =>
    obtain ⟨g, rfl, hg, hbx⟩ := hcut
    have G : Hid (∀ w', Below wc.heap.size wc w' → BytesAt w' (some ⟨g, 0, none⟩) 32 32 S) := Lib.hid fun w' hw => bytes_of_row ((hw.block _ (heap_lt hg)).trans hg) HSl.out (by unfold maxLen; omega)
    have X : Hid (∀ w', Below wc.heap.size wc w' → TokIn w' (w.heap.size + 1) t (.slice r cs.length cap)) := Lib.hid fun w' hw => tok_in (T1.out w' (below_seq hbx hw)) Ht.out.tag
    have Hbx := Lib.hid hbx
    have R1c := Lib.hid (T1.out wc hbx)
    clear hg hbx
    go_upto_region 4 with (fail)
    have hcd : Below wc.heap.size wc wc.drew := (Below.refl _ _).drew
    refine region_k (fun w' => Below wc.heap.size wc w') (by kernel_rfl) hcd (fun Kr hKr => ?_)
    refine g_quiet hcd 0 21 (.slice (some ⟨g, 0, none⟩) 32 32) (by kernel_rfl) (by kernel_rfl) (by kernel_rfl) (by kernel_rfl) (fun w2 hw2 => by go_simp) ?_
    refine g_quiet hcd 1 22 (.pointer (some ⟨w.heap.size + 1, 6, none⟩)) (by kernel_rfl) (by kernel_rfl) (by kernel_rfl) (by kernel_rfl) (fun w2 hw2 => by go_simp) ?_
    refine g_quiet hcd 2 23 (.slice (some ⟨w.heap.size + 1, 6, none⟩) 32 32) (by kernel_rfl) (by kernel_rfl) (by kernel_rfl) (by kernel_rfl) (fun w2 hw2 => by go_simp) ?_
    simp only [Act.put, List.setIfInBounds_toArray, List.set_cons_succ, List.set_cons_zero]
    refine m_pick 3 (by kernel_rfl) (g_call (d := 24) 52 #[.slice (some ⟨g, 0, none⟩) 32 32, .slice (some ⟨w.heap.size + 1, 6, none⟩) 32 32] (by kernel_rfl) (by kernel_rfl) ((equal_any (G.out _ hcd) (X.out _ hcd).tag).mono ?_))
    rintro e w3 ⟨rfl, hb3⟩
    replace hcd := below_seq hcd hb3
    clear hb3
    refine ⟨_, rfl, hcd, ?_⟩
    simp only [Act.put, List.setIfInBounds_toArray, List.set_cons_succ, List.set_cons_zero]
    refine g_quiet hcd 4 25 (.bool (!(S == t.tag))) (by kernel_rfl) (by kernel_rfl) (by kernel_rfl) (by kernel_rfl) (fun w2 hw2 => by go_simp) ?_
    refine m_end (by kernel_rfl) ?_
    simp only [Act.put, List.setIfInBounds_toArray, List.set_cons_succ, List.set_cons_zero]
    have Hcd := Lib.hid hcd
    clear hcd
    by_cases hST : S = t.tag
    · have hb : (!(S == t.tag)) = false := by simp [hST]
      rw [hb]
      have HC2 : Hid (C = if now < t.f ∨ E.2 ≤ now then 14 else 0) := Lib.hid (by rw [HC.out, if_neg (by simpa using hST)])
      clear hb hST HC
      go_upto_region 7 with (first
        | (refine wpList_load_row rfl 51 _ rfl _ rfl 51 _ _ _ ((Hcd.out.block _ (heap_lt R1c.out)).trans R1c.out) Try.underlying51 rfl (info51 t _ Ht.out.tag) ?_)
        | (go_at_call 73; refine (effect_any Ht.out (H.out.below (below_seq R3.out (below_seq Hbx.out Hcd.out)))).mono ?_; rintro e w5 ⟨rfl, hb⟩; rw [← HE.out]; have c3 := (X.out _ (below_seq Hcd.out hb)).c3; have Hb5 := Lib.hid hb; clear hb))
      have hB : Hid (Below w.heap.size w w5) := Lib.hid (below_seq R3.out (below_seq Hbx.out (below_seq Hcd.out Hb5.out)))
      by_cases h1 : now < t.f
      · obtain rfl : C = 14 := by rw [HC2.out, if_pos (Or.inl h1)]
        clear HC2
        go_wp2
        go_ret
        exact ⟨rfl, hB.out⟩
      · by_cases h2 : E.2 ≤ now
        · obtain rfl : C = 14 := by rw [HC2.out, if_pos (Or.inr h2)]
          clear HC2
          go_wp2
          go_ret
          exact ⟨rfl, hB.out⟩
        · obtain rfl : C = 0 := by rw [HC2.out, if_neg (by omega)]
          clear HC2
          go_wp2
          go_ret
          exact ⟨rfl, hB.out⟩
    · have hb : (!(S == t.tag)) = true := by simp [hST]
      rw [hb]
      obtain rfl : C = 13 := by rw [HC.out, if_pos hST]
      clear hb hST HC
      go_wp2
      go_ret
      exact ⟨rfl, below_seq R3.out (below_seq Hbx.out Hcd.out)⟩
end Go.Proofs.Ytafakjdolnigaaa

namespace Go.Proofs.Ytafakjdolnigaaa
open Go.RowKit
set_option linter.unusedVariables false

theorem mayOk_tag (t : Tok) (k : List UInt8) (cs : List (UInt8 × Int)) : mayOk { t with tag := k } cs = mayOk t cs := rfl
theorem headOf_tag (t : Tok) (k : List UInt8) : headOf { t with tag := k } = headOf t := rfl
theorem Tok.Ok.tagged {t : Tok} (h : t.Ok) {k : List UInt8} (hk : k.length = 32) : ({ t with tag := k } : Tok).Ok := ⟨h.f, h.u, hk, h.tn⟩
theorem issued_ok {key : List UInt8} {t : Tok} (h : t.Ok) : (issued key t).Ok := h.tagged (macOf_length _ _)
theorem lessTok_ok {t : Tok} {c : UInt8 × Int} (h : t.Ok) : (lessTok t c).Ok := h.tagged (macOf_length _ _)

/-- A token's row loaded, behind a guard that says yes. -/
theorem wpList_load51_G {ops : Array Oper} {rest : List Oper} {o : Oper} {a : Act} {w : World} {Q : Exit → Act → World → Prop} (hgd : Region.wanted o (yielded ops a.tmps) = true) (x : Operand) (ho : o.op = .load 51 x) (g : Nat) (hx : a.eval x = .pointer (some ⟨g, 0, none⟩))
    (t : Tok) (l : Value) (ht : t.tag.length = 32) (hg : w.heap[g]? = some (.cells (tokRow t l) 51 (0, 0))) (h : wpList Try.prog ops Q rest (a.put o.dst (.agg (tokRow t l))) w) : wpList Try.prog ops Q (o :: rest) a w := by
  have hr := exec_load_sub (P := Try.prog) (a := a) (o := o) (w := w) g 0 51 (tokRow t l) _ ho hx (fun j hj => by rw [Nat.zero_add]; exact (cell_of_row w g j _ _ _ hg)) Try.underlying51 rfl (info51 t l ht)
  exact BigFrame.wpList_want hgd fun K hK => by
    unfold Oper.wp
    rw [hr]
    exact hK _ _ h

/-- The examples' key and token. -/
def keyB : List UInt8 := 1 :: List.replicate 31 0
def tokB : Tok := ⟨1, ByteArray.empty, 7, 0, 9, zero32⟩
theorem keyB_length : keyB.length = 32 := by simp [keyB]
theorem tokB_ok : tokB.Ok := ⟨by decide, by decide, zero32_length, by unfold maxLen; simp [tokB]⟩
theorem emptyE : ByteArray.empty.toList.isEmpty = true := by rw [ByteArray.toList_eq]; rfl
theorem tokB_may : mayOk tokB [] = true := by
  unfold mayOk
  rw [show tokB.tn.toList.isEmpty = true from emptyE, Bool.true_or]
  rfl
theorem cavs_none (w : World) : CavsAt w none 0 0 [] := ⟨rfl, Nat.le_refl _, by unfold maxLen; omega, fun h => by omega, fun _ => rfl, fun c h => by cases h⟩

theorem checkOf_issued {key : List UInt8} {t : Tok} (hm : mayOk t [] = true) (now : Int) : checkOf key (issued key t) [] now = if now < t.f ∨ t.u ≤ now then 14 else 0 := by
  have h1 : mayOk (issued key t) [] = true := hm
  unfold checkOf
  rw [if_neg (by rw [h1]; decide), if_neg (by simp [onOf, issued, headOf])]
  rfl

theorem tokB_c8 : checkOf keyB (issued keyB tokB) [] 8 = 0 := by rw [checkOf_issued tokB_may]; rfl
theorem tokB_c9 : checkOf keyB (issued keyB tokB) [] 9 = 14 := by rw [checkOf_issued tokB_may]; rfl
theorem mayOk_issued (key : List UInt8) (t : Tok) (cs : List (UInt8 × Int)) : mayOk (issued key t) cs = mayOk t cs := rfl
theorem mayOk_less (t : Tok) (c : UInt8 × Int) (cs : List (UInt8 × Int)) : mayOk (lessTok t c) cs = mayOk t cs := rfl
theorem tokB_less : mayOk (issued keyB tokB) [] = true := by rw [mayOk_issued]; exact tokB_may
theorem lessB_may : mayOk (lessTok (issued keyB tokB) (1, 5)) [(1, 5)] = true := by
  rw [mayOk_less, mayOk_issued]
  unfold mayOk
  rw [show tokB.tn.toList.isEmpty = true from emptyE, Bool.true_or]
  rfl
theorem lessB_c6 : checkOf keyB (lessTok (issued keyB tokB) (1, 5)) [(1, 5)] 6 = 14 := by
  unfold checkOf
  rw [if_neg (by rw [lessB_may]; decide), if_neg (by simp [onOf, issued, lessTok, headOf])]
  rw [if_pos]
  right
  decide
theorem lessB_eff : effOf (lessTok (issued keyB tokB) (1, 5)).r (lessTok (issued keyB tokB) (1, 5)).u [(1, 5)] = (1, 5) := by decide

set_option maxRecDepth 100000 in
set_option maxHeartbeats 8000000 in
theorem begun14 (w : World) : Calls Try.prog 41 #[] w fun e w' => e = .returned (.bool true) ∧ Below w.heap.size w w' := by
  obtain ⟨K, hK⟩ : ∃ K, K = keyB := ⟨_, rfl⟩
  obtain ⟨t, ht⟩ : ∃ t, t = tokB := ⟨_, rfl⟩
  obtain ⟨t2, ht2⟩ : ∃ t2, t2 = issued K t := ⟨_, rfl⟩
  obtain ⟨t3, ht3⟩ : ∃ t3, t3 = lessTok t2 (1, 5) := ⟨_, rfl⟩
  have okt : t.Ok := by rw [ht]; exact tokB_ok
  have Kl := Lib.hid (show K.length = 32 by rw [hK]; exact keyB_length)
  have Ok := Lib.hid okt
  have Ok2 := Lib.hid (show t2.Ok by rw [ht2]; exact issued_ok okt)
  have Ok3 := Lib.hid (show t3.Ok by rw [ht3, ht2]; exact lessTok_ok (issued_ok okt))
  have M := Lib.hid (show mayOk t [] = true by rw [ht]; exact tokB_may)
  have M2 := Lib.hid (show mayOk t2 [] = true by rw [ht2, hK, ht]; exact tokB_less)
  have M3 := Lib.hid (show mayOk t3 [(1, 5)] = true by rw [ht3, ht2, hK, ht]; exact lessB_may)
  have C8 := Lib.hid (show checkOf K t2 [] 8 = 0 by rw [ht2, hK, ht]; exact tokB_c8)
  have C9 := Lib.hid (show checkOf K t2 [] 9 = 14 by rw [ht2, hK, ht]; exact tokB_c9)
  have C6 := Lib.hid (show checkOf K t3 [(1, 5)] 6 = 14 by rw [ht3, ht2, hK, ht]; exact lessB_c6)
  have E3 := Lib.hid (show effOf t3.r t3.u [(1, 5)] = (1, 5) by rw [ht3, ht2, hK, ht]; exact lessB_eff)
  have HK := Lib.hid hK
  have HT := Lib.hid ht
  have HT2 := Lib.hid ht2
  have HT3 := Lib.hid ht3
  clear hK ht ht2 ht3 okt
  go_enter Try.func41, Try.ntmps41
  go_upto_region 2 with (first
    | (refine wpList_buildV (.agg (row8 keyB)) 31 _ rfl rfl (by kernel_rfl) ?_; rw [← HK.out])
    | (refine wpList_allocRow 31 _ alloc31 rfl rfl ?_)
    | (refine wpList_store_row rfl 31 _ _ rfl _ _ rfl rfl 31 _ (heap_alloc_new _ _) (info31 _ Kl.out) (by rw [row8_size, row8_size, Kl.out]; rfl) (row8_one _) ?_))
  refine abstract_world (fun W => W.heap[w.heap.size]? = some (.cells (row8 K) 31 (0, 0)) ∧ Below w.heap.size w W) ⟨setRow_heap _ _ _ _ _ _ (heap_alloc_new _ _), below_row (below_one _ _) (Nat.le_refl _) _⟩ ?_
  rintro w1 ⟨r0, r1⟩
  have R0 := Lib.hid r0
  have R1 := Lib.hid r1
  clear r0 r1
  go_upto_region 3 with (first
    | (refine wpList_load_row rfl 31 _ rfl _ rfl 31 _ _ _ R0.out Try.underlying31 rfl (info31 _ Kl.out) ?_)
    | (refine wpList_buildV (.agg (tokRow tokB (.slice none 0 0))) 51 _ rfl rfl (by kernel_rfl) ?_; rw [← HT.out])
    | (go_at_call 47; refine (issue_good Kl.out Ok.out (cavs_none _) M.out).mono ?_; rintro e w2 ⟨rfl, hb⟩; rw [← HT2.out]; have Hb2 := Lib.hid hb; clear hb)
    | (refine wpList_allocRow 51 _ alloc51 rfl rfl ?_)
    | (refine wpList_store_row rfl 51 _ _ rfl _ _ rfl rfl 51 _ (heap_alloc_new _ _) (info51 _ _ Ok2.out.tag) (by rw [tokRow_size _ _ zero32_length, tokRow_size _ _ Ok2.out.tag]) (tokRow_one _ _ rfl) ?_))
  refine abstract_world (fun W => W.heap[w2.heap.size]? = some (.cells (tokRow t2 (.slice none 0 0)) 51 (0, 0)) ∧ Below w2.heap.size w2 W) ⟨setRow_heap _ _ _ _ _ _ (heap_alloc_new _ _), below_row (below_one _ _) (Nat.le_refl _) _⟩ ?_
  rintro w3 ⟨r0, r1⟩
  have P0 := Lib.hid r0
  have B3 : Hid (Below w1.heap.size w1 w3) := Lib.hid (below_seq Hb2.out r1)
  clear r0 r1
  go_upto_region 4 with (first
    | (refine wpList_load_row rfl 51 _ rfl _ rfl 51 _ _ _ P0.out Try.underlying51 rfl (info51 _ _ Ok2.out.tag) ?_)
    | (refine wpList_buildV (.agg (cavRow 1 5)) 87 _ rfl rfl (by kernel_rfl) ?_)
    | (go_at_call 71; refine (less_good Ok2.out (cavs_none _) M2.out (by decide) (by omega) (by decide)).mono ?_; rintro e w4 ⟨v4, rfl, ho, hb⟩; rw [← HT3.out]; rw [List.nil_append] at ho; obtain ⟨r4, q4, rfl, hc4, _⟩ := ho.at_len 1 rfl; have Hc4 := Lib.hid hc4; have Hb4 := Lib.hid hb; clear hb ho hc4)
    | (refine wpList_allocRow 51 _ alloc51 rfl rfl ?_)
    | (refine wpList_store_row rfl 51 _ _ rfl _ _ rfl rfl 51 _ (heap_alloc_new _ _) (info51 _ _ Ok3.out.tag) (by rw [tokRow_size _ _ zero32_length, tokRow_size _ _ Ok3.out.tag]) (tokRow_one _ _ rfl) ?_))
  refine abstract_world (fun W => W.heap[w4.heap.size]? = some (.cells (tokRow t3 (.slice r4 1 q4)) 51 (0, 0)) ∧ Below w4.heap.size w4 W) ⟨setRow_heap _ _ _ _ _ _ (heap_alloc_new _ _), below_row (below_one _ _) (Nat.le_refl _) _⟩ ?_
  rintro w5 ⟨r0, r1⟩
  have Q0 := Lib.hid r0
  have B5 : Hid (Below w3.heap.size w3 w5) := Lib.hid (below_seq Hb4.out r1)
  have Hc5 := Lib.hid (Hc4.out.below r1)
  clear r0 r1 Hc4
  go_upto_region 5 with (first
    | (refine wpList_load_row rfl 51 _ rfl _ rfl 51 _ _ _ Q0.out Try.underlying51 rfl (info51 _ _ Ok3.out.tag) ?_)
    | (go_at_call 73; refine (effect_any Ok3.out Hc5.out).mono ?_; rintro e w6 ⟨rfl, hb⟩; rw [E3.out]; have Hb6 := Lib.hid hb; clear hb))
  have k6 := Lib.hid ((Hb6.out.block _ (heap_lt (((B5.out.block _ (heap_lt ((B3.out.block _ (heap_lt R0.out)).trans R0.out))).trans ((B3.out.block _ (heap_lt R0.out)).trans R0.out))))).trans ((B5.out.block _ (heap_lt ((B3.out.block _ (heap_lt R0.out)).trans R0.out))).trans ((B3.out.block _ (heap_lt R0.out)).trans R0.out)))
  have p6 := Lib.hid ((Hb6.out.block _ (heap_lt ((B5.out.block _ (heap_lt P0.out)).trans P0.out))).trans ((B5.out.block _ (heap_lt P0.out)).trans P0.out))
  have q6 := Lib.hid ((Hb6.out.block _ (heap_lt Q0.out)).trans Q0.out)
  go_wp2_with (first
    | (go_at_call 49; refine (check_good (now := 6) Kl.out Ok3.out (((Hc5.out.below Hb6.out).below Hb7.out).below Hb8.out) M3.out).mono ?_; rintro e w9 ⟨rfl, hb⟩; rw [C6.out]; have Hb9 := Lib.hid hb; clear hb)
    | (refine wpList_load51_G (by kernel_rfl) _ rfl _ rfl t3 _ Ok3.out.tag q8.out ?_)
    | (refine wpList_load_G (by kernel_rfl) _ rfl _ rfl K Kl.out k8.out ?_)
    | (go_at_call 49; refine (check_good (now := 9) Kl.out Ok2.out (cavs_none w7) M2.out).mono ?_; rintro e w8 ⟨rfl, hb⟩; rw [C9.out]; have Hb8 := Lib.hid hb; clear hb; have k8 := Lib.hid ((Hb8.out.block _ (heap_lt k7.out)).trans k7.out); have q8 := Lib.hid ((Hb8.out.block _ (heap_lt ((Hb7.out.block _ (heap_lt q6.out)).trans q6.out))).trans ((Hb7.out.block _ (heap_lt q6.out)).trans q6.out)))
    | (refine wpList_load51_G (by kernel_rfl) _ rfl _ rfl t2 _ Ok2.out.tag p7.out ?_)
    | (refine wpList_load_G (by kernel_rfl) _ rfl _ rfl K Kl.out k7.out ?_)
    | (go_at_call 49; refine (check_good (now := 8) Kl.out Ok2.out (cavs_none w6) M2.out).mono ?_; rintro e w7 ⟨rfl, hb⟩; rw [C8.out]; have Hb7 := Lib.hid hb; clear hb; have k7 := Lib.hid ((Hb7.out.block _ (heap_lt k6.out)).trans k6.out); have p7 := Lib.hid ((Hb7.out.block _ (heap_lt p6.out)).trans p6.out))
    | (refine wpList_load51_G (by kernel_rfl) _ rfl _ rfl t2 _ Ok2.out.tag p6.out ?_)
    | (refine wpList_load_G (by kernel_rfl) _ rfl _ rfl K Kl.out k6.out ?_))
  go_ret
  exact ⟨rfl, below_seq R1.out (below_seq B3.out (below_seq B5.out (below_seq Hb6.out (below_seq Hb7.out (below_seq Hb8.out Hb9.out)))))⟩
end Go.Proofs.Ytafakjdolnigaaa
