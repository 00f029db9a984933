/- The reference's Less. Printed by gen_refless.py. -/
import Derived.Test.YtafakjdolnigaaaGRefs
namespace Go.Proofs.Ytafakjdolnigaaa
open Go.RowKit
set_option linter.unusedVariables false

theorem CavsAt.grown {w w' : World} {row : Option Nat} {r : Option Addr} {len cap : Nat} {cs : List (UInt8 × Int)} (h : CavsAt w r len cap cs) (hg : w.grownBy w' row) (hne : ∀ a, r = some a → some a.block ≠ row) : CavsAt w' r len cap cs :=
  ⟨h.hlen, h.hle, h.hmax, fun h0 => by
    obtain ⟨b, o, hr, hc⟩ := h.hcells h0
    refine ⟨b, o, hr, fun i hi => ?_⟩
    have hb := hne ⟨b, o, none⟩ hr
    exact ⟨hg.cell (hc i hi).1 hb, hg.cell (hc i hi).2 hb⟩, h.hnil, h.hwf⟩

set_option maxRecDepth 100000 in
set_option maxHeartbeats 4000000 in
theorem refLess_bad {w : World} {t : Tok} {r : Option Addr} {len cap : Nat} {cs : List (UInt8 × Int)} {x : UInt8} {z : Int} (ht : t.Ok) (h : CavsAt w r len cap cs) (hm : mayOk t cs = false ∨ ¬x < 16) :
    Calls Try.prog 72 #[.agg (tokRow t (.slice r len cap)), .agg (cavRow x z)] w fun e w' => e = .returned (.tuple #[.agg (tokRow zeroTok (.slice none 0 0)), .int .i64 1]) ∧ Below w.heap.size w w' := by
  obtain ⟨M, hM⟩ : ∃ M, M = mayOk t cs := ⟨_, rfl⟩
  rw [← hM] at hm
  have HM := Lib.hid hM
  have Ht := Lib.hid ht
  have H := Lib.hid h
  have Hm := Lib.hid hm
  clear ht h hm hM
  go_enter Try.func72, Try.ntmps72
  go_upto_region 1 with (first
    | (refine wpList_box rfl 87 _ rfl (cavRow x z) rfl ?_)
    | (refine wpList_box rfl 51 _ rfl (tokRow _ _) rfl ?_)
    | (refine wpList_allocRow 51 _ alloc51 rfl rfl ?_))
  obtain ⟨⟨a0, a1, a2⟩, a3, a4⟩ := alloc3 w (.cells (tokRow t (.slice r len cap)) 51) (.cells (cavRow x z) 87) (.cells (tokRow zeroTok (.slice none 0 0)) 51)
  refine abstract_world (fun W => W.heap[w.heap.size]? = some (.cells (tokRow t (.slice r len cap)) 51 (0, 0)) ∧ W.heap[w.heap.size + 1]? = some (.cells (cavRow x z) 87 (0, 0)) ∧ W.heap[w.heap.size + 2]? = some (.cells (tokRow zeroTok (.slice none 0 0)) 51 (0, 0)) ∧ Below w.heap.size w W) ⟨a0, a1, a2, a3⟩ ?_
  clear a0 a1 a2 a3 a4
  rintro w1 ⟨r0, r1, r2, r3⟩
  have R0 := Lib.hid r0
  have R1 := Lib.hid r1
  have R2 := Lib.hid r2
  have R3 := Lib.hid r3
  clear r0 r1 r2 r3
  cases M with
  | false =>
    go_wp2_with (first
      | (refine wpList_load_row rfl 51 _ rfl _ rfl 51 _ _ _ R0.out Try.underlying51 rfl (info51 t _ Ht.out.tag) ?_)
      | (go_at_call 75; refine (refMay_any Ht.out (H.out.below R3.out)).mono ?_; rintro e w2 ⟨rfl, hb⟩; rw [← HM.out]; have Hb := Lib.hid hb; clear hb)
      | (refine wpList_buildV (.agg (tokRow zeroTok (.slice none 0 0))) 51 _ rfl rfl (by kernel_rfl) ?_)
      | (refine wpList_store_row rfl 51 _ _ rfl _ _ rfl rfl 51 _ ((Hb.out.block _ (heap_lt R2.out)).trans R2.out) (info51 _ _ zero32_length) rfl (tokRow_one _ _ rfl) ?_))
    exact bodyPost_ret (results_cell_2 (p := 4) (t1 := 5) rfl _ _ _ 51 _ _ _ rfl (setRow_heap _ _ _ _ _ _ ((Hb.out.block _ (heap_lt R2.out)).trans R2.out)) Try.underlying51 rfl (info51 _ _ zero32_length)) rfl ⟨rfl, below_row (below_seq R3.out Hb.out) (by omega) _⟩
  | true =>
    have h0 : ¬x < 16 := by rcases Hm.out with h | h; cases h; exact h
    have hx15 : (15 < x) = True := by simpa using nlt16 h0
    go_wp2_with (first
      | (refine wpList_load_row rfl 51 _ rfl _ rfl 51 _ _ _ R0.out Try.underlying51 rfl (info51 t _ Ht.out.tag) ?_)
      | (go_at_call 75; refine (refMay_any Ht.out (H.out.below R3.out)).mono ?_; rintro e w2 ⟨rfl, hb⟩; rw [← HM.out]; have c0 : w2.cell? ⟨w.heap.size + 1, 0, none⟩ = some (W8 x) := cell_row ((hb.block _ (heap_lt R1.out)).trans R1.out) rfl; have Hb := Lib.hid hb; clear hb)
      | (refine wpList_buildV (.agg (tokRow zeroTok (.slice none 0 0))) 51 _ rfl rfl (by kernel_rfl) ?_)
      | (refine wpList_store_row rfl 51 _ _ rfl _ _ rfl rfl 51 _ ((Hb.out.block _ (heap_lt R2.out)).trans R2.out) (info51 _ _ zero32_length) rfl (tokRow_one _ _ rfl) ?_))
    exact bodyPost_ret (results_cell_2 (p := 4) (t1 := 5) rfl _ _ _ 51 _ _ _ rfl (setRow_heap _ _ _ _ _ _ ((Hb.out.block _ (heap_lt R2.out)).trans R2.out)) Try.underlying51 rfl (info51 _ _ zero32_length)) rfl ⟨rfl, below_row (below_seq R3.out Hb.out) (by omega) _⟩

set_option maxRecDepth 100000 in
set_option maxHeartbeats 4000000 in
theorem refLess_long {w : World} {t : Tok} {r : Option Addr} {cap : Nat} {cs : List (UInt8 × Int)} {x : UInt8} {z : Int} (ht : t.Ok) (h : CavsAt w r 8 cap cs) (hm : mayOk t cs = true) (hx : x < 16) :
    Calls Try.prog 72 #[.agg (tokRow t (.slice r 8 cap)), .agg (cavRow x z)] w fun e w' => e = .returned (.tuple #[.agg (tokRow zeroTok (.slice none 0 0)), .int .i64 2]) ∧ Below w.heap.size w w' := by
  have hx15 : (15 < x) = False := by simpa using lt16 hx
  have Ht := Lib.hid ht
  have H := Lib.hid h
  have Hm := Lib.hid hm
  clear ht h hm
  go_enter Try.func72, Try.ntmps72
  go_upto_region 1 with (first
    | (refine wpList_box rfl 87 _ rfl (cavRow x z) rfl ?_)
    | (refine wpList_box rfl 51 _ rfl (tokRow _ _) rfl ?_)
    | (refine wpList_allocRow 51 _ alloc51 rfl rfl ?_))
  obtain ⟨⟨a0, a1, a2⟩, a3, a4⟩ := alloc3 w (.cells (tokRow t (.slice r 8 cap)) 51) (.cells (cavRow x z) 87) (.cells (tokRow zeroTok (.slice none 0 0)) 51)
  refine abstract_world (fun W => W.heap[w.heap.size]? = some (.cells (tokRow t (.slice r 8 cap)) 51 (0, 0)) ∧ W.heap[w.heap.size + 1]? = some (.cells (cavRow x z) 87 (0, 0)) ∧ W.heap[w.heap.size + 2]? = some (.cells (tokRow zeroTok (.slice none 0 0)) 51 (0, 0)) ∧ Below w.heap.size w W) ⟨a0, a1, a2, a3⟩ ?_
  clear a0 a1 a2 a3 a4
  rintro w1 ⟨r0, r1, r2, r3⟩
  have R0 := Lib.hid r0
  have R1 := Lib.hid r1
  have R2 := Lib.hid r2
  have R3 := Lib.hid r3
  clear r0 r1 r2 r3
  go_wp2_with (first
    | (refine wpList_load_row rfl 51 _ rfl _ rfl 51 _ _ _ R0.out Try.underlying51 rfl (info51 t _ Ht.out.tag) ?_)
    | (go_at_call 75; refine (refMay_any Ht.out (H.out.below R3.out)).mono ?_; rintro e w2 ⟨rfl, hb⟩; rw [Hm.out]; have c0 : w2.cell? ⟨w.heap.size + 1, 0, none⟩ = some (W8 x) := cell_row ((hb.block _ (heap_lt R1.out)).trans R1.out) rfl; have c5 := (tok_in ((hb.block _ (heap_lt R0.out)).trans R0.out) Ht.out.tag).c5; have Hb := Lib.hid hb; clear hb)
    | (refine wpList_buildV (.agg (tokRow zeroTok (.slice none 0 0))) 51 _ rfl rfl (by kernel_rfl) ?_)
    | (refine wpList_store_row rfl 51 _ _ rfl _ _ rfl rfl 51 _ ((Hb.out.block _ (heap_lt R2.out)).trans R2.out) (info51 _ _ zero32_length) rfl (tokRow_one _ _ rfl) ?_))
  exact bodyPost_ret (results_cell_2 (p := 4) (t1 := 5) rfl _ _ _ 51 _ _ _ rfl (setRow_heap _ _ _ _ _ _ ((Hb.out.block _ (heap_lt R2.out)).trans R2.out)) Try.underlying51 rfl (info51 _ _ zero32_length)) rfl ⟨rfl, below_row (below_seq R3.out Hb.out) (by omega) _⟩

set_option maxRecDepth 100000 in
set_option maxHeartbeats 16000000 in
theorem refLess_good {w : World} {t : Tok} {r : Option Addr} {len cap : Nat} {cs : List (UInt8 × Int)} {x : UInt8} {z : Int} (ht : t.Ok) (h : CavsAt w r len cap cs) (hm : mayOk t cs = true) (hx : x < 16) (hl : len < 8) (hz : (Lit.int .i64 z).wf = true) :
    Calls Try.prog 72 #[.agg (tokRow t (.slice r len cap)), .agg (cavRow x z)] w fun e w' => ∃ v, e = .returned (.tuple #[.agg (tokRow (lessTok t (x, z)) v), .int .i64 0]) ∧ OwnC w' w.heap.size v (cs ++ [(x, z)]) ∧ Below w.heap.size w w' := by
  have hx15 : (15 < x) = False := by simpa using lt16 hx
  obtain ⟨D, hD⟩ : ∃ D, D = cs ++ [(x, z)] := ⟨_, rfl⟩
  obtain ⟨n6, hn6⟩ : ∃ n, D.length = n := ⟨_, rfl⟩
  rw [← hD]
  have Hlen := Lib.hid h.hlen
  obtain ⟨T, hT⟩ : ∃ T, T = macOf t.tag [cavOf x z] := ⟨_, rfl⟩
  have hTl : T.length = 32 := by rw [hT]; exact macOf_length _ _
  have he : lessTok t (x, z) = { t with tag := T } := by rw [hT]; rfl
  obtain ⟨t2, ht2⟩ : ∃ t2 : Tok, t2 = { t with tag := T } := ⟨_, rfl⟩
  rw [he, ← ht2]
  have ht2l : t2.tag.length = 32 := by rw [ht2]; exact hTl
  have hput : ∀ l, ((tokRow t l).toList.take 6 ++ (row8 T).toList ++ (tokRow t l).toList.drop (6 + (row8 T).size)).toArray = tokRow t2 l := fun l => by rw [ht2]; exact tokRow_putTag t l T ht.tag hTl
  have HD := Lib.hid hD
  have Hn6 := Lib.hid hn6
  have HT := Lib.hid hT
  have HTl := Lib.hid hTl
  have Ht := Lib.hid ht
  have Ht2l := Lib.hid ht2l
  have Hput := Lib.hid hput
  have H := Lib.hid h
  have Hm := Lib.hid hm
  have Hz := Lib.hid hz
  clear ht h hm hT hTl he ht2l hput ht2 hz hD hn6
  go_enter Try.func72, Try.ntmps72
  go_upto_region 1 with (first
    | (refine wpList_box rfl 87 _ rfl (cavRow x z) rfl ?_)
    | (refine wpList_box rfl 51 _ rfl (tokRow _ _) rfl ?_)
    | (refine wpList_allocRow 51 _ alloc51 rfl rfl ?_))
  obtain ⟨⟨a0, a1, a2⟩, a3, a4⟩ := alloc3 w (.cells (tokRow t (.slice r len cap)) 51) (.cells (cavRow x z) 87) (.cells (tokRow zeroTok (.slice none 0 0)) 51)
  refine abstract_world (fun W => W.heap[w.heap.size]? = some (.cells (tokRow t (.slice r len cap)) 51 (0, 0)) ∧ W.heap[w.heap.size + 1]? = some (.cells (cavRow x z) 87 (0, 0)) ∧ W.heap[w.heap.size + 2]? = some (.cells (tokRow zeroTok (.slice none 0 0)) 51 (0, 0)) ∧ Below w.heap.size w W ∧ W.heap.size = w.heap.size + 3) ⟨a0, a1, a2, a3, a4⟩ ?_
  clear a0 a1 a2 a3 a4
  rintro w1 ⟨r0, r1, r2, r3, r4⟩
  have R0 := Lib.hid r0
  have R1 := Lib.hid r1
  have R2 := Lib.hid r2
  have R3 := Lib.hid r3
  have R4 := Lib.hid r4
  clear r0 r1 r2 r3 r4
  go_upto_region 5 with (first
    | (refine wpList_load_row rfl 51 _ rfl _ rfl 51 _ _ _ R0.out Try.underlying51 rfl (info51 t _ Ht.out.tag) ?_)
    | (go_at_call 75; refine (refMay_any Ht.out (H.out.below R3.out)).mono ?_; rintro e w2 ⟨rfl, hb⟩; rw [Hm.out]; have c0 : w2.cell? ⟨w.heap.size + 1, 0, none⟩ = some (W8 x) := cell_row ((hb.block _ (heap_lt R1.out)).trans R1.out) rfl; have c5 := (tok_in ((hb.block _ (heap_lt R0.out)).trans R0.out) Ht.out.tag).c5; have Hb2 := Lib.hid hb; clear hb))
  clear c0 c5
  have W2 := Lib.hid (below_seq R3.out Hb2.out)
  have S2 := Lib.hid (show w.heap.size + 3 ≤ w2.heap.size by have := Hb2.out.size; have := R4.out; omega)
  have T1 : Hid (∀ w', Below w2.heap.size w2 w' → w'.heap[w.heap.size]? = some (.cells (tokRow t (.slice r len cap)) 51 (0, 0))) := Lib.hid fun w' hw => ((below_seq Hb2.out hw).block _ (heap_lt R0.out)).trans R0.out
  have V1 : Hid (∀ w', Below w2.heap.size w2 w' → w'.heap[w.heap.size + 1]? = some (.cells (cavRow x z) 87 (0, 0))) := Lib.hid fun w' hw => ((below_seq Hb2.out hw).block _ (heap_lt R1.out)).trans R1.out
  have Z1 : Hid (∀ w', Below w2.heap.size w2 w' → w'.heap[w.heap.size + 2]? = some (.cells (tokRow zeroTok (.slice none 0 0)) 51 (0, 0))) := Lib.hid fun w' hw => ((below_seq Hb2.out hw).block _ (heap_lt R2.out)).trans R2.out
  have C2 : Hid (∀ w', Below w2.heap.size w2 w' → CavsAt w' r len cap cs) := Lib.hid fun w' hw => ((H.out.below R3.out).below Hb2.out).below hw
  have CC : Hid (∀ w', Below w2.heap.size w2 w' → w'.heap[w.heap.size + 1]? = some (.cells (cavRow x z) 87 (0, 0))) := V1
  go_cut [5] from 20 to 35 (fun v5 wx => v5 = .int .i64 0 ∧ ∃ (r6 : Option Addr) (q6 : Nat), wx.heap[w.heap.size]? = some (.cells (tokRow t (.slice r6 n6 q6)) 51 (0, 0)) ∧ wx.heap[w.heap.size + 1]? = some (.cells (cavRow x z) 87 (0, 0)) ∧ wx.heap[w.heap.size + 2]? = some (.cells (tokRow zeroTok (.slice none 0 0)) 51 (0, 0)) ∧ Below w.heap.size w wx ∧ OwnC wx w2.heap.size (.slice r6 n6 q6) D)
  case first =>
    have hcd : Below w2.heap.size w2 w2.drew := (Below.refl _ _).drew
    refine region_k (fun w' => w'.heap[w.heap.size + 1]? = some (.cells (cavRow x z) 87 (0, 0))) (by kernel_rfl) (CC.out _ hcd) (fun Kr hKr => ?_)
    refine g_quiet (CC.out _ hcd) 1 21 (.pointer (some ⟨w.heap.size, 5, none⟩)) (by kernel_rfl) (by kernel_rfl) (by kernel_rfl) (by kernel_rfl) (fun w3 hw3 => by go_simp) ?_
    refine g_quiet (CC.out _ hcd) 4 24 (.agg (cavRow x z)) (by kernel_rfl) (by kernel_rfl) (by kernel_rfl) (by kernel_rfl) (fun w3 hw3 => load87_hy (.tmp 3) (by kernel_rfl) (w.heap.size + 1) 0 x z (by kernel_rfl) _ (cell_row hw3 rfl) (cell_row hw3 rfl)) ?_
    simp only [Act.put, List.setIfInBounds_toArray, List.set_cons_succ, List.set_cons_zero]
    refine m_pick3 0 2 5 (by kernel_rfl) ?_ ?_ ?_
    · skip
      refine (g_val (d := 20) (.slice (some ⟨w2.drew.heap.size, 0, none⟩) 0 0) (w2.drew.alloc (.cells #[] 87)) (by kernel_rfl) (by kernel_rfl) ?_)
      have b1 := below_one w2.drew (.cells #[] 87)
      have h1 := below_seq hcd b1
      have f0 := ownC_empty w2.drew w2.heap.size hcd.size
      obtain ⟨g0, hg0⟩ : ∃ k, k = w2.drew.heap.size := ⟨_, rfl⟩
      have lg0 : g0 < (w2.drew.alloc (.cells #[] 87)).heap.size := by rw [hg0]; simp
      obtain ⟨x1, hx1⟩ : ∃ y, y = w2.drew.alloc (.cells #[] 87) := ⟨_, rfl⟩
      rw [← hx1] at h1 lg0
      rw [← hg0, ← hx1] at f0
      rw [← hg0, ← hx1]
      clear hx1 hg0 b1
      refine ⟨CC.out _ h1, ?_⟩
      simp only [Act.put, List.setIfInBounds_toArray, List.set_cons_succ, List.set_cons_zero]
      refine m_pick2 2 5 (by kernel_rfl) ?_ ?_
      · skip
        refine (g_val (d := 22) (.slice r len cap) x1 (by kernel_rfl) (by have c := (tok_in (T1.out x1 h1) Ht.out.tag).c5; go_simp) ?_)
        refine ⟨CC.out _ h1, ?_⟩
        simp only [Act.put, List.setIfInBounds_toArray, List.set_cons_succ, List.set_cons_zero]
        refine m_pick2 3 5 (by kernel_rfl) ?_ ?_
        · skip
          refine (g_cavs (d := 23) (.tmp 20) (.tmp 22) (by kernel_rfl) (by kernel_rfl) w2.heap.size (.slice (some ⟨g0, 0, none⟩) 0 0) [] cs r len cap (by kernel_rfl) (by kernel_rfl) f0 (C2.out _ h1) (by rw [Hlen.out]; simp; omega) h1.size ?_)
          intro v3 x3 f3 hg3
          rw [cat_cavs_nil] at f3
          have h3 := f0.below h1 h1.size hg3
          refine ⟨CC.out _ h3, ?_⟩
          simp only [Act.put, List.setIfInBounds_toArray, List.set_cons_succ, List.set_cons_zero]
          refine m_pick 5 (by kernel_rfl) ?_
          refine (g_val (d := 25) (.slice (some ⟨x3.heap.size, 0, none⟩) 1 1) (x3.alloc (.cells (cavRow x z) 87)) (by kernel_rfl) (by kernel_rfl) ?_)
          have b4 := below_one x3 (.cells (cavRow x z) 87)
          have h4 := below_seq h3 b4
          have f5 := cav_one x3 x z _ rfl Hz.out
          have f3 := f3.keep b4
          obtain ⟨k5, hk5⟩ : ∃ k, k = x3.heap.size := ⟨_, rfl⟩
          have lk5 : k5 < (x3.alloc (.cells (cavRow x z) 87)).heap.size := by rw [hk5]; simp
          obtain ⟨x4, hx4⟩ : ∃ y, y = x3.alloc (.cells (cavRow x z) 87) := ⟨_, rfl⟩
          rw [← hx4] at h4 lk5
          rw [← hk5, ← hx4] at f5
          rw [← hx4] at f3
          rw [← hk5, ← hx4]
          clear hx4 hk5 b4
          refine ⟨CC.out _ h4, ?_⟩
          simp only [Act.put, List.setIfInBounds_toArray, List.set_cons_succ, List.set_cons_zero]
          refine m_pick 6 (by kernel_rfl) ?_
          refine (g_cavs (d := 26) (.tmp 23) (.tmp 25) (by kernel_rfl) (by kernel_rfl) w2.heap.size v3 cs [(x, z)] (some ⟨k5, 0, none⟩) 1 1 (by kernel_rfl) (by kernel_rfl) f3 f5 (by rw [Hlen.out]; simp; omega) h4.size ?_)
          intro v6 x5 f6 hg5
          rw [← HD.out] at f6
          have h5 := f3.below h4 h4.size hg5
          obtain ⟨r6, q6, rfl, _, _⟩ := f6.at_len n6 Hn6.out
          refine ⟨CC.out _ h5, ?_⟩
          simp only [Act.put, List.setIfInBounds_toArray, List.set_cons_succ, List.set_cons_zero]
          refine g_quiet (CC.out _ h5) 7 27 (.pointer (some ⟨w.heap.size, 5, none⟩)) (by kernel_rfl) (by kernel_rfl) (by kernel_rfl) (by kernel_rfl) (fun w3 hw3 => by go_simp) ?_
          simp only [Act.put, List.setIfInBounds_toArray, List.set_cons_succ, List.set_cons_zero]
          have t7 := T1.out _ h5
          refine m_pick 8 (by kernel_rfl) (step_skip (x5.setCell ⟨w.heap.size, 5, none⟩ (.slice r6 n6 q6)) (by kernel_rfl) (by have c := (tok_in t7 Ht.out.tag).c5; have f := frozen_of_row x5 w.heap.size 5 _ _ t7; go_simp) ?_)
          have e0 : (x5.setCell ⟨w.heap.size, 5, none⟩ (.slice r6 n6 q6)).heap[w.heap.size]? = some (.cells (tokRow t (.slice r6 n6 q6)) 51 (0, 0)) := by rw [← tokRow_putList t (.slice r len cap)]; exact heap_setCell_same _ _ _ _ _ _ t7
          have e1 : (x5.setCell ⟨w.heap.size, 5, none⟩ (.slice r6 n6 q6)).heap[w.heap.size + 1]? = some (.cells (cavRow x z) 87 (0, 0)) := by rw [heap_setCell_other _ _ _ _ (by simp)]; exact V1.out _ h5
          have e2 : (x5.setCell ⟨w.heap.size, 5, none⟩ (.slice r6 n6 q6)).heap[w.heap.size + 2]? = some (.cells (tokRow zeroTok (.slice none 0 0)) 51 (0, 0)) := by rw [heap_setCell_other _ _ _ _ (by simp)]; exact Z1.out _ h5
          have e3 : Below w.heap.size w (x5.setCell ⟨w.heap.size, 5, none⟩ (.slice r6 n6 q6)) := (below_seq W2.out h5).setCell (Nat.le_refl _) _
          have e4 : OwnC (x5.setCell ⟨w.heap.size, 5, none⟩ (.slice r6 n6 q6)) w2.heap.size (.slice r6 n6 q6) D := f6.upd (fun k hk => heap_setCell_other _ _ _ _ (by have := S2.out; show k ≠ w.heap.size; omega))
          refine ⟨e1, ?_⟩
          refine m_end (by kernel_rfl) ?_
          go_wp2
          go_meet
          exact ⟨rfl, r6, q6, e0, e1, e2, e3, e4⟩
        · skip
          refine (g_val (d := 25) (.slice (some ⟨x1.heap.size, 0, none⟩) 1 1) (x1.alloc (.cells (cavRow x z) 87)) (by kernel_rfl) (by kernel_rfl) ?_)
          have b6 := below_one x1 (.cells (cavRow x z) 87)
          have h6 := below_seq h1 b6
          have f5 := cav_one x1 x z _ rfl Hz.out
          have f0 := f0.keep b6
          have hne : x1.heap.size ≠ g0 := by omega
          obtain ⟨k5, hk5⟩ : ∃ k, k = x1.heap.size := ⟨_, rfl⟩
          have lk5 : k5 < (x1.alloc (.cells (cavRow x z) 87)).heap.size := by rw [hk5]; simp
          have lg0 : g0 < (x1.alloc (.cells (cavRow x z) 87)).heap.size := Nat.lt_of_lt_of_le lg0 b6.size
          obtain ⟨x6, hx6⟩ : ∃ y, y = x1.alloc (.cells (cavRow x z) 87) := ⟨_, rfl⟩
          rw [← hx6] at h6 lk5
          rw [← hk5, ← hx6] at f5
          rw [← hx6] at f0 lg0
          rw [← hk5] at hne
          rw [← hk5, ← hx6]
          clear hx6 hk5 b6
          refine ⟨CC.out _ h6, ?_⟩
          simp only [Act.put, List.setIfInBounds_toArray, List.set_cons_succ, List.set_cons_zero]
          refine m_pick 3 (by kernel_rfl) ?_
          refine (g_cavs (d := 23) (.tmp 20) (.tmp 22) (by kernel_rfl) (by kernel_rfl) w2.heap.size (.slice (some ⟨g0, 0, none⟩) 0 0) [] cs r len cap (by kernel_rfl) (by kernel_rfl) f0 (C2.out _ h6) (by rw [Hlen.out]; simp; omega) h6.size ?_)
          intro v3 x7 f3 hg7
          rw [cat_cavs_nil] at f3
          have h7 := f0.below h6 h6.size hg7
          have f5 := f5.grown hg7 (fun a ha => by obtain rfl := Option.some.inj ha; intro hq; exact hne (Option.some.inj hq))
          have lk5 := Nat.lt_of_lt_of_le lk5 hg7.size
          refine ⟨CC.out _ h7, ?_⟩
          simp only [Act.put, List.setIfInBounds_toArray, List.set_cons_succ, List.set_cons_zero]
          refine m_pick 6 (by kernel_rfl) ?_
          refine (g_cavs (d := 26) (.tmp 23) (.tmp 25) (by kernel_rfl) (by kernel_rfl) w2.heap.size v3 cs [(x, z)] (some ⟨k5, 0, none⟩) 1 1 (by kernel_rfl) (by kernel_rfl) f3 f5 (by rw [Hlen.out]; simp; omega) h7.size ?_)
          intro v6 x8 f6 hg8
          rw [← HD.out] at f6
          have h8 := f3.below h7 h7.size hg8
          obtain ⟨r6, q6, rfl, _, _⟩ := f6.at_len n6 Hn6.out
          refine ⟨CC.out _ h8, ?_⟩
          simp only [Act.put, List.setIfInBounds_toArray, List.set_cons_succ, List.set_cons_zero]
          refine g_quiet (CC.out _ h8) 7 27 (.pointer (some ⟨w.heap.size, 5, none⟩)) (by kernel_rfl) (by kernel_rfl) (by kernel_rfl) (by kernel_rfl) (fun w3 hw3 => by go_simp) ?_
          simp only [Act.put, List.setIfInBounds_toArray, List.set_cons_succ, List.set_cons_zero]
          have t7 := T1.out _ h8
          refine m_pick 8 (by kernel_rfl) (step_skip (x8.setCell ⟨w.heap.size, 5, none⟩ (.slice r6 n6 q6)) (by kernel_rfl) (by have c := (tok_in t7 Ht.out.tag).c5; have f := frozen_of_row x8 w.heap.size 5 _ _ t7; go_simp) ?_)
          have e0 : (x8.setCell ⟨w.heap.size, 5, none⟩ (.slice r6 n6 q6)).heap[w.heap.size]? = some (.cells (tokRow t (.slice r6 n6 q6)) 51 (0, 0)) := by rw [← tokRow_putList t (.slice r len cap)]; exact heap_setCell_same _ _ _ _ _ _ t7
          have e1 : (x8.setCell ⟨w.heap.size, 5, none⟩ (.slice r6 n6 q6)).heap[w.heap.size + 1]? = some (.cells (cavRow x z) 87 (0, 0)) := by rw [heap_setCell_other _ _ _ _ (by simp)]; exact V1.out _ h8
          have e2 : (x8.setCell ⟨w.heap.size, 5, none⟩ (.slice r6 n6 q6)).heap[w.heap.size + 2]? = some (.cells (tokRow zeroTok (.slice none 0 0)) 51 (0, 0)) := by rw [heap_setCell_other _ _ _ _ (by simp)]; exact Z1.out _ h8
          have e3 : Below w.heap.size w (x8.setCell ⟨w.heap.size, 5, none⟩ (.slice r6 n6 q6)) := (below_seq W2.out h8).setCell (Nat.le_refl _) _
          have e4 : OwnC (x8.setCell ⟨w.heap.size, 5, none⟩ (.slice r6 n6 q6)) w2.heap.size (.slice r6 n6 q6) D := f6.upd (fun k hk => heap_setCell_other _ _ _ _ (by have := S2.out; show k ≠ w.heap.size; omega))
          refine ⟨e1, ?_⟩
          refine m_end (by kernel_rfl) ?_
          go_wp2
          go_meet
          exact ⟨rfl, r6, q6, e0, e1, e2, e3, e4⟩
      · skip
        refine (g_val (d := 25) (.slice (some ⟨x1.heap.size, 0, none⟩) 1 1) (x1.alloc (.cells (cavRow x z) 87)) (by kernel_rfl) (by kernel_rfl) ?_)
        have b9 := below_one x1 (.cells (cavRow x z) 87)
        have h9 := below_seq h1 b9
        have f5 := cav_one x1 x z _ rfl Hz.out
        have f0 := f0.keep b9
        have hne : x1.heap.size ≠ g0 := by omega
        obtain ⟨k5, hk5⟩ : ∃ k, k = x1.heap.size := ⟨_, rfl⟩
        have lk5 : k5 < (x1.alloc (.cells (cavRow x z) 87)).heap.size := by rw [hk5]; simp
        have lg0 : g0 < (x1.alloc (.cells (cavRow x z) 87)).heap.size := Nat.lt_of_lt_of_le lg0 b9.size
        obtain ⟨x9, hx9⟩ : ∃ y, y = x1.alloc (.cells (cavRow x z) 87) := ⟨_, rfl⟩
        rw [← hx9] at h9 lk5
        rw [← hk5, ← hx9] at f5
        rw [← hx9] at f0 lg0
        rw [← hk5] at hne
        rw [← hk5, ← hx9]
        clear hx9 hk5 b9
        refine ⟨CC.out _ h9, ?_⟩
        simp only [Act.put, List.setIfInBounds_toArray, List.set_cons_succ, List.set_cons_zero]
        refine m_pick 2 (by kernel_rfl) ?_
        refine (g_val (d := 22) (.slice r len cap) x9 (by kernel_rfl) (by have c := (tok_in (T1.out x9 h9) Ht.out.tag).c5; go_simp) ?_)
        refine ⟨CC.out _ h9, ?_⟩
        simp only [Act.put, List.setIfInBounds_toArray, List.set_cons_succ, List.set_cons_zero]
        refine m_pick 3 (by kernel_rfl) ?_
        refine (g_cavs (d := 23) (.tmp 20) (.tmp 22) (by kernel_rfl) (by kernel_rfl) w2.heap.size (.slice (some ⟨g0, 0, none⟩) 0 0) [] cs r len cap (by kernel_rfl) (by kernel_rfl) f0 (C2.out _ h9) (by rw [Hlen.out]; simp; omega) h9.size ?_)
        intro v3 x11 f3 hg11
        rw [cat_cavs_nil] at f3
        have h11 := f0.below h9 h9.size hg11
        have f5 := f5.grown hg11 (fun a ha => by obtain rfl := Option.some.inj ha; intro hq; exact hne (Option.some.inj hq))
        have lk5 := Nat.lt_of_lt_of_le lk5 hg11.size
        refine ⟨CC.out _ h11, ?_⟩
        simp only [Act.put, List.setIfInBounds_toArray, List.set_cons_succ, List.set_cons_zero]
        refine m_pick 6 (by kernel_rfl) ?_
        refine (g_cavs (d := 26) (.tmp 23) (.tmp 25) (by kernel_rfl) (by kernel_rfl) w2.heap.size v3 cs [(x, z)] (some ⟨k5, 0, none⟩) 1 1 (by kernel_rfl) (by kernel_rfl) f3 f5 (by rw [Hlen.out]; simp; omega) h11.size ?_)
        intro v6 x12 f6 hg12
        rw [← HD.out] at f6
        have h12 := f3.below h11 h11.size hg12
        obtain ⟨r6, q6, rfl, _, _⟩ := f6.at_len n6 Hn6.out
        refine ⟨CC.out _ h12, ?_⟩
        simp only [Act.put, List.setIfInBounds_toArray, List.set_cons_succ, List.set_cons_zero]
        refine g_quiet (CC.out _ h12) 7 27 (.pointer (some ⟨w.heap.size, 5, none⟩)) (by kernel_rfl) (by kernel_rfl) (by kernel_rfl) (by kernel_rfl) (fun w3 hw3 => by go_simp) ?_
        simp only [Act.put, List.setIfInBounds_toArray, List.set_cons_succ, List.set_cons_zero]
        have t7 := T1.out _ h12
        refine m_pick 8 (by kernel_rfl) (step_skip (x12.setCell ⟨w.heap.size, 5, none⟩ (.slice r6 n6 q6)) (by kernel_rfl) (by have c := (tok_in t7 Ht.out.tag).c5; have f := frozen_of_row x12 w.heap.size 5 _ _ t7; go_simp) ?_)
        have e0 : (x12.setCell ⟨w.heap.size, 5, none⟩ (.slice r6 n6 q6)).heap[w.heap.size]? = some (.cells (tokRow t (.slice r6 n6 q6)) 51 (0, 0)) := by rw [← tokRow_putList t (.slice r len cap)]; exact heap_setCell_same _ _ _ _ _ _ t7
        have e1 : (x12.setCell ⟨w.heap.size, 5, none⟩ (.slice r6 n6 q6)).heap[w.heap.size + 1]? = some (.cells (cavRow x z) 87 (0, 0)) := by rw [heap_setCell_other _ _ _ _ (by simp)]; exact V1.out _ h12
        have e2 : (x12.setCell ⟨w.heap.size, 5, none⟩ (.slice r6 n6 q6)).heap[w.heap.size + 2]? = some (.cells (tokRow zeroTok (.slice none 0 0)) 51 (0, 0)) := by rw [heap_setCell_other _ _ _ _ (by simp)]; exact Z1.out _ h12
        have e3 : Below w.heap.size w (x12.setCell ⟨w.heap.size, 5, none⟩ (.slice r6 n6 q6)) := (below_seq W2.out h12).setCell (Nat.le_refl _) _
        have e4 : OwnC (x12.setCell ⟨w.heap.size, 5, none⟩ (.slice r6 n6 q6)) w2.heap.size (.slice r6 n6 q6) D := f6.upd (fun k hk => heap_setCell_other _ _ _ _ (by have := S2.out; show k ≠ w.heap.size; omega))
        refine ⟨e1, ?_⟩
        refine m_end (by kernel_rfl) ?_
        go_wp2
        go_meet
        exact ⟨rfl, r6, q6, e0, e1, e2, e3, e4⟩
    · skip
      refine (g_val (d := 22) (.slice r len cap) w2.drew (by kernel_rfl) (by have c := (tok_in (T1.out w2.drew hcd) Ht.out.tag).c5; go_simp) ?_)
      refine ⟨CC.out _ hcd, ?_⟩
      simp only [Act.put, List.setIfInBounds_toArray, List.set_cons_succ, List.set_cons_zero]
      refine m_pick2 0 5 (by kernel_rfl) ?_ ?_
      · skip
        refine (g_val (d := 20) (.slice (some ⟨w2.drew.heap.size, 0, none⟩) 0 0) (w2.drew.alloc (.cells #[] 87)) (by kernel_rfl) (by kernel_rfl) ?_)
        have b14 := below_one w2.drew (.cells #[] 87)
        have h14 := below_seq hcd b14
        have f0 := ownC_empty w2.drew w2.heap.size hcd.size
        obtain ⟨g0, hg0⟩ : ∃ k, k = w2.drew.heap.size := ⟨_, rfl⟩
        have lg0 : g0 < (w2.drew.alloc (.cells #[] 87)).heap.size := by rw [hg0]; simp
        obtain ⟨x14, hx14⟩ : ∃ y, y = w2.drew.alloc (.cells #[] 87) := ⟨_, rfl⟩
        rw [← hx14] at h14 lg0
        rw [← hg0, ← hx14] at f0
        rw [← hg0, ← hx14]
        clear hx14 hg0 b14
        refine ⟨CC.out _ h14, ?_⟩
        simp only [Act.put, List.setIfInBounds_toArray, List.set_cons_succ, List.set_cons_zero]
        refine m_pick2 3 5 (by kernel_rfl) ?_ ?_
        · skip
          refine (g_cavs (d := 23) (.tmp 20) (.tmp 22) (by kernel_rfl) (by kernel_rfl) w2.heap.size (.slice (some ⟨g0, 0, none⟩) 0 0) [] cs r len cap (by kernel_rfl) (by kernel_rfl) f0 (C2.out _ h14) (by rw [Hlen.out]; simp; omega) h14.size ?_)
          intro v3 x15 f3 hg15
          rw [cat_cavs_nil] at f3
          have h15 := f0.below h14 h14.size hg15
          refine ⟨CC.out _ h15, ?_⟩
          simp only [Act.put, List.setIfInBounds_toArray, List.set_cons_succ, List.set_cons_zero]
          refine m_pick 5 (by kernel_rfl) ?_
          refine (g_val (d := 25) (.slice (some ⟨x15.heap.size, 0, none⟩) 1 1) (x15.alloc (.cells (cavRow x z) 87)) (by kernel_rfl) (by kernel_rfl) ?_)
          have b16 := below_one x15 (.cells (cavRow x z) 87)
          have h16 := below_seq h15 b16
          have f5 := cav_one x15 x z _ rfl Hz.out
          have f3 := f3.keep b16
          obtain ⟨k5, hk5⟩ : ∃ k, k = x15.heap.size := ⟨_, rfl⟩
          have lk5 : k5 < (x15.alloc (.cells (cavRow x z) 87)).heap.size := by rw [hk5]; simp
          obtain ⟨x16, hx16⟩ : ∃ y, y = x15.alloc (.cells (cavRow x z) 87) := ⟨_, rfl⟩
          rw [← hx16] at h16 lk5
          rw [← hk5, ← hx16] at f5
          rw [← hx16] at f3
          rw [← hk5, ← hx16]
          clear hx16 hk5 b16
          refine ⟨CC.out _ h16, ?_⟩
          simp only [Act.put, List.setIfInBounds_toArray, List.set_cons_succ, List.set_cons_zero]
          refine m_pick 6 (by kernel_rfl) ?_
          refine (g_cavs (d := 26) (.tmp 23) (.tmp 25) (by kernel_rfl) (by kernel_rfl) w2.heap.size v3 cs [(x, z)] (some ⟨k5, 0, none⟩) 1 1 (by kernel_rfl) (by kernel_rfl) f3 f5 (by rw [Hlen.out]; simp; omega) h16.size ?_)
          intro v6 x17 f6 hg17
          rw [← HD.out] at f6
          have h17 := f3.below h16 h16.size hg17
          obtain ⟨r6, q6, rfl, _, _⟩ := f6.at_len n6 Hn6.out
          refine ⟨CC.out _ h17, ?_⟩
          simp only [Act.put, List.setIfInBounds_toArray, List.set_cons_succ, List.set_cons_zero]
          refine g_quiet (CC.out _ h17) 7 27 (.pointer (some ⟨w.heap.size, 5, none⟩)) (by kernel_rfl) (by kernel_rfl) (by kernel_rfl) (by kernel_rfl) (fun w3 hw3 => by go_simp) ?_
          simp only [Act.put, List.setIfInBounds_toArray, List.set_cons_succ, List.set_cons_zero]
          have t7 := T1.out _ h17
          refine m_pick 8 (by kernel_rfl) (step_skip (x17.setCell ⟨w.heap.size, 5, none⟩ (.slice r6 n6 q6)) (by kernel_rfl) (by have c := (tok_in t7 Ht.out.tag).c5; have f := frozen_of_row x17 w.heap.size 5 _ _ t7; go_simp) ?_)
          have e0 : (x17.setCell ⟨w.heap.size, 5, none⟩ (.slice r6 n6 q6)).heap[w.heap.size]? = some (.cells (tokRow t (.slice r6 n6 q6)) 51 (0, 0)) := by rw [← tokRow_putList t (.slice r len cap)]; exact heap_setCell_same _ _ _ _ _ _ t7
          have e1 : (x17.setCell ⟨w.heap.size, 5, none⟩ (.slice r6 n6 q6)).heap[w.heap.size + 1]? = some (.cells (cavRow x z) 87 (0, 0)) := by rw [heap_setCell_other _ _ _ _ (by simp)]; exact V1.out _ h17
          have e2 : (x17.setCell ⟨w.heap.size, 5, none⟩ (.slice r6 n6 q6)).heap[w.heap.size + 2]? = some (.cells (tokRow zeroTok (.slice none 0 0)) 51 (0, 0)) := by rw [heap_setCell_other _ _ _ _ (by simp)]; exact Z1.out _ h17
          have e3 : Below w.heap.size w (x17.setCell ⟨w.heap.size, 5, none⟩ (.slice r6 n6 q6)) := (below_seq W2.out h17).setCell (Nat.le_refl _) _
          have e4 : OwnC (x17.setCell ⟨w.heap.size, 5, none⟩ (.slice r6 n6 q6)) w2.heap.size (.slice r6 n6 q6) D := f6.upd (fun k hk => heap_setCell_other _ _ _ _ (by have := S2.out; show k ≠ w.heap.size; omega))
          refine ⟨e1, ?_⟩
          refine m_end (by kernel_rfl) ?_
          go_wp2
          go_meet
          exact ⟨rfl, r6, q6, e0, e1, e2, e3, e4⟩
        · skip
          refine (g_val (d := 25) (.slice (some ⟨x14.heap.size, 0, none⟩) 1 1) (x14.alloc (.cells (cavRow x z) 87)) (by kernel_rfl) (by kernel_rfl) ?_)
          have b18 := below_one x14 (.cells (cavRow x z) 87)
          have h18 := below_seq h14 b18
          have f5 := cav_one x14 x z _ rfl Hz.out
          have f0 := f0.keep b18
          have hne : x14.heap.size ≠ g0 := by omega
          obtain ⟨k5, hk5⟩ : ∃ k, k = x14.heap.size := ⟨_, rfl⟩
          have lk5 : k5 < (x14.alloc (.cells (cavRow x z) 87)).heap.size := by rw [hk5]; simp
          have lg0 : g0 < (x14.alloc (.cells (cavRow x z) 87)).heap.size := Nat.lt_of_lt_of_le lg0 b18.size
          obtain ⟨x18, hx18⟩ : ∃ y, y = x14.alloc (.cells (cavRow x z) 87) := ⟨_, rfl⟩
          rw [← hx18] at h18 lk5
          rw [← hk5, ← hx18] at f5
          rw [← hx18] at f0 lg0
          rw [← hk5] at hne
          rw [← hk5, ← hx18]
          clear hx18 hk5 b18
          refine ⟨CC.out _ h18, ?_⟩
          simp only [Act.put, List.setIfInBounds_toArray, List.set_cons_succ, List.set_cons_zero]
          refine m_pick 3 (by kernel_rfl) ?_
          refine (g_cavs (d := 23) (.tmp 20) (.tmp 22) (by kernel_rfl) (by kernel_rfl) w2.heap.size (.slice (some ⟨g0, 0, none⟩) 0 0) [] cs r len cap (by kernel_rfl) (by kernel_rfl) f0 (C2.out _ h18) (by rw [Hlen.out]; simp; omega) h18.size ?_)
          intro v3 x19 f3 hg19
          rw [cat_cavs_nil] at f3
          have h19 := f0.below h18 h18.size hg19
          have f5 := f5.grown hg19 (fun a ha => by obtain rfl := Option.some.inj ha; intro hq; exact hne (Option.some.inj hq))
          have lk5 := Nat.lt_of_lt_of_le lk5 hg19.size
          refine ⟨CC.out _ h19, ?_⟩
          simp only [Act.put, List.setIfInBounds_toArray, List.set_cons_succ, List.set_cons_zero]
          refine m_pick 6 (by kernel_rfl) ?_
          refine (g_cavs (d := 26) (.tmp 23) (.tmp 25) (by kernel_rfl) (by kernel_rfl) w2.heap.size v3 cs [(x, z)] (some ⟨k5, 0, none⟩) 1 1 (by kernel_rfl) (by kernel_rfl) f3 f5 (by rw [Hlen.out]; simp; omega) h19.size ?_)
          intro v6 x20 f6 hg20
          rw [← HD.out] at f6
          have h20 := f3.below h19 h19.size hg20
          obtain ⟨r6, q6, rfl, _, _⟩ := f6.at_len n6 Hn6.out
          refine ⟨CC.out _ h20, ?_⟩
          simp only [Act.put, List.setIfInBounds_toArray, List.set_cons_succ, List.set_cons_zero]
          refine g_quiet (CC.out _ h20) 7 27 (.pointer (some ⟨w.heap.size, 5, none⟩)) (by kernel_rfl) (by kernel_rfl) (by kernel_rfl) (by kernel_rfl) (fun w3 hw3 => by go_simp) ?_
          simp only [Act.put, List.setIfInBounds_toArray, List.set_cons_succ, List.set_cons_zero]
          have t7 := T1.out _ h20
          refine m_pick 8 (by kernel_rfl) (step_skip (x20.setCell ⟨w.heap.size, 5, none⟩ (.slice r6 n6 q6)) (by kernel_rfl) (by have c := (tok_in t7 Ht.out.tag).c5; have f := frozen_of_row x20 w.heap.size 5 _ _ t7; go_simp) ?_)
          have e0 : (x20.setCell ⟨w.heap.size, 5, none⟩ (.slice r6 n6 q6)).heap[w.heap.size]? = some (.cells (tokRow t (.slice r6 n6 q6)) 51 (0, 0)) := by rw [← tokRow_putList t (.slice r len cap)]; exact heap_setCell_same _ _ _ _ _ _ t7
          have e1 : (x20.setCell ⟨w.heap.size, 5, none⟩ (.slice r6 n6 q6)).heap[w.heap.size + 1]? = some (.cells (cavRow x z) 87 (0, 0)) := by rw [heap_setCell_other _ _ _ _ (by simp)]; exact V1.out _ h20
          have e2 : (x20.setCell ⟨w.heap.size, 5, none⟩ (.slice r6 n6 q6)).heap[w.heap.size + 2]? = some (.cells (tokRow zeroTok (.slice none 0 0)) 51 (0, 0)) := by rw [heap_setCell_other _ _ _ _ (by simp)]; exact Z1.out _ h20
          have e3 : Below w.heap.size w (x20.setCell ⟨w.heap.size, 5, none⟩ (.slice r6 n6 q6)) := (below_seq W2.out h20).setCell (Nat.le_refl _) _
          have e4 : OwnC (x20.setCell ⟨w.heap.size, 5, none⟩ (.slice r6 n6 q6)) w2.heap.size (.slice r6 n6 q6) D := f6.upd (fun k hk => heap_setCell_other _ _ _ _ (by have := S2.out; show k ≠ w.heap.size; omega))
          refine ⟨e1, ?_⟩
          refine m_end (by kernel_rfl) ?_
          go_wp2
          go_meet
          exact ⟨rfl, r6, q6, e0, e1, e2, e3, e4⟩
      · skip
        refine (g_val (d := 25) (.slice (some ⟨w2.drew.heap.size, 0, none⟩) 1 1) (w2.drew.alloc (.cells (cavRow x z) 87)) (by kernel_rfl) (by kernel_rfl) ?_)
        have b21 := below_one w2.drew (.cells (cavRow x z) 87)
        have h21 := below_seq hcd b21
        have f5 := cav_one w2.drew x z _ rfl Hz.out
        obtain ⟨k5, hk5⟩ : ∃ k, k = w2.drew.heap.size := ⟨_, rfl⟩
        have lk5 : k5 < (w2.drew.alloc (.cells (cavRow x z) 87)).heap.size := by rw [hk5]; simp
        obtain ⟨x21, hx21⟩ : ∃ y, y = w2.drew.alloc (.cells (cavRow x z) 87) := ⟨_, rfl⟩
        rw [← hx21] at h21 lk5
        rw [← hk5, ← hx21] at f5
        rw [← hk5, ← hx21]
        clear hx21 hk5 b21
        refine ⟨CC.out _ h21, ?_⟩
        simp only [Act.put, List.setIfInBounds_toArray, List.set_cons_succ, List.set_cons_zero]
        refine m_pick 0 (by kernel_rfl) ?_
        refine (g_val (d := 20) (.slice (some ⟨x21.heap.size, 0, none⟩) 0 0) (x21.alloc (.cells #[] 87)) (by kernel_rfl) (by kernel_rfl) ?_)
        have b22 := below_one x21 (.cells #[] 87)
        have h22 := below_seq h21 b22
        have f0 := ownC_empty x21 w2.heap.size h21.size
        have f5 := f5.below b22
        have hne : k5 ≠ x21.heap.size := by omega
        obtain ⟨g0, hg0⟩ : ∃ k, k = x21.heap.size := ⟨_, rfl⟩
        have lg0 : g0 < (x21.alloc (.cells #[] 87)).heap.size := by rw [hg0]; simp
        have lk5 : k5 < (x21.alloc (.cells #[] 87)).heap.size := Nat.lt_of_lt_of_le lk5 b22.size
        obtain ⟨x22, hx22⟩ : ∃ y, y = x21.alloc (.cells #[] 87) := ⟨_, rfl⟩
        rw [← hx22] at h22 lg0
        rw [← hg0, ← hx22] at f0
        rw [← hx22] at f5 lk5
        rw [← hg0] at hne
        rw [← hg0, ← hx22]
        clear hx22 hg0 b22
        refine ⟨CC.out _ h22, ?_⟩
        simp only [Act.put, List.setIfInBounds_toArray, List.set_cons_succ, List.set_cons_zero]
        refine m_pick 3 (by kernel_rfl) ?_
        refine (g_cavs (d := 23) (.tmp 20) (.tmp 22) (by kernel_rfl) (by kernel_rfl) w2.heap.size (.slice (some ⟨g0, 0, none⟩) 0 0) [] cs r len cap (by kernel_rfl) (by kernel_rfl) f0 (C2.out _ h22) (by rw [Hlen.out]; simp; omega) h22.size ?_)
        intro v3 x23 f3 hg23
        rw [cat_cavs_nil] at f3
        have h23 := f0.below h22 h22.size hg23
        have f5 := f5.grown hg23 (fun a ha => by obtain rfl := Option.some.inj ha; intro hq; exact hne (Option.some.inj hq))
        have lk5 := Nat.lt_of_lt_of_le lk5 hg23.size
        refine ⟨CC.out _ h23, ?_⟩
        simp only [Act.put, List.setIfInBounds_toArray, List.set_cons_succ, List.set_cons_zero]
        refine m_pick 6 (by kernel_rfl) ?_
        refine (g_cavs (d := 26) (.tmp 23) (.tmp 25) (by kernel_rfl) (by kernel_rfl) w2.heap.size v3 cs [(x, z)] (some ⟨k5, 0, none⟩) 1 1 (by kernel_rfl) (by kernel_rfl) f3 f5 (by rw [Hlen.out]; simp; omega) h23.size ?_)
        intro v6 x24 f6 hg24
        rw [← HD.out] at f6
        have h24 := f3.below h23 h23.size hg24
        obtain ⟨r6, q6, rfl, _, _⟩ := f6.at_len n6 Hn6.out
        refine ⟨CC.out _ h24, ?_⟩
        simp only [Act.put, List.setIfInBounds_toArray, List.set_cons_succ, List.set_cons_zero]
        refine g_quiet (CC.out _ h24) 7 27 (.pointer (some ⟨w.heap.size, 5, none⟩)) (by kernel_rfl) (by kernel_rfl) (by kernel_rfl) (by kernel_rfl) (fun w3 hw3 => by go_simp) ?_
        simp only [Act.put, List.setIfInBounds_toArray, List.set_cons_succ, List.set_cons_zero]
        have t7 := T1.out _ h24
        refine m_pick 8 (by kernel_rfl) (step_skip (x24.setCell ⟨w.heap.size, 5, none⟩ (.slice r6 n6 q6)) (by kernel_rfl) (by have c := (tok_in t7 Ht.out.tag).c5; have f := frozen_of_row x24 w.heap.size 5 _ _ t7; go_simp) ?_)
        have e0 : (x24.setCell ⟨w.heap.size, 5, none⟩ (.slice r6 n6 q6)).heap[w.heap.size]? = some (.cells (tokRow t (.slice r6 n6 q6)) 51 (0, 0)) := by rw [← tokRow_putList t (.slice r len cap)]; exact heap_setCell_same _ _ _ _ _ _ t7
        have e1 : (x24.setCell ⟨w.heap.size, 5, none⟩ (.slice r6 n6 q6)).heap[w.heap.size + 1]? = some (.cells (cavRow x z) 87 (0, 0)) := by rw [heap_setCell_other _ _ _ _ (by simp)]; exact V1.out _ h24
        have e2 : (x24.setCell ⟨w.heap.size, 5, none⟩ (.slice r6 n6 q6)).heap[w.heap.size + 2]? = some (.cells (tokRow zeroTok (.slice none 0 0)) 51 (0, 0)) := by rw [heap_setCell_other _ _ _ _ (by simp)]; exact Z1.out _ h24
        have e3 : Below w.heap.size w (x24.setCell ⟨w.heap.size, 5, none⟩ (.slice r6 n6 q6)) := (below_seq W2.out h24).setCell (Nat.le_refl _) _
        have e4 : OwnC (x24.setCell ⟨w.heap.size, 5, none⟩ (.slice r6 n6 q6)) w2.heap.size (.slice r6 n6 q6) D := f6.upd (fun k hk => heap_setCell_other _ _ _ _ (by have := S2.out; show k ≠ w.heap.size; omega))
        refine ⟨e1, ?_⟩
        refine m_end (by kernel_rfl) ?_
        go_wp2
        go_meet
        exact ⟨rfl, r6, q6, e0, e1, e2, e3, e4⟩
    · skip
      refine (g_val (d := 25) (.slice (some ⟨w2.drew.heap.size, 0, none⟩) 1 1) (w2.drew.alloc (.cells (cavRow x z) 87)) (by kernel_rfl) (by kernel_rfl) ?_)
      have b25 := below_one w2.drew (.cells (cavRow x z) 87)
      have h25 := below_seq hcd b25
      have f5 := cav_one w2.drew x z _ rfl Hz.out
      obtain ⟨k5, hk5⟩ : ∃ k, k = w2.drew.heap.size := ⟨_, rfl⟩
      have lk5 : k5 < (w2.drew.alloc (.cells (cavRow x z) 87)).heap.size := by rw [hk5]; simp
      obtain ⟨x25, hx25⟩ : ∃ y, y = w2.drew.alloc (.cells (cavRow x z) 87) := ⟨_, rfl⟩
      rw [← hx25] at h25 lk5
      rw [← hk5, ← hx25] at f5
      rw [← hk5, ← hx25]
      clear hx25 hk5 b25
      refine ⟨CC.out _ h25, ?_⟩
      simp only [Act.put, List.setIfInBounds_toArray, List.set_cons_succ, List.set_cons_zero]
      refine m_pick2 0 2 (by kernel_rfl) ?_ ?_
      · skip
        refine (g_val (d := 20) (.slice (some ⟨x25.heap.size, 0, none⟩) 0 0) (x25.alloc (.cells #[] 87)) (by kernel_rfl) (by kernel_rfl) ?_)
        have b26 := below_one x25 (.cells #[] 87)
        have h26 := below_seq h25 b26
        have f0 := ownC_empty x25 w2.heap.size h25.size
        have f5 := f5.below b26
        have hne : k5 ≠ x25.heap.size := by omega
        obtain ⟨g0, hg0⟩ : ∃ k, k = x25.heap.size := ⟨_, rfl⟩
        have lg0 : g0 < (x25.alloc (.cells #[] 87)).heap.size := by rw [hg0]; simp
        have lk5 : k5 < (x25.alloc (.cells #[] 87)).heap.size := Nat.lt_of_lt_of_le lk5 b26.size
        obtain ⟨x26, hx26⟩ : ∃ y, y = x25.alloc (.cells #[] 87) := ⟨_, rfl⟩
        rw [← hx26] at h26 lg0
        rw [← hg0, ← hx26] at f0
        rw [← hx26] at f5 lk5
        rw [← hg0] at hne
        rw [← hg0, ← hx26]
        clear hx26 hg0 b26
        refine ⟨CC.out _ h26, ?_⟩
        simp only [Act.put, List.setIfInBounds_toArray, List.set_cons_succ, List.set_cons_zero]
        refine m_pick 2 (by kernel_rfl) ?_
        refine (g_val (d := 22) (.slice r len cap) x26 (by kernel_rfl) (by have c := (tok_in (T1.out x26 h26) Ht.out.tag).c5; go_simp) ?_)
        refine ⟨CC.out _ h26, ?_⟩
        simp only [Act.put, List.setIfInBounds_toArray, List.set_cons_succ, List.set_cons_zero]
        refine m_pick 3 (by kernel_rfl) ?_
        refine (g_cavs (d := 23) (.tmp 20) (.tmp 22) (by kernel_rfl) (by kernel_rfl) w2.heap.size (.slice (some ⟨g0, 0, none⟩) 0 0) [] cs r len cap (by kernel_rfl) (by kernel_rfl) f0 (C2.out _ h26) (by rw [Hlen.out]; simp; omega) h26.size ?_)
        intro v3 x28 f3 hg28
        rw [cat_cavs_nil] at f3
        have h28 := f0.below h26 h26.size hg28
        have f5 := f5.grown hg28 (fun a ha => by obtain rfl := Option.some.inj ha; intro hq; exact hne (Option.some.inj hq))
        have lk5 := Nat.lt_of_lt_of_le lk5 hg28.size
        refine ⟨CC.out _ h28, ?_⟩
        simp only [Act.put, List.setIfInBounds_toArray, List.set_cons_succ, List.set_cons_zero]
        refine m_pick 6 (by kernel_rfl) ?_
        refine (g_cavs (d := 26) (.tmp 23) (.tmp 25) (by kernel_rfl) (by kernel_rfl) w2.heap.size v3 cs [(x, z)] (some ⟨k5, 0, none⟩) 1 1 (by kernel_rfl) (by kernel_rfl) f3 f5 (by rw [Hlen.out]; simp; omega) h28.size ?_)
        intro v6 x29 f6 hg29
        rw [← HD.out] at f6
        have h29 := f3.below h28 h28.size hg29
        obtain ⟨r6, q6, rfl, _, _⟩ := f6.at_len n6 Hn6.out
        refine ⟨CC.out _ h29, ?_⟩
        simp only [Act.put, List.setIfInBounds_toArray, List.set_cons_succ, List.set_cons_zero]
        refine g_quiet (CC.out _ h29) 7 27 (.pointer (some ⟨w.heap.size, 5, none⟩)) (by kernel_rfl) (by kernel_rfl) (by kernel_rfl) (by kernel_rfl) (fun w3 hw3 => by go_simp) ?_
        simp only [Act.put, List.setIfInBounds_toArray, List.set_cons_succ, List.set_cons_zero]
        have t7 := T1.out _ h29
        refine m_pick 8 (by kernel_rfl) (step_skip (x29.setCell ⟨w.heap.size, 5, none⟩ (.slice r6 n6 q6)) (by kernel_rfl) (by have c := (tok_in t7 Ht.out.tag).c5; have f := frozen_of_row x29 w.heap.size 5 _ _ t7; go_simp) ?_)
        have e0 : (x29.setCell ⟨w.heap.size, 5, none⟩ (.slice r6 n6 q6)).heap[w.heap.size]? = some (.cells (tokRow t (.slice r6 n6 q6)) 51 (0, 0)) := by rw [← tokRow_putList t (.slice r len cap)]; exact heap_setCell_same _ _ _ _ _ _ t7
        have e1 : (x29.setCell ⟨w.heap.size, 5, none⟩ (.slice r6 n6 q6)).heap[w.heap.size + 1]? = some (.cells (cavRow x z) 87 (0, 0)) := by rw [heap_setCell_other _ _ _ _ (by simp)]; exact V1.out _ h29
        have e2 : (x29.setCell ⟨w.heap.size, 5, none⟩ (.slice r6 n6 q6)).heap[w.heap.size + 2]? = some (.cells (tokRow zeroTok (.slice none 0 0)) 51 (0, 0)) := by rw [heap_setCell_other _ _ _ _ (by simp)]; exact Z1.out _ h29
        have e3 : Below w.heap.size w (x29.setCell ⟨w.heap.size, 5, none⟩ (.slice r6 n6 q6)) := (below_seq W2.out h29).setCell (Nat.le_refl _) _
        have e4 : OwnC (x29.setCell ⟨w.heap.size, 5, none⟩ (.slice r6 n6 q6)) w2.heap.size (.slice r6 n6 q6) D := f6.upd (fun k hk => heap_setCell_other _ _ _ _ (by have := S2.out; show k ≠ w.heap.size; omega))
        refine ⟨e1, ?_⟩
        refine m_end (by kernel_rfl) ?_
        go_wp2
        go_meet
        exact ⟨rfl, r6, q6, e0, e1, e2, e3, e4⟩
      · skip
        refine (g_val (d := 22) (.slice r len cap) x25 (by kernel_rfl) (by have c := (tok_in (T1.out x25 h25) Ht.out.tag).c5; go_simp) ?_)
        refine ⟨CC.out _ h25, ?_⟩
        simp only [Act.put, List.setIfInBounds_toArray, List.set_cons_succ, List.set_cons_zero]
        refine m_pick 0 (by kernel_rfl) ?_
        refine (g_val (d := 20) (.slice (some ⟨x25.heap.size, 0, none⟩) 0 0) (x25.alloc (.cells #[] 87)) (by kernel_rfl) (by kernel_rfl) ?_)
        have b31 := below_one x25 (.cells #[] 87)
        have h31 := below_seq h25 b31
        have f0 := ownC_empty x25 w2.heap.size h25.size
        have f5 := f5.below b31
        have hne : k5 ≠ x25.heap.size := by omega
        obtain ⟨g0, hg0⟩ : ∃ k, k = x25.heap.size := ⟨_, rfl⟩
        have lg0 : g0 < (x25.alloc (.cells #[] 87)).heap.size := by rw [hg0]; simp
        have lk5 : k5 < (x25.alloc (.cells #[] 87)).heap.size := Nat.lt_of_lt_of_le lk5 b31.size
        obtain ⟨x31, hx31⟩ : ∃ y, y = x25.alloc (.cells #[] 87) := ⟨_, rfl⟩
        rw [← hx31] at h31 lg0
        rw [← hg0, ← hx31] at f0
        rw [← hx31] at f5 lk5
        rw [← hg0] at hne
        rw [← hg0, ← hx31]
        clear hx31 hg0 b31
        refine ⟨CC.out _ h31, ?_⟩
        simp only [Act.put, List.setIfInBounds_toArray, List.set_cons_succ, List.set_cons_zero]
        refine m_pick 3 (by kernel_rfl) ?_
        refine (g_cavs (d := 23) (.tmp 20) (.tmp 22) (by kernel_rfl) (by kernel_rfl) w2.heap.size (.slice (some ⟨g0, 0, none⟩) 0 0) [] cs r len cap (by kernel_rfl) (by kernel_rfl) f0 (C2.out _ h31) (by rw [Hlen.out]; simp; omega) h31.size ?_)
        intro v3 x32 f3 hg32
        rw [cat_cavs_nil] at f3
        have h32 := f0.below h31 h31.size hg32
        have f5 := f5.grown hg32 (fun a ha => by obtain rfl := Option.some.inj ha; intro hq; exact hne (Option.some.inj hq))
        have lk5 := Nat.lt_of_lt_of_le lk5 hg32.size
        refine ⟨CC.out _ h32, ?_⟩
        simp only [Act.put, List.setIfInBounds_toArray, List.set_cons_succ, List.set_cons_zero]
        refine m_pick 6 (by kernel_rfl) ?_
        refine (g_cavs (d := 26) (.tmp 23) (.tmp 25) (by kernel_rfl) (by kernel_rfl) w2.heap.size v3 cs [(x, z)] (some ⟨k5, 0, none⟩) 1 1 (by kernel_rfl) (by kernel_rfl) f3 f5 (by rw [Hlen.out]; simp; omega) h32.size ?_)
        intro v6 x33 f6 hg33
        rw [← HD.out] at f6
        have h33 := f3.below h32 h32.size hg33
        obtain ⟨r6, q6, rfl, _, _⟩ := f6.at_len n6 Hn6.out
        refine ⟨CC.out _ h33, ?_⟩
        simp only [Act.put, List.setIfInBounds_toArray, List.set_cons_succ, List.set_cons_zero]
        refine g_quiet (CC.out _ h33) 7 27 (.pointer (some ⟨w.heap.size, 5, none⟩)) (by kernel_rfl) (by kernel_rfl) (by kernel_rfl) (by kernel_rfl) (fun w3 hw3 => by go_simp) ?_
        simp only [Act.put, List.setIfInBounds_toArray, List.set_cons_succ, List.set_cons_zero]
        have t7 := T1.out _ h33
        refine m_pick 8 (by kernel_rfl) (step_skip (x33.setCell ⟨w.heap.size, 5, none⟩ (.slice r6 n6 q6)) (by kernel_rfl) (by have c := (tok_in t7 Ht.out.tag).c5; have f := frozen_of_row x33 w.heap.size 5 _ _ t7; go_simp) ?_)
        have e0 : (x33.setCell ⟨w.heap.size, 5, none⟩ (.slice r6 n6 q6)).heap[w.heap.size]? = some (.cells (tokRow t (.slice r6 n6 q6)) 51 (0, 0)) := by rw [← tokRow_putList t (.slice r len cap)]; exact heap_setCell_same _ _ _ _ _ _ t7
        have e1 : (x33.setCell ⟨w.heap.size, 5, none⟩ (.slice r6 n6 q6)).heap[w.heap.size + 1]? = some (.cells (cavRow x z) 87 (0, 0)) := by rw [heap_setCell_other _ _ _ _ (by simp)]; exact V1.out _ h33
        have e2 : (x33.setCell ⟨w.heap.size, 5, none⟩ (.slice r6 n6 q6)).heap[w.heap.size + 2]? = some (.cells (tokRow zeroTok (.slice none 0 0)) 51 (0, 0)) := by rw [heap_setCell_other _ _ _ _ (by simp)]; exact Z1.out _ h33
        have e3 : Below w.heap.size w (x33.setCell ⟨w.heap.size, 5, none⟩ (.slice r6 n6 q6)) := (below_seq W2.out h33).setCell (Nat.le_refl _) _
        have e4 : OwnC (x33.setCell ⟨w.heap.size, 5, none⟩ (.slice r6 n6 q6)) w2.heap.size (.slice r6 n6 q6) D := f6.upd (fun k hk => heap_setCell_other _ _ _ _ (by have := S2.out; show k ≠ w.heap.size; omega))
        refine ⟨e1, ?_⟩
        refine m_end (by kernel_rfl) ?_
        go_wp2
        go_meet
        exact ⟨rfl, r6, q6, e0, e1, e2, e3, e4⟩
  case rest =>
    obtain ⟨rfl, r6, q6, r0, r1, r2, r3, r4⟩ := hcut
    have P0 := Lib.hid r0
    have P1 := Lib.hid r1
    have P2 := Lib.hid r2
    have P3 := Lib.hid r3
    have P4 := Lib.hid r4
    clear r0 r1 r2 r3 r4
    go_upto_region 6 with (fail)
    have HK := Lib.hid (tok_in P0.out Ht.out.tag).tag
    have hv1 : wc.drew.cell? ⟨w.heap.size + 1, 0, none⟩ = some (W8 x) := cell_row P1.out rfl
    have hv2 : wc.drew.cell? ⟨w.heap.size + 1, 0 + 1, none⟩ = some (.int .i64 z) := cell_row P1.out rfl
    have hcd : Below wc.heap.size wc wc.drew := (Below.refl _ _).drew
    refine region_k (fun _ => True) (by kernel_rfl) trivial (fun Kr hKr => ?_)
    refine g_quiet trivial 0 28 (.pointer (some ⟨w.heap.size, 6, none⟩)) (by kernel_rfl) (by kernel_rfl) (by kernel_rfl) (by kernel_rfl) (fun w3 hw3 => by go_simp) ?_
    refine g_quiet trivial 1 29 (.slice (some ⟨w.heap.size, 6, none⟩) 32 32) (by kernel_rfl) (by kernel_rfl) (by kernel_rfl) (by kernel_rfl) (fun w3 hw3 => by go_simp) ?_
    simp only [Act.put, List.setIfInBounds_toArray, List.set_cons_succ, List.set_cons_zero]
    refine m_pick 2 (by kernel_rfl) (g_val (d := 30) (.agg (cavRow x z)) wc.drew (by kernel_rfl) (load87_hy (.tmp 3) (by kernel_rfl) (w.heap.size + 1) 0 x z (by kernel_rfl) _ hv1 hv2) ?_)
    refine ⟨trivial, ?_⟩
    simp only [Act.put, List.setIfInBounds_toArray, List.set_cons_succ, List.set_cons_zero]
    refine m_pick 3 (by kernel_rfl) (g_call (d := 31) 102 #[.agg (cavRow x z)] (by kernel_rfl) (by kernel_rfl) ((refCaveat_any _ x z Hz.out).mono ?_))
    rintro e w5 ⟨v5, rfl, ho, hb5⟩
    obtain ⟨r5, c5, rfl, hB5, _⟩ := ho.at_len 9 (cavOf_length _ _)
    have h5 := below_seq hcd hb5
    refine ⟨_, rfl, trivial, ?_⟩
    simp only [Act.put, List.setIfInBounds_toArray, List.set_cons_succ, List.set_cons_zero]
    refine m_pick 4 (by kernel_rfl) (g_val (d := 32) (.slice (some ⟨w5.heap.size, 0, none⟩) 1 1) (w5.alloc (.cells #[.slice r5 9 c5] 29)) (by kernel_rfl) (by kernel_rfl) ?_)
    have h6 := below_seq h5 (below_one w5 (.cells #[.slice r5 9 c5] 29))
    refine ⟨trivial, ?_⟩
    simp only [Act.put, List.setIfInBounds_toArray, List.set_cons_succ, List.set_cons_zero]
    refine m_pick 5 (by kernel_rfl) (g_call (d := 33) 57 #[.slice (some ⟨w.heap.size, 6, none⟩) 32 32, .slice (some ⟨w5.heap.size, 0, none⟩) 1 1] (by kernel_rfl) (by kernel_rfl) ((refMacOf_any (HK.out.below h6) (parts_one hB5 _ rfl) (by omega) (by omega) (by simp [cavOf_length])).mono ?_))
    rintro e w7 ⟨rfl, hb7⟩
    rw [← HT.out]
    have h7 := below_seq h6 hb7
    refine ⟨_, rfl, trivial, ?_⟩
    have R07 := (h7.block _ (heap_lt P0.out)).trans P0.out
    have R27 := (h7.block _ (heap_lt P2.out)).trans P2.out
    have O7 := P4.out.keep h7
    simp only [Act.put, List.setIfInBounds_toArray, List.set_cons_succ, List.set_cons_zero]
    refine g_quiet trivial 6 34 (.pointer (some ⟨w.heap.size, 6, none⟩)) (by kernel_rfl) (by kernel_rfl) (by kernel_rfl) (by kernel_rfl) (fun w3 hw3 => by go_simp) ?_
    simp only [Act.put, List.setIfInBounds_toArray, List.set_cons_succ, List.set_cons_zero]
    refine m_pick 7 (by kernel_rfl) (g_store_sub 31 (.tmp 34) (.tmp 33) (by kernel_rfl) w.heap.size 6 (row8 T) (by kernel_rfl) (by kernel_rfl) 51 (tokRow t (.slice r6 n6 q6)) (tokRow t2 (.slice r6 n6 q6)) R07 (info31 _ HTl.out) (by rw [row8_size, HTl.out, tokRow_size _ _ Ht.out.tag]; omega) (row8_one _) (Hput.out _) ?_)
    refine ⟨trivial, ?_⟩
    refine m_end (by kernel_rfl) ?_
    have r0 : (w7.setRow w.heap.size (tokRow t2 (.slice r6 n6 q6))).heap[w.heap.size]? = some (.cells (tokRow t2 (.slice r6 n6 q6)) 51 (0, 0)) := setRow_heap _ _ _ _ _ _ R07
    have r1 : (w7.setRow w.heap.size (tokRow t2 (.slice r6 n6 q6))).heap[w.heap.size + 2]? = some (.cells (tokRow zeroTok (.slice none 0 0)) 51 (0, 0)) := (setRow_other _ _ _ _ (by omega)).trans R27
    have r2 : Below w.heap.size w (w7.setRow w.heap.size (tokRow t2 (.slice r6 n6 q6))) := below_row (below_seq P3.out h7) (Nat.le_refl _) _
    have r3 : OwnC (w7.setRow w.heap.size (tokRow t2 (.slice r6 n6 q6))) w2.heap.size (.slice r6 n6 q6) D := O7.upd (fun k hk => setRow_other _ _ _ _ (by have := S2.out; omega))
    obtain ⟨w9, hw9⟩ : ∃ w9, w9 = w7.setRow w.heap.size (tokRow t2 (.slice r6 n6 q6)) := ⟨_, rfl⟩
    rw [← hw9] at r0 r1 r2 r3 ⊢
    have Q0 := Lib.hid r0
    have Q1 := Lib.hid r1
    have Q2 := Lib.hid r2
    have Q3 := Lib.hid r3
    clear r0 r1 r2 r3 hw9 R07 R27 O7 h7 h6 h5 hB5 ho hcd hv1 hv2
    go_wp2_with (first
      | (refine wpList_load_row rfl 51 _ rfl _ rfl 51 _ _ _ Q0.out Try.underlying51 rfl (info51 _ _ Ht2l.out) ?_)
      | (refine wpList_store_row rfl 51 _ _ rfl _ _ rfl rfl 51 _ Q1.out (info51 _ _ Ht2l.out) (by rw [tokRow_size _ _ zero32_length, tokRow_size _ _ Ht2l.out]) (tokRow_one _ _ rfl) ?_))
    exact bodyPost_ret (results_cell_2 (p := 4) (t1 := 5) rfl _ _ _ 51 _ _ _ rfl (setRow_heap _ _ _ _ _ _ Q1.out) Try.underlying51 rfl (info51 _ _ Ht2l.out)) rfl ⟨_, rfl, (Q3.out.upd (fun k hk => setRow_other _ _ _ _ (by have := S2.out; omega))).base (by have := S2.out; omega), below_row Q2.out (by omega) _⟩
end Go.Proofs.Ytafakjdolnigaaa
