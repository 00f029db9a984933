/- The walk of cofferref3.Derive. -/
import Derived.Test.YtafakjdolnigaaaRef3B
namespace Go.Proofs.Ytafakjdolnigaaa
open Go.RowKit
set_option linter.unusedVariables false

set_option maxRecDepth 100000 in
set_option maxHeartbeats 4000000 in
theorem refDerive_any (w : World) (key : List UInt8) (hk : key.length = 32) (label : ByteArray) (hl : label.size ≤ 4096) (n : UInt64) :
    Calls Try.prog 61 #[.agg (row8 key), .string label, W64 n] w fun e w' => e = .returned (.agg (row8 (macOf key [label.data.toList, be64 n]))) ∧ Below w.heap.size w w' := by
  obtain ⟨D, hD⟩ : ∃ D, D = macOf key [label.data.toList, be64 n] := ⟨_, rfl⟩
  have hDl : D.length = 32 := by rw [hD]; exact macOf_length _ _
  rw [← hD]
  have HD := Lib.hid hD
  have HDl := Lib.hid hDl
  have Hk := Lib.hid hk
  clear hD hDl hk
  go_enter Try.func61, Try.ntmps61
  go_upto_region 1 with (first
    | (refine wpList_box rfl 31 _ rfl _ rfl ?_)
    | (refine wpList_allocRow 31 _ alloc31 rfl rfl ?_))
  refine abstract_world (fun W => W.heap[w.heap.size]? = some (.cells (row8 key) 31 (0, 0)) ∧ W.heap[w.heap.size + 1]? = some (.cells (row8 zero32) 31 (0, 0)) ∧ Below w.heap.size w W) (box2 w key) ?_
  rintro w1 ⟨r0, r1, r2⟩
  have HK := Lib.hid (bytes_of_row r0 Hk.out (by unfold maxLen; omega))
  have R1 := Lib.hid r1
  have R2 := Lib.hid r2
  clear r0 r1 r2
  refine region_c (by kernel_rfl) (fun Kr hKr => ?_)
  refine c_quiet 0 7 (.slice (some ⟨w.heap.size, 0, none⟩) 32 32) (by kernel_rfl) (by kernel_rfl) (by kernel_rfl) (by kernel_rfl) (fun _ => by kernel_rfl) ?_
  refine c_quiet 1 8 (.string label) (by kernel_rfl) (by kernel_rfl) (by kernel_rfl) (by kernel_rfl) (fun _ => by kernel_rfl) ?_
  refine c_quiet 3 10 (W64 n) (by kernel_rfl) (by kernel_rfl) (by kernel_rfl) (by kernel_rfl) (fun _ => by kernel_rfl) ?_
  have hdr : Below w1.heap.size w1 w1.drew := (Below.refl _ _).drew
  refine m_pick2 2 4 (by kernel_rfl) (step_strBytes (d := 9) (.tmp 8) (by kernel_rfl) label (by kernel_rfl) (by unfold maxLen; omega) ?_) (step_call (d := 11) 59 #[W64 n] (by kernel_rfl) (by kernel_rfl) ((eight_any _ n).mono ?_))
  intro c3 w3 hs3 hb3
  refine ⟨trivial, m_pick 4 (by kernel_rfl) (step_call (d := 11) 59 #[W64 n] (by kernel_rfl) (by kernel_rfl) ((eight_any _ n).mono ?_))⟩
  rintro e w4 ⟨v2, rfl, ho2, hb2⟩
  obtain ⟨r2, c2, rfl, hB2, _⟩ := ho2.at_len 8 (be64_length _)
  refine ⟨_, rfl, trivial, ?_⟩
  obtain ⟨gs, hgs⟩ : ∃ gs, gs = w1.drew.heap.size := ⟨_, rfl⟩
  have HS : Hid (BytesAt w4 (some ⟨gs, 0, none⟩) label.size c3 label.data.toList) := Lib.hid (by rw [hgs]; exact hs3.below hb2)
  have HE : Hid (BytesAt w4 r2 8 c2 (be64 n)) := Lib.hid hB2
  have Hb4 : Hid (Below w1.heap.size w1 w4) := Lib.hid (below_seq (below_seq hdr hb3) hb2)
  rw [← hgs]
  clear hgs hs3 hb3 hb2 hB2 ho2 hdr
  rotate_left
  rintro e w3 ⟨v2, rfl, ho2, hb2⟩
  obtain ⟨r2, c2, rfl, hB2, _⟩ := ho2.at_len 8 (be64_length _)
  refine ⟨_, rfl, trivial, m_pick 2 (by kernel_rfl) (step_strBytes (d := 9) (.tmp 8) (by kernel_rfl) label (by kernel_rfl) (by unfold maxLen; omega) ?_)⟩
  intro c3 w4 hs3 hb3
  refine ⟨trivial, ?_⟩
  obtain ⟨gs, hgs⟩ : ∃ gs, gs = w3.heap.size := ⟨_, rfl⟩
  have HS : Hid (BytesAt w4 (some ⟨gs, 0, none⟩) label.size c3 label.data.toList) := Lib.hid (by rw [hgs]; exact hs3)
  have HE : Hid (BytesAt w4 r2 8 c2 (be64 n)) := Lib.hid (hB2.below hb3)
  have Hb4 : Hid (Below w1.heap.size w1 w4) := Lib.hid (below_seq (below_seq hdr hb2) hb3)
  rw [← hgs]
  clear hgs hs3 hb3 hb2 hB2 ho2 hdr
  all_goals
    refine m_chain [5, 6, 7] (by kernel_rfl) (by kernel_rfl) (fun Qn => ?_)
    simp only [pickOps, Option.toList_some, List.cons_append, List.nil_append, List.getElem?_toArray, List.getElem?_cons_succ, List.getElem?_cons_zero, Act.put, List.setIfInBounds_toArray, List.set_cons_succ, List.set_cons_zero]
    go_wp2_with (first
      | (go_at_call 57; with_reducible refine (refMacOf_any (ps := [label.data.toList, be64 n]) ((HK.out.below Hb4.out).below (below_one _ _)) (parts_two HS.out HE.out _ rfl) (by omega) (by omega) (by simp [be64_length]; omega)).mono ?_
         rintro e w5 ⟨rfl, hb5⟩
         rw [← HD.out]
         have Hb5 : Hid (Below w1.heap.size w1 w5) := Lib.hid (below_seq (below_seq Hb4.out (below_one _ _)) hb5)
         clear hb5)
      | (refine wpList_store_row rfl 31 _ _ rfl _ _ rfl rfl 31 _ ((Hb5.out.block _ (heap_lt R1.out)).trans R1.out) (info31 _ HDl.out) (by rw [row8_size, row8_size, HDl.out]; rfl) (row8_one _) ?_))
    refine bodyPost_ret (results_cell_row rfl _ _ _ 31 _ _ _ rfl (setRow_heap _ _ _ _ _ _ ((Hb5.out.block _ (heap_lt R1.out)).trans R1.out)) Try.underlying31 rfl (info31 _ HDl.out)) rfl ⟨rfl, below_row (below_seq R2.out Hb5.out) (by omega) _⟩
end Go.Proofs.Ytafakjdolnigaaa
