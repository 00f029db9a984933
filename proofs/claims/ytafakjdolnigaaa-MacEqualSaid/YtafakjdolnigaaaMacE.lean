/- The walk of mac.Derive. -/
import Derived.Test.YtafakjdolnigaaaMacD
import Derived.Test.YtafakjdolnigaaaChain2
namespace Go.Proofs.Ytafakjdolnigaaa
open Go.RowKit
set_option linter.unusedVariables false

/-- A boxed hash and a box for another. -/
theorem box2 (w : World) (K : List UInt8) : ((w.alloc (.cells (row8 K) 31)).alloc (.cells (row8 zero32) 31)).heap[w.heap.size]? = some (.cells (row8 K) 31 (0, 0)) ∧ ((w.alloc (.cells (row8 K) 31)).alloc (.cells (row8 zero32) 31)).heap[w.heap.size + 1]? = some (.cells (row8 zero32) 31 (0, 0)) ∧ Below w.heap.size w ((w.alloc (.cells (row8 K) 31)).alloc (.cells (row8 zero32) 31)) :=
  ⟨heap_alloc2_old _ _ _, heap_alloc2_new _ _ _, below_seq (below_one _ _) (below_one _ _)⟩

set_option maxRecDepth 100000 in
set_option maxHeartbeats 2000000 in
theorem derive_any (w : World) (key : List UInt8) (hk : key.length = 32) (label : ByteArray) (hl : label.size ≤ 1048576) (n : UInt64) :
    Calls Try.prog 60 #[.agg (row8 key), .string label, W64 n] w fun e w' => e = .returned (.agg (row8 (macOf key [label.data.toList, be64 n]))) ∧ Below w.heap.size w w' := by
  obtain ⟨D, hD⟩ : ∃ D, D = macOf key [label.data.toList, be64 n] := ⟨_, rfl⟩
  have hDl : D.length = 32 := by rw [hD]; exact macOf_length _ _
  rw [← hD]
  have HD := Lib.hid hD
  have HDl := Lib.hid hDl
  have Hk := Lib.hid hk
  clear hD hDl hk
  go_enter Try.func60, Try.ntmps60
  go_upto_region 1 with (first
    | (refine wpList_box rfl 31 _ rfl _ rfl ?_)
    | (refine wpList_allocRow 31 _ alloc31 rfl rfl ?_))
  refine abstract_world (fun W => W.heap[w.heap.size]? = some (.cells (row8 key) 31 (0, 0)) ∧ W.heap[w.heap.size + 1]? = some (.cells (row8 zero32) 31 (0, 0)) ∧ Below w.heap.size w W) (box2 w key) ?_
  rintro w1 ⟨r0, r1, r2⟩
  have HK := Lib.hid (bytes_of_row r0 Hk.out (by unfold maxLen; omega))
  have R1 := Lib.hid r1
  have R2 := Lib.hid r2
  clear r0 r1 r2
  go_wp2_with (first
    | (go_at_call 95; with_reducible refine (octPut8 (emptyB w1) n (by omega)).mono ?_; rintro e w2 ⟨v2, rfl, ho2, hb2⟩
       rw [List.nil_append, beList_eight] at ho2
       obtain ⟨r2, c2, rfl, hb2', _⟩ := ho2.at_len 8 (be64_length n)
       have Hb2 := Lib.hid hb2
       have Hn2 := Lib.hid hb2'
       clear hb2 hb2' ho2)
    | (refine wpList_strBytes rfl _ rfl label rfl (by unfold maxLen; omega) ?_; intro c3 w3 hs3 hb3
       have Hs3 := Lib.hid hs3
       have Hb3 := Lib.hid hb3
       clear hs3 hb3)
    | (go_at_call 56; with_reducible refine (macOf_any (ps := [label.data.toList, be64 n]) (((HK.out.below Hb2.out).below Hb3.out).below (below_one _ _)) (parts_two Hs3.out (Hn2.out.below Hb3.out) _ rfl) (by omega) (by omega) (by simp [be64_length]; omega)).mono ?_
       rintro e w4 ⟨rfl, hb4⟩
       rw [← HD.out]
       have Hb4 : Hid (Below w1.heap.size w1 w4) := Lib.hid (below_seq (below_seq (below_seq Hb2.out Hb3.out) (below_one _ _)) hb4)
       clear hb4)
    | (refine wpList_store_row rfl 31 _ _ rfl _ _ rfl rfl 31 _ ((Hb4.out.block _ (heap_lt R1.out)).trans R1.out) (info31 _ HDl.out) (by rw [row8_size, row8_size, HDl.out]; rfl) (row8_one _) ?_))
  refine bodyPost_ret (results_cell_row rfl _ _ _ 31 _ _ _ rfl (setRow_heap _ _ _ _ _ _ ((Hb4.out.block _ (heap_lt R1.out)).trans R1.out)) Try.underlying31 rfl (info31 _ HDl.out)) rfl ⟨rfl, below_row (below_seq R2.out Hb4.out) (by omega) _⟩
end Go.Proofs.Ytafakjdolnigaaa
