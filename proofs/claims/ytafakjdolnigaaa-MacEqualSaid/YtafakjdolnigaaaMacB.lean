/- The walk of mac.Raw. -/
import Derived.Test.YtafakjdolnigaaaMacA
namespace Go.Proofs.Ytafakjdolnigaaa
open Go.RowKit
set_option linter.unusedVariables false

theorem m54 : Value.int .u8 54 = W8 54 := rfl
theorem m92 : Value.int .u8 92 = W8 92 := rfl

set_option maxRecDepth 100000 in
set_option maxHeartbeats 2000000 in
theorem raw_any {w : World} {r r2 : Option Addr} {len cap len2 cap2 : Nat} {key b : List UInt8} (h : BytesAt w r len cap key) (h2 : BytesAt w r2 len2 cap2 b) (hsz : len ≤ 1048576) (hsz2 : len2 ≤ 1099520016384) :
    Calls Try.prog 53 #[.slice r len cap, .slice r2 len2 cap2] w fun e w' => e = .returned (.agg (row8 (hmac key b))) ∧ Below w.heap.size w w' := by
  have hl2 := Lib.hid h2.hlen
  have H := Lib.hid h
  have H2 := Lib.hid h2
  obtain ⟨D1, hD1⟩ : ∃ D1, D1 = digest (padK key 54 ++ b) := ⟨_, rfl⟩
  have hD1l : D1.length = 32 := by rw [hD1]; exact digest_length _
  obtain ⟨D2, hDD⟩ : ∃ D2, D2 = hmac key b := ⟨_, rfl⟩
  have hD2 : D2 = digest (padK key 92 ++ D1) := by rw [hDD, hD1]; rfl
  have hD2l : D2.length = 32 := by rw [hDD]; exact hmac_length _ _
  rw [← hDD]
  have HD2l := Lib.hid hD2l
  have HD1 := Lib.hid hD1
  have HD1l := Lib.hid hD1l
  have HD2 := Lib.hid hD2
  clear h h2 hD1 hD1l hD2 hD2l hDD
  have hz0 : ∀ o, Below w.heap.size w (w.alloc o) := fun o => below_one _ _
  have Hz0 := Lib.hid hz0
  clear hz0
  go_enter Try.func53, Try.ntmps53
  go_upto_region 2 with (first
    | (go_at_call 94; with_reducible refine (padded_any (H.out.below (Hz0.out _)) _ 54 m54 hsz).mono ?_; rintro e w1 ⟨g, rfl, hp1, hg1, hb1⟩
       have HP1 := Lib.hid hp1
       have Hb1 := Lib.hid hb1
       clear hp1 hb1)
    | (go_at_call 31; with_reducible refine (of_two HP1.out (H2.out.below ((Hz0.out _).trans (Hb1.out.mono (Hz0.out (.cells (row8 zero32) 31)).size))) (by rw [padK_length]; have := hl2.out; omega) _ rfl).mono ?_; rintro e w2 ⟨rfl, hb2⟩; rw [← HD1.out]; have Hb2 := Lib.hid hb2; clear hb2)
    | (refine wpList_store_row rfl 31 _ _ rfl _ _ rfl rfl 31 _ (heap_alloc_new _ _) (info31 _ HD1l.out) (by rw [row8_size, row8_size, HD1l.out]; rfl) (row8_one _) ?_)
    | (refine wpList_allocRow 31 _ alloc31 rfl rfl ?_))
  have hw1 : Below w.heap.size w w1 := below_seq (Hz0.out _) Hb1.out
  have hw2 : Below w.heap.size w w2 := below_seq hw1 Hb2.out
  have z1 : w1.heap[w.heap.size]? = some (.cells (row8 zero32) 31 (0, 0)) := (Hb1.out.block _ (by simp)).trans (heap_alloc_new w _)
  have z2 : w2.heap[w.heap.size]? = some (.cells (row8 zero32) 31 (0, 0)) := (Hb2.out.block _ (heap_lt z1)).trans z1
  have r0 : ((w2.alloc (.cells (row8 zero32) 31)).setRow w2.heap.size (row8 D1)).heap[w2.heap.size]? = some (.cells (row8 D1) 31 (0, 0)) := setRow_heap _ _ _ _ _ _ (heap_alloc_new _ _)
  have r1 : Below w.heap.size w ((w2.alloc (.cells (row8 zero32) 31)).setRow w2.heap.size (row8 D1)) := below_row (below_seq hw2 (below_one _ _)) hw2.size _
  have r2' : ((w2.alloc (.cells (row8 zero32) 31)).setRow w2.heap.size (row8 D1)).heap[w.heap.size]? = some (.cells (row8 zero32) 31 (0, 0)) := by
    rw [setRow_other _ _ _ _ (Nat.ne_of_lt (heap_lt z2))]
    exact ((below_one w2 _).block _ (heap_lt z2)).trans z2
  refine abstract_world (fun W => W.heap[w2.heap.size]? = some (.cells (row8 D1) 31 (0, 0)) ∧ Below w.heap.size w W ∧ W.heap[w.heap.size]? = some (.cells (row8 zero32) 31 (0, 0))) ⟨r0, r1, r2'⟩ ?_
  clear r0 r1 r2' hw1 z1
  generalize w2.heap.size = gs at *
  rintro w3 ⟨r0, r1, r2'⟩
  have HD := Lib.hid (bytes_of_row r0 HD1l.out (by unfold maxLen; omega))
  have H3 := Lib.hid r1
  have Hz := Lib.hid r2'
  clear r0 r1 r2' hw2 z2 HP1 Hb1 Hb2 hg1
  refine region_c (by kernel_rfl) (fun Kr hKr => ?_)
  refine c_quiet 0 11 (.slice r len cap) (by kernel_rfl) (by kernel_rfl) (by kernel_rfl) (by kernel_rfl) (fun _ => by kernel_rfl) ?_
  refine c_quiet 2 13 (.slice (some ⟨gs, 0, none⟩) 32 32) (by kernel_rfl) (by kernel_rfl) (by kernel_rfl) (by kernel_rfl) (fun _ => by kernel_rfl) ?_
  refine m_chain [1, 3, 4, 5] (by kernel_rfl) (by kernel_rfl) (fun Qn => ?_)
  simp only [pickOps, Option.toList_some, List.cons_append, List.nil_append, List.getElem?_toArray, List.getElem?_cons_succ, List.getElem?_cons_zero, Act.put, List.setIfInBounds_toArray, List.set_cons_succ, List.set_cons_zero]
  have hb3 : Below w.heap.size w w3.drew := H3.out.drew
  have Hb3 := Lib.hid hb3
  have HDd := Lib.hid HD.out.drew
  clear hb3
  go_wp2_with (first
    | (go_at_call 94; with_reducible refine (padded_any (H.out.below Hb3.out) _ 92 m92 hsz).mono ?_; rintro e w4 ⟨g4, rfl, hp4, hg4, hb4⟩
       have HP4 := Lib.hid hp4
       have Hb4 := Lib.hid hb4
       clear hp4 hb4)
    | (go_at_call 31; with_reducible refine (of_two HP4.out (HDd.out.below Hb4.out) (by rw [padK_length, HD1l.out]; omega) _ rfl).mono ?_; rintro e w5 ⟨rfl, hb5⟩; rw [← HD2.out]; have Hb5 := Lib.hid hb5; clear hb5
       have Hz5 : Hid (w5.heap[w.heap.size]? = some (.cells (row8 zero32) 31 (0, 0))) := Lib.hid (((below_seq Hb4.out Hb5.out).block _ (heap_lt Hz.out)).trans Hz.out))
    | (refine wpList_store_row rfl 31 _ _ rfl _ _ rfl rfl 31 _ Hz5.out (info31 _ HD2l.out) (by rw [row8_size, row8_size, HD2l.out]; rfl) (row8_one _) ?_))
  refine bodyPost_ret (results_cell_row rfl _ _ _ 31 _ _ _ rfl (setRow_heap _ _ _ _ _ _ Hz5.out) Try.underlying31 rfl (info31 _ HD2l.out)) rfl ⟨rfl, below_row (below_seq (below_seq Hb3.out Hb4.out) Hb5.out) (Nat.le_refl _) _⟩
end Go.Proofs.Ytafakjdolnigaaa
