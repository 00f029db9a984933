/- The walk of cofferref10.Put. -/
import Derived.Test.YtafakjdolnigaaaFrameA
import Derived.Test.YtafakjdolnigaaaLib2
import Derived.Test.YtafakjdolnigaaaRefPut
import Derived.Test.YtafakjdolnigaaaGChain
namespace Go.Proofs.Ytafakjdolnigaaa
open Go.RowKit
set_option linter.unusedVariables false

theorem nat32_lt (n : Nat) (h : n < 4294967296) : (UInt64.ofNat n).toNat < 256 ^ 4 := by
  rw [UInt64.toNat_ofNat', Nat.mod_eq_of_lt (by omega)]; omega

set_option maxRecDepth 100000 in
set_option maxHeartbeats 4000000 in
theorem refFramePut_any {w : World} {r : Option Addr} {len cap : Nat} {key b : List UInt8} (hk : key.length = 32) (hb : BytesAt w r len cap b) (hlen : len ≤ 4200) :
    Calls Try.prog 64 #[.agg (row8 key), .slice r len cap] w fun e w' => ∃ v, e = .returned (.tuple #[v, .int .i64 0]) ∧ OwnB w' w.heap.size v (frameOf key b) ∧ Below w.heap.size w w' := by
  have hbl := hb.hlen
  subst hbl
  have Hk := Lib.hid hk
  have Hb := Lib.hid hb
  have Hp64 : Hid (b.length < 18446744073709551616) := Lib.hid (by omega)
  have Hn32 := Lib.hid (nat32_lt b.length (by omega))
  clear hk hb
  go_enter Try.func64, Try.ntmps64
  go_upto_region 1 with (refine wpList_box rfl 31 _ rfl _ rfl ?_)
  refine abstract_world (fun W => W.heap[w.heap.size]? = some (.cells (row8 key) 31 (0, 0)) ∧ Below w.heap.size w W) ⟨heap_alloc_new _ _, below_one _ _⟩ ?_
  rintro w1 ⟨r0, r1⟩
  have HK := Lib.hid (bytes_of_row r0 Hk.out (by unfold maxLen; omega))
  have R1 := Lib.hid r1
  clear r0 r1
  obtain ⟨P4, hP4⟩ : ∃ P4, P4 = [199, 70] ++ beList 4 (UInt64.ofNat b.length) := ⟨_, rfl⟩
  obtain ⟨D, hD⟩ : ∃ D, D = digest (key ++ b) := ⟨_, rfl⟩
  have hP4l : P4.length = 6 := by rw [hP4, List.length_append, beList_length]; rfl
  have hDl : D.length = 32 := by rw [hD]; exact digest_length _
  have hff : ([key, b].flatten) = key ++ b := by simp
  have HP4 := Lib.hid hP4
  have HD : Hid (D = digest ([key, b].flatten)) := Lib.hid (by rw [hff]; exact hD)
  have HD' := Lib.hid hD
  have HP4l := Lib.hid hP4l
  have HDl := Lib.hid hDl
  clear hP4 hD hP4l hDl hff
  go_upto_region 5 with (first
    | (go_at_call 96; rw [lit64 b.length Hp64.out]; refine (refPut_any (b199 w1) (UInt64.ofNat b.length) 4 (by omega) (by omega) (by omega) Hn32.out).mono ?_; rintro e w2 ⟨v2, rfl, ho2, hb2⟩
       rw [← HP4.out] at ho2
       have Hb2 : Hid (Below w1.heap.size w1 w2) := Lib.hid (below_seq (below_one _ _) hb2)
       have Ho2 := Lib.hid (ownB_base ho2 (below_one w1 (.cells #[.int .u8 199, .int .u8 70] 5)).size)
       clear hb2 ho2)
    | (go_at_call 30; with_reducible refine (refOf_any (parts_two (HK.out.below Hb2.out) ((Hb.out.below R1.out).below Hb2.out) _ rfl) (by simp; have := Hk.out; omega)).mono ?_; rintro e w3 ⟨rfl, hb3⟩; rw [← HD.out]
       have Hb3 : Hid (Below w2.heap.size w2 w3) := Lib.hid (below_seq (below_one _ _) hb3)
       clear hb3)
    | (refine wpList_allocRow 31 _ alloc31 rfl rfl ?_)
    | (refine wpList_store_row rfl 31 _ _ rfl _ _ rfl rfl 31 _ (heap_alloc_new _ _) (info31 _ HDl.out) (by rw [row8_size, row8_size, HDl.out]; rfl) (row8_one _) ?_))
  have r0 : ((w3.alloc (.cells (row8 zero32) 31)).setRow w3.heap.size (row8 D)).heap[w3.heap.size]? = some (.cells (row8 D) 31 (0, 0)) := setRow_heap _ _ _ _ _ _ (heap_alloc_new _ _)
  have r1 : Below w2.heap.size w2 ((w3.alloc (.cells (row8 zero32) 31)).setRow w3.heap.size (row8 D)) := below_row (below_seq Hb3.out (below_one _ _)) Hb3.out.size _
  refine abstract_world (fun W => W.heap[w3.heap.size]? = some (.cells (row8 D) 31 (0, 0)) ∧ Below w2.heap.size w2 W) ⟨r0, r1⟩ ?_
  clear r0 r1
  generalize w3.heap.size = g at *
  rintro w4 ⟨r0, r1⟩
  have hB := bytes_of_row r0 HDl.out (by unfold maxLen; omega)
  have hB8 := hB.sub 0 8 (by omega) (by omega) 32 (by omega) (by omega)
  have HB8 : Hid (BytesAt w4 (some ⟨g, 0, none⟩) 8 32 (D.take 8)) := Lib.hid (by simpa [Addr.add_lit] using hB8)
  have Hb4 : Hid (Below w1.heap.size w1 w4) := Lib.hid (below_seq Hb2.out r1)
  have Ho4 := Lib.hid (Ho2.out.keep r1)
  have HC8l : Hid ((D.take 8).length = 8) := Lib.hid (by rw [List.length_take, HDl.out]; rfl)
  clear r0 r1 hB hB8
  have hdr : Below w4.heap.size w4 w4.drew := (Below.refl _ _).drew
  refine region_c (by kernel_rfl) (fun Kr hKr => ?_)
  refine c_quiet 0 24 v2 (by kernel_rfl) (by kernel_rfl) (by kernel_rfl) (by kernel_rfl) (fun _ => by kernel_rfl) ?_
  refine c_quiet 1 25 (.slice (some ⟨g, 0, none⟩) 8 32) (by kernel_rfl) (by kernel_rfl) (by kernel_rfl) (by kernel_rfl) (fun _ => by kernel_rfl) ?_
  refine c_quiet 3 27 (.slice (some ⟨w.heap.size, 0, none⟩) 32 32) (by kernel_rfl) (by kernel_rfl) (by kernel_rfl) (by kernel_rfl) (fun _ => by kernel_rfl) ?_
  refine c_quiet 5 29 (.slice r b.length cap) (by kernel_rfl) (by kernel_rfl) (by kernel_rfl) (by kernel_rfl) (fun _ => by kernel_rfl) ?_
  have hd4 : Below w1.heap.size w1 w4.drew := Hb4.out.drew
  refine m_pick 2 (by kernel_rfl) (step_app (d := 26) (.tmp 24) (.tmp 25) (by kernel_rfl) w1.heap.size v2 P4 (D.take 8) (some ⟨g, 0, none⟩) 8 32 (by kernel_rfl) (by kernel_rfl) (Ho4.out.keep hdr) HB8.out.drew (by rw [HP4l.out, HC8l.out]; omega) hd4.size ?_)
  intro v5 w5 ho5 hg5
  have hb5 : Below w1.heap.size w1 w5 := (Ho4.out.keep hdr).below hd4 hd4.size hg5
  refine ⟨trivial, ?_⟩
  refine m_pick 4 (by kernel_rfl) (step_app (d := 28) (.tmp 26) (.tmp 27) (by kernel_rfl) w1.heap.size v5 (P4 ++ D.take 8) key (some ⟨w.heap.size, 0, none⟩) 32 32 (by kernel_rfl) (by kernel_rfl) ho5 (HK.out.below hb5) (by rw [List.length_append, HP4l.out, HC8l.out, Hk.out]; omega) hb5.size ?_)
  intro v6 w6 ho6 hg6
  have hb6 : Below w1.heap.size w1 w6 := ho5.below hb5 hb5.size hg6
  refine ⟨trivial, ?_⟩
  refine m_pick 6 (by kernel_rfl) (step_app (d := 30) (.tmp 28) (.tmp 29) (by kernel_rfl) w1.heap.size v6 (P4 ++ D.take 8 ++ key) b r b.length cap (by kernel_rfl) (by kernel_rfl) ho6 ((Hb.out.below R1.out).below hb6) (by rw [List.length_append, List.length_append, HP4l.out, HC8l.out, Hk.out]; omega) hb6.size ?_)
  intro v7 w7 ho7 hg7
  have hb7 : Below w1.heap.size w1 w7 := ho6.below hb6 hb6.size hg7
  refine ⟨trivial, ?_⟩
  refine c_quiet 7 4 v7 (by kernel_rfl) (by kernel_rfl) (by kernel_rfl) (by kernel_rfl) (fun _ => by kernel_rfl) ?_
  refine c_quiet 8 5 (.int .i64 0) (by kernel_rfl) (by kernel_rfl) (by kernel_rfl) (by kernel_rfl) (fun _ => by kernel_rfl) ?_
  refine m_end (by kernel_rfl) ?_
  have Ho7 := Lib.hid ho7
  have Hb7 := Lib.hid hb7
  clear ho7 hb7 ho6 hb6 ho5 hb5 hg5 hg6 hg7 hd4 hdr
  simp only [Act.put, List.setIfInBounds_toArray, List.set_cons_succ, List.set_cons_zero]
  go_wp2
  go_ret2
  refine ⟨_, rfl, ?_, below_seq R1.out Hb7.out⟩
  have := ownB_base Ho7.out R1.out.size
  rw [HP4.out, HD'.out] at this
  exact this

set_option maxRecDepth 100000 in
set_option maxHeartbeats 1000000 in
theorem refFramePut_long {w : World} {r : Option Addr} {len cap : Nat} {key b : List UInt8} (hb : BytesAt w r len cap b) (hlen : 4200 < len) :
    Calls Try.prog 64 #[.agg (row8 key), .slice r len cap] w fun e w' => e = .returned (.tuple #[.slice none 0 0, .int .i64 2]) ∧ Below w.heap.size w w' := by
  clear hb
  go_enter Try.func64, Try.ntmps64
  go_wp2_with (refine wpList_box rfl 31 _ rfl _ rfl ?_)
  go_ret2
  exact ⟨rfl, below_one _ _⟩
end Go.Proofs.Ytafakjdolnigaaa
