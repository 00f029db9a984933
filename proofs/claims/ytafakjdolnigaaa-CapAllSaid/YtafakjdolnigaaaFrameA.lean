/- Frames in plain Lean; the walks of frame.check, Put, Size and cofferref10.Size. -/
import Derived.Test.YtafakjdolnigaaaOctPut
import Derived.Test.YtafakjdolnigaaaGMac
namespace Go.Proofs.Ytafakjdolnigaaa
open Go.RowKit
set_option linter.unusedVariables false

/-- A frame's bytes. -/
def frameOf (key b : List UInt8) : List UInt8 := [199, 70] ++ beList 4 (UInt64.ofNat b.length) ++ (digest (key ++ b)).take 8 ++ key ++ b
theorem frameOf_length (key b : List UInt8) (hk : key.length = 32) : (frameOf key b).length = 46 + b.length := by
  simp only [frameOf, List.length_append, beList_length, List.length_take, digest_length, hk]
  simp

set_option maxRecDepth 100000 in
set_option maxHeartbeats 2000000 in
theorem check_any {w : World} {rk r : Option Addr} {lk ck len cap : Nat} {key b : List UInt8} (hk : BytesAt w rk lk ck key) (hb : BytesAt w r len cap b) (hlk : lk ≤ 1048576) (hlen : len ≤ 1048576) :
    Calls Try.prog 97 #[.slice rk lk ck, .slice r len cap] w fun e w' => ∃ g, e = .returned (.slice (some ⟨g, 0, none⟩) 8 8) ∧ BytesAt w' (some ⟨g, 0, none⟩) 8 8 ((digest (key ++ b)).take 8) ∧ w.heap.size ≤ g ∧ Below w.heap.size w w' := by
  obtain ⟨D, hD⟩ : ∃ D, D = digest (key ++ b) := ⟨_, rfl⟩
  have hDl : D.length = 32 := by rw [hD]; exact digest_length _
  rw [← hD]
  have HD := Lib.hid hD
  have HDl := Lib.hid hDl
  have hkl := Lib.hid hk.hlen
  have hbl := Lib.hid hb.hlen
  clear hD hDl
  go_enter Try.func97, Try.ntmps97
  go_upto_region 2 with (first
    | (go_at_call 31; with_reducible refine (of_two hk hb (by have := hkl.out; have := hbl.out; omega) _ rfl).mono ?_; rintro e w2 ⟨rfl, hb2⟩; rw [← HD.out]; have Hb2 := Lib.hid hb2; clear hb2)
    | (refine wpList_allocRow 31 _ alloc31 rfl rfl ?_)
    | (refine wpList_store_row rfl 31 _ _ rfl _ _ rfl rfl 31 _ (heap_alloc_new _ _) (info31 _ HDl.out) (by rw [row8_size, row8_size, HDl.out]; rfl) (row8_one _) ?_))
  have r0 : ((w2.alloc (.cells (row8 zero32) 31)).setRow w2.heap.size (row8 D)).heap[w2.heap.size]? = some (.cells (row8 D) 31 (0, 0)) := setRow_heap _ _ _ _ _ _ (heap_alloc_new _ _)
  have r1 : Below w.heap.size w ((w2.alloc (.cells (row8 zero32) 31)).setRow w2.heap.size (row8 D)) := below_row (below_seq Hb2.out (below_one _ _)) Hb2.out.size _
  refine abstract_world (fun W => W.heap[w2.heap.size]? = some (.cells (row8 D) 31 (0, 0)) ∧ Below w.heap.size w W) ⟨r0, r1⟩ ?_
  clear r0 r1
  have hge := Hb2.out.size
  generalize w2.heap.size = g at *
  rintro w3 ⟨r0, r1⟩
  have hB := bytes_of_row r0 HDl.out (by unfold maxLen; omega)
  have hB8 := hB.sub 0 8 (by omega) (by omega) 8 (by omega) (by omega)
  have HB8 := Lib.hid hB8
  have H3 := Lib.hid r1
  clear r0 r1 hB hB8
  go_wp2
  go_ret
  exact ⟨g, rfl, by simpa [Addr.add_lit] using HB8.out, hge, H3.out⟩

/-- How long the frame is. -/
def sizeOfN (n : Int) : Int := if n < 0 ∨ 4200 < n then 0 else 46 + n
set_option maxHeartbeats 1000000 in
theorem size_any (w : World) (n : Int) : Calls Try.prog 65 #[.int .i64 n] w fun e w' => e = .returned (.int .i64 (sizeOfN n)) ∧ w = w' := by
  unfold sizeOfN
  by_cases h1 : n < 0
  · rw [if_pos (.inl h1)]
    go_enter Try.func65, Try.ntmps65
    go_wp2
    go_ret
    exact ⟨rfl, rfl⟩
  · by_cases h2 : 4200 < n
    · rw [if_pos (.inr h2)]
      go_enter Try.func65, Try.ntmps65
      go_wp2
      go_ret
      exact ⟨rfl, rfl⟩
    · rw [if_neg (by omega)]
      go_enter Try.func65, Try.ntmps65
      go_wp2
      go_ret
      exact ⟨rfl, rfl⟩
set_option maxHeartbeats 1000000 in
theorem refSize_any (w : World) (n : Int) : Calls Try.prog 66 #[.int .i64 n] w fun e w' => e = .returned (.int .i64 (sizeOfN n)) ∧ w = w' := by
  unfold sizeOfN
  by_cases h1 : n < 0
  · rw [if_pos (.inl h1)]
    go_enter Try.func66, Try.ntmps66
    go_wp2
    go_ret
    exact ⟨rfl, rfl⟩
  · by_cases h2 : 4200 < n
    · rw [if_pos (.inr h2)]
      go_enter Try.func66, Try.ntmps66
      go_wp2
      go_ret
      exact ⟨rfl, rfl⟩
    · rw [if_neg (by omega)]
      go_enter Try.func66, Try.ntmps66
      go_wp2
      go_ret
      exact ⟨rfl, rfl⟩

theorem shr32_small (n : Nat) (h : n < 4294967296) : UInt64.ofNat n >>> 32 = 0 := by
  apply UInt64.toNat_inj.1
  rw [UInt64.toNat_shiftRight, UInt64.toNat_ofNat', Nat.mod_eq_of_lt (by omega), show ((32 : UInt64).toNat % 64) = 32 from rfl, Nat.shiftRight_eq_div_pow, Nat.div_eq_of_lt (by omega)]
  rfl

theorem m199 (w : World) : OwnB (w.alloc (.cells #[.int .u8 199, .int .u8 70] 5)) w.heap.size (.slice (some ⟨w.heap.size, 0, none⟩) 2 2) [199, 70] :=
  ownB_row w [199, 70] #[.int .u8 199, .int .u8 70] rfl w.heap.size 2 _ rfl rfl (maxLen_small _ (by omega)) (Nat.le_refl _)
theorem b199 (w : World) : BytesAt (w.alloc (.cells #[.int .u8 199, .int .u8 70] 5)) (some ⟨w.heap.size, 0, none⟩) 2 2 [199, 70] :=
  bytes_row w [199, 70] #[.int .u8 199, .int .u8 70] (0, 0) rfl 2 rfl (maxLen_small _ (by omega)) _ rfl

set_option maxRecDepth 100000 in
set_option maxHeartbeats 2000000 in
theorem framePut_any {w : World} {r : Option Addr} {len cap : Nat} {key b : List UInt8} (hk : key.length = 32) (hb : BytesAt w r len cap b) (hlen : len ≤ 4200) :
    Calls Try.prog 63 #[.agg (row8 key), .slice r len cap] w fun e w' => ∃ v, e = .returned (.tuple #[v, .int .i64 0]) ∧ OwnB w' w.heap.size v (frameOf key b) ∧ Below w.heap.size w w' := by
  have hbl := hb.hlen
  subst hbl
  have Hk := Lib.hid hk
  have Hb := Lib.hid hb
  have Hp64 : Hid (b.length < 18446744073709551616) := Lib.hid (by omega)
  have Hs32 := Lib.hid (shr32_small b.length (by omega))
  clear hk hb
  go_enter Try.func63, Try.ntmps63
  go_upto_region 1 with (refine wpList_box rfl 31 _ rfl _ rfl ?_)
  refine abstract_world (fun W => W.heap[w.heap.size]? = some (.cells (row8 key) 31 (0, 0)) ∧ Below w.heap.size w W) ⟨heap_alloc_new _ _, below_one _ _⟩ ?_
  rintro w1 ⟨r0, r1⟩
  have HK := Lib.hid (bytes_of_row r0 Hk.out (by unfold maxLen; omega))
  have R1 := Lib.hid r1
  clear r0 r1
  obtain ⟨P4, hP4⟩ : ∃ P4, P4 = [199, 70] ++ beList 4 (UInt64.ofNat b.length) := ⟨_, rfl⟩
  obtain ⟨C8, hC8⟩ : ∃ C8, C8 = (digest (key ++ b)).take 8 := ⟨_, rfl⟩
  have hP4l : P4.length = 6 := by rw [hP4, List.length_append, beList_length]; rfl
  have hC8l : C8.length = 8 := by rw [hC8, List.length_take, digest_length]; rfl
  have HP4 := Lib.hid hP4
  have HC8 := Lib.hid hC8
  have HP4l := Lib.hid hP4l
  have HC8l := Lib.hid hC8l
  clear hP4 hC8 hP4l hC8l
  go_wp2_with (first
    | (go_at_call 95; rw [lit64 b.length Hp64.out]; with_reducible refine (octPut4 (b199 w1) (UInt64.ofNat b.length) (by omega) Hs32.out).mono ?_; rintro e w2 ⟨v2, rfl, ho2, hb2⟩
       rw [← HP4.out] at ho2
       have Hb2 : Hid (Below w1.heap.size w1 w2) := Lib.hid (below_seq (below_one _ _) hb2)
       have Ho2 := Lib.hid (ownB_base ho2 (below_one w1 (.cells #[.int .u8 199, .int .u8 70] 5)).size)
       clear hb2 ho2)
    | (go_at_call 97; with_reducible refine (check_any (HK.out.below Hb2.out) ((Hb.out.below R1.out).below Hb2.out) (by omega) (by omega)).mono ?_; rintro e w3 ⟨g3, rfl, hB3, hg3, hb3⟩
       rw [← HC8.out] at hB3
       have HB3 := Lib.hid hB3
       have Hb3 : Hid (Below w1.heap.size w1 w3) := Lib.hid (below_seq Hb2.out hb3)
       have Ho3 := Lib.hid (Ho2.out.keep hb3)
       clear hB3 hb3)
    | ((with_reducible refine wpList_append_bytes rfl (.tmp 19) (.tmp 22) rfl w1.heap.size v2 P4 C8 (some ⟨g3, 0, none⟩) 8 8 rfl rfl Ho3.out HB3.out (by rw [HP4l.out, HC8l.out]; omega) Hb3.out.size ?_); intro v4 w4 ho4 hg4
       have Hb4 : Hid (Below w1.heap.size w1 w4) := Lib.hid (Ho3.out.below Hb3.out Hb3.out.size hg4)
       have Ho4 := Lib.hid ho4
       clear ho4 hg4)
    | ((with_reducible refine wpList_append_bytes rfl (.tmp 24) (.tmp 25) rfl w1.heap.size v4 (P4 ++ C8) key (some ⟨w.heap.size, 0, none⟩) 32 32 rfl rfl Ho4.out (HK.out.below Hb4.out) (by rw [List.length_append, HP4l.out, HC8l.out, Hk.out]; omega) Hb4.out.size ?_); intro v5 w5 ho5 hg5
       have Hb5 : Hid (Below w1.heap.size w1 w5) := Lib.hid (Ho4.out.below Hb4.out Hb4.out.size hg5)
       have Ho5 := Lib.hid ho5
       clear ho5 hg5)
    | ((with_reducible refine wpList_append_bytes rfl (.tmp 27) (.tmp 28) rfl w1.heap.size v5 (P4 ++ C8 ++ key) b r b.length cap rfl rfl Ho5.out ((Hb.out.below R1.out).below Hb5.out) (by rw [List.length_append, List.length_append, HP4l.out, HC8l.out, Hk.out]; omega) Hb5.out.size ?_); intro v6 w6 ho6 hg6))
  go_ret2
  refine ⟨_, rfl, ?_, below_seq R1.out (Ho5.out.below Hb5.out Hb5.out.size hg6)⟩
  have := ownB_base ho6 R1.out.size
  rw [HP4.out, HC8.out] at this
  exact this

set_option maxRecDepth 100000 in
set_option maxHeartbeats 1000000 in
theorem framePut_long {w : World} {r : Option Addr} {len cap : Nat} {key b : List UInt8} (hb : BytesAt w r len cap b) (hlen : 4200 < len) :
    Calls Try.prog 63 #[.agg (row8 key), .slice r len cap] w fun e w' => e = .returned (.tuple #[.slice none 0 0, .int .i64 2]) ∧ Below w.heap.size w w' := by
  clear hb
  go_enter Try.func63, Try.ntmps63
  go_wp2_with (refine wpList_box rfl 31 _ rfl _ rfl ?_)
  go_ret2
  exact ⟨rfl, below_one _ _⟩
end Go.Proofs.Ytafakjdolnigaaa
