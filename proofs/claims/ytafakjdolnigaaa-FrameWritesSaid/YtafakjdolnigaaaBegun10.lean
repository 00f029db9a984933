/- cofferlaw10.begun answers true. -/
import Derived.Test.YtafakjdolnigaaaFrameF
namespace Go.Proofs.Ytafakjdolnigaaa
open Go.RowKit
set_option linter.unusedVariables false

/-- frame.Take of a frame. -/
theorem take_good {w : World} {r : Option Addr} {len cap n : Nat} {bs key b : List UInt8} (h : BytesAt w r len cap bs) (hl2 : len ≤ 1048576) (ht : takeErr bs = 0) (hn : (frameNum bs).toNat = n) (hk : (bs.drop 14).take 32 = key) (hb : (bs.drop 46).take n = b) :
    Calls Try.prog 67 #[.slice r len cap] w fun e w' => ∃ v, e = .returned (.tuple #[.agg (row8 key), v, .int .i64 ((46 + n : Nat) : Int), .int .i64 0]) ∧ OwnB w' w.heap.size v b ∧ Below w.heap.size w w' :=
  (take_any h hl2).mono fun e w' hT => by
    have := hT.2 ht
    unfold AFrame at this
    rw [hn, hk, hb] at this
    exact this
/-- frame.Take of none. -/
theorem take_bad {w : World} {r : Option Addr} {len cap c : Nat} {bs : List UInt8} (h : BytesAt w r len cap bs) (hl2 : len ≤ 1048576) (ht : takeErr bs = c) (h0 : c ≠ 0) :
    Calls Try.prog 67 #[.slice r len cap] w fun e w' => e = .returned (.tuple #[.agg (row8 zero32), .slice none 0 0, .int .i64 0, .int .i64 (c : Int)]) ∧ Below w.heap.size w w' :=
  (take_any h hl2).mono fun e w' hT => by subst ht; exact hT.1 h0
theorem refTake_good {w : World} {r : Option Addr} {len cap n : Nat} {bs key b : List UInt8} (h : BytesAt w r len cap bs) (hl2 : len ≤ 1048576) (ht : takeErr bs = 0) (hn : (frameNum bs).toNat = n) (hk : (bs.drop 14).take 32 = key) (hb : (bs.drop 46).take n = b) :
    Calls Try.prog 68 #[.slice r len cap] w fun e w' => ∃ v, e = .returned (.tuple #[.agg (row8 key), v, .int .i64 ((46 + n : Nat) : Int), .int .i64 0]) ∧ OwnB w' w.heap.size v b ∧ Below w.heap.size w w' :=
  (refTake_any h hl2).mono fun e w' hT => by
    have := hT.2 ht
    unfold AFrame at this
    rw [hn, hk, hb] at this
    exact this
theorem refTake_bad {w : World} {r : Option Addr} {len cap c : Nat} {bs : List UInt8} (h : BytesAt w r len cap bs) (hl2 : len ≤ 1048576) (ht : takeErr bs = c) (h0 : c ≠ 0) :
    Calls Try.prog 68 #[.slice r len cap] w fun e w' => e = .returned (.tuple #[.agg (row8 zero32), .slice none 0 0, .int .i64 0, .int .i64 (c : Int)]) ∧ Below w.heap.size w w' :=
  (refTake_any h hl2).mono fun e w' hT => by subst ht; exact hT.1 h0

theorem m1 : Value.int .u8 1 = W8 1 := rfl
theorem size1 (w : World) : Calls Try.prog 65 #[.int .i64 1] w fun e w' => e = .returned (.int .i64 47) ∧ w = w' := size_any w 1

set_option maxRecDepth 100000 in
set_option maxHeartbeats 2000000 in
theorem begun10 (w : World) : Calls Try.prog 62 #[] w fun e w' => e = .returned (.bool true) ∧ Below w.heap.size w w' := by
  obtain ⟨L, hL⟩ : ∃ L, L = frameOf zero32 [1] := ⟨_, rfl⟩
  have hl : L.length = 47 := by rw [hL, frameOf_length _ _ zero32_length]; rfl
  obtain ⟨ht, hnum, hkey, hdata⟩ := take_frame (bs := L) (key := zero32) (b := [1]) zero32_length (by simp) (by rw [List.take_of_length_le (by rw [hl]; simp), hL])
  have hnum1 : (frameNum L).toNat = 1 := hnum
  have hdata1 : (L.drop 46).take 1 = [1] := hdata
  have HL := Lib.hid hL
  have Hl := Lib.hid hl
  have Ht := Lib.hid ht
  have Hnum := Lib.hid hnum1
  have Hkey := Lib.hid hkey
  have Hdata := Lib.hid hdata1
  clear hL hl ht hnum hkey hdata hnum1 hdata1
  go_enter Try.func62, Try.ntmps62
  go_upto_region 3 with (first
    | (refine wpList_buildV (.agg (row8 zero32)) 31 _ rfl rfl (by kernel_rfl) ?_)
    | (go_at_call 63; with_reducible refine (framePut_any zero32_length (bytes_one _ 1 _ m1) (by omega)).mono ?_; rintro e w1 ⟨v, rfl, ho, hb⟩
       rw [← HL.out] at ho
       obtain ⟨r, c, rfl, hB, _⟩ := ho.at_len 47 Hl.out
       have HB := Lib.hid hB
       have Hb1 : Hid (Below w.heap.size w w1) := Lib.hid (below_seq (below_one _ _) hb)
       clear hB hb ho)
    | (go_at_call 67; refine (take_good HB.out (by omega) Ht.out Hnum.out Hkey.out Hdata.out).mono ?_; rintro e w2 ⟨v, rfl, ho, hb⟩
       obtain ⟨r2, c2, rfl, hB2, _⟩ := ho.at_len 1 rfl
       have HB2 := Lib.hid hB2
       have Hb2 : Hid (Below w1.heap.size w1 w2) := Lib.hid hb
       clear hB2 hb ho)
    | (refine wpList_allocRow 31 _ alloc31 rfl rfl ?_)
    | (refine wpList_store_row rfl 31 _ _ rfl _ _ rfl rfl 31 _ (heap_alloc_new _ _) (info31 _ zero32_length) rfl (row8_one _) ?_))
  have r1 : Below w2.heap.size w2 ((w2.alloc (.cells (row8 zero32) 31)).setRow w2.heap.size (row8 zero32)) := below_row (below_one _ _) (Nat.le_refl _) _
  refine abstract_world (fun W => Below w2.heap.size w2 W) r1 ?_
  clear r1
  intro w3 hb3
  have s1 := conv_str (HB2.out.below hb3)
  have Hb3 := Lib.hid hb3
  clear hb3
  go_wp2_with (go_at_call 65; with_reducible refine (size1 _).mono ?_; rintro e w4 ⟨rfl, rfl⟩)
  go_ret
  exact ⟨rfl, below_seq (below_seq Hb1.out Hb2.out) Hb3.out⟩
end Go.Proofs.Ytafakjdolnigaaa
