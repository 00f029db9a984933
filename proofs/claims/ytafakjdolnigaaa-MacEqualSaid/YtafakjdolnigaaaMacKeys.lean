/- The walk of cofferlaw3.MacKeys. -/
import Derived.Test.YtafakjdolnigaaaBegun3
namespace Go.Proofs.Ytafakjdolnigaaa
open Go.RowKit
set_option linter.unusedVariables false

attribute [go_sem] hmac_length macOf_length

/-- A number of a byte's range, as a byte. -/
theorem byte_ofInt {a : Int} (ha : (Lit.int .u8 a).wf = true) : Value.int .u8 a = W8 (UInt8.ofNat a.toNat) := by
  have h : 0 ≤ a ∧ a < 256 := by
    simp only [Lit.wf, IntKind.min, IntKind.max, IntKind.signed, IntKind.bits, Bool.and_eq_true] at ha
    simp at ha
    omega
  unfold W8
  congr 1
  rw [UInt8.toNat_ofNat']
  omega
/-- A number of 64 bits, as a word. -/
theorem word_ofInt {a : Int} (ha : (Lit.int .u64 a).wf = true) : Value.int .u64 a = W64 (UInt64.ofNat a.toNat) := by
  have h : 0 ≤ a ∧ a < 18446744073709551616 := by
    simp only [Lit.wf, IntKind.min, IntKind.max, IntKind.signed, IntKind.bits, Bool.and_eq_true] at ha
    simp at ha
    omega
  unfold W64
  congr 1
  rw [UInt64.toNat_ofNat']
  omega

set_option maxRecDepth 100000 in
set_option maxHeartbeats 2000000 in
theorem macKeys_walk8 {w : World} {n : Int} (hn : (Lit.int .i64 n).wf = true) (c : UInt8) {r : Option Addr} {len cap : Nat} {b : List UInt8} (hB : BytesAt w r len cap b) :
    Calls Try.prog 12 #[.int .i64 n, W8 c, .slice r len cap] w fun e w' => e = .returned (.bool true) ∧ Below w.heap.size w w' := by
  by_cases hbig : 1024 < len
  · go_enter Try.func12, Try.ntmps12
    go_wp2_with (go_at_call 51; refine (begun3 _).mono ?_; rintro e w1 ⟨rfl, h1⟩)
    go_ret
    exact ⟨rfl, h1⟩
  obtain ⟨hp0, hp1⟩ := placeOf_range n 201 (by omega)
  obtain ⟨m, hm⟩ : ∃ m : Nat, placeOf n 201 = (m : Int) := ⟨(placeOf n 201).toNat, by omega⟩
  have hplace : ∀ w, Calls Try.prog 38 #[.int .i64 n, .int .i64 201] w fun e w' => e = .returned (.int .i64 (m : Int)) ∧ w = w' := fun w => by rw [← hm]; exact place_any w n 201 hn (by omega) (by omega)
  have Hpl := Lib.hid hplace
  have hm4 : m ≤ 200 := by omega
  clear hplace hm hp0 hp1
  go_enter Try.func12, Try.ntmps12
  go_wp2_with (first
    | (go_at_call 51; refine (begun3 _).mono ?_; rintro e w1 ⟨rfl, h1⟩)
    | (go_at_call 38; refine (Hpl.out _).mono ?_; rintro e w2 ⟨rfl, rfl⟩)
    | (refine wpList_make_bytes rfl _ _ rfl m rfl rfl (by omega) ?_))
  have r1 : Below w.heap.size w (w1.alloc (.cells (row8 (List.replicate m 0)) 5)) := below_seq h1 (below_one _ _)
  have hwg : w.heap.size ≤ w1.heap.size := h1.size
  clear h1
  refine abstract_world (fun W => (∃ l : List UInt8, l.length = m ∧ W.heap[w1.heap.size]? = some (.cells (row8 l) 5 (0, 0))) ∧ Below w.heap.size w W) ⟨⟨_, List.length_replicate, heap_alloc_new _ _⟩, r1⟩ ?_
  clear r1
  generalize w1.heap.size = g at *
  rintro w2 ⟨h0, hb⟩
  go_loopw [8] (fun v wr => ∃ k : Nat, k ≤ m ∧ v = .int .i64 (k : Int) ∧ (∃ l : List UInt8, l.length = m ∧ wr.heap[g]? = some (.cells (row8 l) 5 (0, 0))) ∧ Below w.heap.size w wr) (fun v _ => m - (intOf v).toNat)
  case atStart => exact ⟨0, by omega, rfl, h0, hb⟩
  case round =>
    clear h0 hb
    obtain ⟨k, hk, rfl, ⟨l, hl, h0⟩, hb⟩ := hrel
    have Hb := Lib.hid hb
    have Hl := Lib.hid hl
    have H0 := Lib.hid h0
    clear hb
    by_cases hlt : k < m
    · have cx := cell_row h0 (row8_at l k (by omega))
      have fx := frozen_of_row wr g k _ _ h0
      have hv : Value.int .u8 (k : Int) = W8 (UInt8.ofNat k) := lit8 k (by omega)
      clear h0 hl
      go_wp2
      refine ⟨⟨k + 1, by omega, by go_num, ⟨l.set k (c ^^^ UInt8.ofNat k), by rw [List.length_set, Hl.out], ?_⟩, Hb.out.setCell (by omega) _⟩, by simp [intOf]; omega⟩
      rw [← row8_set]
      exact heap_setCell_same _ _ _ _ _ _ H0.out
    · obtain rfl : k = m := by omega
      have HK := Lib.hid (bytes_of_row h0 hl (by unfold maxLen; omega))
      have HB := Lib.hid (hB.below Hb.out)
      clear h0 hl hB
      obtain ⟨D, hD⟩ : ∃ D, D = hmac l b := ⟨_, rfl⟩
      have hDl : D.length = 32 := by rw [hD]; exact hmac_length _ _
      have HD := Lib.hid hD
      clear hD
      go_wp2_with (first
        | (go_at_call 53; with_reducible refine (raw_any HK.out HB.out (by omega) (by omega)).mono ?_; rintro e w3 ⟨rfl, h3⟩; rw [← HD.out])
        | (go_at_call 54; with_reducible refine (refRaw_any (HK.out.below h3) (HB.out.below h3) (by omega) (by omega)).mono ?_; rintro e w4 ⟨rfl, h4⟩; rw [← HD.out]))
      go_ret
      exact ⟨rfl, below_seq (below_seq Hb.out h3) h4⟩

theorem macKeys_walk {w : World} {n a : Int} {r : Option Addr} {len cap : Nat} {b : List UInt8} (hn : (Lit.int .i64 n).wf = true) (ha : (Lit.int .u8 a).wf = true) (hB : BytesAt w r len cap b) :
    Calls Try.prog 12 #[.int .i64 n, .int .u8 a, .slice r len cap] w fun e w' => e = .returned (.bool true) ∧ Below w.heap.size w w' := by
  rw [byte_ofInt ha]
  exact macKeys_walk8 hn _ hB
end Go.Proofs.Ytafakjdolnigaaa
