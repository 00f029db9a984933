/- The walk of cofferlaw2.ShaEnds. -/
import Derived.Test.YtafakjdolnigaaaRefD
import Derived.Test.YtafakjdolnigaaaLib0
import Derived.Test.YtafakjdolnigaaaShaCopies
namespace Go.Proofs.Ytafakjdolnigaaa
open Go.RowKit
set_option linter.unusedVariables false

set_option maxRecDepth 100000 in
set_option maxHeartbeats 2000000 in
theorem shaEnds_walk8 {w : World} {n : Int} (hn : (Lit.int .i64 n).wf = true) (c : UInt8) :
    Calls Try.prog 6 #[.int .i64 n, W8 c] w fun e w' => e = .returned (.bool true) ∧ Below w.heap.size w w' := by
  obtain ⟨hp0, hp1⟩ := placeOf_range n 401 (by omega)
  obtain ⟨m, hm⟩ : ∃ m : Nat, placeOf n 401 = (m : Int) := ⟨(placeOf n 401).toNat, by omega⟩
  have hplace : ∀ w, Calls Try.prog 38 #[.int .i64 n, .int .i64 401] w fun e w' => e = .returned (.int .i64 (m : Int)) ∧ w = w' := fun w => by rw [← hm]; exact place_any w n 401 hn (by omega) (by omega)
  have Hpl := Lib.hid hplace
  have hm4 : m ≤ 400 := by omega
  clear hplace hm hp0 hp1
  go_enter Try.func6, Try.ntmps6
  go_wp2_with (first
    | (go_at_call 25; refine (begun2 _).mono ?_; rintro e w1 ⟨rfl, h1⟩)
    | (go_at_call 38; refine (Hpl.out _).mono ?_; rintro e w2 ⟨rfl, rfl⟩)
    | (refine wpList_make_bytes rfl _ _ rfl m rfl rfl (by omega) ?_))
  have r1 : Below w.heap.size w (w1.alloc (.cells (row8 (List.replicate m 0)) 5)) := below_seq h1 (below_one _ _)
  have hwg : w.heap.size ≤ w1.heap.size := h1.size
  clear h1
  refine abstract_world (fun W => (∃ l : List UInt8, l.length = m ∧ W.heap[w1.heap.size]? = some (.cells (row8 l) 5 (0, 0))) ∧ Below w.heap.size w W) ⟨⟨_, List.length_replicate, heap_alloc_new _ _⟩, r1⟩ ?_
  clear r1
  generalize w1.heap.size = g at *
  rintro w2 ⟨h0, hb⟩
  go_loopw [6] (fun v wr => ∃ k : Nat, k ≤ m ∧ v = .int .i64 (k : Int) ∧ (∃ l : List UInt8, l.length = m ∧ wr.heap[g]? = some (.cells (row8 l) 5 (0, 0))) ∧ Below w.heap.size w wr) (fun v _ => m - (intOf v).toNat)
  case atStart => exact ⟨0, by omega, rfl, h0, hb⟩
  case round =>
    clear h0 hb
    obtain ⟨k, hk, rfl, ⟨l, hl, h0⟩, hb⟩ := hrel
    have Hb := Lib.hid hb
    have Hl := Lib.hid hl
    have H0 := Lib.hid h0
    clear hb
    by_cases hlt : k < m
    · have cx := cell_row h0 (row8_at l k (by omega))
      have fx := frozen_of_row wr g k _ _ h0
      have hv : Value.int .u8 ((k : Int) % 256) = W8 (UInt8.ofNat k) := by
        unfold W8
        congr 1
      clear h0 hl
      go_wp2
      refine ⟨⟨k + 1, by omega, by go_num, ⟨l.set k (c + UInt8.ofNat k), by rw [List.length_set, Hl.out], ?_⟩, Hb.out.setCell (by omega) _⟩, by simp [intOf]; omega⟩
      rw [← row8_set]
      exact heap_setCell_same _ _ _ _ _ _ H0.out
    · obtain rfl : k = m := by omega
      have hB : BytesAt wr (some ⟨g, 0, none⟩) k k l := ⟨hl, Nat.le_refl _, by unfold maxLen; omega, fun _ => ⟨g, 0, rfl, fun i hi => by rw [Nat.zero_add]; exact cell_row h0 (row8_at l i (by omega))⟩, fun h => by cases h⟩
      have HB := Lib.hid hB
      clear hB h0 hl
      go_wp2_with (first
        | (go_at_call 31; with_reducible refine (of_one HB.out (by have := Hl.out; omega) _ rfl).mono ?_; rintro e w3 ⟨rfl, h3⟩)
        | (go_at_call 39; with_reducible refine (refSum_any (HB.out.below h3) (by omega)).mono ?_; rintro e w4 ⟨rfl, h4⟩))
      go_ret
      exact ⟨rfl, below_seq (below_seq Hb.out h3) h4⟩

theorem shaEnds_walk {w : World} {n a : Int} (hn : (Lit.int .i64 n).wf = true) (ha : (Lit.int .u8 a).wf = true) :
    Calls Try.prog 6 #[.int .i64 n, .int .u8 a] w fun e w' => e = .returned (.bool true) ∧ Below w.heap.size w w' := by
  have h : 0 ≤ a ∧ a < 256 := by
    simp only [Lit.wf, IntKind.min, IntKind.max, IntKind.signed, IntKind.bits, Bool.and_eq_true] at ha
    simp at ha
    omega
  have e : Value.int .u8 a = W8 (UInt8.ofNat a.toNat) := by
    unfold W8
    congr 1
    rw [UInt8.toNat_ofNat']
    omega
  rw [e]
  exact shaEnds_walk8 hn _
end Go.Proofs.Ytafakjdolnigaaa
