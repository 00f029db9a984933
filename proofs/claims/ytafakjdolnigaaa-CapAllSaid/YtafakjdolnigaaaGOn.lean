/- cap.on: the sum that follows from caveats. cofferref13.Meet, over its bits. cofferref13.of: the set of bits. The bits that two sets of rights have in common, in plain Lean. cofferref13.Meet and the reference's Effect. -/
import Derived.Test.YtafakjdolnigaaaGBytes
namespace Go.Proofs.Ytafakjdolnigaaa
open Go.RowKit
set_option linter.unusedVariables false

/-- P14.1. -/
def onOf (key : List UInt8) (cs : List (UInt8 × Int)) : List UInt8 := cs.foldl (fun s c => macOf s [cavOf c.1 c.2]) key
theorem onOf_length (key : List UInt8) (cs : List (UInt8 × Int)) (hk : key.length = 32) : (onOf key cs).length = 32 := by
  unfold onOf
  induction cs generalizing key with
  | nil => exact hk
  | cons c cs ih => exact ih _ (macOf_length _ _)
theorem onOf_take (key : List UInt8) (cs : List (UInt8 × Int)) (k : Nat) (hk : k < cs.length) :
    onOf key (cs.take (k + 1)) = macOf (onOf key (cs.take k)) [cavOf (cs[k]?.getD (0, 0)).1 (cs[k]?.getD (0, 0)).2] := by
  unfold onOf
  rw [List.take_add_one, List.getElem?_eq_getElem hk, Option.toList_some, List.foldl_append]
  rfl

set_option maxRecDepth 100000 in
set_option maxHeartbeats 4000000 in
theorem on_any {w : World} {key : List UInt8} {r : Option Addr} {len cap : Nat} {cs : List (UInt8 × Int)} (hk : key.length = 32) (h : CavsAt w r len cap cs) :
    Calls Try.prog 92 #[.agg (row8 key), .slice r len cap] w fun e w' => e = .returned (.agg (row8 (onOf key cs))) ∧ Below w.heap.size w w' := by
  have hcl := h.hlen
  subst hcl
  have Hk := Lib.hid hk
  have H := Lib.hid h
  have hcap := h.hmax
  have hle := h.hle
  unfold maxLen at hcap
  clear hk h
  go_enter Try.func92, Try.ntmps92
  go_upto_region 1 with (first
    | (refine wpList_box rfl 31 _ rfl _ rfl ?_)
    | (refine wpList_allocRow 31 _ alloc31 rfl rfl ?_))
  refine abstract_world (fun W => W.heap[w.heap.size]? = some (.cells (row8 key) 31 (0, 0)) ∧ W.heap[w.heap.size + 1]? = some (.cells (row8 zero32) 31 (0, 0)) ∧ Below w.heap.size w W) (box2 w key) ?_
  rintro w1 ⟨r0, r1, r2⟩
  have R0 := Lib.hid r0
  have R1 := Lib.hid r1
  have R2 := Lib.hid r2
  clear r0 r1 r2
  go_upto_region 2 with (fail)
  go_loopw [9] (fun v wr => ∃ k : Nat, k ≤ cs.length ∧ v = .int .i64 (k : Int) ∧ wr.heap[w.heap.size]? = some (.cells (row8 (onOf key (cs.take k))) 31 (0, 0)) ∧ wr.heap[w.heap.size + 1]? = some (.cells (row8 zero32) 31 (0, 0)) ∧ Below w.heap.size w wr) (fun v _ => cs.length - (intOf v).toNat)
  case atStart => exact ⟨0, by omega, rfl, R0.out, R1.out, R2.out⟩
  case round =>
    clear R0 R1 R2
    obtain ⟨k, hk, rfl, r0, r1, hb⟩ := hrel
    have R0 := Lib.hid r0
    have R1 := Lib.hid r1
    have Hb := Lib.hid hb
    clear r0 r1 hb
    by_cases hlt : k < cs.length
    · obtain ⟨b, o, rfl, hc⟩ := (H.out.below Hb.out).hcells (by omega)
      obtain ⟨hc1, hc2⟩ := hc k hlt
      have hst := onOf_take key cs k hlt
      have hz : (Lit.int .i64 (cs[k]?.getD (0, 0)).2).wf = true := by rw [List.getElem?_eq_getElem hlt]; exact H.out.hwf _ (List.getElem_mem hlt)
      obtain ⟨⟨x, z⟩, hxz⟩ : ∃ c, c = cs[k]?.getD (0, 0) := ⟨_, rfl⟩
      rw [← hxz] at hc1 hc2 hst hz
      obtain ⟨S, hS⟩ : ∃ S, S = onOf key (cs.take k) := ⟨_, rfl⟩
      have hSl : S.length = 32 := by rw [hS]; exact onOf_length _ _ Hk.out
      rw [← hS] at hst R0
      simp only at hc1 hc2 hz
      obtain ⟨S2, hS2⟩ : ∃ S2, S2 = macOf S [cavOf x z] := ⟨_, rfl⟩
      have hS2l : S2.length = 32 := by rw [hS2]; exact macOf_length _ _
      have Hst : Hid (onOf key (cs.take (k + 1)) = S2) := Lib.hid (by rw [hst, hS2])
      have HS2 := Lib.hid hS2
      have HSl := Lib.hid hSl
      have HS2l := Lib.hid hS2l
      have Hz := Lib.hid hz
      clear hc hxz hst hS hSl hS2 hS2l hz
      go_upto_region 4 with (first
        | (refine wpList_allocRow 87 _ alloc87 rfl rfl ?_)
        | (refine wpList_store_row rfl 87 _ _ rfl _ (cavRow x z) rfl rfl 87 _ (heap_alloc_new _ _) (info87 x z) rfl (cavRow_one x z) ?_))
      have r0 : ((wr.alloc (.cells (cavRow 0 0) 87)).setRow wr.heap.size (cavRow x z)).heap[wr.heap.size]? = some (.cells (cavRow x z) 87 (0, 0)) := setRow_heap _ _ _ _ _ _ (heap_alloc_new _ _)
      have r1 : Below wr.heap.size wr ((wr.alloc (.cells (cavRow 0 0) 87)).setRow wr.heap.size (cavRow x z)) := below_row (below_one _ _) (Nat.le_refl _) _
      refine abstract_world (fun W => W.heap[wr.heap.size]? = some (.cells (cavRow x z) 87 (0, 0)) ∧ Below wr.heap.size wr W) ⟨r0, r1⟩ ?_
      clear r0 r1 hc1 hc2
      generalize hg6 : wr.heap.size = g6 at *
      rintro w4 ⟨r0, r1⟩
      rw [← hg6] at r1
      have C : Hid (∀ w2, Below w4.heap.size w4 w2 → w2.cell? ⟨g6, 0, none⟩ = some (W8 x) ∧ w2.cell? ⟨g6, 1, none⟩ = some (.int .i64 z)) := Lib.hid fun w2 h2 => ⟨cell_row ((h2.block _ (heap_lt r0)).trans r0) rfl, cell_row ((h2.block _ (heap_lt r0)).trans r0) rfl⟩
      have R04 : Hid (w4.heap[w.heap.size]? = some (.cells (row8 S) 31 (0, 0))) := Lib.hid ((r1.block _ (heap_lt R0.out)).trans R0.out)
      have R14 : Hid (w4.heap[w.heap.size + 1]? = some (.cells (row8 zero32) 31 (0, 0))) := Lib.hid ((r1.block _ (heap_lt R1.out)).trans R1.out)
      have HK := Lib.hid (bytes_of_row R04.out HSl.out (by unfold maxLen; omega))
      have Hb4 := Lib.hid (below_seq Hb.out r1)
      clear r0 r1
      have hcd : Below w4.heap.size w4 w4.drew := (Below.refl _ _).drew
      refine region_k (fun _ => True) (by kernel_rfl) trivial (fun Kr hKr => ?_)
      refine g_quiet trivial 0 13 (.slice (some ⟨w.heap.size, 0, none⟩) 32 32) (by kernel_rfl) (by kernel_rfl) (by kernel_rfl) (by kernel_rfl) (fun w2 hw2 => by go_simp) ?_
      simp only [Act.put, List.setIfInBounds_toArray, List.set_cons_succ, List.set_cons_zero]
      refine m_pick 1 (by kernel_rfl) (g_val (d := 14) (.agg #[W8 x, .int .i64 z]) w4.drew (by kernel_rfl) (by obtain ⟨ca, cb⟩ := C.out w4.drew hcd; go_simp) ?_)
      refine ⟨trivial, ?_⟩
      simp only [Act.put, List.setIfInBounds_toArray, List.set_cons_succ, List.set_cons_zero]
      refine m_pick 2 (by kernel_rfl) (g_call (d := 15) 86 #[.agg #[W8 x, .int .i64 z]] (by kernel_rfl) (by kernel_rfl) ((caveat_any _ x z Hz.out).mono ?_))
      rintro e w5 ⟨v5, rfl, ho, hb5⟩
      obtain ⟨r5, c5, rfl, hB5, _⟩ := ho.at_len 9 (cavOf_length _ _)
      have h5 := below_seq hcd hb5
      refine ⟨_, rfl, trivial, ?_⟩
      simp only [Act.put, List.setIfInBounds_toArray, List.set_cons_succ, List.set_cons_zero]
      refine m_pick 3 (by kernel_rfl) (g_val (d := 16) (.slice (some ⟨w5.heap.size, 0, none⟩) 1 1) (w5.alloc (.cells #[.slice r5 9 c5] 29)) (by kernel_rfl) (by kernel_rfl) ?_)
      have h6 := below_seq h5 (below_one w5 (.cells #[.slice r5 9 c5] 29))
      refine ⟨trivial, ?_⟩
      simp only [Act.put, List.setIfInBounds_toArray, List.set_cons_succ, List.set_cons_zero]
      refine m_pick 4 (by kernel_rfl) (g_call (d := 17) 56 #[.slice (some ⟨w.heap.size, 0, none⟩) 32 32, .slice (some ⟨w5.heap.size, 0, none⟩) 1 1] (by kernel_rfl) (by kernel_rfl) ((macOf_any (HK.out.below h6) (parts_one hB5 _ rfl) (by omega) (by omega) (by simp [cavOf_length])).mono ?_))
      rintro e w7 ⟨rfl, hb7⟩
      rw [← HS2.out]
      have h7 := below_seq h6 hb7
      refine ⟨_, rfl, trivial, ?_⟩
      have R07 := (h7.block _ (heap_lt R04.out)).trans R04.out
      have R17 := Lib.hid ((h7.block _ (heap_lt R14.out)).trans R14.out)
      simp only [Act.put, List.setIfInBounds_toArray, List.set_cons_succ, List.set_cons_zero]
      refine m_pick 5 (by kernel_rfl) (step_store_row 31 (.tmp 2) (.tmp 17) (by kernel_rfl) w.heap.size (row8 S2) (by kernel_rfl) (by kernel_rfl) 31 (row8 S) R07 (info31 _ HS2l.out) (by rw [row8_size, row8_size, HS2l.out, HSl.out]) (row8_one _) ?_)
      refine ⟨trivial, ?_⟩
      refine m_end (by kernel_rfl) ?_
      have r0 : (w7.setRow w.heap.size (row8 S2)).heap[w.heap.size]? = some (.cells (row8 (onOf key (cs.take (k + 1)))) 31 (0, 0)) := by rw [Hst.out]; exact setRow_heap _ _ _ _ _ _ R07
      have r1 : (w7.setRow w.heap.size (row8 S2)).heap[w.heap.size + 1]? = some (.cells (row8 zero32) 31 (0, 0)) := (setRow_other _ _ _ _ (by omega)).trans R17.out
      have r2 : Below w.heap.size w (w7.setRow w.heap.size (row8 S2)) := below_row (below_seq Hb4.out h7) (Nat.le_refl _) _
      obtain ⟨w8, hw8⟩ : ∃ w8, w8 = w7.setRow w.heap.size (row8 S2) := ⟨_, rfl⟩
      rw [← hw8] at r0 r1 r2 ⊢
      clear hw8 R07 h7 h6 h5 hcd hB5 ho
      have P0 := Lib.hid r0
      have P1 := Lib.hid r1
      have P2 := Lib.hid r2
      clear r0 r1 r2
      go_wp2
      exact ⟨⟨k + 1, by omega, by go_num, P0.out, P1.out, P2.out⟩, by simp [intOf]; omega⟩
    · obtain rfl : k = cs.length := by omega
      rw [List.take_length] at R0
      have hol := onOf_length key cs Hk.out
      have Hol := Lib.hid hol
      clear hol
      go_wp2_with (first
        | (refine wpList_load_row rfl 31 _ rfl _ rfl 31 _ _ _ R0.out Try.underlying31 rfl (info31 _ Hol.out) ?_)
        | (refine wpList_store_row rfl 31 _ _ rfl _ _ rfl rfl 31 _ R1.out (info31 _ Hol.out) (by rw [row8_size, row8_size, Hol.out]; rfl) (row8_one _) ?_))
      refine bodyPost_ret (results_cell_row rfl _ _ _ 31 _ _ _ rfl (setRow_heap _ _ _ _ _ _ R1.out) Try.underlying31 rfl (info31 _ Hol.out)) rfl ⟨rfl, below_row Hb.out (by omega) _⟩
end Go.Proofs.Ytafakjdolnigaaa

namespace Go.Proofs.Ytafakjdolnigaaa
open Go.RowKit
set_option linter.unusedVariables false

/-- Eight bools. -/
def rowB (l : List Bool) : Array Value := (l.map Value.bool).toArray
def bit (r : UInt8) (i : Nat) : Bool := r.toNat / 2 ^ i % 2 == 1
def bitsOf (r : UInt8) : List Bool := (List.range 8).map (bit r)
theorem info134 (l : List Bool) (h : l.length = 8) : (Try.prog.info? 134).map (·.size) = some (rowB l).size := by
  have e : (rowB l).size = 8 := by simp [rowB, h]
  have k : (Try.prog.info? 134).map (·.size) = some 8 := by kernel_rfl
  rw [k, e]
theorem alloc134 : ∀ w : World, (Instr.alloc 134 true (.tuple #[])).run Try.prog w = .ok (.pointer (some ⟨w.heap.size, 0, none⟩)) (w.alloc (.cells (rowB [false, false, false, false, false, false, false, false]) 134)) := by
  intro w; kernel_rfl
theorem rowB_size (l : List Bool) : (rowB l).size = l.length := by simp [rowB]
theorem rowB_one (l : List Bool) : (rowB l).all (·.oneCell') = true := by simp [rowB, Value.oneCell']

def bitsK (r : UInt8) (k : Nat) : List Bool := (List.range k).map (bit r) ++ List.replicate (8 - k) false
theorem bitsK_length (r : UInt8) (k : Nat) (h : k ≤ 8) : (bitsK r k).length = 8 := by simp [bitsK]; omega
theorem bitsK_set (r : UInt8) (k : Nat) (h : k < 8) : (bitsK r k).set k (bit r k) = bitsK r (k + 1) := by
  unfold bitsK
  rw [List.set_append_right _ _ (by simp), List.length_map, List.length_range, Nat.sub_self, show 8 - k = (8 - (k + 1)) + 1 by omega, List.replicate_succ, List.set_cons_zero, List.range_succ, List.map_append]
  simp
theorem rowB_set (l : List Bool) (i : Nat) (b : Bool) : (rowB l).setIfInBounds i (.bool b) = rowB (l.set i b) := by simp [rowB, List.map_set]
theorem rowB_at (l : List Bool) (i : Nat) (h : i < l.length) : (rowB l)[i]? = some (.bool (l[i]?.getD false)) := by simp [rowB, h]

set_option maxRecDepth 100000 in
set_option maxHeartbeats 2000000 in
theorem bits_any (w : World) (r : UInt8) : Calls Try.prog 117 #[W8 r] w fun e w' => e = .returned (.agg (rowB (bitsOf r))) ∧ Below w.heap.size w w' := by
  have hr := r.toNat_lt
  have e0 : IntKind.i64.wrap (r.toNat : Int) = (r.toNat : Int) := wrapI_id _ (by omega)
  go_enter Try.func117, Try.ntmps117
  go_upto_region 2 with (refine wpList_allocRow 134 _ alloc134 rfl rfl ?_)
  have r0 : ((w.alloc (.cells (rowB [false, false, false, false, false, false, false, false]) 134)).alloc (.cells (rowB [false, false, false, false, false, false, false, false]) 134)).heap[w.heap.size]? = some (.cells (rowB (bitsK r 0)) 134 (0, 0)) := ((below_one (w.alloc (.cells (rowB [false, false, false, false, false, false, false, false]) 134)) _).block _ (by simp)).trans (heap_alloc_new _ _)
  have r1 : ((w.alloc (.cells (rowB [false, false, false, false, false, false, false, false]) 134)).alloc (.cells (rowB [false, false, false, false, false, false, false, false]) 134)).heap[w.heap.size + 1]? = some (.cells (rowB (bitsK r 0)) 134 (0, 0)) := by
    have hs : (w.alloc (.cells (rowB [false, false, false, false, false, false, false, false]) 134)).heap.size = w.heap.size + 1 := by simp
    rw [← hs]
    exact heap_alloc_new _ _
  have hs : (w.alloc (.cells (rowB [false, false, false, false, false, false, false, false]) 134)).heap.size = w.heap.size + 1 := by simp
  rw [hs]
  refine abstract_world (fun W => W.heap[w.heap.size]? = some (.cells (rowB (bitsK r 0)) 134 (0, 0)) ∧ W.heap[w.heap.size + 1]? = some (.cells (rowB (bitsK r 0)) 134 (0, 0)) ∧ Below w.heap.size w W) ⟨r0, r1, below_seq (below_one _ _) (below_one _ _)⟩ ?_
  clear r0 r1 hs
  rintro w1 ⟨r0, r1, r2⟩
  have R0 := Lib.hid r0
  have R1 := Lib.hid r1
  have R2 := Lib.hid r2
  clear r0 r1 r2
  go_upto_region 4 with (fail)
  go_loopw [5, 4] (fun v vn wr => ∃ k m : Nat, k ≤ 8 ∧ v = .int .i64 (k : Int) ∧ m = r.toNat / 2 ^ k ∧ vn = .int .i64 (m : Int) ∧ wr.heap[w.heap.size]? = some (.cells (rowB (bitsK r 0)) 134 (0, 0)) ∧ wr.heap[w.heap.size + 1]? = some (.cells (rowB (bitsK r k)) 134 (0, 0)) ∧ Below w.heap.size w wr) (fun v _ _ => 8 - (intOf v).toNat)
  case atStart => exact ⟨0, r.toNat, by omega, rfl, by simp, rfl, R0.out, R1.out, R2.out⟩
  case round =>
    clear R0 R1 R2
    obtain ⟨k, m, hk, rfl, hm, rfl, r0, r1, hb⟩ := hrel
    have R0 := Lib.hid r0
    have R1 := Lib.hid r1
    have Hb := Lib.hid hb
    have hm8 : m < 256 := by rw [hm]; exact Nat.lt_of_le_of_lt (Nat.div_le_self _ _) (by omega)
    by_cases hlt : k < 8
    · have cx := cell_row r1 (rowB_at _ k (by rw [bitsK_length _ _ hk]; exact hlt))
      have fx := frozen_of_row wr (w.heap.size + 1) k _ _ r1
      have Hm := Lib.hid hm
      clear r0 r1 hb hm e0
      go_wp2
      have hbit : ((m : Int) % 2 == 1) = bit r k := by
        unfold bit
        rw [← Hm.out, Bool.eq_iff_iff]
        simp only [beq_iff_eq]
        omega
      rw [hbit]
      refine ⟨⟨k + 1, m / 2, by omega, by go_num, by rw [Hm.out, Nat.div_div_eq_div_mul, Nat.pow_succ], by simp, ?_, ?_, Hb.out.setCell (Nat.le_succ _) _⟩, by simp [intOf]; omega⟩
      · rw [heap_setCell_other _ _ _ _ (by simp)]
        exact R0.out
      · rw [← bitsK_set _ _ hlt, ← rowB_set]
        exact heap_setCell_same _ _ _ _ _ _ R1.out
    · obtain rfl : k = 8 := by omega
      have hl8 := bitsK_length r 8 (by omega)
      have hl0 := bitsK_length r 0 (by omega)
      have H8 := Lib.hid hl8
      have H0 := Lib.hid hl0
      have e : bitsK r 8 = bitsOf r := by simp [bitsK, bitsOf]
      have He := Lib.hid e
      clear r0 r1 hb hm e0 hl8 hl0 e
      go_wp2_with (first
        | (refine wpList_load_row rfl 134 _ rfl _ rfl 134 _ _ _ R1.out Try.underlying134 rfl (info134 _ H8.out) ?_)
        | (refine wpList_store_row rfl 134 _ _ rfl _ _ rfl rfl 134 _ R0.out (info134 _ H8.out) (by rw [rowB_size, rowB_size, H8.out, H0.out]) (rowB_one _) ?_))
      rw [He.out]
      refine bodyPost_ret (results_cell_row rfl _ _ _ 134 _ _ _ rfl (setRow_heap _ _ _ _ _ _ R0.out) Try.underlying134 rfl (info134 _ (by rw [← He.out]; exact H8.out))) rfl ⟨rfl, below_row Hb.out (by omega) _⟩
end Go.Proofs.Ytafakjdolnigaaa

namespace Go.Proofs.Ytafakjdolnigaaa
open Go.RowKit
set_option linter.unusedVariables false

/-- The first k of bits as a number. -/
def numB (l : List Bool) : Nat → Nat
  | 0 => 0
  | k + 1 => numB l k + (if l[k]?.getD false then 2 ^ k else 0)
theorem numB_lt (l : List Bool) (k : Nat) : numB l k < 2 ^ k := by
  induction k with
  | zero => simp [numB]
  | succ k ih =>
    rw [numB, Nat.pow_succ]
    split <;> omega

set_option maxRecDepth 100000 in
set_option maxHeartbeats 2000000 in
theorem refSet_any (w : World) (l : List Bool) (hl : l.length = 8) : Calls Try.prog 118 #[.agg (rowB l)] w fun e w' => e = .returned (W8 (UInt8.ofNat (numB l 8))) ∧ Below w.heap.size w w' := by
  have Hl := Lib.hid hl
  clear hl
  go_enter Try.func118, Try.ntmps118
  go_upto_region 1 with (refine wpList_box rfl 134 _ rfl (rowB l) rfl ?_)
  refine abstract_world (fun W => W.heap[w.heap.size]? = some (.cells (rowB l) 134 (0, 0)) ∧ Below w.heap.size w W) ⟨heap_alloc_new _ _, below_one _ _⟩ ?_
  rintro w1 ⟨r0, r1⟩
  have R0 := Lib.hid r0
  have R1 := Lib.hid r1
  clear r0 r1
  go_upto_region 3 with (fail)
  go_loopw [5, 3, 4] (fun v vn vu wr => ∃ k n u : Nat, k ≤ 8 ∧ v = .int .i64 (k : Int) ∧ n = numB l k ∧ vn = .int .i64 (n : Int) ∧ u = 2 ^ k ∧ vu = .int .i64 (u : Int) ∧ w1 = wr) (fun v _ _ _ => 8 - (intOf v).toNat)
  case atStart => exact ⟨0, 0, 1, by omega, rfl, rfl, rfl, rfl, rfl, rfl⟩
  case round =>
    obtain ⟨k, n, u, hk, rfl, hn, rfl, hu, rfl, rfl⟩ := hrel
    have hn1 : n < u := by rw [hn, hu]; exact numB_lt l k
    have hu1 : u ≤ 256 := by
      rw [hu]
      exact Nat.pow_le_pow_right (n := 2) (j := 8) (by omega) hk
    have Hn := Lib.hid hn
    have Hu := Lib.hid hu
    clear hn hu
    by_cases hlt : k < 8
    · have cx := cell_row R0.out (rowB_at l k (by rw [Hl.out]; exact hlt))
      have e2 : IntKind.i64.wrap ((u : Int) * 2) = (u : Int) * 2 := wrapI_id _ (by omega)
      have e1 : IntKind.i64.wrap ((n : Int) + (u : Int)) = (n : Int) + (u : Int) := wrapI_id _ (by omega)
      cases hb : l[k]?.getD false with
      | true =>
        rw [hb] at cx
        have hnum : numB l (k + 1) = n + u := by rw [numB, hb, if_pos rfl, ← Hn.out, ← Hu.out]
        have Hnum := Lib.hid hnum
        clear hnum hb
        go_wp2
        exact ⟨⟨k + 1, n + u, u * 2, by omega, by go_num, Hnum.out.symm, by simp, by rw [Nat.pow_succ, ← Hu.out], by simp, trivial⟩, by simp [intOf]; omega⟩
      | false =>
        rw [hb] at cx
        have hnum : numB l (k + 1) = n := by rw [numB, hb, ← Hn.out]; rfl
        have Hnum := Lib.hid hnum
        clear hnum hb
        go_wp2
        exact ⟨⟨k + 1, n, u * 2, by omega, by go_num, Hnum.out.symm, by simp, by rw [Nat.pow_succ, ← Hu.out], by simp, trivial⟩, by simp [intOf]; omega⟩
    · obtain rfl : k = 8 := by omega
      have hn8 : n < 256 := by have := Hn.out; have := numB_lt l 8; omega
      have e3 : IntKind.u8.wrap (n : Int) = (n : Int) := by rw [wrapN8]; omega
      have e4 : Value.int .u8 (n : Int) = W8 (UInt8.ofNat (numB l 8)) := by
        rw [← Hn.out]
        show Value.int .u8 (n : Int) = Value.int .u8 (((UInt8.ofNat n).toNat : Nat) : Int)
        rw [UInt8.toNat_ofNat', Nat.mod_eq_of_lt hn8]
      have E4 := Lib.hid e4
      clear e4
      go_wp2
      go_ret
      exact ⟨congrArg Ending.returned E4.out, R1.out⟩
end Go.Proofs.Ytafakjdolnigaaa

namespace Go.Proofs.Ytafakjdolnigaaa
open Go.RowKit
set_option linter.unusedVariables false

theorem numB_testBit (l : List Bool) (k i : Nat) : (numB l k).testBit i = (decide (i < k) && l[i]?.getD false) := by
  induction k with
  | zero => simp [numB]
  | succ k ih =>
    rw [numB]
    have hlt := numB_lt l k
    cases hb : l[k]?.getD false with
    | false =>
      rw [if_neg (by simp), Nat.add_zero, ih]
      by_cases h : i = k
      · subst h; simp [hb]
      · have e : (i < k + 1) = (i < k) := by apply propext; omega
        simp only [e]
    | true =>
      rw [if_pos rfl, Nat.add_comm]
      by_cases h : i = k
      · subst h
        rw [Nat.testBit_two_pow_add_eq, ih]
        simp [hb]
      · by_cases h2 : i < k
        · rw [Nat.testBit_two_pow_add_gt h2, ih]
          simp [h2, show i < k + 1 by omega]
        · have hx : 2 ^ k + numB l k < 2 ^ i := by
            have : 2 ^ (k + 1) ≤ 2 ^ i := Nat.pow_le_pow_right (by omega) (by omega)
            rw [Nat.pow_succ] at this
            omega
          rw [Nat.testBit_lt_two_pow hx]
          simp [show ¬ i < k + 1 by omega]
theorem bit_test (r : UInt8) (i : Nat) : bit r i = r.toNat.testBit i := by
  unfold bit
  rw [Nat.testBit_eq_decide_div_mod_eq]
  rw [Bool.eq_iff_iff]
  simp
theorem bitsOf_length (r : UInt8) : (bitsOf r).length = 8 := by simp [bitsOf]
theorem bitsOf_at (r : UInt8) (i : Nat) (h : i < 8) : (bitsOf r)[i]?.getD false = bit r i := by simp [bitsOf, h]

/-- The first k of the bits met. -/
def metTo (a b : UInt8) (k : Nat) : List Bool := (List.range 8).map fun i => if i < k then bit a i && bit b i else bit a i
theorem metTo_length (a b : UInt8) (k : Nat) : (metTo a b k).length = 8 := by simp [metTo]
theorem metTo_zero (a b : UInt8) : metTo a b 0 = bitsOf a := by simp [metTo, bitsOf]
theorem metTo_at (a b : UInt8) (k : Nat) (h : k < 8) : (metTo a b k)[k]?.getD false = bit a k := by simp [metTo, h]
theorem metTo_set (a b : UInt8) (k : Nat) (h : k < 8) : (metTo a b k).set k (bit a k && bit b k) = metTo a b (k + 1) := by
  apply List.ext_getElem?
  intro i
  rw [List.getElem?_set]
  by_cases hi : k = i
  · subst hi
    simp [metTo, h]
  · rw [if_neg hi]
    by_cases h8 : i < 8
    · have e : (i < k + 1) = (i < k) := by apply propext; omega
      simp [metTo, h8, e]
    · rw [List.getElem?_eq_none (by rw [metTo_length]; omega), List.getElem?_eq_none (by rw [metTo_length]; omega)]
theorem met_num (a b : UInt8) : UInt8.ofNat (numB (metTo a b 8) 8) = a &&& b := by
  apply UInt8.toNat_inj.1
  have hlt := numB_lt (metTo a b 8) 8
  rw [UInt8.toNat_ofNat', Nat.mod_eq_of_lt (by omega), UInt8.toNat_and]
  apply Nat.eq_of_testBit_eq
  intro i
  rw [numB_testBit, Nat.testBit_and]
  by_cases h : i < 8
  · rw [← bit_test, ← bit_test]
    simp [metTo, h]
  · have ha : a.toNat < 2 ^ i := Nat.lt_of_lt_of_le a.toNat_lt (Nat.pow_le_pow_right (n := 2) (i := 8) (by omega) (by omega))
    rw [Nat.testBit_lt_two_pow ha]
    simp [h]
end Go.Proofs.Ytafakjdolnigaaa

namespace Go.Proofs.Ytafakjdolnigaaa
open Go.RowKit
set_option linter.unusedVariables false

theorem meet_boxes (w : World) (Z A : Array Value) : (((w.alloc (.cells Z 134)).alloc (.cells Z 134)).setRow w.heap.size A).heap[w.heap.size + 1]? = some (.cells Z 134 (0, 0)) := (setRow_other _ _ _ _ (by omega)).trans (heap_alloc2_new _ _ _)

theorem meet_boxes2 (w : World) (Z A : Array Value) : (((w.alloc (.cells Z 134)).alloc (.cells Z 134)).setRow w.heap.size A).heap[(w.alloc (.cells Z 134)).heap.size]? = some (.cells Z 134 (0, 0)) := by
  have e : (w.alloc (.cells Z 134)).heap.size = w.heap.size + 1 := by simp
  rw [e]
  exact meet_boxes w Z A

set_option maxRecDepth 100000 in
set_option maxHeartbeats 2000000 in
theorem refMeet_any (w : World) (a b : UInt8) : Calls Try.prog 104 #[W8 a, W8 b] w fun e w' => e = .returned (W8 (a &&& b)) ∧ Below w.heap.size w w' := by
  have hla := bitsOf_length a
  have hlb := bitsOf_length b
  have Hla := Lib.hid hla
  have Hlb := Lib.hid hlb
  clear hla hlb
  obtain ⟨A, hA⟩ : ∃ A, A = bitsOf a := ⟨_, rfl⟩
  obtain ⟨B, hB⟩ : ∃ B, B = bitsOf b := ⟨_, rfl⟩
  have ca : ∀ w, Calls Try.prog 117 #[W8 a] w fun e w' => e = .returned (.agg (rowB A)) ∧ Below w.heap.size w w' := fun w => by rw [hA]; exact bits_any w a
  have cb : ∀ w, Calls Try.prog 117 #[W8 b] w fun e w' => e = .returned (.agg (rowB B)) ∧ Below w.heap.size w w' := fun w => by rw [hB]; exact bits_any w b
  rw [← hA] at Hla
  rw [← hB] at Hlb
  have HA := Lib.hid hA
  have HB := Lib.hid hB
  have Ca := Lib.hid ca
  have Cb := Lib.hid cb
  clear ca cb hA hB
  have hsB : (rowB B).size = 8 := by rw [rowB_size]; exact Hlb.out
  go_enter Try.func104, Try.ntmps104
  go_upto_region 2 with (first
    | (go_at_call 117; first
        | (with_reducible refine (Ca.out _).mono ?_; rintro e w1 ⟨rfl, hb⟩; have Hb1 := Lib.hid hb; clear hb)
        | (with_reducible refine (Cb.out _).mono ?_; rintro e w2 ⟨rfl, hb⟩; have Hb2 := Lib.hid hb; clear hb))
    | (refine wpList_allocRow 134 _ alloc134 rfl rfl ?_)
    | (refine wpList_store_row rfl 134 (.tmp 5) (.tmp 9) rfl w2.heap.size (rowB A) rfl rfl 134 _ (heap_alloc2_old _ _ _) (info134 _ Hla.out) (by simp [rowB_size, Hla.out]) (rowB_one _) ?_)
    | (refine wpList_store_row rfl 134 (.tmp 6) (.tmp 11) rfl _ (rowB B) rfl rfl 134 _ (meet_boxes2 w2 _ (rowB A)) (info134 _ Hlb.out) (by simp [rowB_size, Hlb.out]) (rowB_one _) ?_))
  clear hsB
  have hs : (w2.alloc (.cells (rowB [false, false, false, false, false, false, false, false]) 134)).heap.size = w2.heap.size + 1 := by simp
  rw [hs]
  have r0 : ((((w2.alloc (.cells (rowB [false, false, false, false, false, false, false, false]) 134)).alloc (.cells (rowB [false, false, false, false, false, false, false, false]) 134)).setRow w2.heap.size (rowB A)).setRow (w2.heap.size + 1) (rowB B)).heap[w2.heap.size]? = some (.cells (rowB A) 134 (0, 0)) := (setRow_other _ _ _ _ (by omega)).trans (setRow_heap _ _ _ _ _ _ (heap_alloc2_old _ _ _))
  have r1 : ((((w2.alloc (.cells (rowB [false, false, false, false, false, false, false, false]) 134)).alloc (.cells (rowB [false, false, false, false, false, false, false, false]) 134)).setRow w2.heap.size (rowB A)).setRow (w2.heap.size + 1) (rowB B)).heap[w2.heap.size + 1]? = some (.cells (rowB B) 134 (0, 0)) := setRow_heap _ _ _ _ _ _ (meet_boxes w2 _ (rowB A))
  have r2 : Below w2.heap.size w2 ((((w2.alloc (.cells (rowB [false, false, false, false, false, false, false, false]) 134)).alloc (.cells (rowB [false, false, false, false, false, false, false, false]) 134)).setRow w2.heap.size (rowB A)).setRow (w2.heap.size + 1) (rowB B)) := below_row (below_row (below_seq (below_one _ _) (below_one _ _)) (Nat.le_refl _) _) (by omega) _
  refine abstract_world (fun W => W.heap[w2.heap.size]? = some (.cells (rowB A) 134 (0, 0)) ∧ W.heap[w2.heap.size + 1]? = some (.cells (rowB B) 134 (0, 0)) ∧ Below w2.heap.size w2 W) ⟨r0, r1, r2⟩ ?_
  clear r0 r1 r2 hs
  rintro w3 ⟨r0, r1, r2⟩
  obtain rfl := HA.out
  obtain rfl := HB.out
  rw [← metTo_zero a b] at r0
  have R0 := Lib.hid r0
  have R1 := Lib.hid r1
  have R2 := Lib.hid r2
  clear r0 r1 r2 HA HB Ca Cb
  go_upto_region 3 with (fail)
  go_loopw [7] (fun v wr => ∃ k : Nat, k ≤ 8 ∧ v = .int .i64 (k : Int) ∧ wr.heap[w2.heap.size]? = some (.cells (rowB (metTo a b k)) 134 (0, 0)) ∧ wr.heap[w2.heap.size + 1]? = some (.cells (rowB (bitsOf b)) 134 (0, 0)) ∧ Below w2.heap.size w2 wr) (fun v _ => 8 - (intOf v).toNat)
  case atStart => exact ⟨0, by omega, rfl, R0.out, R1.out, R2.out⟩
  case round =>
    clear R0 R1 R2
    obtain ⟨k, hk, rfl, r0, r1, hb⟩ := hrel
    have R0 := Lib.hid r0
    have R1 := Lib.hid r1
    have Hb := Lib.hid hb
    by_cases hlt : k < 8
    · have cx := cell_row r0 (rowB_at _ k (by rw [metTo_length]; exact hlt))
      have cy := cell_row r1 (rowB_at _ k (by rw [bitsOf_length]; exact hlt))
      have fx := frozen_of_row wr w2.heap.size k _ _ r0
      rw [metTo_at a b k hlt] at cx
      rw [bitsOf_at b k hlt] at cy
      have hset := metTo_set a b k hlt
      obtain ⟨x, hx⟩ : ∃ x, x = bit a k := ⟨_, rfl⟩
      obtain ⟨y, hy⟩ : ∃ y, y = bit b k := ⟨_, rfl⟩
      rw [← hx, ← hy] at hset
      rw [← hx] at cx
      rw [← hy] at cy
      have Hset := Lib.hid hset
      have Hgo : Hid (∀ v, v = .bool (x && y) → (wr.setCell ⟨w2.heap.size, k, none⟩ v).heap[w2.heap.size]? = some (.cells (rowB (metTo a b (k + 1))) 134 (0, 0)) ∧ (wr.setCell ⟨w2.heap.size, k, none⟩ v).heap[w2.heap.size + 1]? = some (.cells (rowB (bitsOf b)) 134 (0, 0)) ∧ Below w2.heap.size w2 (wr.setCell ⟨w2.heap.size, k, none⟩ v)) := Lib.hid fun v hv => by
        subst hv
        refine ⟨?_, ?_, Hb.out.setCell (Nat.le_refl _) _⟩
        · rw [← Hset.out, ← rowB_set]
          exact heap_setCell_same _ _ _ _ _ _ R0.out
        · rw [heap_setCell_other _ _ _ _ (by simp)]
          exact R1.out
      clear r0 r1 hb hset hx hy
      cases x with
      | true =>
        go_wp2
        exact ⟨⟨k + 1, by omega, by go_num, Hgo.out _ (by simp)⟩, by simp [intOf]; omega⟩
      | false =>
        go_wp2
        exact ⟨⟨k + 1, by omega, by go_num, Hgo.out _ (by simp)⟩, by simp [intOf]; omega⟩
    · obtain rfl : k = 8 := by omega
      have hl8 := metTo_length a b 8
      have H8 := Lib.hid hl8
      have hm := met_num a b
      have Hm := Lib.hid hm
      clear r0 r1 hb hl8 hm
      go_wp2_with (first
        | (refine wpList_load_row rfl 134 _ rfl _ rfl 134 _ _ _ R0.out Try.underlying134 rfl (info134 _ H8.out) ?_)
        | (go_at_call 118; refine (refSet_any _ _ H8.out).mono ?_; rintro e w4 ⟨rfl, hb4⟩; rw [Hm.out]; have Hb4 := Lib.hid hb4; clear hb4))
      go_ret
      exact ⟨rfl, below_seq Hb1.out (below_seq Hb2.out (below_seq Hb.out Hb4.out))⟩
end Go.Proofs.Ytafakjdolnigaaa
