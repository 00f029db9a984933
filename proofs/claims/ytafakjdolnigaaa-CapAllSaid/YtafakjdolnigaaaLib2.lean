/- The walks of cofferlaw0.AllKept and cofferref2.Of. -/
import Derived.Test.YtafakjdolnigaaaGLib
import Derived.Test.YtafakjdolnigaaaGRef2
namespace Go.Proofs.Ytafakjdolnigaaa
open Go.RowKit
set_option linter.unusedVariables false

set_option maxRecDepth 100000 in
set_option maxHeartbeats 2000000 in
theorem allKept_any {w : World} {base : Nat} {v : Value} {r : Option Addr} {len cap : Nat} {ps : List (List UInt8)} (T : TwinsAt w base v ps) (hp : PartsAt w r len cap ps) (hsz : ∀ i, i < len → (ps[i]?.getD []).length ≤ 1099511627776) :
    Calls Try.prog 34 #[v, .slice r len cap] w fun e w' => e = .returned (.bool true) ∧ Below w.heap.size w w' := by
  obtain ⟨vs, ho, hti⟩ := T.own
  obtain ⟨rv, capv, rfl, hlev, hmv, hl, hcv⟩ := ownsRow_shape ho
  have hmax : cap ≤ 9223372036854775807 := hp.hmax
  have hmaxv : capv ≤ 9223372036854775807 := hmv
  have hle := hp.hle
  have hlen := hp.hlen
  subst hlen
  have Hsz := Lib.hid hsz
  have Hti := Lib.hid hti
  have Hcv := Lib.hid hcv
  clear hsz hti hcv ho T hl
  go_enter Try.func34, Try.ntmps34
  go_wp2
  go_loopw [5] (fun v4 wr => ∃ (i : Nat), i ≤ ps.length ∧ v4 = .int .i64 (i : Int) ∧ Below w.heap.size w wr) (fun v _ => ps.length - (intOf v).toNat)
  case atStart => exact ⟨0, by omega, rfl, Below.refl _ _⟩
  case round =>
    obtain ⟨i, hi, rfl, hbel⟩ := hrel
    by_cases hlt : i < ps.length
    · obtain ⟨b, o, rfl, hc⟩ := hp.hcells (by omega)
      obtain ⟨ri, li, ci, hcell, hbi⟩ := hc i hlt
      obtain ⟨bv, rfl, _, _, hcvi⟩ := Hcv.out (by omega)
      obtain ⟨g, h1, h2, _⟩ := Hti.out i hlt
      have hls := Hsz.out i hlt
      have hcx := hcvi i hlt
      rw [h1, Nat.zero_add] at hcx
      generalize ps[i]?.getD [] = p at *
      obtain rfl := hbi.hlen
      have hT := h2.below hbel
      have hB := hbi.below hbel
      have cx : ∀ x : Ext wr, x.w.cell? ⟨bv, i, none⟩ = some (.slice (some ⟨g, 0, none⟩) p.length (p.length + 3)) := fun x => x.cell (by rw [hbel.cell (p := ⟨bv, i, none⟩) (block_lt_of_cell hcx)]; exact hcx)
      have cl : ∀ x : Ext wr, x.w.cell? ⟨b, o + i, none⟩ = some (.slice ri p.length ci) := fun x => x.cell (by rw [hbel.cell (p := ⟨b, o + i, none⟩) (block_lt_of_cell hcell)]; exact hcell)
      have hk : ∀ x : Ext wr, Calls Try.prog 58 #[.slice (some ⟨g, 0, none⟩) p.length (p.length + 3), .slice ri p.length ci] x.w fun e w' => e = .returned (.bool true) ∧ x.w = w' := fun x => kept_any (hT.below x.h) (hB.below x.h) hls
      have Hk := Lib.hid hk
      have Hbel := Lib.hid hbel
      clear hk hbel hc hcell hbi h1 h2 hls hcx hT hB hcvi
      go_wp2
      refine region_q (fun w' => ∃ x : Ext wr, w' = x.w) (by kernel_rfl) (by kernel_rfl) (ext_draw wr) ?_
      repeat (refine wpQuiet_step (fun K hK => ?_); go_simp; first | (refine hK _ ?_; clear hK K) | (refine ⟨_, fun x => ext_same x (Hk.out x), hK _ ?_⟩; clear hK K))
      refine wpQuiet_nil ?_
      rintro _ ⟨x, rfl⟩
      go_wp2
      refine ⟨⟨i + 1, by omega, by go_num, Hbel.out.trans (x.h.mono Hbel.out.size)⟩, by simp [intOf]; omega⟩
    · obtain rfl : i = ps.length := by omega
      clear hp
      go_wp2
      go_ret
      exact ⟨rfl, hbel⟩

set_option maxRecDepth 100000 in
set_option maxHeartbeats 2000000 in
theorem refOf_any {w : World} {r : Option Addr} {len cap : Nat} {ps : List (List UInt8)} (hp : PartsAt w r len cap ps) (hsz : ps.flatten.length ≤ 1048576) :
    Calls Try.prog 30 #[.slice r len cap] w fun e w' => e = .returned (.agg (row8 (digest ps.flatten))) ∧ Below w.heap.size w w' := by
  have hmax : cap ≤ 9223372036854775807 := hp.hmax
  have hle := hp.hle
  have hlen := Lib.hid hp.hlen
  have Hsz := Lib.hid hsz
  clear hsz
  go_enter Try.func30, Try.ntmps30
  go_wp2_with (refine wpList_allocRow 31 _ alloc31 rfl rfl ?_)
  have r0 : (w.alloc (.cells (row8 zero32) 31)).heap[w.heap.size]? = some (.cells (row8 zero32) 31 (0, 0)) := heap_alloc_new _ _
  have r1 : Below w.heap.size w (w.alloc (.cells (row8 zero32) 31)) := below_one _ _
  have r2 : (w.alloc (.cells (row8 zero32) 31)).heap.size = w.heap.size + 1 := by simp
  refine abstract_world (fun W => W.heap[w.heap.size]? = some (.cells (row8 zero32) 31 (0, 0)) ∧ Below w.heap.size w W ∧ W.heap.size = w.heap.size + 1) ⟨r0, r1, r2⟩ ?_
  clear r0 r1 r2
  rintro w1 ⟨r0, r1, r2⟩
  have R0 := Lib.hid r0
  have R1 := Lib.hid r1
  have R2 := Lib.hid r2
  clear r0 r1 r2
  go_loopw [3, 4] (fun v3 v4 wr => ∃ (i : Nat), i ≤ len ∧ v4 = .int .i64 (i : Int) ∧ OwnB wr (w.heap.size + 1) v3 (ps.take i).flatten ∧ Below (w.heap.size + 1) w1 wr ∧ w.heap.size + 1 ≤ wr.heap.size) (fun _ v _ => len - (intOf v).toNat)
  case atStart => exact ⟨0, by omega, rfl, by simpa using ownB_none w1 _, Below.refl _ _, by rw [R2.out]; exact Nat.le_refl _⟩
  case round =>
    obtain ⟨i, hi, rfl, ho, hbel, hsz1⟩ := hrel
    obtain ⟨rv, capv, rfl, hbv, _⟩ := ho.at
    have hbw : Below w.heap.size w wr := R1.out.trans (hbel.mono (by omega))
    have Hbw := Lib.hid hbw
    have Ho := Lib.hid ho
    have Hbv := Lib.hid hbv
    have Hbel := Lib.hid hbel
    clear ho hbv hbel
    by_cases hlt : i < len
    · obtain ⟨b, o, rfl, hc⟩ := hp.hcells (by omega)
      obtain ⟨ri, li, ci, hcell, hbi⟩ := hc i hlt
      have hcw : wr.cell? ⟨b, o + i, none⟩ = some (.slice ri li ci) := by rw [hbw.cell (p := ⟨b, o + i, none⟩) (block_lt_of_cell hcell)]; exact hcell
      have Hbi := Lib.hid (hbi.below hbw)
      have hil : i < ps.length := by have := hlen.out; omega
      have hap := flatten_take ps i hil
      have hsum : ((ps.take i).flatten).length + (ps[i]?.getD []).length ≤ 70368744177664 := by
        rw [← List.length_append, ← hap]
        have h1 : ps.flatten = (ps.take (i + 1)).flatten ++ (ps.drop (i + 1)).flatten := by rw [← List.flatten_append, List.take_append_drop]
        have hsz := Hsz.out
        rw [h1, List.length_append] at hsz
        omega
      have Hap := Lib.hid hap
      have Hsum := Lib.hid hsum
      clear hbw hc hcell hbi hap hsum
      go_wp2_with (refine wpList_append_bytes rfl _ _ rfl (w.heap.size + 1) _ _ _ ri li ci rfl rfl Ho.out Hbi.out Hsum.out hsz1 ?_; intro v5 w5 ho5 hg5)
      refine ⟨⟨i + 1, by omega, by go_num, by rw [Hap.out]; exact ho5, Ho.out.below Hbel.out hsz1 hg5, Nat.le_trans hsz1 hg5.size⟩, by simp [intOf]; omega⟩
    · have hall : ps.take i = ps := List.take_of_length_le (by have := hlen.out; omega)
      have hbv : BytesAt wr rv (ps.take i).flatten.length capv ps.flatten := by have := Hbv.out; rw [hall] at this ⊢; exact this
      have hz : (ps.take i).flatten.length ≤ 1048576 := by rw [hall]; exact Hsz.out
      have Hbv' := Lib.hid hbv
      have Hall := Lib.hid hall
      have h0 : wr.heap[w.heap.size]? = some (.cells (row8 zero32) 31 (0, 0)) := (Hbel.out.block _ (by omega)).trans R0.out
      have H0 := Lib.hid h0
      clear hbw hbv hall h0
      generalize (ps.take i).flatten.length = n at *
      go_wp2_with (first
        | (go_at_call 39; with_reducible refine (refSum_any Hbv'.out hz).mono ?_; rintro e w4 ⟨rfl, h4⟩)
        | (refine wpList_store_row rfl 31 _ _ rfl _ _ rfl rfl 31 _ ((h4.block _ (heap_lt H0.out)).trans H0.out) (info31 _ (digest_length _)) rfl (row8_one _) ?_))
      refine bodyPost_ret (results_cell_row rfl _ _ _ 31 _ _ _ rfl (setRow_heap _ _ _ _ _ _ ((h4.block _ (heap_lt H0.out)).trans H0.out)) Try.underlying31 rfl (info31 _ (digest_length _))) rfl ⟨rfl, below_row (below_seq Hbw.out h4) (Nat.le_refl _) _⟩
end Go.Proofs.Ytafakjdolnigaaa
