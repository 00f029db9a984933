/- The walk of cofferref3.Of. -/
import Derived.Test.YtafakjdolnigaaaRef3
namespace Go.Proofs.Ytafakjdolnigaaa
open Go.RowKit
set_option linter.unusedVariables false

set_option maxRecDepth 100000 in
set_option maxHeartbeats 4000000 in
theorem refMacOf_any {w : World} {rk r : Option Addr} {lk ck len cap : Nat} {key : List UInt8} {ps : List (List UInt8)} (hk : BytesAt w rk lk ck key) (hp : PartsAt w r len cap ps) (hlk : lk ≤ 1048576) (hlen : len ≤ 65536) (hsz : ps.flatten.length ≤ 65536) :
    Calls Try.prog 57 #[.slice rk lk ck, .slice r len cap] w fun e w' => e = .returned (.agg (row8 (macOf key ps))) ∧ Below w.heap.size w w' := by
  have hmax : cap ≤ 9223372036854775807 := hp.hmax
  have hle := hp.hle
  have hll := Lib.hid hp.hlen
  have Hsz := Lib.hid hsz
  have Hk := Lib.hid hk
  obtain ⟨D, hD⟩ : ∃ D, D = macOf key ps := ⟨_, rfl⟩
  have hDl : D.length = 32 := by rw [hD]; exact macOf_length _ _
  rw [← hD]
  have HD := Lib.hid hD
  have HDl := Lib.hid hDl
  clear hsz hk hD hDl
  go_enter Try.func57, Try.ntmps57
  go_wp2_with (refine wpList_allocRow 31 _ alloc31 rfl rfl ?_)
  refine abstract_world (fun W => W.heap[w.heap.size]? = some (.cells (row8 zero32) 31 (0, 0)) ∧ Below w.heap.size w W ∧ W.heap.size = w.heap.size + 1) (box31 w) ?_
  rintro w1 ⟨r0, r1, r2⟩
  have R0 := Lib.hid r0
  have R1 := Lib.hid r1
  have R2 := Lib.hid r2
  clear r0 r1 r2
  go_loopw [5, 6] (fun v3 v4 wr => ∃ (i : Nat) (M : List UInt8), i ≤ len ∧ v4 = .int .i64 (i : Int) ∧ M = lenText (ps.take i) ∧ OwnB wr (w.heap.size + 1) v3 M ∧ Below (w.heap.size + 1) w1 wr ∧ w.heap.size + 1 ≤ wr.heap.size) (fun _ v _ => len - (intOf v).toNat)
  case atStart => exact ⟨0, [], by omega, rfl, rfl, ownB_none w1 _, Below.refl _ _, by rw [R2.out]; exact Nat.le_refl _⟩
  case round =>
    obtain ⟨i, M, hi, rfl, hM, ho, hbel, hsz1⟩ := hrel
    obtain ⟨rv, capv, rfl, hbv, _⟩ := ho.at
    have hbw : Below w.heap.size w wr := R1.out.trans (hbel.mono (by omega))
    have HM := Lib.hid hM
    have Hbw := Lib.hid hbw
    have Ho := Lib.hid ho
    have Hbv := Lib.hid hbv
    have Hbel := Lib.hid hbel
    clear ho hbv hbel hM
    by_cases hlt : i < len
    · obtain ⟨b, o, rfl, hc⟩ := hp.hcells (by omega)
      obtain ⟨ri, li, ci, hcell, hbi⟩ := hc i hlt
      have hcell0 := Lib.hid hcell
      have hcw : wr.cell? ⟨b, o + i, none⟩ = some (.slice ri li ci) := by rw [hbw.cell (p := ⟨b, o + i, none⟩) (block_lt_of_cell hcell)]; exact hcell
      have Hbi := Lib.hid hbi
      have hil : i < ps.length := by have := hll.out; omega
      have hap := lenText_take ps i hil
      have hpl := part_le ps i
      have hMl := lenText_le ps i
      rw [← HM.out] at hap hMl
      have Hpl : Hid ((ps[i]?.getD []).length ≤ 65536) := Lib.hid (Nat.le_trans hpl Hsz.out)
      have HMl : Hid (M.length ≤ 1099520016384) := Lib.hid (by have := Hsz.out; have := hll.out; omega)
      have Hap := Lib.hid hap
      clear hbw hc hcell hap hpl hMl
      generalize ps[i]?.getD [] = p at *
      obtain rfl := hbi.hlen
      have Hp64 : Hid (p.length < 18446744073709551616) := Lib.hid (by have := Hpl.out; omega)
      clear hbi
      have hplen : (p.length : Int) ≤ 65536 := by have := Hpl.out; omega
      have hcap' : i < cap := by omega
      go_wp2
      refine region_k (fun w' => w'.cell? ⟨b, o + i, none⟩ = some (.slice ri p.length ci)) (by kernel_rfl) hcw (fun Kr hKr => ?_)
      have hcd : wr.drew.cell? ⟨b, o + i, none⟩ = some (.slice ri p.length ci) := hcw
      have hw64 : IntKind.u64.wrap (p.length : Int) = (p.length : Int) := by rw [wrapN64]; omega
      refine k_quiet hcd 0 13 (.slice rv M.length capv) (by kernel_rfl) (by kernel_rfl) (by kernel_rfl) (by kernel_rfl) (fun _ _ => by kernel_rfl) ?_
      refine k_quiet hcd 1 14 (.slice (some ⟨b, o, none⟩) len cap) (by kernel_rfl) (by kernel_rfl) (by kernel_rfl) (by kernel_rfl) (fun _ _ => by kernel_rfl) ?_
      refine k_quiet hcd 2 15 (.int .i64 (i : Int)) (by kernel_rfl) (by kernel_rfl) (by kernel_rfl) (by kernel_rfl) (fun _ _ => by kernel_rfl) ?_
      refine k_quiet hcd 3 16 (.pointer (some ⟨b, o + i, none⟩)) (by kernel_rfl) (by kernel_rfl) (by kernel_rfl) (by kernel_rfl) (fun w' hw' => by go_simp) ?_
      refine k_quiet hcd 4 17 (.slice ri p.length ci) (by kernel_rfl) (by kernel_rfl) (by kernel_rfl) (by kernel_rfl) (fun w' hw' => by go_simp) ?_
      refine k_quiet hcd 5 18 (.int .i64 (p.length : Int)) (by kernel_rfl) (by kernel_rfl) (by kernel_rfl) (by kernel_rfl) (fun w' hw' => by go_simp) ?_
      refine k_quiet hcd 6 19 (.int .u64 (p.length : Int)) (by kernel_rfl) (by kernel_rfl) (by kernel_rfl) (by kernel_rfl) (fun w' hw' => by go_simp) ?_
      refine k_quiet hcd 9 22 (.slice (some ⟨b, o, none⟩) len cap) (by kernel_rfl) (by kernel_rfl) (by kernel_rfl) (by kernel_rfl) (fun _ _ => by kernel_rfl) ?_
      refine k_quiet hcd 10 23 (.int .i64 (i : Int)) (by kernel_rfl) (by kernel_rfl) (by kernel_rfl) (by kernel_rfl) (fun _ _ => by kernel_rfl) ?_
      refine k_quiet hcd 11 24 (.pointer (some ⟨b, o + i, none⟩)) (by kernel_rfl) (by kernel_rfl) (by kernel_rfl) (by kernel_rfl) (fun w' hw' => by go_simp) ?_
      refine k_quiet hcd 12 25 (.slice ri p.length ci) (by kernel_rfl) (by kernel_rfl) (by kernel_rfl) (by kernel_rfl) (fun w' hw' => by go_simp) ?_
      have hbd : b < wr.heap.size := block_lt_of_cell hcw
      have hb0 : b < w.heap.size := block_lt_of_cell hcell0.out
      refine m_pick 7 (by kernel_rfl) (step_call (d := 20) 59 #[.int .u64 (p.length : Int)] (by kernel_rfl) (by kernel_rfl) ?_)
      rw [lit64 p.length Hp64.out]
      refine (eight_any wr.drew (UInt64.ofNat p.length)).mono ?_
      rintro e w2 ⟨v2, rfl, ho2, hb2⟩
      obtain ⟨r2, c2, rfl, hB2, _⟩ := ho2.at_len 8 (be64_length _)
      have hb2' : Below wr.heap.size wr w2 := (Below.refl _ _).drew.trans hb2
      have hc2 : w2.cell? ⟨b, o + i, none⟩ = some (.slice ri p.length ci) := by rw [hb2'.cell (p := ⟨b, o + i, none⟩) hbd]; exact hcw
      refine ⟨_, rfl, hc2, ?_⟩
      refine m_pick 8 (by kernel_rfl) (step_app (d := 21) (.tmp 13) (.tmp 20) (by kernel_rfl) (w.heap.size + 1) (.slice rv M.length capv) M (be64 (UInt64.ofNat p.length)) r2 8 c2 (by kernel_rfl) (by kernel_rfl) (Ho.out.keep hb2') hB2 (by have := HMl.out; rw [be64_length]; omega) (Nat.le_trans hsz1 hb2'.size) ?_)
      intro v5 w5 ho5 hg5
      have hb5 : Below (w.heap.size + 1) w1 w5 := (Ho.out.keep hb2').below (Hbel.out.trans (hb2'.mono hsz1)) (Nat.le_trans hsz1 hb2'.size) hg5
      have hw5 : Below w.heap.size w w5 := R1.out.trans (hb5.mono (by omega))
      have hs5 : w.heap.size + 1 ≤ w5.heap.size := Nat.le_trans (Nat.le_trans hsz1 hb2'.size) hg5.size
      have hc5 : w5.cell? ⟨b, o + i, none⟩ = some (.slice ri p.length ci) := by rw [hw5.cell (p := ⟨b, o + i, none⟩) hb0]; exact hcell0.out
      refine ⟨hc5, ?_⟩
      refine m_pick 13 (by kernel_rfl) (step_app (d := 26) (.tmp 21) (.tmp 25) (by kernel_rfl) (w.heap.size + 1) v5 (M ++ be64 (UInt64.ofNat p.length)) p ri p.length ci (by kernel_rfl) (by kernel_rfl) ho5 (Hbi.out.below hw5) (by have := HMl.out; have := Hpl.out; rw [List.length_append, be64_length]; omega) hs5 ?_)
      intro v6 w6 ho6 hg6
      rw [List.append_assoc] at ho6
      have hb6 : Below (w.heap.size + 1) w1 w6 := ho5.below hb5 hs5 hg6
      have hw6 : Below w.heap.size w w6 := R1.out.trans (hb6.mono (by omega))
      have hc6 : w6.cell? ⟨b, o + i, none⟩ = some (.slice ri p.length ci) := by rw [hw6.cell (p := ⟨b, o + i, none⟩) hb0]; exact hcell0.out
      refine ⟨hc6, ?_⟩
      refine m_pick 14 (by kernel_rfl) (step_val (d := 5) v6 w6 (by kernel_rfl) (by kernel_rfl) ⟨hc6, ?_⟩)
      refine m_end (by kernel_rfl) ?_
      have Ho6 := Lib.hid ho6
      have Hb6 := Lib.hid hb6
      have hs6 : w.heap.size + 1 ≤ w6.heap.size := Nat.le_trans hs5 hg6.size
      clear hcw hcd hw64 hb2 hb2' hB2 hc2 ho2 hg5 hb5 hw5 hc5 ho5 ho6 hg6 hb6 hw6 hc6 hcell0 hbd hb0
      simp only [Act.put, List.setIfInBounds_toArray, List.set_cons_succ, List.set_cons_zero]
      go_wp2
      refine ⟨⟨i + 1, _, by omega, by go_num, Hap.out.symm, Ho6.out, Hb6.out, hs6⟩, by simp [intOf]; omega⟩
    · have hall : ps.take i = ps := List.take_of_length_le (by have := hll.out; omega)
      rw [hall] at HM
      have hMl := lenText_length ps
      rw [← HM.out] at hMl
      have hMl2 : M.length ≤ 1000000 := by have := Hsz.out; have := hll.out; omega
      have h0 : wr.heap[w.heap.size]? = some (.cells (row8 zero32) 31 (0, 0)) := (Hbel.out.block _ (by omega)).trans R0.out
      have H0 := Lib.hid h0
      have hdd : D = hmac key M := by rw [HD.out, HM.out]; rfl
      have Hdd := Lib.hid hdd
      clear hbw h0 hall hMl hdd
      go_wp2_with (first
        | (go_at_call 54; with_reducible refine (refRaw_any (Hk.out.below Hbw.out) Hbv.out hlk hMl2).mono ?_; rintro e w4 ⟨rfl, h4⟩; rw [← Hdd.out])
        | (refine wpList_store_row rfl 31 _ _ rfl _ _ rfl rfl 31 _ ((h4.block _ (heap_lt H0.out)).trans H0.out) (info31 _ HDl.out) (by rw [row8_size, row8_size, HDl.out]; rfl) (row8_one _) ?_))
      refine bodyPost_ret (results_cell_row rfl _ _ _ 31 _ _ _ rfl (setRow_heap _ _ _ _ _ _ ((h4.block _ (heap_lt H0.out)).trans H0.out)) Try.underlying31 rfl (info31 _ HDl.out)) rfl ⟨rfl, below_row (below_seq Hbw.out h4) (Nat.le_refl _) _⟩
end Go.Proofs.Ytafakjdolnigaaa
