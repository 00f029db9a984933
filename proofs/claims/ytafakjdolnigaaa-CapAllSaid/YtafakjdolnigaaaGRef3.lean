/- The walk of cofferref3.Of. The walk of cofferref3.Derive. cofferlaw3.begun answers true. The walk of cofferlaw3.MacKeys. -/
import Derived.Test.YtafakjdolnigaaaRef3
namespace Go.Proofs.Ytafakjdolnigaaa
open Go.RowKit
set_option linter.unusedVariables false

set_option maxRecDepth 100000 in
set_option maxHeartbeats 4000000 in
theorem refMacOf_any {w : World} {rk r : Option Addr} {lk ck len cap : Nat} {key : List UInt8} {ps : List (List UInt8)} (hk : BytesAt w rk lk ck key) (hp : PartsAt w r len cap ps) (hlk : lk ≤ 1048576) (hlen : len ≤ 65536) (hsz : ps.flatten.length ≤ 65536) :
    Calls Try.prog 57 #[.slice rk lk ck, .slice r len cap] w fun e w' => e = .returned (.agg (row8 (macOf key ps))) ∧ Below w.heap.size w w' := by
  have hmax : cap ≤ 9223372036854775807 := hp.hmax
  have hle := hp.hle
  have hll := Lib.hid hp.hlen
  have Hsz := Lib.hid hsz
  have Hk := Lib.hid hk
  obtain ⟨D, hD⟩ : ∃ D, D = macOf key ps := ⟨_, rfl⟩
  have hDl : D.length = 32 := by rw [hD]; exact macOf_length _ _
  rw [← hD]
  have HD := Lib.hid hD
  have HDl := Lib.hid hDl
  clear hsz hk hD hDl
  go_enter Try.func57, Try.ntmps57
  go_wp2_with (refine wpList_allocRow 31 _ alloc31 rfl rfl ?_)
  refine abstract_world (fun W => W.heap[w.heap.size]? = some (.cells (row8 zero32) 31 (0, 0)) ∧ Below w.heap.size w W ∧ W.heap.size = w.heap.size + 1) (box31 w) ?_
  rintro w1 ⟨r0, r1, r2⟩
  have R0 := Lib.hid r0
  have R1 := Lib.hid r1
  have R2 := Lib.hid r2
  clear r0 r1 r2
  go_loopw [5, 6] (fun v3 v4 wr => ∃ (i : Nat) (M : List UInt8), i ≤ len ∧ v4 = .int .i64 (i : Int) ∧ M = lenText (ps.take i) ∧ OwnB wr (w.heap.size + 1) v3 M ∧ Below (w.heap.size + 1) w1 wr ∧ w.heap.size + 1 ≤ wr.heap.size) (fun _ v _ => len - (intOf v).toNat)
  case atStart => exact ⟨0, [], by omega, rfl, rfl, ownB_none w1 _, Below.refl _ _, by rw [R2.out]; exact Nat.le_refl _⟩
  case round =>
    obtain ⟨i, M, hi, rfl, hM, ho, hbel, hsz1⟩ := hrel
    obtain ⟨rv, capv, rfl, hbv, _⟩ := ho.at
    have hbw : Below w.heap.size w wr := R1.out.trans (hbel.mono (by omega))
    have HM := Lib.hid hM
    have Hbw := Lib.hid hbw
    have Ho := Lib.hid ho
    have Hbv := Lib.hid hbv
    have Hbel := Lib.hid hbel
    clear ho hbv hbel hM
    by_cases hlt : i < len
    · obtain ⟨b, o, rfl, hc⟩ := hp.hcells (by omega)
      obtain ⟨ri, li, ci, hcell, hbi⟩ := hc i hlt
      have hcell0 := Lib.hid hcell
      have hcw : wr.cell? ⟨b, o + i, none⟩ = some (.slice ri li ci) := by rw [hbw.cell (p := ⟨b, o + i, none⟩) (block_lt_of_cell hcell)]; exact hcell
      have Hbi := Lib.hid hbi
      have hil : i < ps.length := by have := hll.out; omega
      have hap := lenText_take ps i hil
      have hpl := part_le ps i
      have hMl := lenText_le ps i
      rw [← HM.out] at hap hMl
      have Hpl : Hid ((ps[i]?.getD []).length ≤ 65536) := Lib.hid (Nat.le_trans hpl Hsz.out)
      have HMl : Hid (M.length ≤ 1099520016384) := Lib.hid (by have := Hsz.out; have := hll.out; omega)
      have Hap := Lib.hid hap
      clear hbw hc hcell hap hpl hMl
      generalize ps[i]?.getD [] = p at *
      obtain rfl := hbi.hlen
      have Hp64 : Hid (p.length < 18446744073709551616) := Lib.hid (by have := Hpl.out; omega)
      clear hbi
      have hplen : (p.length : Int) ≤ 65536 := by have := Hpl.out; omega
      have hcap' : i < cap := by omega
      go_wp2
      refine region_k (fun w' => w'.cell? ⟨b, o + i, none⟩ = some (.slice ri p.length ci)) (by kernel_rfl) hcw (fun Kr hKr => ?_)
      have hcd : wr.drew.cell? ⟨b, o + i, none⟩ = some (.slice ri p.length ci) := hcw
      have hw64 : IntKind.u64.wrap (p.length : Int) = (p.length : Int) := by rw [wrapN64]; omega
      refine k_quiet hcd 0 13 (.slice rv M.length capv) (by kernel_rfl) (by kernel_rfl) (by kernel_rfl) (by kernel_rfl) (fun _ _ => by kernel_rfl) ?_
      refine k_quiet hcd 1 14 (.slice (some ⟨b, o, none⟩) len cap) (by kernel_rfl) (by kernel_rfl) (by kernel_rfl) (by kernel_rfl) (fun _ _ => by kernel_rfl) ?_
      refine k_quiet hcd 2 15 (.int .i64 (i : Int)) (by kernel_rfl) (by kernel_rfl) (by kernel_rfl) (by kernel_rfl) (fun _ _ => by kernel_rfl) ?_
      refine k_quiet hcd 3 16 (.pointer (some ⟨b, o + i, none⟩)) (by kernel_rfl) (by kernel_rfl) (by kernel_rfl) (by kernel_rfl) (fun w' hw' => by go_simp) ?_
      refine k_quiet hcd 4 17 (.slice ri p.length ci) (by kernel_rfl) (by kernel_rfl) (by kernel_rfl) (by kernel_rfl) (fun w' hw' => by go_simp) ?_
      refine k_quiet hcd 5 18 (.int .i64 (p.length : Int)) (by kernel_rfl) (by kernel_rfl) (by kernel_rfl) (by kernel_rfl) (fun w' hw' => by go_simp) ?_
      refine k_quiet hcd 6 19 (.int .u64 (p.length : Int)) (by kernel_rfl) (by kernel_rfl) (by kernel_rfl) (by kernel_rfl) (fun w' hw' => by go_simp) ?_
      refine k_quiet hcd 9 22 (.slice (some ⟨b, o, none⟩) len cap) (by kernel_rfl) (by kernel_rfl) (by kernel_rfl) (by kernel_rfl) (fun _ _ => by kernel_rfl) ?_
      refine k_quiet hcd 10 23 (.int .i64 (i : Int)) (by kernel_rfl) (by kernel_rfl) (by kernel_rfl) (by kernel_rfl) (fun _ _ => by kernel_rfl) ?_
      refine k_quiet hcd 11 24 (.pointer (some ⟨b, o + i, none⟩)) (by kernel_rfl) (by kernel_rfl) (by kernel_rfl) (by kernel_rfl) (fun w' hw' => by go_simp) ?_
      refine k_quiet hcd 12 25 (.slice ri p.length ci) (by kernel_rfl) (by kernel_rfl) (by kernel_rfl) (by kernel_rfl) (fun w' hw' => by go_simp) ?_
      have hbd : b < wr.heap.size := block_lt_of_cell hcw
      have hb0 : b < w.heap.size := block_lt_of_cell hcell0.out
      refine m_pick 7 (by kernel_rfl) (step_call (d := 20) 59 #[.int .u64 (p.length : Int)] (by kernel_rfl) (by kernel_rfl) ?_)
      rw [lit64 p.length Hp64.out]
      refine (eight_any wr.drew (UInt64.ofNat p.length)).mono ?_
      rintro e w2 ⟨v2, rfl, ho2, hb2⟩
      obtain ⟨r2, c2, rfl, hB2, _⟩ := ho2.at_len 8 (be64_length _)
      have hb2' : Below wr.heap.size wr w2 := (Below.refl _ _).drew.trans hb2
      have hc2 : w2.cell? ⟨b, o + i, none⟩ = some (.slice ri p.length ci) := by rw [hb2'.cell (p := ⟨b, o + i, none⟩) hbd]; exact hcw
      refine ⟨_, rfl, hc2, ?_⟩
      refine m_pick 8 (by kernel_rfl) (step_app (d := 21) (.tmp 13) (.tmp 20) (by kernel_rfl) (w.heap.size + 1) (.slice rv M.length capv) M (be64 (UInt64.ofNat p.length)) r2 8 c2 (by kernel_rfl) (by kernel_rfl) (Ho.out.keep hb2') hB2 (by have := HMl.out; rw [be64_length]; omega) (Nat.le_trans hsz1 hb2'.size) ?_)
      intro v5 w5 ho5 hg5
      have hb5 : Below (w.heap.size + 1) w1 w5 := (Ho.out.keep hb2').below (Hbel.out.trans (hb2'.mono hsz1)) (Nat.le_trans hsz1 hb2'.size) hg5
      have hw5 : Below w.heap.size w w5 := R1.out.trans (hb5.mono (by omega))
      have hs5 : w.heap.size + 1 ≤ w5.heap.size := Nat.le_trans (Nat.le_trans hsz1 hb2'.size) hg5.size
      have hc5 : w5.cell? ⟨b, o + i, none⟩ = some (.slice ri p.length ci) := by rw [hw5.cell (p := ⟨b, o + i, none⟩) hb0]; exact hcell0.out
      refine ⟨hc5, ?_⟩
      refine m_pick 13 (by kernel_rfl) (step_app (d := 26) (.tmp 21) (.tmp 25) (by kernel_rfl) (w.heap.size + 1) v5 (M ++ be64 (UInt64.ofNat p.length)) p ri p.length ci (by kernel_rfl) (by kernel_rfl) ho5 (Hbi.out.below hw5) (by have := HMl.out; have := Hpl.out; rw [List.length_append, be64_length]; omega) hs5 ?_)
      intro v6 w6 ho6 hg6
      rw [List.append_assoc] at ho6
      have hb6 : Below (w.heap.size + 1) w1 w6 := ho5.below hb5 hs5 hg6
      have hw6 : Below w.heap.size w w6 := R1.out.trans (hb6.mono (by omega))
      have hc6 : w6.cell? ⟨b, o + i, none⟩ = some (.slice ri p.length ci) := by rw [hw6.cell (p := ⟨b, o + i, none⟩) hb0]; exact hcell0.out
      refine ⟨hc6, ?_⟩
      refine m_pick 14 (by kernel_rfl) (step_val (d := 5) v6 w6 (by kernel_rfl) (by kernel_rfl) ⟨hc6, ?_⟩)
      refine m_end (by kernel_rfl) ?_
      have Ho6 := Lib.hid ho6
      have Hb6 := Lib.hid hb6
      have hs6 : w.heap.size + 1 ≤ w6.heap.size := Nat.le_trans hs5 hg6.size
      clear hcw hcd hw64 hb2 hb2' hB2 hc2 ho2 hg5 hb5 hw5 hc5 ho5 ho6 hg6 hb6 hw6 hc6 hcell0 hbd hb0
      simp only [Act.put, List.setIfInBounds_toArray, List.set_cons_succ, List.set_cons_zero]
      go_wp2
      refine ⟨⟨i + 1, _, by omega, by go_num, Hap.out.symm, Ho6.out, Hb6.out, hs6⟩, by simp [intOf]; omega⟩
    · have hall : ps.take i = ps := List.take_of_length_le (by have := hll.out; omega)
      rw [hall] at HM
      have hMl := lenText_length ps
      rw [← HM.out] at hMl
      have hMl2 : M.length ≤ 1000000 := by have := Hsz.out; have := hll.out; omega
      have h0 : wr.heap[w.heap.size]? = some (.cells (row8 zero32) 31 (0, 0)) := (Hbel.out.block _ (by omega)).trans R0.out
      have H0 := Lib.hid h0
      have hdd : D = hmac key M := by rw [HD.out, HM.out]; rfl
      have Hdd := Lib.hid hdd
      clear hbw h0 hall hMl hdd
      go_wp2_with (first
        | (go_at_call 54; with_reducible refine (refRaw_any (Hk.out.below Hbw.out) Hbv.out hlk hMl2).mono ?_; rintro e w4 ⟨rfl, h4⟩; rw [← Hdd.out])
        | (refine wpList_store_row rfl 31 _ _ rfl _ _ rfl rfl 31 _ ((h4.block _ (heap_lt H0.out)).trans H0.out) (info31 _ HDl.out) (by rw [row8_size, row8_size, HDl.out]; rfl) (row8_one _) ?_))
      refine bodyPost_ret (results_cell_row rfl _ _ _ 31 _ _ _ rfl (setRow_heap _ _ _ _ _ _ ((h4.block _ (heap_lt H0.out)).trans H0.out)) Try.underlying31 rfl (info31 _ HDl.out)) rfl ⟨rfl, below_row (below_seq Hbw.out h4) (Nat.le_refl _) _⟩
end Go.Proofs.Ytafakjdolnigaaa

namespace Go.Proofs.Ytafakjdolnigaaa
open Go.RowKit
set_option linter.unusedVariables false

set_option maxRecDepth 100000 in
set_option maxHeartbeats 4000000 in
theorem refDerive_any (w : World) (key : List UInt8) (hk : key.length = 32) (label : ByteArray) (hl : label.size ≤ 4096) (n : UInt64) :
    Calls Try.prog 61 #[.agg (row8 key), .string label, W64 n] w fun e w' => e = .returned (.agg (row8 (macOf key [label.data.toList, be64 n]))) ∧ Below w.heap.size w w' := by
  obtain ⟨D, hD⟩ : ∃ D, D = macOf key [label.data.toList, be64 n] := ⟨_, rfl⟩
  have hDl : D.length = 32 := by rw [hD]; exact macOf_length _ _
  rw [← hD]
  have HD := Lib.hid hD
  have HDl := Lib.hid hDl
  have Hk := Lib.hid hk
  clear hD hDl hk
  go_enter Try.func61, Try.ntmps61
  go_upto_region 1 with (first
    | (refine wpList_box rfl 31 _ rfl _ rfl ?_)
    | (refine wpList_allocRow 31 _ alloc31 rfl rfl ?_))
  refine abstract_world (fun W => W.heap[w.heap.size]? = some (.cells (row8 key) 31 (0, 0)) ∧ W.heap[w.heap.size + 1]? = some (.cells (row8 zero32) 31 (0, 0)) ∧ Below w.heap.size w W) (box2 w key) ?_
  rintro w1 ⟨r0, r1, r2⟩
  have HK := Lib.hid (bytes_of_row r0 Hk.out (by unfold maxLen; omega))
  have R1 := Lib.hid r1
  have R2 := Lib.hid r2
  clear r0 r1 r2
  refine region_c (by kernel_rfl) (fun Kr hKr => ?_)
  refine c_quiet 0 7 (.slice (some ⟨w.heap.size, 0, none⟩) 32 32) (by kernel_rfl) (by kernel_rfl) (by kernel_rfl) (by kernel_rfl) (fun _ => by kernel_rfl) ?_
  refine c_quiet 1 8 (.string label) (by kernel_rfl) (by kernel_rfl) (by kernel_rfl) (by kernel_rfl) (fun _ => by kernel_rfl) ?_
  refine c_quiet 3 10 (W64 n) (by kernel_rfl) (by kernel_rfl) (by kernel_rfl) (by kernel_rfl) (fun _ => by kernel_rfl) ?_
  have hdr : Below w1.heap.size w1 w1.drew := (Below.refl _ _).drew
  refine m_pick2 2 4 (by kernel_rfl) (step_strBytes (d := 9) (.tmp 8) (by kernel_rfl) label (by kernel_rfl) (by unfold maxLen; omega) ?_) (step_call (d := 11) 59 #[W64 n] (by kernel_rfl) (by kernel_rfl) ((eight_any _ n).mono ?_))
  intro c3 w3 hs3 hb3
  refine ⟨trivial, m_pick 4 (by kernel_rfl) (step_call (d := 11) 59 #[W64 n] (by kernel_rfl) (by kernel_rfl) ((eight_any _ n).mono ?_))⟩
  rintro e w4 ⟨v2, rfl, ho2, hb2⟩
  obtain ⟨r2, c2, rfl, hB2, _⟩ := ho2.at_len 8 (be64_length _)
  refine ⟨_, rfl, trivial, ?_⟩
  obtain ⟨gs, hgs⟩ : ∃ gs, gs = w1.drew.heap.size := ⟨_, rfl⟩
  have HS : Hid (BytesAt w4 (some ⟨gs, 0, none⟩) label.size c3 label.data.toList) := Lib.hid (by rw [hgs]; exact hs3.below hb2)
  have HE : Hid (BytesAt w4 r2 8 c2 (be64 n)) := Lib.hid hB2
  have Hb4 : Hid (Below w1.heap.size w1 w4) := Lib.hid (below_seq (below_seq hdr hb3) hb2)
  rw [← hgs]
  clear hgs hs3 hb3 hb2 hB2 ho2 hdr
  rotate_left
  rintro e w3 ⟨v2, rfl, ho2, hb2⟩
  obtain ⟨r2, c2, rfl, hB2, _⟩ := ho2.at_len 8 (be64_length _)
  refine ⟨_, rfl, trivial, m_pick 2 (by kernel_rfl) (step_strBytes (d := 9) (.tmp 8) (by kernel_rfl) label (by kernel_rfl) (by unfold maxLen; omega) ?_)⟩
  intro c3 w4 hs3 hb3
  refine ⟨trivial, ?_⟩
  obtain ⟨gs, hgs⟩ : ∃ gs, gs = w3.heap.size := ⟨_, rfl⟩
  have HS : Hid (BytesAt w4 (some ⟨gs, 0, none⟩) label.size c3 label.data.toList) := Lib.hid (by rw [hgs]; exact hs3)
  have HE : Hid (BytesAt w4 r2 8 c2 (be64 n)) := Lib.hid (hB2.below hb3)
  have Hb4 : Hid (Below w1.heap.size w1 w4) := Lib.hid (below_seq (below_seq hdr hb2) hb3)
  rw [← hgs]
  clear hgs hs3 hb3 hb2 hB2 ho2 hdr
  all_goals
    refine m_chain [5, 6, 7] (by kernel_rfl) (by kernel_rfl) (fun Qn => ?_)
    simp only [pickOps, Option.toList_some, List.cons_append, List.nil_append, List.getElem?_toArray, List.getElem?_cons_succ, List.getElem?_cons_zero, Act.put, List.setIfInBounds_toArray, List.set_cons_succ, List.set_cons_zero]
    go_wp2_with (first
      | (go_at_call 57; with_reducible refine (refMacOf_any (ps := [label.data.toList, be64 n]) ((HK.out.below Hb4.out).below (below_one _ _)) (parts_two HS.out HE.out _ rfl) (by omega) (by omega) (by simp [be64_length]; omega)).mono ?_
         rintro e w5 ⟨rfl, hb5⟩
         rw [← HD.out]
         have Hb5 : Hid (Below w1.heap.size w1 w5) := Lib.hid (below_seq (below_seq Hb4.out (below_one _ _)) hb5)
         clear hb5)
      | (refine wpList_store_row rfl 31 _ _ rfl _ _ rfl rfl 31 _ ((Hb5.out.block _ (heap_lt R1.out)).trans R1.out) (info31 _ HDl.out) (by rw [row8_size, row8_size, HDl.out]; rfl) (row8_one _) ?_))
    refine bodyPost_ret (results_cell_row rfl _ _ _ 31 _ _ _ rfl (setRow_heap _ _ _ _ _ _ ((Hb5.out.block _ (heap_lt R1.out)).trans R1.out)) Try.underlying31 rfl (info31 _ HDl.out)) rfl ⟨rfl, below_row (below_seq R2.out Hb5.out) (by omega) _⟩
end Go.Proofs.Ytafakjdolnigaaa

namespace Go.Proofs.Ytafakjdolnigaaa
open Go.RowKit
set_option linter.unusedVariables false

theorem hi0 : (hmac (List.replicate 20 0x0b) [72, 105, 32, 84, 104, 101, 114, 101])[0]?.getD 0 = 0xb0 := by
  have h := congrArg (fun l => l[0]?) hi_there
  simp only [List.getElem?_take] at h
  simpa using congrArg (fun o => o.getD 0) h
theorem hi1 : (hmac (List.replicate 20 0x0b) [72, 105, 32, 84, 104, 101, 114, 101])[1]?.getD 0 = 0x34 := by
  have h := congrArg (fun l => l[1]?) hi_there
  simp only [List.getElem?_take] at h
  simpa using congrArg (fun o => o.getD 0) h

/-- The first k of n bytes written. -/
def fillRow (n : Nat) (x : UInt8) (k : Nat) : List UInt8 := List.replicate k x ++ List.replicate (n - k) 0
theorem fillRow_length (n : Nat) (x : UInt8) (k : Nat) (h : k ≤ n) : (fillRow n x k).length = n := by simp [fillRow]; omega
theorem fillRow_none (n : Nat) (x : UInt8) : fillRow n x 0 = List.replicate n 0 := by simp [fillRow]
theorem fillRow_all (n : Nat) (x : UInt8) : fillRow n x n = List.replicate n x := by simp [fillRow]
theorem fillRow_set (n : Nat) (x : UInt8) (k : Nat) (h : k < n) : (fillRow n x k).set k x = fillRow n x (k + 1) := by
  unfold fillRow
  rw [List.set_append_right _ _ (by simp), List.length_replicate, Nat.sub_self, show n - k = (n - (k + 1)) + 1 by omega, List.replicate_succ, List.set_cons_zero, List.replicate_succ', List.append_assoc]
  rfl

theorem hiRow (w : World) : BytesAt (w.alloc (.cells #[.int .u8 72, .int .u8 105, .int .u8 32, .int .u8 84, .int .u8 104, .int .u8 101, .int .u8 114, .int .u8 101] 5 (8, 9))) (some ⟨w.heap.size, 0, none⟩) 8 8 [72, 105, 32, 84, 104, 101, 114, 101] :=
  bytes_row w [72, 105, 32, 84, 104, 101, 114, 101] #[.int .u8 72, .int .u8 105, .int .u8 32, .int .u8 84, .int .u8 104, .int .u8 101, .int .u8 114, .int .u8 101] (8, 9) rfl 8 rfl (maxLen_small _ (by omega)) _ rfl
theorem m0 : Value.int .u8 0 = W8 0 := rfl
theorem m11 : Value.int .u8 11 = W8 11 := rfl

set_option maxRecDepth 100000 in
set_option maxHeartbeats 2000000 in
theorem begun3 (w : World) : Calls Try.prog 51 #[] w fun e w' => e = .returned (.bool true) ∧ Below w.heap.size w w' := by
  obtain ⟨H, hH⟩ : ∃ H, H = hmac (List.replicate 20 0x0b) [72, 105, 32, 84, 104, 101, 114, 101] := ⟨_, rfl⟩
  have hHl : H.length = 32 := by rw [hH]; exact hmac_length _ _
  have hH0 : H[0]?.getD 0 = 0xb0 := by rw [hH]; exact hi0
  have hH1 : H[1]?.getD 0 = 0x34 := by rw [hH]; exact hi1
  obtain ⟨Z, hZ⟩ : ∃ Z : List UInt8, Z = List.replicate 20 0 := ⟨_, rfl⟩
  have HZ := Lib.hid hZ
  have HH := Lib.hid hH
  have HHl := Lib.hid hHl
  have HH0 := Lib.hid hH0
  have HH1 := Lib.hid hH1
  clear hZ hH hHl hH0 hH1
  go_enter Try.func51, Try.ntmps51
  go_upto_region 2 with (refine wpList_make_bytes rfl _ _ rfl 20 (by go_num) (by go_num) (by omega) ?_; rw [← HZ.out])
  have r0 : (w.alloc (.cells (row8 Z) 5)).heap[w.heap.size]? = some (.cells (row8 (fillRow 20 11 0)) 5 (0, 0)) := by rw [fillRow_none, HZ.out]; exact heap_alloc_new _ _
  refine abstract_world (fun W => W.heap[w.heap.size]? = some (.cells (row8 (fillRow 20 11 0)) 5 (0, 0)) ∧ Below w.heap.size w W) ⟨r0, below_one _ _⟩ ?_
  clear r0
  rintro w1 ⟨r0, r1⟩
  have R0 := Lib.hid r0
  have R1 := Lib.hid r1
  clear r0 r1
  go_wp2
  go_loopw [2] (fun v wr => ∃ k : Nat, k ≤ 20 ∧ v = .int .i64 (k : Int) ∧ wr.heap[w.heap.size]? = some (.cells (row8 (fillRow 20 11 k)) 5 (0, 0)) ∧ Below w.heap.size w wr) (fun v _ => 20 - (intOf v).toNat)
  case atStart => exact ⟨0, by omega, rfl, R0.out, R1.out⟩
  case round =>
    clear R0 R1
    obtain ⟨k, hk, rfl, hrow, hb⟩ := hrel
    have Hb := Lib.hid hb
    have Hrow := Lib.hid hrow
    clear hb
    by_cases hlt : k < 20
    · have cx := cell_row hrow (row8_at _ k (by rw [fillRow_length _ _ _ hk]; exact hlt))
      have fx := frozen_of_row wr w.heap.size k _ _ hrow
      clear hrow
      go_wp2
      refine ⟨⟨k + 1, by omega, by go_num, ?_, Hb.out.setCell (Nat.le_refl _) _⟩, by simp [intOf]; omega⟩
      rw [← fillRow_set _ _ _ hlt, ← row8_set, ← m11]
      exact heap_setCell_same _ _ _ _ _ _ Hrow.out
    · obtain rfl : k = 20 := by omega
      rw [fillRow_all] at hrow
      have HB := Lib.hid (bytes_of_row hrow List.length_replicate (maxLen_small 20 (by omega)))
      clear hrow Hrow
      go_upto_region 7 with (first
        | (go_at_call 53; with_reducible refine (raw_any (HB.out.below (below_one _ _)) (hiRow wr) (by omega) (by omega)).mono ?_; rintro e w2 ⟨rfl, hb2⟩; rw [← HH.out]
           have Hb2 : Hid (Below wr.heap.size wr w2) := Lib.hid (below_seq (below_one _ _) hb2)
           clear hb2)
        | (refine wpList_allocRow 31 _ alloc31 rfl rfl ?_)
        | (refine wpList_store_row rfl 31 _ _ rfl _ _ rfl rfl 31 _ (heap_alloc_new _ _) (info31 _ HHl.out) (by rw [row8_size, row8_size, HHl.out]; rfl) (row8_one _) ?_))
      have r0 : ((w2.alloc (.cells (row8 zero32) 31)).setRow w2.heap.size (row8 H)).heap[w2.heap.size]? = some (.cells (row8 H) 31 (0, 0)) := setRow_heap _ _ _ _ _ _ (heap_alloc_new _ _)
      have r1 : Below wr.heap.size wr ((w2.alloc (.cells (row8 zero32) 31)).setRow w2.heap.size (row8 H)) := below_row (below_seq Hb2.out (below_one _ _)) Hb2.out.size _
      refine abstract_world (fun W => W.heap[w2.heap.size]? = some (.cells (row8 H) 31 (0, 0)) ∧ Below wr.heap.size wr W) ⟨r0, r1⟩ ?_
      clear r0 r1
      generalize w2.heap.size = g at *
      rintro w3 ⟨r0, r1⟩
      have c0 : w3.cell? ⟨g, 0, none⟩ = some (W8 0xb0) := by rw [← HH0.out]; exact cell_row r0 (row8_at H 0 (by rw [HHl.out]; omega))
      have c1 : w3.cell? ⟨g, 1, none⟩ = some (W8 0x34) := by rw [← HH1.out]; exact cell_row r0 (row8_at H 1 (by rw [HHl.out]; omega))
      have Hb3 := Lib.hid r1
      clear r0 r1
      go_wp2_with (first
        | (go_at_call 52; with_reducible refine (equal_any (emptyB w3) (emptyB w3)).mono ?_; rintro e w4 ⟨rfl, hb4⟩
           have Hb4 := Lib.hid hb4
           clear hb4)
        | (go_at_call 52; with_reducible refine (equal_any (emptyB _) (bytes_one w4 0 _ m0)).mono ?_; rintro e w5 ⟨rfl, hb5⟩
           have Hb5 : Hid (Below w4.heap.size w4 w5) := Lib.hid (below_seq (below_one _ _) hb5)
           clear hb5))
      go_ret
      exact ⟨rfl, below_seq (below_seq (below_seq Hb.out Hb3.out) Hb4.out) Hb5.out⟩
end Go.Proofs.Ytafakjdolnigaaa

namespace Go.Proofs.Ytafakjdolnigaaa
open Go.RowKit
set_option linter.unusedVariables false

attribute [go_sem] hmac_length macOf_length

/-- A number of a byte's range, as a byte. -/
theorem byte_ofInt {a : Int} (ha : (Lit.int .u8 a).wf = true) : Value.int .u8 a = W8 (UInt8.ofNat a.toNat) := by
  have h : 0 ≤ a ∧ a < 256 := by
    simp only [Lit.wf, IntKind.min, IntKind.max, IntKind.signed, IntKind.bits, Bool.and_eq_true] at ha
    simp at ha
    omega
  unfold W8
  congr 1
  rw [UInt8.toNat_ofNat']
  omega
/-- A number of 64 bits, as a word. -/
theorem word_ofInt {a : Int} (ha : (Lit.int .u64 a).wf = true) : Value.int .u64 a = W64 (UInt64.ofNat a.toNat) := by
  have h : 0 ≤ a ∧ a < 18446744073709551616 := by
    simp only [Lit.wf, IntKind.min, IntKind.max, IntKind.signed, IntKind.bits, Bool.and_eq_true] at ha
    simp at ha
    omega
  unfold W64
  congr 1
  rw [UInt64.toNat_ofNat']
  omega

set_option maxRecDepth 100000 in
set_option maxHeartbeats 2000000 in
theorem macKeys_walk8 {w : World} {n : Int} (hn : (Lit.int .i64 n).wf = true) (c : UInt8) {r : Option Addr} {len cap : Nat} {b : List UInt8} (hB : BytesAt w r len cap b) :
    Calls Try.prog 12 #[.int .i64 n, W8 c, .slice r len cap] w fun e w' => e = .returned (.bool true) ∧ Below w.heap.size w w' := by
  by_cases hbig : 1024 < len
  · go_enter Try.func12, Try.ntmps12
    go_wp2_with (go_at_call 51; refine (begun3 _).mono ?_; rintro e w1 ⟨rfl, h1⟩)
    go_ret
    exact ⟨rfl, h1⟩
  obtain ⟨hp0, hp1⟩ := placeOf_range n 201 (by omega)
  obtain ⟨m, hm⟩ : ∃ m : Nat, placeOf n 201 = (m : Int) := ⟨(placeOf n 201).toNat, by omega⟩
  have hplace : ∀ w, Calls Try.prog 38 #[.int .i64 n, .int .i64 201] w fun e w' => e = .returned (.int .i64 (m : Int)) ∧ w = w' := fun w => by rw [← hm]; exact place_any w n 201 hn (by omega) (by omega)
  have Hpl := Lib.hid hplace
  have hm4 : m ≤ 200 := by omega
  clear hplace hm hp0 hp1
  go_enter Try.func12, Try.ntmps12
  go_wp2_with (first
    | (go_at_call 51; refine (begun3 _).mono ?_; rintro e w1 ⟨rfl, h1⟩)
    | (go_at_call 38; refine (Hpl.out _).mono ?_; rintro e w2 ⟨rfl, rfl⟩)
    | (refine wpList_make_bytes rfl _ _ rfl m rfl rfl (by omega) ?_))
  have r1 : Below w.heap.size w (w1.alloc (.cells (row8 (List.replicate m 0)) 5)) := below_seq h1 (below_one _ _)
  have hwg : w.heap.size ≤ w1.heap.size := h1.size
  clear h1
  refine abstract_world (fun W => (∃ l : List UInt8, l.length = m ∧ W.heap[w1.heap.size]? = some (.cells (row8 l) 5 (0, 0))) ∧ Below w.heap.size w W) ⟨⟨_, List.length_replicate, heap_alloc_new _ _⟩, r1⟩ ?_
  clear r1
  generalize w1.heap.size = g at *
  rintro w2 ⟨h0, hb⟩
  go_loopw [8] (fun v wr => ∃ k : Nat, k ≤ m ∧ v = .int .i64 (k : Int) ∧ (∃ l : List UInt8, l.length = m ∧ wr.heap[g]? = some (.cells (row8 l) 5 (0, 0))) ∧ Below w.heap.size w wr) (fun v _ => m - (intOf v).toNat)
  case atStart => exact ⟨0, by omega, rfl, h0, hb⟩
  case round =>
    clear h0 hb
    obtain ⟨k, hk, rfl, ⟨l, hl, h0⟩, hb⟩ := hrel
    have Hb := Lib.hid hb
    have Hl := Lib.hid hl
    have H0 := Lib.hid h0
    clear hb
    by_cases hlt : k < m
    · have cx := cell_row h0 (row8_at l k (by omega))
      have fx := frozen_of_row wr g k _ _ h0
      have hv : Value.int .u8 (k : Int) = W8 (UInt8.ofNat k) := lit8 k (by omega)
      clear h0 hl
      go_wp2
      refine ⟨⟨k + 1, by omega, by go_num, ⟨l.set k (c ^^^ UInt8.ofNat k), by rw [List.length_set, Hl.out], ?_⟩, Hb.out.setCell (by omega) _⟩, by simp [intOf]; omega⟩
      rw [← row8_set]
      exact heap_setCell_same _ _ _ _ _ _ H0.out
    · obtain rfl : k = m := by omega
      have HK := Lib.hid (bytes_of_row h0 hl (by unfold maxLen; omega))
      have HB := Lib.hid (hB.below Hb.out)
      clear h0 hl hB
      obtain ⟨D, hD⟩ : ∃ D, D = hmac l b := ⟨_, rfl⟩
      have hDl : D.length = 32 := by rw [hD]; exact hmac_length _ _
      have HD := Lib.hid hD
      clear hD
      go_wp2_with (first
        | (go_at_call 53; with_reducible refine (raw_any HK.out HB.out (by omega) (by omega)).mono ?_; rintro e w3 ⟨rfl, h3⟩; rw [← HD.out])
        | (go_at_call 54; with_reducible refine (refRaw_any (HK.out.below h3) (HB.out.below h3) (by omega) (by omega)).mono ?_; rintro e w4 ⟨rfl, h4⟩; rw [← HD.out]))
      go_ret
      exact ⟨rfl, below_seq (below_seq Hb.out h3) h4⟩

theorem macKeys_walk {w : World} {n a : Int} {r : Option Addr} {len cap : Nat} {b : List UInt8} (hn : (Lit.int .i64 n).wf = true) (ha : (Lit.int .u8 a).wf = true) (hB : BytesAt w r len cap b) :
    Calls Try.prog 12 #[.int .i64 n, .int .u8 a, .slice r len cap] w fun e w' => e = .returned (.bool true) ∧ Below w.heap.size w w' := by
  rw [byte_ofInt ha]
  exact macKeys_walk8 hn _ hB
end Go.Proofs.Ytafakjdolnigaaa
