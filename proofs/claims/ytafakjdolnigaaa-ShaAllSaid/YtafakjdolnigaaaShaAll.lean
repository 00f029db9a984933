/- The walk of cofferlaw2.ShaAll. -/
import Derived.Test.YtafakjdolnigaaaLib2
import Derived.Test.YtafakjdolnigaaaShaCopies
namespace Go.Proofs.Ytafakjdolnigaaa
open Go.RowKit
set_option linter.unusedVariables false

theorem part_le (ps : List (List UInt8)) (i : Nat) : (ps[i]?.getD []).length ≤ ps.flatten.length := by
  by_cases h : i < ps.length
  · have h1 : ps.flatten = (ps.take (i + 1)).flatten ++ (ps.drop (i + 1)).flatten := by rw [← List.flatten_append, List.take_append_drop]
    rw [h1, flatten_take ps i h]
    simp
    omega
  · simp [List.getElem?_eq_none (Nat.le_of_not_lt h)]

set_option maxRecDepth 100000 in
set_option maxHeartbeats 4000000 in
theorem shaAll_walk {w : World} {r : Option Addr} {len cap : Nat} {ps : List (List UInt8)} (hp : PartsAt w r len cap ps) :
    Calls Try.prog 3 #[.slice r len cap] w fun e w' => e = .returned (.bool true) ∧ Below w.heap.size w w' := by
  by_cases ha : 8192 < len
  · go_enter Try.func3, Try.ntmps3
    go_wp2_with (go_at_call 25; refine (begun2 _).mono ?_; rintro e w1 ⟨rfl, h1⟩)
    go_ret
    exact ⟨rfl, h1⟩
  obtain ⟨s, hs⟩ : ∃ s, s = sumTo 8192 ps 0 := ⟨_, rfl⟩
  have hsum : ∀ w', Below w.heap.size w w' → Calls Try.prog 26 #[.slice r len cap, .int .i64 8192] w' fun e w'' => e = .returned (.int .i64 (s : Int)) ∧ w' = w'' := fun w' hb => by
    rw [hs]; exact libSum_any (hp.below hb) 8192 (by omega)
  have Hsum := Lib.hid hsum
  clear hsum
  by_cases hb : 8192 < s
  · go_enter Try.func3, Try.ntmps3
    go_wp2_with (first
      | (go_at_call 25; refine (begun2 _).mono ?_; rintro e w1 ⟨rfl, h1⟩)
      | (go_at_call 26; refine (Hsum.out _ h1).mono ?_; rintro e w2 ⟨rfl, rfl⟩))
    go_ret
    exact ⟨rfl, h1⟩
  have hflat : s = ps.flatten.length := by
    rw [hs]; rw [sumTo_flat 8192 ps 0 (by omega)]; omega
  have hlen := hp.hlen
  have hmax : cap ≤ 9223372036854775807 := hp.hmax
  have hle := hp.hle
  have hflt : ps.flatten.length ≤ 8192 := by omega
  have hpt : ∀ i, (ps[i]?.getD []).length ≤ 8192 := fun i => Nat.le_trans (part_le ps i) hflt
  subst hlen
  have Hflat := Lib.hid hflat
  have Hpt := Lib.hid hpt
  have Hflt := Lib.hid hflt
  clear hflat hpt hs hflt
  go_enter Try.func3, Try.ntmps3
  go_wp2_with (first
    | (go_at_call 25; refine (begun2 _).mono ?_; rintro e w1 ⟨rfl, h1⟩)
    | (go_at_call 26; refine (Hsum.out _ h1).mono ?_; rintro e w2 ⟨rfl, rfl⟩)
    | (go_at_call 27; refine (twins_any (hp.below h1) (fun i _ => by have := Hpt.out i; omega) (by omega)).mono ?_; rintro e wt ⟨vt, rfl, T, ht⟩; have kt := below_seq h1 ht; clear h1 ht)
    | (go_at_call 28; refine (new_any wt).mono ?_; rintro e w2 ⟨x, rfl, hx2, hxl, h2⟩))
  obtain ⟨rt, ct, rfl, Pt⟩ := T.parts
  have HT := Lib.hid T
  have HP := Lib.hid Pt
  have Kt := Lib.hid kt
  have H2 := Lib.hid h2
  have Hx2 := Lib.hid hx2
  have hcm : ct ≤ 9223372036854775807 := Pt.hmax
  have hcl := Pt.hle
  clear T Pt kt h2 hx2
  go_loopw [5] (fun v wr => ∃ i : Nat, i ≤ ps.length ∧ v = .int .i64 (i : Int) ∧ HashAt wr x (ps.take i).flatten ∧ Below wt.heap.size wt wr) (fun v _ => ps.length - (intOf v).toNat)
  case atStart => exact ⟨0, Nat.zero_le _, rfl, by simpa using Hx2.out, H2.out⟩
  case round =>
    clear H2 Hx2
    obtain ⟨i, hi, rfl, hx, hbel⟩ := hrel
    have Hx := Lib.hid hx
    have Hbel := Lib.hid hbel
    clear hx
    by_cases hlt : i < ps.length
    · obtain ⟨b, o, rfl, hc⟩ := HP.out.hcells (by omega)
      obtain ⟨ri, li, ci, hcell, hbi⟩ := hc i hlt
      have hcw : wr.cell? ⟨b, o + i, none⟩ = some (.slice ri li ci) := by rw [hbel.cell (p := ⟨b, o + i, none⟩) (block_lt_of_cell hcell)]; exact hcell
      have Hap := Lib.hid (flatten_take ps i hlt)
      have Hsz : Hid (((ps.take i).flatten).length + (ps[i]?.getD []).length ≤ 1000000000000000000) := Lib.hid (by
        rw [← List.length_append, ← Hap.out]
        have h1 : ps.flatten = (ps.take (i + 1)).flatten ++ (ps.drop (i + 1)).flatten := by rw [← List.flatten_append, List.take_append_drop]
        have := congrArg List.length h1
        rw [List.length_append] at this
        have := Hflt.out
        omega)
      have Hbi := Lib.hid hbi
      clear hbel hc hcell hbi
      go_wp2_with (go_at_call 29; with_reducible refine (write_own (b := x) Hx.out Hbi.out Hbel.out hxl Hsz.out).mono ?_; rintro e w3 ⟨rfl, hx3, g3, k3⟩)
      refine ⟨⟨i + 1, by omega, by go_num, by rw [Hap.out]; exact hx3, k3⟩, by simp [intOf]; omega⟩
    · obtain rfl : i = ps.length := by omega
      have hx := Hx.out
      rw [List.take_length] at hx
      have Hx' := Lib.hid hx
      clear hx Hx hbel
      have hwr : Below w.heap.size w wr := below_seq Kt.out Hbel.out
      go_upto_region 12 with (first
        | (go_at_call 30; with_reducible refine (refOf_any (hp.below hwr) (by have := Hflt.out; omega)).mono ?_; rintro e w4 ⟨rfl, h4⟩)
        | (refine wpList_allocRow 31 _ alloc31 rfl rfl ?_)
        | (refine wpList_store_row rfl 31 _ _ rfl _ _ rfl rfl 31 _ (heap_alloc_new _ _) (info31 _ (digest_length _)) rfl (row8_one _) ?_))
      have hx4 := setRow_heap _ _ _ (row8 (digest ps.flatten)) _ _ (heap_alloc_new w4 (.cells (row8 zero32) 31))
      have hk4 : Below wr.heap.size wr ((w4.alloc (.cells (row8 zero32) 31)).setRow w4.heap.size (row8 (digest ps.flatten))) := below_row (below_seq h4 (below_one _ _)) h4.size _
      refine abstract_world (fun W => W.heap[w4.heap.size]? = some (.cells (row8 (digest ps.flatten)) 31 (0, 0)) ∧ Below wr.heap.size wr W) ⟨hx4, hk4⟩ ?_
      clear hx4 hk4
      generalize w4.heap.size = bx at *
      clear h4
      rintro w5 ⟨hx5, hb5⟩
      obtain ⟨D, hD⟩ : ∃ D, D = digest ps.flatten := ⟨_, rfl⟩
      rw [← hD] at hx5
      have hDl : D.length = 32 := by rw [hD]; exact digest_length _
      have hwt : Below wt.heap.size wt w5 := below_seq Hbel.out hb5
      have hw : Below w.heap.size w w5 := below_seq hwr hb5
      have cx : ∀ x : Ext w5, ∀ j, j < (row8 D).size → x.w.cell? ⟨bx, 0 + j, none⟩ = (row8 D)[j]? := fun x j hj => by
        rw [row8_size] at hj
        rw [row8_at D j hj, Nat.zero_add]
        exact x.cell (cell_row hx5 (row8_at D j hj))
      have c31 : ∀ x : Ext w5, Calls Try.prog 31 #[.slice rt ps.length ct] x.w fun e w' => e = .returned (.agg (row8 D)) ∧ Below x.w.heap.size x.w w' := fun y => by
        rw [hD]; exact of_any ((HP.out.below hwt).below y.h) (by have := Hflt.out; omega)
      have c32 : ∀ y : Ext w5, Calls Try.prog 32 #[.pointer (some ⟨x, 0, none⟩)] y.w fun e w' => e = .returned (.agg (row8 D)) ∧ Below y.w.heap.size y.w w' := fun y => by
        rw [hD]; exact sum_at ((Hx'.out.below hb5).below y.h) (by have := Hflt.out; omega)
      have c33 : ∀ y : Ext w5, Calls Try.prog 33 #[.pointer (some ⟨x, 0, none⟩)] y.w fun e w' => e = .returned (.int .u64 (s : Int)) ∧ y.w = w' := fun y => by
        rw [Hflat.out]; exact len_at ((Hx'.out.below hb5).below y.h)
      have c26 : ∀ y : Ext w5, Calls Try.prog 26 #[.slice r ps.length cap, .int .i64 8192] y.w fun e w'' => e = .returned (.int .i64 (s : Int)) ∧ y.w = w'' := fun y => Hsum.out _ (below_seq hw y.h)
      have c34 : ∀ y : Ext w5, Calls Try.prog 34 #[.slice rt ps.length ct, .slice r ps.length cap] y.w fun e w' => e = .returned (.bool true) ∧ Below y.w.heap.size y.w w' := fun y =>
        allKept_any ((HT.out.below hwt).below y.h) ((hp.below hw).below y.h) (fun i _ => by have := Hpt.out i; omega)
      have C31 := Lib.hid c31
      have C32 := Lib.hid c32
      have C33 := Lib.hid c33
      have C26 := Lib.hid c26
      have C34 := Lib.hid c34
      have Cx := Lib.hid cx
      have Hw := Lib.hid hw
      clear c31 c32 c33 c26 c34 cx hw hwt hx5 hb5 hwr hD Hx' Hbel hp
      have hw64 : IntKind.u64.wrap (s : Int) = (s : Int) := by rw [wrapN64]; omega
      refine region_q (fun w' => ∃ x : Ext w5, w' = x.w) (by kernel_rfl) (by kernel_rfl) (ext_draw w5) ?_
      repeat (first
        | (refine q_run rfl (.agg (row8 D)) (by rintro _ ⟨x, rfl⟩; exact exec_load_sub bx 0 31 (row8 D) _ rfl rfl (Cx.out x) Try.underlying31 rfl (info31 D hDl)) ?_)
        | (refine wpQuiet_step (fun K hK => ?_); go_simp; first | (refine hK _ ?_; clear hK K) | (refine ⟨_, fun x => ext_calls x (C31.out x), hK _ ?_⟩; clear hK K) | (refine ⟨_, fun x => ext_calls x (C32.out x), hK _ ?_⟩; clear hK K) | (refine ⟨_, fun x => ext_same x (C33.out x), hK _ ?_⟩; clear hK K) | (refine ⟨_, fun x => ext_same x (C26.out x), hK _ ?_⟩; clear hK K) | (refine ⟨_, fun x => ext_calls x (C34.out x), hK _ ?_⟩; clear hK K)))
      refine wpQuiet_nil ?_
      rintro _ ⟨x, rfl⟩
      go_wp2
      go_ret
      exact ⟨rfl, below_seq Hw.out x.h⟩
end Go.Proofs.Ytafakjdolnigaaa
