/- The walk of cofferref10.Take. A frame's bytes are read as the frame; in plain Lean. cofferlaw10.begun answers true. -/
import Derived.Test.YtafakjdolnigaaaGFrame
import Derived.Test.YtafakjdolnigaaaFrameB
namespace Go.Proofs.Ytafakjdolnigaaa
open Go.RowKit
set_option linter.unusedVariables false

set_option maxRecDepth 100000 in
set_option maxHeartbeats 1000000 in
theorem refTake_few {w : World} {r : Option Addr} {len cap : Nat} (hl : len < 46) :
    Calls Try.prog 68 #[.slice r len cap] w (NoFrame 3 w) := by
  go_enter Try.func68, Try.ntmps68
  go_wp2_with (first
    | (refine wpList_allocRow 31 _ alloc31 rfl rfl ?_)
    | (refine wpList_buildV (.agg (row8 zero32)) 31 _ rfl rfl (by kernel_rfl) ?_)
    | (refine wpList_store_row rfl 31 _ _ rfl _ _ rfl rfl 31 _ (heap_alloc_new _ _) (info31 _ zero32_length) rfl (row8_one _) ?_))
  exact bodyPost_ret (results_cell_4 (p := 2) (t1 := 3) (t2 := 4) (t3 := 5) rfl _ _ _ 31 _ _ _ rfl (setRow_heap _ _ _ _ _ _ (heap_alloc_new _ _)) Try.underlying31 rfl (info31 _ zero32_length)) rfl (noFrame_end (below_one _ _) 3)

set_option maxRecDepth 100000 in
set_option maxHeartbeats 2000000 in
theorem refTake_head {w : World} {r : Option Addr} {len cap : Nat} {bs : List UInt8} (h : BytesAt w r len cap bs) (hl : 46 ≤ len) (hd : bs[0]?.getD 0 ≠ 199 ∨ bs[1]?.getD 0 ≠ 70) :
    Calls Try.prog 68 #[.slice r len cap] w (NoFrame 4 w) := by
  obtain ⟨b, o, rfl, hc⟩ := h.hcells (by omega)
  have hmax : cap ≤ 9223372036854775807 := h.hmax
  have hle := h.hle
  go_enter Try.func68, Try.ntmps68
  go_upto_region 1 with (refine wpList_allocRow 31 _ alloc31 rfl rfl ?_)
  refine abstract_world (fun W => W.heap[w.heap.size]? = some (.cells (row8 zero32) 31 (0, 0)) ∧ Below w.heap.size w W ∧ W.heap.size = w.heap.size + 1) (box31 w) ?_
  rintro w1 ⟨r0, r1, r2⟩
  have h0 : w1.cell? ⟨b, o, none⟩ = some (W8 (bs[0]?.getD 0)) := by
    have := hc 0 (by omega); rw [Nat.add_zero] at this
    rw [r1.cell (p := ⟨b, o, none⟩) (block_lt_of_cell this)]; exact this
  have h1 : w1.cell? ⟨b, o + 1, none⟩ = some (W8 (bs[1]?.getD 0)) := by
    have := hc 1 (by omega)
    rw [r1.cell (p := ⟨b, o + 1, none⟩) (block_lt_of_cell this)]; exact this
  have R0 := Lib.hid r0
  have R1 := Lib.hid r1
  clear hc r0 r1 r2 h
  generalize bs[0]?.getD 0 = x0 at *
  generalize bs[1]?.getD 0 = x1 at *
  by_cases hx : x0 = 199
  · have hx0 : (x0 != 199) = false := by simp [hx]
    have hx1 : (x1 != 70) = true := by
      rcases hd with hd | hd
      · exact absurd hx hd
      · simpa using hd
    clear hd hx
    go_wp2_with (first
      | (refine wpList_buildV (.agg (row8 zero32)) 31 _ rfl rfl (by kernel_rfl) ?_)
      | (refine wpList_store_row rfl 31 _ _ rfl _ _ rfl rfl 31 _ R0.out (info31 _ zero32_length) rfl (row8_one _) ?_))
    exact bodyPost_ret (results_cell_4 (p := 2) (t1 := 3) (t2 := 4) (t3 := 5) rfl _ _ _ 31 _ _ _ rfl (setRow_heap _ _ _ _ _ _ R0.out) Try.underlying31 rfl (info31 _ zero32_length)) rfl (noFrame_end R1.out 4)
  · have hx0 : (x0 != 199) = true := by simpa using hx
    clear hd hx
    go_wp2_with (first
      | (refine wpList_buildV (.agg (row8 zero32)) 31 _ rfl rfl (by kernel_rfl) ?_)
      | (refine wpList_store_row rfl 31 _ _ rfl _ _ rfl rfl 31 _ R0.out (info31 _ zero32_length) rfl (row8_one _) ?_))
    exact bodyPost_ret (results_cell_4 (p := 2) (t1 := 3) (t2 := 4) (t3 := 5) rfl _ _ _ 31 _ _ _ rfl (setRow_heap _ _ _ _ _ _ R0.out) Try.underlying31 rfl (info31 _ zero32_length)) rfl (noFrame_end R1.out 4)

/-- The frame's bytes, piece by piece. -/
theorem take_pieces (bs : List UInt8) (n : Nat) (hl : 46 + n ≤ bs.length) (h0 : bs[0]?.getD 0 = 199) (h1 : bs[1]?.getD 0 = 70) :
    bs.take (46 + n) = [199, 70] ++ (bs.drop 2).take 4 ++ (bs.drop 6).take 8 ++ (bs.drop 14).take 32 ++ (bs.drop 46).take n := by
  have e1 : bs.take (46 + n) = bs.take 46 ++ (bs.drop 46).take n := List.take_add
  have e2 : bs.take 46 = bs.take 14 ++ (bs.drop 14).take 32 := List.take_add (i := 14) (j := 32)
  have e3 : bs.take 14 = bs.take 6 ++ (bs.drop 6).take 8 := List.take_add (i := 6) (j := 8)
  have e4 : bs.take 6 = bs.take 2 ++ (bs.drop 2).take 4 := List.take_add (i := 2) (j := 4)
  have e5 : bs.take 2 = [199, 70] := by
    rw [take_snoc8 bs 1 (by omega), take_snoc8 bs 0 (by omega), h0, h1]; rfl
  rw [e1, e2, e3, e4, e5]
theorem frame_same (bs : List UInt8) (n : Nat) (hn : n = (frameNum bs).toNat) (hn2 : n ≤ 4200) (hl : 46 + n ≤ bs.length) (h0 : bs[0]?.getD 0 = 199) (h1 : bs[1]?.getD 0 = 70) :
    frameOf ((bs.drop 14).take 32) ((bs.drop 46).take n) = bs.take (46 + n) ↔ (digest ((bs.drop 14).take (32 + n))).take 8 = (bs.drop 6).take 8 := by
  have hv : ((bs.drop 46).take n).length = n := by rw [List.length_take, List.length_drop]; omega
  have hb : beList 4 (UInt64.ofNat n) = (bs.drop 2).take 4 := by
    have e : UInt64.ofNat n = frameNum bs := by rw [hn, UInt64.ofNat_toNat]
    rw [e]
    exact beList_numOf _ 4 (by rw [List.length_take, List.length_drop]; omega) (by omega)
  rw [take_pieces bs n hl h0 h1, frameOf, hv, hb, drop_split]
  constructor
  · intro h
    have h2 := List.append_inj_left' h rfl
    have h3 := List.append_inj_left' h2 rfl
    exact List.append_inj_right' h3 (by rw [List.length_take, digest_length, List.length_take, List.length_drop]; omega)
  · intro h
    rw [h]

set_option maxRecDepth 100000 in
set_option maxHeartbeats 4000000 in
theorem refTake_rest {w : World} {r : Option Addr} {len cap : Nat} {bs : List UInt8} (h : BytesAt w r len cap bs) (hl : 46 ≤ len) (hl2 : len ≤ 1048576) (hd0 : bs[0]?.getD 0 = 199) (hd1 : bs[1]?.getD 0 = 70) :
    Calls Try.prog 68 #[.slice r len cap] w (Taken bs w) := by
  obtain ⟨b, o, rfl, hc⟩ := h.hcells (by omega)
  have hmax : cap ≤ 9223372036854775807 := h.hmax
  have hle := h.hle
  have hlen := h.hlen
  subst hlen
  obtain ⟨N, hN⟩ : ∃ N, N = frameNum bs := ⟨_, rfl⟩
  obtain ⟨n, hn⟩ : ∃ n, n = N.toNat := ⟨_, rfl⟩
  have hte : takeErr bs = if 4200 < n then 2 else if bs.length < 46 + n then 3 else if (digest ((bs.drop 14).take (32 + n))).take 8 ≠ (bs.drop 6).take 8 then 11 else 0 := by
    unfold takeErr
    rw [if_neg (by omega), if_neg (by rw [hd0, hd1]; simp), ← hN, ← hn]
  have Hte := Lib.hid hte
  have H := Lib.hid h
  have HN := Lib.hid hN
  have Hn := Lib.hid hn
  clear hte
  go_enter Try.func68, Try.ntmps68
  go_upto_region 1 with (refine wpList_allocRow 31 _ alloc31 rfl rfl ?_)
  refine abstract_world (fun W => W.heap[w.heap.size]? = some (.cells (row8 zero32) 31 (0, 0)) ∧ Below w.heap.size w W ∧ W.heap.size = w.heap.size + 1) (box31 w) ?_
  rintro w1 ⟨r0, r1, r2⟩
  have h0 : w1.cell? ⟨b, o, none⟩ = some (W8 199) := by
    have := hc 0 (by omega); rw [Nat.add_zero, hd0] at this
    rw [r1.cell (p := ⟨b, o, none⟩) (block_lt_of_cell this)]; exact this
  have h1 : w1.cell? ⟨b, o + 1, none⟩ = some (W8 70) := by
    have := hc 1 (by omega); rw [hd1] at this
    rw [r1.cell (p := ⟨b, o + 1, none⟩) (block_lt_of_cell this)]; exact this
  have R0 := Lib.hid r0
  have R1 := Lib.hid r1
  have Hd0 := Lib.hid hd0
  have Hd1 := Lib.hid hd1
  clear hc r0 r1 r2 h hd0 hd1 hN hn
  go_upto_region 6 with (go_at_call 100; refine (refAt_any (H.out.below R1.out) 2 4 (by omega) (by omega) (by omega)).mono ?_; rintro e w2 ⟨rfl, rfl⟩)
  have hfn : numOf ((bs.drop 2).take 4) = N := HN.out.symm
  rw [hfn]
  clear hfn h0 h1
  by_cases hbig : 4200 < n
  · have hg : decide ((4200 : UInt64) < N) = true := by
      rw [decide_eq_true_eq, UInt64.lt_iff_toNat_lt, ← Hn.out]; exact hbig
    have Ht : Hid (takeErr bs = 2) := Lib.hid (by rw [Hte.out, if_pos hbig])
    go_wp2_with (first
      | (refine wpList_buildV (.agg (row8 zero32)) 31 _ rfl rfl (by kernel_rfl) ?_)
      | (refine wpList_store_row rfl 31 _ _ rfl _ _ rfl rfl 31 _ R0.out (info31 _ zero32_length) rfl (row8_one _) ?_))
    exact bodyPost_ret (results_cell_4 (p := 2) (t1 := 3) (t2 := 4) (t3 := 5) rfl _ _ _ 31 _ _ _ rfl (setRow_heap _ _ _ _ _ _ R0.out) Try.underlying31 rfl (info31 _ zero32_length)) rfl (taken_no 2 Ht.out (by omega) ⟨rfl, below_row R1.out (Nat.le_refl _) _⟩)
  have hg : decide ((4200 : UInt64) < N) = false := by
    rw [decide_eq_false_iff_not, UInt64.lt_iff_toNat_lt, ← Hn.out]; exact hbig
  have hwn : IntKind.i64.wrap (N.toNat : Int) = (n : Int) := by
    rw [← Hn.out]; exact IntWalk.i64_in _ (by omega)
  by_cases hsh : bs.length < 46 + n
  · have Ht : Hid (takeErr bs = 3) := Lib.hid (by rw [Hte.out, if_neg hbig, if_pos hsh])
    go_wp2_with (first
      | (refine wpList_buildV (.agg (row8 zero32)) 31 _ rfl rfl (by kernel_rfl) ?_)
      | (refine wpList_store_row rfl 31 _ _ rfl _ _ rfl rfl 31 _ R0.out (info31 _ zero32_length) rfl (row8_one _) ?_))
    exact bodyPost_ret (results_cell_4 (p := 2) (t1 := 3) (t2 := 4) (t3 := 5) rfl _ _ _ 31 _ _ _ rfl (setRow_heap _ _ _ _ _ _ R0.out) Try.underlying31 rfl (info31 _ zero32_length)) rfl (taken_no 3 Ht.out (by omega) ⟨rfl, below_row R1.out (Nat.le_refl _) _⟩)
  have hlo : 46 + n ≤ bs.length := by omega
  have hdrop1 : (bs.take 46).drop 14 = (bs.drop 14).take 32 := by rw [List.drop_take]
  have hdrop2 : (bs.take (46 + n)).drop 46 = (bs.drop 46).take n := by rw [List.drop_take, Nat.add_sub_cancel_left]
  obtain ⟨key, hkey⟩ : ∃ key, key = (bs.drop 14).take 32 := ⟨_, rfl⟩
  obtain ⟨v, hv⟩ : ∃ v, v = (bs.drop 46).take n := ⟨_, rfl⟩
  have hkl : key.length = 32 := by rw [hkey, List.length_take, List.length_drop]; omega
  have hvl : v.length = n := by rw [hv, List.length_take, List.length_drop]; omega
  have hsame := frame_same bs n (by rw [Hn.out, HN.out]) (by omega) hlo Hd0.out Hd1.out
  rw [← hkey, ← hv] at hsame
  rw [← hkey] at hdrop1
  rw [← hv] at hdrop2
  obtain ⟨F, hF⟩ : ∃ F, F = frameOf key v := ⟨_, rfl⟩
  have hFl : F.length = 46 + n := by rw [hF, frameOf_length key v hkl, hvl]
  rw [← hF] at hsame
  have Hkey := Lib.hid hkey
  have Hv := Lib.hid hv
  have Hkl := Lib.hid hkl
  have Hvl := Lib.hid hvl
  have HF := Lib.hid hF
  have HFl := Lib.hid hFl
  have Hsame := Lib.hid hsame
  have Hdrop1 := Lib.hid hdrop1
  have Hdrop2 := Lib.hid hdrop2
  clear hkey hv hkl hvl hF hFl hsame hdrop1 hdrop2
  have hKB := H.out.sub 14 46 (by omega) (by omega) cap (by omega) (by omega)
  rw [Hdrop1.out, if_neg (by omega)] at hKB
  have KB : Hid (BytesAt w (some ⟨b, o + 14, none⟩) 32 (cap - 14) key) := Lib.hid (by simpa [Addr.add_lit] using hKB)
  clear hKB
  have hld : ∀ w' : World, Below w.heap.size w w' → ∀ j, j < 32 → w'.cell? ⟨b, o + 14 + j, none⟩ = some (W8 (key[j]?.getD 0)) := fun w' hw' j hj => by
    obtain ⟨b2, o2, he, hc⟩ := (KB.out.below hw').hcells (by omega)
    simp only [Option.some.injEq, Addr.mk.injEq, and_true] at he
    obtain ⟨rfl, rfl⟩ := he
    exact hc j hj
  have Hld := Lib.hid hld
  clear hld
  have harr : ∀ w : World, (Instr.arrayAt 31 (.slice (some ⟨b, o + 14, none⟩) 32 (cap - 14))).run Try.prog w = .ok (.pointer (some ⟨b, o + 14, none⟩)) w := fun w => by kernel_rfl
  go_upto_region 11 with (first
    | (refine wpList_load_sub rfl 31 _ rfl b (o + 14) rfl (row8 key) _ (fun j hj => by rw [row8_size, Hkl.out] at hj; rw [row8_at key j (by rw [Hkl.out]; exact hj)]; exact Hld.out _ R1.out j hj) Try.underlying31 rfl (info31 key Hkl.out) ?_)
    | (refine wpList_allocRow 31 _ alloc31 rfl rfl ?_)
    | (refine wpList_store_row rfl 31 _ _ rfl _ _ rfl rfl 31 _ (heap_alloc_new _ _) (info31 _ Hkl.out) (by rw [row8_size, row8_size, Hkl.out]; rfl) (row8_one _) ?_))
  clear harr
  have r0 : ((w1.alloc (.cells (row8 zero32) 31)).setRow w1.heap.size (row8 key)).heap[w1.heap.size]? = some (.cells (row8 key) 31 (0, 0)) := setRow_heap _ _ _ _ _ _ (heap_alloc_new _ _)
  have r1 : Below w1.heap.size w1 ((w1.alloc (.cells (row8 zero32) 31)).setRow w1.heap.size (row8 key)) := below_row (below_one _ _) (Nat.le_refl _) _
  refine abstract_world (fun W => W.heap[w1.heap.size]? = some (.cells (row8 key) 31 (0, 0)) ∧ Below w1.heap.size w1 W) ⟨r0, r1⟩ ?_
  clear r0 r1
  generalize hgk : w1.heap.size = gk at *
  rintro w2 ⟨r0, r1⟩
  rw [← hgk] at r1
  have Kk := Lib.hid r0
  have R2 : Hid (Below w.heap.size w w2) := Lib.hid (below_seq R1.out r1)
  have Z2 : Hid (w2.heap[w.heap.size]? = some (.cells (row8 zero32) 31 (0, 0))) := Lib.hid ((r1.block _ (heap_lt R0.out)).trans R0.out)
  clear r0 r1 hgk
  have HAw := Lib.hid (H.out.below R2.out)
  have hnl : n ≤ 4200 := by omega
  go_upto_region 13 with (first
    | (refine wpList_slice rfl 29 5 _ (some _) (some _) none rfl Try.underlying29 info5 (some ⟨b, o, none⟩) bs.length cap rfl 46 (46 + n) cap ⟨_, rfl⟩ ⟨_, by go_num⟩ rfl (by omega) hlo (Nat.le_trans hlo hle) (Nat.le_refl _) (by simp) H.out ?_; intro rv hrv hblk
       rw [Hdrop2.out, Nat.add_sub_cancel_left] at hrv
       rw [Nat.add_sub_cancel_left]
       have Hrv := Lib.hid hrv
       clear hrv hblk)
    | ((with_reducible refine wpList_append_bytes rfl (.tmp 46) (.tmp 51) rfl w2.heap.size (.slice (some ⟨w2.heap.size, 0, none⟩) 0 0) [] v rv n (cap - 46) rfl rfl (ownB_nil w2 w2.heap.size (Nat.le_refl _)) ((Hrv.out.below R2.out).below (below_one _ _)) (by rw [Hvl.out]; simp; omega) (below_one _ _).size ?_); intro v3 w3 ho3 hg3
       have hb3 : Below w2.heap.size w2 w3 := (ownB_nil w2 w2.heap.size (Nat.le_refl _)).below (below_one _ _) (below_one _ _).size hg3
       rw [List.nil_append] at ho3
       obtain ⟨r3, c3, rfl, hB3, _⟩ := ho3.at_len n Hvl.out
       have HB3 := Lib.hid hB3
       have Hb3 := Lib.hid hb3
       have Ho3 := Lib.hid ho3
       have Kk3 : Hid (w3.heap[gk]? = some (.cells (row8 key) 31 (0, 0))) := Lib.hid ((hb3.block _ (heap_lt Kk.out)).trans Kk.out)
       clear hB3 hb3 ho3 hg3)
    | (refine wpList_load_row rfl 31 _ rfl gk rfl 31 _ _ _ Kk3.out Try.underlying31 rfl (info31 _ Hkl.out) ?_)
    | (go_at_call 64; with_reducible refine (refFramePut_any Hkl.out HB3.out hnl).mono ?_; rintro e w4 ⟨v4, rfl, ho4, hb4⟩
       rw [← HF.out] at ho4
       obtain ⟨r4, c4, rfl, hB4, _⟩ := ho4.at_len (46 + n) HFl.out
       have HB4 := Lib.hid hB4
       have Hb4 : Hid (Below w2.heap.size w2 w4) := Lib.hid (below_seq Hb3.out hb4)
       have Ho4 : Hid (OwnB w4 w2.heap.size (.slice r3 n c3) v) := Lib.hid (Ho3.out.keep hb4)
       clear hB4 hb4 ho4))
  have Hw4 : Hid (Below w.heap.size w w4) := Lib.hid (below_seq R2.out Hb4.out)
  obtain ⟨P, hP⟩ : ∃ P, P = bs.take (46 + n) := ⟨_, rfl⟩
  have hPB := H.out.sub 0 (46 + n) (by omega) hlo cap (by omega) (by omega)
  have PB : Hid (BytesAt w (some ⟨b, o, none⟩) (46 + n) cap P) := Lib.hid (by rw [if_neg (by omega)] at hPB; rw [hP]; simpa [Addr.add_lit] using hPB)
  rw [← hP] at Hsame
  clear hPB hP
  by_cases hR : F = P
  · have hq : (F != P) = false := by rw [hR]; simp
    have Ht : Hid (takeErr bs = 0) := Lib.hid (by rw [Hte.out, if_neg hbig, if_neg hsh, if_neg (by rw [Hsame.out.1 hR]; simp)])
    clear hR
    refine region_k (fun w' => Below w4.heap.size w4 w') (by kernel_rfl) ((Below.refl _ _).drew) (fun Kr hKr => ?_)
    have hcd : Below w4.heap.size w4 w4.drew := (Below.refl _ _).drew
    refine k_quiet hcd 0 59 (.slice r4 (46 + n) c4) (by kernel_rfl) (by kernel_rfl) (by kernel_rfl) (by kernel_rfl) (fun _ _ => by kernel_rfl) ?_
    refine k_quiet hcd 1 60 (.string ⟨F.toArray⟩) (by kernel_rfl) (by kernel_rfl) (by kernel_rfl) (by kernel_rfl) (fun w' hw' => by have s1 := conv_str (HB4.out.below hw'); go_simp) ?_
    refine k_quiet hcd 2 61 (.slice (some ⟨b, o, none⟩) bs.length cap) (by kernel_rfl) (by kernel_rfl) (by kernel_rfl) (by kernel_rfl) (fun _ _ => by kernel_rfl) ?_
    refine k_quiet hcd 3 62 (.slice r4 (46 + n) c4) (by kernel_rfl) (by kernel_rfl) (by kernel_rfl) (by kernel_rfl) (fun _ _ => by kernel_rfl) ?_
    refine k_quiet hcd 4 63 (.int .i64 ((46 + n : Nat) : Int)) (by kernel_rfl) (by kernel_rfl) (by kernel_rfl) (by kernel_rfl) (fun _ _ => by kernel_rfl) ?_
    refine k_quiet hcd 5 64 (.slice (some ⟨b, o, none⟩) (46 + n) cap) (by kernel_rfl) (by kernel_rfl) (by kernel_rfl) (by kernel_rfl) (fun w' _ => slice_hy (x := .tmp 61) (lo := none) (hi := some (.tmp 63)) (mx := none) (by kernel_rfl) Try.underlying29 (some ⟨b, o, none⟩) bs.length cap (by kernel_rfl) 0 (46 + n) cap bnd_none (bnd_some .i64 (by kernel_rfl)) bnd_none (by omega) (by omega) (by omega) (by simp) _ (by rw [if_neg (by omega)]; simp [Addr.add_lit]) w') ?_
    refine k_quiet hcd 6 65 (.string ⟨P.toArray⟩) (by kernel_rfl) (by kernel_rfl) (by kernel_rfl) (by kernel_rfl) (fun w' hw' => by have s1 := conv_str (PB.out.below (below_seq Hw4.out hw')); go_simp) ?_
    refine k_quiet hcd 7 66 (.bool false) (by kernel_rfl) (by kernel_rfl) (by kernel_rfl) (by kernel_rfl) (fun w' hw' => by go_simp; simpa using hq) ?_
    refine m_end (by kernel_rfl) ?_
    simp only [Act.put, List.setIfInBounds_toArray, List.set_cons_succ, List.set_cons_zero]
    clear hcd hq
    obtain ⟨w5, hw5⟩ : ∃ w5, w5 = w4.drew := ⟨_, rfl⟩
    have Hw5 : Hid (Below w.heap.size w w5) := Lib.hid (by rw [hw5]; exact Hw4.out.drew)
    have Z5 : Hid (w5.heap[w.heap.size]? = some (.cells (row8 zero32) 31 (0, 0))) := Lib.hid (by rw [hw5]; exact (Hb4.out.block _ (heap_lt Z2.out)).trans Z2.out)
    have K5 : Hid (w5.heap[gk]? = some (.cells (row8 key) 31 (0, 0))) := Lib.hid (by rw [hw5]; exact (Hb4.out.block _ (heap_lt Kk.out)).trans Kk.out)
    have O5 : Hid (OwnB w5 w2.heap.size (.slice r3 n c3) v) := Lib.hid (by rw [hw5]; exact Ho4.out.keep ((Below.refl _ _).drew))
    rw [← hw5]
    clear hw5
    go_wp2_with (first
      | (refine wpList_load_row rfl 31 _ rfl gk rfl 31 _ _ _ K5.out Try.underlying31 rfl (info31 _ Hkl.out) ?_)
      | (refine wpList_store_row rfl 31 _ _ rfl _ _ rfl rfl 31 _ Z5.out (info31 _ Hkl.out) (by rw [row8_size, row8_size, Hkl.out]; rfl) (row8_one _) ?_))
    have ho6 : OwnB (w5.setRow w.heap.size (row8 key)) w.heap.size (.slice r3 n c3) v := by
      have hlt : w.heap.size < w2.heap.size := heap_lt Z2.out
      obtain ⟨hl, hv | ⟨g, cap', cur, hv, hgb, hgr, hr⟩⟩ := O5.out
      · exact ⟨hl, .inl hv⟩
      · exact ⟨hl, .inr ⟨g, cap', cur, hv, by omega, (setRow_other _ _ _ _ (by omega)).trans hgr, hr⟩⟩
    refine bodyPost_ret (results_cell_4 (p := 2) (t1 := 3) (t2 := 4) (t3 := 5) rfl _ _ _ 31 _ _ _ rfl (setRow_heap _ _ _ _ _ _ Z5.out) Try.underlying31 rfl (info31 _ Hkl.out)) rfl (taken_yes Ht.out ⟨.slice r3 n c3, ?_, ?_, below_row Hw5.out (Nat.le_refl _) _⟩)
    · rw [← Hkey.out, ← HN.out, ← Hn.out]; rfl
    · rw [← HN.out, ← Hn.out, ← Hv.out]; exact ho6
  · have hq : (F != P) = true := by simpa using hR
    have Ht : Hid (takeErr bs = 11) := Lib.hid (by rw [Hte.out, if_neg hbig, if_neg hsh, if_pos (fun h => hR (Hsame.out.2 h))])
    clear hR
    refine region_k (fun w' => Below w4.heap.size w4 w') (by kernel_rfl) ((Below.refl _ _).drew) (fun Kr hKr => ?_)
    have hcd : Below w4.heap.size w4 w4.drew := (Below.refl _ _).drew
    refine k_quiet hcd 0 59 (.slice r4 (46 + n) c4) (by kernel_rfl) (by kernel_rfl) (by kernel_rfl) (by kernel_rfl) (fun _ _ => by kernel_rfl) ?_
    refine k_quiet hcd 1 60 (.string ⟨F.toArray⟩) (by kernel_rfl) (by kernel_rfl) (by kernel_rfl) (by kernel_rfl) (fun w' hw' => by have s1 := conv_str (HB4.out.below hw'); go_simp) ?_
    refine k_quiet hcd 2 61 (.slice (some ⟨b, o, none⟩) bs.length cap) (by kernel_rfl) (by kernel_rfl) (by kernel_rfl) (by kernel_rfl) (fun _ _ => by kernel_rfl) ?_
    refine k_quiet hcd 3 62 (.slice r4 (46 + n) c4) (by kernel_rfl) (by kernel_rfl) (by kernel_rfl) (by kernel_rfl) (fun _ _ => by kernel_rfl) ?_
    refine k_quiet hcd 4 63 (.int .i64 ((46 + n : Nat) : Int)) (by kernel_rfl) (by kernel_rfl) (by kernel_rfl) (by kernel_rfl) (fun _ _ => by kernel_rfl) ?_
    refine k_quiet hcd 5 64 (.slice (some ⟨b, o, none⟩) (46 + n) cap) (by kernel_rfl) (by kernel_rfl) (by kernel_rfl) (by kernel_rfl) (fun w' _ => slice_hy (x := .tmp 61) (lo := none) (hi := some (.tmp 63)) (mx := none) (by kernel_rfl) Try.underlying29 (some ⟨b, o, none⟩) bs.length cap (by kernel_rfl) 0 (46 + n) cap bnd_none (bnd_some .i64 (by kernel_rfl)) bnd_none (by omega) (by omega) (by omega) (by simp) _ (by rw [if_neg (by omega)]; simp [Addr.add_lit]) w') ?_
    refine k_quiet hcd 6 65 (.string ⟨P.toArray⟩) (by kernel_rfl) (by kernel_rfl) (by kernel_rfl) (by kernel_rfl) (fun w' hw' => by have s1 := conv_str (PB.out.below (below_seq Hw4.out hw')); go_simp) ?_
    refine k_quiet hcd 7 66 (.bool true) (by kernel_rfl) (by kernel_rfl) (by kernel_rfl) (by kernel_rfl) (fun w' hw' => by go_simp; simpa using hq) ?_
    refine m_end (by kernel_rfl) ?_
    simp only [Act.put, List.setIfInBounds_toArray, List.set_cons_succ, List.set_cons_zero]
    clear hcd hq
    obtain ⟨w5, hw5⟩ : ∃ w5, w5 = w4.drew := ⟨_, rfl⟩
    have Hw5 : Hid (Below w.heap.size w w5) := Lib.hid (by rw [hw5]; exact Hw4.out.drew)
    have Z5 : Hid (w5.heap[w.heap.size]? = some (.cells (row8 zero32) 31 (0, 0))) := Lib.hid (by rw [hw5]; exact (Hb4.out.block _ (heap_lt Z2.out)).trans Z2.out)
    have K5 : Hid (w5.heap[gk]? = some (.cells (row8 key) 31 (0, 0))) := Lib.hid (by rw [hw5]; exact (Hb4.out.block _ (heap_lt Kk.out)).trans Kk.out)
    have O5 : Hid (OwnB w5 w2.heap.size (.slice r3 n c3) v) := Lib.hid (by rw [hw5]; exact Ho4.out.keep ((Below.refl _ _).drew))
    rw [← hw5]
    clear hw5
    go_wp2_with (first
      | (refine wpList_buildV (.agg (row8 zero32)) 31 _ rfl rfl (by kernel_rfl) ?_)
      | (refine wpList_store_row rfl 31 _ _ rfl _ _ rfl rfl 31 _ Z5.out (info31 _ zero32_length) rfl (row8_one _) ?_))
    exact bodyPost_ret (results_cell_4 (p := 2) (t1 := 3) (t2 := 4) (t3 := 5) rfl _ _ _ 31 _ _ _ rfl (setRow_heap _ _ _ _ _ _ Z5.out) Try.underlying31 rfl (info31 _ zero32_length)) rfl (taken_no 11 Ht.out (by omega) ⟨rfl, below_row Hw5.out (Nat.le_refl _) _⟩)

theorem take_any {w : World} {r : Option Addr} {len cap : Nat} {bs : List UInt8} (h : BytesAt w r len cap bs) (hl2 : len ≤ 1048576) : Calls Try.prog 67 #[.slice r len cap] w (Taken bs w) := by
  have hlen := h.hlen
  by_cases hl : len < 46
  · exact (take_few hl).mono fun e w' he => taken_no 3 (by unfold takeErr; rw [if_pos (by omega)]) (by omega) he
  · by_cases hd : bs[0]?.getD 0 ≠ 199 ∨ bs[1]?.getD 0 ≠ 70
    · exact (take_head h (by omega) hd).mono fun e w' he => taken_no 4 (by unfold takeErr; rw [if_neg (by omega), if_pos hd]) (by omega) he
    · rw [not_or, Decidable.not_not, Decidable.not_not] at hd
      exact take_rest h (by omega) hl2 hd.1 hd.2
theorem refTake_any {w : World} {r : Option Addr} {len cap : Nat} {bs : List UInt8} (h : BytesAt w r len cap bs) (hl2 : len ≤ 1048576) : Calls Try.prog 68 #[.slice r len cap] w (Taken bs w) := by
  have hlen := h.hlen
  by_cases hl : len < 46
  · exact (refTake_few hl).mono fun e w' he => taken_no 3 (by unfold takeErr; rw [if_pos (by omega)]) (by omega) he
  · by_cases hd : bs[0]?.getD 0 ≠ 199 ∨ bs[1]?.getD 0 ≠ 70
    · exact (refTake_head h (by omega) hd).mono fun e w' he => taken_no 4 (by unfold takeErr; rw [if_neg (by omega), if_pos hd]) (by omega) he
    · rw [not_or, Decidable.not_not, Decidable.not_not] at hd
      exact refTake_rest h (by omega) hl2 hd.1 hd.2
end Go.Proofs.Ytafakjdolnigaaa

namespace Go.Proofs.Ytafakjdolnigaaa
open Go.RowKit
set_option linter.unusedVariables false

theorem sub_same {bs L : List UInt8} {m : Nat} (h : bs.take m = L.take m) (i j : Nat) (hij : i + j ≤ m) : (bs.drop i).take j = (L.drop i).take j := by
  have e : ∀ X : List UInt8, (X.drop i).take j = ((X.take m).drop i).take j := fun X => by
    rw [List.drop_take, List.take_take]
    congr 1
    omega
  rw [e bs, e L, h]
theorem at_same {bs L : List UInt8} {m : Nat} (h : bs.take m = L.take m) (i : Nat) (hi : i < m) : bs[i]?.getD 0 = L[i]?.getD 0 := by
  have h1 := congrArg (fun l => l[i]?) h
  simp only [List.getElem?_take, hi, if_true] at h1
  rw [h1]

theorem frameOf_assoc (key b : List UInt8) : frameOf key b = 199 :: 70 :: (beList 4 (UInt64.ofNat b.length) ++ ((digest (key ++ b)).take 8 ++ (key ++ b))) := by
  simp [frameOf, List.append_assoc]
theorem frameOf_num (key b : List UInt8) : ((frameOf key b).drop 2).take 4 = beList 4 (UInt64.ofNat b.length) := by
  rw [frameOf_assoc]
  exact List.take_left' (beList_length _ _)
theorem d8 (key b : List UInt8) : ((digest (key ++ b)).take 8).length = 8 := by rw [List.length_take, digest_length]; rfl
theorem frameOf_d6 (key b : List UInt8) : (frameOf key b).drop 6 = (digest (key ++ b)).take 8 ++ (key ++ b) := by
  rw [frameOf_assoc]
  show (beList 4 (UInt64.ofNat b.length) ++ ((digest (key ++ b)).take 8 ++ (key ++ b))).drop 4 = _
  exact List.drop_left' (beList_length _ _)
theorem frameOf_sum (key b : List UInt8) : ((frameOf key b).drop 6).take 8 = (digest (key ++ b)).take 8 := by
  rw [frameOf_d6]
  exact List.take_left' (d8 key b)
theorem frameOf_d14 (key b : List UInt8) : (frameOf key b).drop 14 = key ++ b := by
  rw [show 14 = 6 + 8 from rfl, ← List.drop_drop, frameOf_d6]
  exact List.drop_left' (d8 key b)
theorem frameOf_key (key b : List UInt8) (hk : key.length = 32) : ((frameOf key b).drop 14).take 32 = key := by
  rw [frameOf_d14]
  exact List.take_left' hk
theorem frameOf_data (key b : List UInt8) (hk : key.length = 32) : ((frameOf key b).drop 46).take b.length = b := by
  rw [show 46 = 14 + 32 from rfl, ← List.drop_drop, frameOf_d14, List.drop_left' hk, List.take_length]

theorem ofNat_small (n : Nat) (h : n ≤ 4200) : (UInt64.ofNat n).toNat = n := by
  rw [UInt64.toNat_ofNat', Nat.mod_eq_of_lt (by omega)]

/-- The head of a frame, or of what begins as one. -/
theorem head_of {bs key b : List UInt8} {m : Nat} (hb : b.length ≤ 4200) (hm : 46 ≤ m) (h : bs.take m = (frameOf key b).take m) : bs[0]?.getD 0 = 199 ∧ bs[1]?.getD 0 = 70 ∧ frameNum bs = UInt64.ofNat b.length := by
  refine ⟨?_, ?_, ?_⟩
  · rw [at_same h 0 (by omega), frameOf_assoc]; rfl
  · rw [at_same h 1 (by omega), frameOf_assoc]; rfl
  · unfold frameNum
    rw [sub_same h 2 4 (by omega), frameOf_num]
    exact numOf_beList 4 _ (by omega) (by rw [ofNat_small _ hb]; omega)

/-- A frame, whatever stands behind it. -/
theorem take_frame {bs key b : List UInt8} (hk : key.length = 32) (hb : b.length ≤ 4200) (h : bs.take (46 + b.length) = frameOf key b) :
    takeErr bs = 0 ∧ (frameNum bs).toNat = b.length ∧ (bs.drop 14).take 32 = key ∧ (bs.drop 46).take b.length = b := by
  have hL := frameOf_length key b hk
  have h' : bs.take (46 + b.length) = (frameOf key b).take (46 + b.length) := by rw [h, List.take_of_length_le (by omega)]
  obtain ⟨h0, h1, hn⟩ := head_of hb (by omega) h'
  have hlen : 46 + b.length ≤ bs.length := by
    have := congrArg List.length h
    rw [hL, List.length_take] at this
    omega
  have hnn : (frameNum bs).toNat = b.length := by rw [hn, ofNat_small _ hb]
  have hkey : (bs.drop 14).take 32 = key := by rw [sub_same h' 14 32 (by omega), frameOf_key key b hk]
  have hdata : (bs.drop 46).take b.length = b := by rw [sub_same h' 46 b.length (by omega), frameOf_data key b hk]
  refine ⟨?_, hnn, hkey, hdata⟩
  unfold takeErr
  rw [if_neg (by omega), if_neg (by rw [h0, h1]; simp), hnn, if_neg (by omega), if_neg (by omega), if_neg]
  rw [← drop_split, hkey, hdata, sub_same h' 6 8 (by omega), frameOf_sum]
  simp

/-- A frame cut off. -/
theorem take_cut {key b : List UInt8} (c : Nat) (hk : key.length = 32) (hb : b.length ≤ 4200) (hc : c < 46 + b.length) : takeErr ((frameOf key b).take c) = 3 := by
  have hL := frameOf_length key b hk
  have hl : ((frameOf key b).take c).length = c := by rw [List.length_take]; omega
  unfold takeErr
  by_cases h46 : c < 46
  · rw [if_pos (by omega)]
  · obtain ⟨h0, h1, hn⟩ := head_of (bs := (frameOf key b).take c) (m := c) hb (by omega) (by rw [List.take_take, Nat.min_self])
    have hnn : (frameNum ((frameOf key b).take c)).toNat = b.length := by rw [hn, ofNat_small _ hb]
    rw [if_neg (by omega), if_neg (by rw [h0, h1]; simp), hnn, if_neg (by omega), if_pos (by omega)]
/-- What is read as a frame is one. -/
theorem frame_is {bs : List UInt8} (h : takeErr bs = 0) : (frameNum bs).toNat ≤ 4200 ∧ 46 + (frameNum bs).toNat ≤ bs.length ∧ ((bs.drop 14).take 32).length = 32 ∧ ((bs.drop 46).take (frameNum bs).toNat).length = (frameNum bs).toNat ∧
    frameOf ((bs.drop 14).take 32) ((bs.drop 46).take (frameNum bs).toNat) = bs.take (46 + (frameNum bs).toNat) := by
  unfold takeErr at h
  by_cases h1 : bs.length < 46
  · rw [if_pos h1] at h; omega
  rw [if_neg h1] at h
  by_cases h2 : bs[0]?.getD 0 ≠ 199 ∨ bs[1]?.getD 0 ≠ 70
  · rw [if_pos h2] at h; omega
  rw [if_neg h2] at h
  by_cases h3 : 4200 < (frameNum bs).toNat
  · rw [if_pos h3] at h; omega
  rw [if_neg h3] at h
  by_cases h4 : bs.length < 46 + (frameNum bs).toNat
  · rw [if_pos h4] at h; omega
  rw [if_neg h4] at h
  by_cases h5 : (digest ((bs.drop 14).take (32 + (frameNum bs).toNat))).take 8 ≠ (bs.drop 6).take 8
  · rw [if_pos h5] at h; omega
  rw [not_or, Decidable.not_not, Decidable.not_not] at h2
  refine ⟨by omega, by omega, ?_, ?_, (frame_same bs _ rfl (by omega) (by omega) h2.1 h2.2).2 (Decidable.not_not.1 h5)⟩
  · rw [List.length_take, List.length_drop]; omega
  · rw [List.length_take, List.length_drop]; omega
end Go.Proofs.Ytafakjdolnigaaa

namespace Go.Proofs.Ytafakjdolnigaaa
open Go.RowKit
set_option linter.unusedVariables false

/-- frame.Take of a frame. -/
theorem take_good {w : World} {r : Option Addr} {len cap n : Nat} {bs key b : List UInt8} (h : BytesAt w r len cap bs) (hl2 : len ≤ 1048576) (ht : takeErr bs = 0) (hn : (frameNum bs).toNat = n) (hk : (bs.drop 14).take 32 = key) (hb : (bs.drop 46).take n = b) :
    Calls Try.prog 67 #[.slice r len cap] w fun e w' => ∃ v, e = .returned (.tuple #[.agg (row8 key), v, .int .i64 ((46 + n : Nat) : Int), .int .i64 0]) ∧ OwnB w' w.heap.size v b ∧ Below w.heap.size w w' :=
  (take_any h hl2).mono fun e w' hT => by
    have := hT.2 ht
    unfold AFrame at this
    rw [hn, hk, hb] at this
    exact this
/-- frame.Take of none. -/
theorem take_bad {w : World} {r : Option Addr} {len cap c : Nat} {bs : List UInt8} (h : BytesAt w r len cap bs) (hl2 : len ≤ 1048576) (ht : takeErr bs = c) (h0 : c ≠ 0) :
    Calls Try.prog 67 #[.slice r len cap] w fun e w' => e = .returned (.tuple #[.agg (row8 zero32), .slice none 0 0, .int .i64 0, .int .i64 (c : Int)]) ∧ Below w.heap.size w w' :=
  (take_any h hl2).mono fun e w' hT => by subst ht; exact hT.1 h0
theorem refTake_good {w : World} {r : Option Addr} {len cap n : Nat} {bs key b : List UInt8} (h : BytesAt w r len cap bs) (hl2 : len ≤ 1048576) (ht : takeErr bs = 0) (hn : (frameNum bs).toNat = n) (hk : (bs.drop 14).take 32 = key) (hb : (bs.drop 46).take n = b) :
    Calls Try.prog 68 #[.slice r len cap] w fun e w' => ∃ v, e = .returned (.tuple #[.agg (row8 key), v, .int .i64 ((46 + n : Nat) : Int), .int .i64 0]) ∧ OwnB w' w.heap.size v b ∧ Below w.heap.size w w' :=
  (refTake_any h hl2).mono fun e w' hT => by
    have := hT.2 ht
    unfold AFrame at this
    rw [hn, hk, hb] at this
    exact this
theorem refTake_bad {w : World} {r : Option Addr} {len cap c : Nat} {bs : List UInt8} (h : BytesAt w r len cap bs) (hl2 : len ≤ 1048576) (ht : takeErr bs = c) (h0 : c ≠ 0) :
    Calls Try.prog 68 #[.slice r len cap] w fun e w' => e = .returned (.tuple #[.agg (row8 zero32), .slice none 0 0, .int .i64 0, .int .i64 (c : Int)]) ∧ Below w.heap.size w w' :=
  (refTake_any h hl2).mono fun e w' hT => by subst ht; exact hT.1 h0

theorem m1 : Value.int .u8 1 = W8 1 := rfl
theorem size1 (w : World) : Calls Try.prog 65 #[.int .i64 1] w fun e w' => e = .returned (.int .i64 47) ∧ w = w' := size_any w 1

set_option maxRecDepth 100000 in
set_option maxHeartbeats 2000000 in
theorem begun10 (w : World) : Calls Try.prog 62 #[] w fun e w' => e = .returned (.bool true) ∧ Below w.heap.size w w' := by
  obtain ⟨L, hL⟩ : ∃ L, L = frameOf zero32 [1] := ⟨_, rfl⟩
  have hl : L.length = 47 := by rw [hL, frameOf_length _ _ zero32_length]; rfl
  obtain ⟨ht, hnum, hkey, hdata⟩ := take_frame (bs := L) (key := zero32) (b := [1]) zero32_length (by simp) (by rw [List.take_of_length_le (by rw [hl]; simp), hL])
  have hnum1 : (frameNum L).toNat = 1 := hnum
  have hdata1 : (L.drop 46).take 1 = [1] := hdata
  have HL := Lib.hid hL
  have Hl := Lib.hid hl
  have Ht := Lib.hid ht
  have Hnum := Lib.hid hnum1
  have Hkey := Lib.hid hkey
  have Hdata := Lib.hid hdata1
  clear hL hl ht hnum hkey hdata hnum1 hdata1
  go_enter Try.func62, Try.ntmps62
  go_upto_region 3 with (first
    | (refine wpList_buildV (.agg (row8 zero32)) 31 _ rfl rfl (by kernel_rfl) ?_)
    | (go_at_call 63; with_reducible refine (framePut_any zero32_length (bytes_one _ 1 _ m1) (by omega)).mono ?_; rintro e w1 ⟨v, rfl, ho, hb⟩
       rw [← HL.out] at ho
       obtain ⟨r, c, rfl, hB, _⟩ := ho.at_len 47 Hl.out
       have HB := Lib.hid hB
       have Hb1 : Hid (Below w.heap.size w w1) := Lib.hid (below_seq (below_one _ _) hb)
       clear hB hb ho)
    | (go_at_call 67; refine (take_good HB.out (by omega) Ht.out Hnum.out Hkey.out Hdata.out).mono ?_; rintro e w2 ⟨v, rfl, ho, hb⟩
       obtain ⟨r2, c2, rfl, hB2, _⟩ := ho.at_len 1 rfl
       have HB2 := Lib.hid hB2
       have Hb2 : Hid (Below w1.heap.size w1 w2) := Lib.hid hb
       clear hB2 hb ho)
    | (refine wpList_allocRow 31 _ alloc31 rfl rfl ?_)
    | (refine wpList_store_row rfl 31 _ _ rfl _ _ rfl rfl 31 _ (heap_alloc_new _ _) (info31 _ zero32_length) rfl (row8_one _) ?_))
  have r1 : Below w2.heap.size w2 ((w2.alloc (.cells (row8 zero32) 31)).setRow w2.heap.size (row8 zero32)) := below_row (below_one _ _) (Nat.le_refl _) _
  refine abstract_world (fun W => Below w2.heap.size w2 W) r1 ?_
  clear r1
  intro w3 hb3
  have s1 := conv_str (HB2.out.below hb3)
  have Hb3 := Lib.hid hb3
  clear hb3
  go_wp2_with (go_at_call 65; with_reducible refine (size1 _).mono ?_; rintro e w4 ⟨rfl, rfl⟩)
  go_ret
  exact ⟨rfl, below_seq (below_seq Hb1.out Hb2.out) Hb3.out⟩
end Go.Proofs.Ytafakjdolnigaaa
