/- The walk of cofferlaw14.CapLess. -/
import Derived.Test.YtafakjdolnigaaaGCheck
namespace Go.Proofs.Ytafakjdolnigaaa
open Go.RowKit
set_option linter.unusedVariables false

/-- A token's box is no row of caveats. -/
theorem OwnC.put51 {w : World} {base g : Nat} {v : Value} {cs : List (UInt8 × Int)} {old : Array Value} {fr : Nat × Nat} (h : OwnC w base v cs) (hg : w.heap[g]? = some (.cells old 51 fr)) (new : Array Value) : OwnC (w.setRow g new) base v cs := by
  obtain ⟨⟨hl, h0 | ⟨g', cap, cur, hv, hb', hg', hr⟩⟩, hwf⟩ := h
  · exact ⟨⟨hl, .inl h0⟩, hwf⟩
  · refine ⟨⟨hl, .inr ⟨g', cap, cur, hv, hb', (setRow_other _ _ _ _ (fun e => ?_)).trans hg', hr⟩⟩, hwf⟩
    subst e
    rw [hg] at hg'
    simp at hg'

/-- A token with the first of more caveats. -/
def tokK (key : List UInt8) (t : Tok) (cs : List (UInt8 × Int)) : Tok := { t with tag := onOf (macOf key [headOf t]) cs }
theorem tokK_none (key : List UInt8) (t : Tok) : tokK key t [] = issued key t := rfl
theorem tokK_ok {key : List UInt8} {t : Tok} (h : t.Ok) (cs : List (UInt8 × Int)) : (tokK key t cs).Ok := h.tagged (onOf_length _ _ (macOf_length _ _))
theorem tokK_snoc (key : List UInt8) (t : Tok) (cs : List (UInt8 × Int)) (k : Nat) (hk : k < cs.length) : lessTok (tokK key t (cs.take k)) (cs[k]?.getD (0, 0)) = tokK key t (cs.take (k + 1)) := by
  unfold tokK lessTok
  rw [onOf_take _ _ _ hk]
theorem tokK_may {key : List UInt8} {t : Tok} {cs : List (UInt8 × Int)} (h : mayOk t [] = true) (hl : cs.length ≤ 8) (hc : ∀ c ∈ cs, c.1 < 16) : mayOk (tokK key t cs) cs = true := by
  show mayOk t cs = true
  obtain ⟨h1, h2, _, _⟩ := mayOk_iff h
  unfold mayOk
  rw [decide_eq_true h2, decide_eq_true hl, List.all_eq_true.2 (fun c h => decide_eq_true (hc c h))]
  rcases h1 with h1 | h1 <;> simp [h1]
theorem tokK_check {key : List UInt8} {t : Tok} {cs : List (UInt8 × Int)} (hm : mayOk (tokK key t cs) cs = true) (now : Int) : checkOf key (tokK key t cs) cs now = if now < t.f ∨ (effOf t.r t.u cs).2 ≤ now then 14 else 0 := by
  unfold checkOf
  rw [if_neg (by rw [hm]; decide), if_neg (by simp [tokK, headOf])]
  rfl
theorem take_succ_cav (cs : List (UInt8 × Int)) (k : Nat) (hk : k < cs.length) : cs.take (k + 1) = cs.take k ++ [cs[k]?.getD (0, 0)] := by
  rw [List.take_add_one, List.getElem?_eq_getElem hk]; rfl
set_option maxRecDepth 100000 in
theorem and_covers (a x : UInt8) : ((a &&& x) &&& ~~~a) == 0 := by
  have h : (a &&& x) &&& ~~~a = 0 := by
    apply UInt8.eq_of_toBitVec_eq
    simp
    ext i hi
    simp
    intro h1 _
    exact h1
  rw [h]; rfl
theorem and_covers' (a x : UInt8) : ((a &&& x) &&& ~~~x) == 0 := by rw [UInt8.and_comm a x]; exact and_covers x a

set_option maxRecDepth 100000 in
set_option maxHeartbeats 16000000 in
theorem capLess_in {w : World} {key : List UInt8} (hk : key.length = 32) {t : Tok} (ht : t.Ok) {v0 : Value} {r : Option Addr} {len cap : Nat} {cs : List (UInt8 × Int)} (h : CavsAt w r len cap cs) {n : Int} (hn : (Lit.int .i64 n).wf = true) :
    Calls Try.prog 22 #[.agg (row8 key), .agg (tokRow t v0), .slice r len cap, .int .i64 n] w fun e w' => e = .returned (.bool true) ∧ Below w.heap.size w w' := by
  have hcl := h.hlen
  subst hcl
  have hcap := h.hmax
  have hle := h.hle
  unfold maxLen at hcap
  have Kl := Lib.hid hk
  have Ok := Lib.hid ht
  have H := Lib.hid h
  obtain ⟨M, hM⟩ : ∃ M, M = mayOk t [] := ⟨_, rfl⟩
  have HM := Lib.hid hM
  clear hk ht h hn hM
  go_enter Try.func22, Try.ntmps22
  go_upto_region 1 with (first
    | (refine wpList_box rfl 31 _ rfl _ rfl ?_)
    | (refine wpList_box rfl 51 _ rfl (tokRow _ _) rfl ?_))
  refine abstract_world (fun W => W.heap[w.heap.size]? = some (.cells (row8 key) 31 (0, 0)) ∧ W.heap[w.heap.size + 1]? = some (.cells (tokRow t v0) 51 (0, 0)) ∧ Below w.heap.size w W ∧ W.heap.size = w.heap.size + 2) ⟨heap_alloc2_old _ _ _, heap_alloc2_new _ _ _, below_seq (below_one _ _) (below_one _ _), by simp⟩ ?_
  rintro w1 ⟨r0, r1, r2, r3⟩
  have R0 := Lib.hid r0
  have R1 := Lib.hid r1
  have R2 := Lib.hid r2
  have R3 := Lib.hid r3
  clear r0 r1 r2 r3
  go_upto_region 3 with (go_at_call 41; refine (begun14 _).mono ?_; rintro e w2 ⟨rfl, hb⟩; have Hb2 := Lib.hid hb; clear hb)
  have r1 := (Hb2.out.block _ (heap_lt R1.out)).trans R1.out
  have c5 : w2.cell? ⟨w.heap.size + 1, 5, none⟩ = some v0 := cell_row r1 rfl
  have f5 := frozen_of_row w2 (w.heap.size + 1) 5 _ _ r1
  go_upto_region 4 with (fail)
  have r2 : (w2.setCell ⟨w.heap.size + 1, 5, none⟩ (.slice none 0 0)).heap[w.heap.size + 1]? = some (.cells (tokRow t (.slice none 0 0)) 51 (0, 0)) := by
    rw [← tokRow_putList t v0]
    exact heap_setCell_same _ _ _ _ _ _ r1
  have r3 : (w2.setCell ⟨w.heap.size + 1, 5, none⟩ (.slice none 0 0)).heap[w.heap.size]? = some (.cells (row8 key) 31 (0, 0)) := by
    rw [heap_setCell_other _ _ _ _ (by simp)]
    exact (Hb2.out.block _ (heap_lt R0.out)).trans R0.out
  have r4 : Below w.heap.size w (w2.setCell ⟨w.heap.size + 1, 5, none⟩ (.slice none 0 0)) := (below_seq R2.out Hb2.out).setCell (by show w.heap.size ≤ w.heap.size + 1; omega) _
  have r5 : w.heap.size + 2 ≤ (w2.setCell ⟨w.heap.size + 1, 5, none⟩ (.slice none 0 0)).heap.size := by simp [World.setCell]; have := Hb2.out.size; have := R3.out; omega
  refine abstract_world (fun W => W.heap[w.heap.size]? = some (.cells (row8 key) 31 (0, 0)) ∧ W.heap[w.heap.size + 1]? = some (.cells (tokRow t (.slice none 0 0)) 51 (0, 0)) ∧ Below w.heap.size w W ∧ w.heap.size + 2 ≤ W.heap.size) ⟨r3, r2, r4, r5⟩ ?_
  clear c5 f5 r1 r2 r3 r4 r5 R0 R1 R2 R3
  rintro w3 ⟨r0, r1, r2, r3⟩
  have R0 := Lib.hid r0
  have R1 := Lib.hid r1
  have R2 := Lib.hid r2
  have R3 := Lib.hid r3
  clear r0 r1 r2 r3 Hb2
  by_cases h1 : t.tn.size ≤ 1024
  · have lt : Hid ((decide (t.tn.size ≤ 1024) && decide (0 ≤ 64)) = true) := Lib.hid (by simp [h1])
    cases M with
    | false =>
      go_wp2_with (first
        | (go_at_call 43; refine (may_any Ok.out (cavs_none _)).mono ?_; rintro e w5 ⟨rfl, hb⟩; rw [← HM.out]; have Hb5 := Lib.hid hb; clear hb)
        | (refine wpList_load51_G (by kernel_rfl) _ rfl _ rfl t _ Ok.out.tag ((Hb4.out.block _ (heap_lt R1.out)).trans R1.out) ?_)
        | (go_at_call 42; refine (light_any Ok.out.tag).mono ?_; rintro e w4 ⟨rfl, hb⟩; rw [lt.out]; have Hb4 := Lib.hid hb; clear hb)
        | (refine wpList_load_row rfl 51 _ rfl _ rfl 51 _ _ _ R1.out Try.underlying51 rfl (info51 t _ Ok.out.tag) ?_))
      go_ret
      exact ⟨rfl, below_seq R2.out (below_seq Hb4.out Hb5.out)⟩
    | true =>
      by_cases h8 : cs.length ≤ 8
      · have h8' : ((8 : Int) < (cs.length : Int)) = False := by simp; omega
        have RL : Hid (∀ w', Below w.heap.size w w' → CavsAt w' r cs.length cap cs) := Lib.hid fun w' hb => by
          have hh := H.out
          exact ⟨hh.hlen, hh.hle, hh.hmax, fun h0 => by
            obtain ⟨b, o, hr, hc⟩ := hh.hcells h0
            refine ⟨b, o, hr, fun i hi => ?_⟩
            exact ⟨by rw [hb.cell (p := ⟨b, o + i * 2, none⟩) (block_lt_of_cell (hc i hi).1)]; exact (hc i hi).1, by rw [hb.cell (p := ⟨b, o + i * 2 + 1, none⟩) (block_lt_of_cell (hc i hi).2)]; exact (hc i hi).2⟩, hh.hnil, hh.hwf⟩
        go_upto_region 9 with (first
          | (refine wpList_store_row rfl 51 _ _ rfl _ _ rfl rfl 51 _ ((Hb6.out.block _ (heap_lt P1.out)).trans P1.out) (info51 _ _ (tokK_ok Ok.out []).tag) (by rw [tokRow_size _ _ Ok.out.tag, tokRow_size _ _ (tokK_ok Ok.out []).tag]) (tokRow_one _ _ rfl) ?_)
          | (go_at_call 47; refine (issue_good Kl.out Ok.out (cavs_none _) HM.out.symm).mono ?_; rintro e w6 ⟨rfl, hb⟩; rw [← tokK_none]; have Hb6 := Lib.hid hb; clear hb)
          | (refine wpList_load_row rfl 31 _ rfl _ rfl 31 _ _ _ P0.out Try.underlying31 rfl (info31 _ Kl.out) ?_)
          | (refine wpList_load_row rfl 51 _ rfl _ rfl 51 _ _ _ P1.out Try.underlying51 rfl (info51 t _ Ok.out.tag) ?_)
          | (go_at_call 43; refine (may_any Ok.out (cavs_none _)).mono ?_; rintro e w5 ⟨rfl, hb⟩; rw [← HM.out]; have Hb5 := Lib.hid hb; have P0 := Lib.hid ((below_seq Hb4.out hb).block _ (heap_lt R0.out) |>.trans R0.out); have P1 := Lib.hid ((below_seq Hb4.out hb).block _ (heap_lt R1.out) |>.trans R1.out); clear hb)
          | (refine wpList_load51_G (by kernel_rfl) _ rfl _ rfl t _ Ok.out.tag ((Hb4.out.block _ (heap_lt R1.out)).trans R1.out) ?_)
          | (go_at_call 42; refine (light_any Ok.out.tag).mono ?_; rintro e w4 ⟨rfl, hb⟩; rw [lt.out]; have Hb4 := Lib.hid hb; clear hb)
          | (refine wpList_load_row rfl 51 _ rfl _ rfl 51 _ _ _ R1.out Try.underlying51 rfl (info51 t _ Ok.out.tag) ?_))
        have q1 := (Hb6.out.block _ (heap_lt P1.out)).trans P1.out
        have q0 := (Hb6.out.block _ (heap_lt P0.out)).trans P0.out
        have qb : Below w.heap.size w w6 := below_seq R2.out (below_seq Hb4.out (below_seq Hb5.out Hb6.out))
        have qs : w.heap.size + 2 ≤ w6.heap.size := by have := R3.out; have := Hb4.out.size; have := Hb5.out.size; have := Hb6.out.size; omega
        refine abstract_world (fun W => W.heap[w.heap.size]? = some (.cells (row8 key) 31 (0, 0)) ∧ W.heap[w.heap.size + 1]? = some (.cells (tokRow (tokK key t []) (.slice none 0 0)) 51 (0, 0)) ∧ Below w.heap.size w W ∧ w.heap.size + 2 ≤ W.heap.size) ⟨(setRow_other _ _ _ _ (by omega)).trans q0, setRow_heap _ _ _ _ _ _ q1, below_row qb (by omega) _, by rw [setRow_size]; exact qs⟩ ?_
        clear q0 q1 qb qs P0 P1 Hb6 Hb5 Hb4 R0 R1 R2 R3 h8' lt
        rintro w7 ⟨r0, r1, r2, r3⟩
        have R0 := Lib.hid r0
        have R1 := Lib.hid r1
        have R2 := Lib.hid r2
        have R3 := Lib.hid r3
        clear r0 r1 r2 r3
        go_upto_region 10 with (fail)
        go_loopw [10] (fun v wr => ∃ (k : Nat) (vl : Value), k ≤ cs.length ∧ v = .int .i64 (k : Int) ∧ (∀ c ∈ cs.take k, c.1 < 16) ∧ wr.heap[w.heap.size]? = some (.cells (row8 key) 31 (0, 0)) ∧ wr.heap[w.heap.size + 1]? = some (.cells (tokRow (tokK key t (cs.take k)) vl) 51 (0, 0)) ∧ OwnC wr (w.heap.size + 2) vl (cs.take k) ∧ Below w.heap.size w wr ∧ w.heap.size + 2 ≤ wr.heap.size) (fun v _ => cs.length - (intOf v).toNat)
        case atStart => exact ⟨0, _, by omega, rfl, fun c hc => by simp at hc, R0.out, R1.out, OwnC.nil _ _, R2.out, R3.out⟩
        case round =>
          clear R0 R1 R2 R3
          obtain ⟨k, vl, hk, rfl, hall, r0, r1, ho, hb, hs⟩ := hrel
          by_cases hlt : k < cs.length
          · obtain ⟨b, o, rfl, hc⟩ := (RL.out wr hb).hcells (by omega)
            obtain ⟨hc1, hc2⟩ := hc k hlt
            have hz : (Lit.int .i64 (cs[k]?.getD (0, 0)).2).wf = true := by rw [List.getElem?_eq_getElem hlt]; exact H.out.hwf _ (List.getElem_mem hlt)
            have htk := take_succ_cav cs k hlt
            have hsn := tokK_snoc key t cs k hlt
            have hef := effOf_take t.r t.u cs k hlt
            obtain ⟨⟨x, z⟩, hxz⟩ : ∃ c, c = cs[k]?.getD (0, 0) := ⟨_, rfl⟩
            rw [← hxz] at hc1 hc2 hz htk hsn hef
            simp only at hc1 hc2 hz
            obtain ⟨CK, hCK⟩ : ∃ c, c = cs.take k := ⟨_, rfl⟩
            obtain ⟨CU, hCU⟩ : ∃ c, c = cs.take (k + 1) := ⟨_, rfl⟩
            rw [← hCK] at hall r1 ho htk hsn hef
            rw [← hCU] at htk hsn hef
            have hkl : CK.length = k := by rw [hCK, List.length_take]; omega
            have hul : CU.length = k + 1 := by rw [hCU, List.length_take]; omega
            clear hc hxz
            by_cases hx : x < 16
            · have hx15 : (15 < x) = False := by simpa using lt16 hx
              have hallU : ∀ c ∈ CU, c.1 < 16 := fun c hc => by
                rw [htk] at hc
                rcases List.mem_append.1 hc with hc | hc
                · exact hall c hc
                · obtain rfl := List.mem_singleton.1 hc
                  exact hx
              have mT : mayOk (tokK key t CK) CK = true := tokK_may HM.out.symm (by omega) hall
              have mU : mayOk (tokK key t CU) CU = true := tokK_may HM.out.symm (by omega) hallU
              have cT := tokK_check mT n
              have cU := tokK_check mU n
              obtain ⟨⟨E, F⟩, hE⟩ : ∃ e, e = effOf t.r t.u CK := ⟨_, rfl⟩
              rw [← hE] at hef cT
              rw [hef] at cU
              obtain ⟨Y, hY⟩ : ∃ y, y = min F z := ⟨_, rfl⟩
              obtain ⟨D, hD⟩ : ∃ d, d = E &&& x := ⟨_, rfl⟩
              simp only at hef cT cU
              rw [← hY, ← hD] at hef
              rw [← hY] at cU
              have hY1 : Y ≤ F := by omega
              have hY2 : Y ≤ z := by omega
              have hY3 : Y = F ∨ Y = z := by omega
              obtain ⟨T, hT⟩ : ∃ T, T = tokK key t CK := ⟨_, rfl⟩
              obtain ⟨U, hU⟩ : ∃ U, U = tokK key t CU := ⟨_, rfl⟩
              have okT : T.Ok := by rw [hT]; exact tokK_ok Ok.out _
              have okU : U.Ok := by rw [hU]; exact tokK_ok Ok.out _
              have eT : effOf T.r T.u CK = (E, F) := by rw [hT]; exact hE.symm
              have eU : effOf U.r U.u CU = (D, Y) := by rw [hU]; exact hef
              rw [← hT] at r1 hsn mT cT
              rw [← hU] at hsn mU cU
              obtain ⟨a5, q5, rfl, hcT, _⟩ := ho.at_len k hkl
              have OkT := Lib.hid okT
              have OkU := Lib.hid okU
              have ET := Lib.hid eT
              have EU := Lib.hid eU
              have MT := Lib.hid mT
              have MU := Lib.hid mU
              have CTn := Lib.hid cT
              have CUn := Lib.hid cU
              have Hsn := Lib.hid hsn
              have Htk := Lib.hid htk
              have HkU := Lib.hid hul
              have HallU := Lib.hid hallU
              have HcT := Lib.hid hcT
              have R0 := Lib.hid r0
              have R1 := Lib.hid r1
              have Hb := Lib.hid hb
              have Hs := Lib.hid hs
              have Hz := Lib.hid hz
              have cov1 : Hid (∀ w, Calls Try.prog 77 #[W8 E, W8 D] w fun e w' => e = .returned (.bool true) ∧ w = w') := Lib.hid (by rw [hD]; intro w; have := covers_any w E (E &&& x); rw [and_covers] at this; exact this)
              have cov2 : Hid (∀ w, Calls Try.prog 77 #[W8 x, W8 D] w fun e w' => e = .returned (.bool true) ∧ w = w') := Lib.hid (by rw [hD]; intro w; have := covers_any w x (E &&& x); rw [and_covers'] at this; exact this)
              have HCU := Lib.hid hCU
              have HU := Lib.hid hU
              clear okT okU eT eU mT mU cT cU hsn htk hallU hcT r0 r1 hb hs hz hE hef hD hT hU hCK hCU ho hall hY hkl hul
              go_upto_region 14 with (fail)
              have ccA : Hid (∀ w', Below wr.heap.size wr w' → w'.cell? ⟨b, o + k * 2, none⟩ = some (W8 x) ∧ w'.cell? ⟨b, o + k * 2 + 1, none⟩ = some (.int .i64 z)) := Lib.hid fun w' hw => ⟨by rw [hw.cell (p := ⟨b, o + k * 2, none⟩) (block_lt_of_cell hc1)]; exact hc1, by rw [hw.cell (p := ⟨b, o + k * 2 + 1, none⟩) (block_lt_of_cell hc2)]; exact hc2⟩
              have T1 : Hid (∀ w', Below wr.heap.size wr w' → w'.heap[w.heap.size + 1]? = some (.cells (tokRow T (.slice a5 k q5)) 51 (0, 0))) := Lib.hid fun w' hw => (hw.block _ (heap_lt R1.out)).trans R1.out
              have K1 : Hid (∀ w', Below wr.heap.size wr w' → w'.heap[w.heap.size]? = some (.cells (row8 key) 31 (0, 0))) := Lib.hid fun w' hw => (hw.block _ (heap_lt R0.out)).trans R0.out
              clear hc1 hc2
              go_cut [11, 12] from 43 to 141 (fun v11 v12 wx => ∃ (g : Nat) (vu : Value), v11 = .pointer (some ⟨g, 0, none⟩) ∧ v12 = .int .i64 0 ∧ wx.heap[g]? = some (.cells (tokRow U vu) 51 (0, 0)) ∧ OwnC wx wr.heap.size vu CU ∧ Below wr.heap.size wr wx)
              case first =>
                have hcd : Below wr.heap.size wr wr.drew := (Below.refl _ _).drew
                refine region_k (fun w' => Below wr.heap.size wr w') (by kernel_rfl) hcd (fun Kr hKr => ?_)
                refine g_quiet hcd 0 56 (.agg (tokRow T (.slice a5 k q5))) (by kernel_rfl) (by kernel_rfl) (by kernel_rfl) (by kernel_rfl) (fun w2 hw2 => load51_hy (.tmp 5) (by kernel_rfl) (w.heap.size + 1) T _ OkT.out.tag (by kernel_rfl) _ (T1.out w2 hw2)) ?_
                refine g_quiet hcd 1 57 (.slice (some ⟨b, o, none⟩) cs.length cap) (by kernel_rfl) (by kernel_rfl) (by kernel_rfl) (by kernel_rfl) (fun _ _ => by kernel_rfl) ?_
                refine g_quiet hcd 2 58 (.int .i64 (k : Int)) (by kernel_rfl) (by kernel_rfl) (by kernel_rfl) (by kernel_rfl) (fun _ _ => by kernel_rfl) ?_
                refine g_quiet hcd 3 59 (.pointer (some ⟨b, o + k * 2, none⟩)) (by kernel_rfl) (by kernel_rfl) (by kernel_rfl) (by kernel_rfl) (fun w2 hw2 => by go_simp) ?_
                refine g_quiet hcd 4 60 (.agg (cavRow x z)) (by kernel_rfl) (by kernel_rfl) (by kernel_rfl) (by kernel_rfl) (fun w2 hw2 => load87_hy (.tmp 59) (by kernel_rfl) b (o + k * 2) x z (by kernel_rfl) _ (ccA.out w2 hw2).1 (ccA.out w2 hw2).2) ?_
                simp only [Act.put, List.setIfInBounds_toArray, List.set_cons_succ, List.set_cons_zero]
                have hcT := HcT.out.below hcd
                have hclt : k < 8 := by omega
                refine m_pick2 5 9 (by kernel_rfl) ?_ ?_
                · skip
                  refine (g_call (d := 61) 71 #[.agg (tokRow T (.slice a5 k q5)), .agg (cavRow x z)] (by kernel_rfl) (by kernel_rfl) ((less_good OkT.out hcT MT.out hx hclt Hz.out).mono ?_))
                  rintro e wa ⟨vu, rfl, ho, hb⟩
                  rw [Hsn.out]
                  rw [← Htk.out] at ho
                  have ha := below_seq hcd hb
                  have ho2 := ho.base hcd.size
                  refine ⟨_, rfl, ha, ?_⟩
                  simp only [Act.put, List.setIfInBounds_toArray, List.set_cons_succ, List.set_cons_zero]
                  refine g_quiet ha 6 55 (.tuple #[.agg (tokRow U vu), .int .i64 0]) (by kernel_rfl) (by kernel_rfl) (by kernel_rfl) (by kernel_rfl) (fun _ _ => by kernel_rfl) ?_
                  refine g_quiet ha 7 62 (.agg (tokRow U vu)) (by kernel_rfl) (by kernel_rfl) (by kernel_rfl) (by kernel_rfl) (fun _ _ => by kernel_rfl) ?_
                  refine g_quiet ha 8 63 (.int .i64 0) (by kernel_rfl) (by kernel_rfl) (by kernel_rfl) (by kernel_rfl) (fun _ _ => by kernel_rfl) ?_
                  simp only [Act.put, List.setIfInBounds_toArray, List.set_cons_succ, List.set_cons_zero]
                  refine m_pick 9 (by kernel_rfl) (g_val (d := 11) (.pointer (some ⟨wa.heap.size, 0, none⟩)) (wa.alloc (.cells (tokRow zeroTok (.slice none 0 0)) 51)) (by kernel_rfl) (by kernel_rfl) ?_)
                  have hb9 := below_seq ha (below_one wa (.cells (tokRow zeroTok (.slice none 0 0)) 51))
                  have hG := heap_alloc_new wa (.cells (tokRow zeroTok (.slice none 0 0)) 51)
                  have ho9 := ho2.keep (below_one wa (.cells (tokRow zeroTok (.slice none 0 0)) 51))
                  refine ⟨hb9, ?_⟩
                  simp only [Act.put, List.setIfInBounds_toArray, List.set_cons_succ, List.set_cons_zero]
                  refine m_pick 10 (by kernel_rfl) (step_store_row 51 (.tmp 11) (.tmp 62) (by kernel_rfl) wa.heap.size (tokRow U vu) (by kernel_rfl) (by kernel_rfl) 51 (tokRow zeroTok (.slice none 0 0)) hG (info51 _ _ OkU.out.tag) (by rw [tokRow_size _ _ zero32_length, tokRow_size _ _ OkU.out.tag]) (tokRow_one _ _ ho2.oneCell) ?_)
                  have hE := below_row hb9 ha.size (tokRow U vu)
                  refine ⟨hE, ?_⟩
                  refine g_quiet hE 11 12 (.int .i64 0) (by kernel_rfl) (by kernel_rfl) (by kernel_rfl) (by kernel_rfl) (fun _ _ => by kernel_rfl) ?_
                  refine m_end (by kernel_rfl) ?_
                  simp only [Act.put, List.setIfInBounds_toArray, List.set_cons_succ, List.set_cons_zero]
                  have hG2 := setRow_heap _ _ _ (tokRow U vu) _ _ hG
                  have hO2 := ho9.put51 hG (tokRow U vu)
                  go_wp2
                  go_meet
                  exact ⟨_, vu, rfl, rfl, hG2, hO2, hE⟩
                · skip
                  refine (g_val (d := 11) (.pointer (some ⟨wr.drew.heap.size, 0, none⟩)) (wr.drew.alloc (.cells (tokRow zeroTok (.slice none 0 0)) 51)) (by kernel_rfl) (by kernel_rfl) ?_)
                  have hb9 := below_seq hcd (below_one wr.drew (.cells (tokRow zeroTok (.slice none 0 0)) 51))
                  have hG := heap_alloc_new wr.drew (.cells (tokRow zeroTok (.slice none 0 0)) 51)
                  have hcT9 := hcT.below (below_one wr.drew (.cells (tokRow zeroTok (.slice none 0 0)) 51))
                  have hgs := hcd.size
                  obtain ⟨g9, hg9⟩ : ∃ g, g = wr.drew.heap.size := ⟨_, rfl⟩
                  obtain ⟨w9, hw9⟩ : ∃ x, x = wr.drew.alloc (.cells (tokRow zeroTok (.slice none 0 0)) 51) := ⟨_, rfl⟩
                  rw [← hg9, ← hw9] at hG
                  rw [← hw9] at hb9 hcT9
                  rw [← hg9] at hgs
                  rw [← hg9, ← hw9]
                  refine ⟨hb9, ?_⟩
                  simp only [Act.put, List.setIfInBounds_toArray, List.set_cons_succ, List.set_cons_zero]
                  refine m_pick 5 (by kernel_rfl) (g_call (d := 61) 71 #[.agg (tokRow T (.slice a5 k q5)), .agg (cavRow x z)] (by kernel_rfl) (by kernel_rfl) ((less_good OkT.out hcT9 MT.out hx hclt Hz.out).mono ?_))
                  rintro e wa ⟨vu, rfl, ho, hb⟩
                  rw [Hsn.out]
                  rw [← Htk.out] at ho
                  have ha := below_seq hb9 hb
                  have ho2 := ho.base hb9.size
                  have hG1 := (hb.block _ (heap_lt hG)).trans hG
                  refine ⟨_, rfl, ha, ?_⟩
                  simp only [Act.put, List.setIfInBounds_toArray, List.set_cons_succ, List.set_cons_zero]
                  refine g_quiet ha 6 55 (.tuple #[.agg (tokRow U vu), .int .i64 0]) (by kernel_rfl) (by kernel_rfl) (by kernel_rfl) (by kernel_rfl) (fun _ _ => by kernel_rfl) ?_
                  refine g_quiet ha 7 62 (.agg (tokRow U vu)) (by kernel_rfl) (by kernel_rfl) (by kernel_rfl) (by kernel_rfl) (fun _ _ => by kernel_rfl) ?_
                  refine g_quiet ha 8 63 (.int .i64 0) (by kernel_rfl) (by kernel_rfl) (by kernel_rfl) (by kernel_rfl) (fun _ _ => by kernel_rfl) ?_
                  simp only [Act.put, List.setIfInBounds_toArray, List.set_cons_succ, List.set_cons_zero]
                  refine m_pick 10 (by kernel_rfl) (step_store_row 51 (.tmp 11) (.tmp 62) (by kernel_rfl) g9 (tokRow U vu) (by kernel_rfl) (by kernel_rfl) 51 (tokRow zeroTok (.slice none 0 0)) hG1 (info51 _ _ OkU.out.tag) (by rw [tokRow_size _ _ zero32_length, tokRow_size _ _ OkU.out.tag]) (tokRow_one _ _ ho2.oneCell) ?_)
                  have hE := below_row ha hgs (tokRow U vu)
                  refine ⟨hE, ?_⟩
                  refine g_quiet hE 11 12 (.int .i64 0) (by kernel_rfl) (by kernel_rfl) (by kernel_rfl) (by kernel_rfl) (fun _ _ => by kernel_rfl) ?_
                  refine m_end (by kernel_rfl) ?_
                  simp only [Act.put, List.setIfInBounds_toArray, List.set_cons_succ, List.set_cons_zero]
                  have hG2 := setRow_heap _ _ _ (tokRow U vu) _ _ hG1
                  have hO2 := ho2.put51 hG1 (tokRow U vu)
                  go_wp2
                  go_meet
                  exact ⟨_, vu, rfl, rfl, hG2, hO2, hE⟩
              case rest =>
                obtain ⟨g, vu, rfl, rfl, hg, hou, hbx⟩ := hcut
                obtain ⟨au, qu, rfl, hcu, _⟩ := hou.at_len (k + 1) HkU.out
                have G1 := Lib.hid hg
                have OU := Lib.hid hou
                have CU1 := Lib.hid hcu
                have Hbx := Lib.hid hbx
                have T1c := Lib.hid (T1.out _ hbx)
                have K1c := Lib.hid (K1.out _ hbx)
                clear hg hou hcu hbx
                go_upto_region 19 with (first
                  | (go_at_call 73; refine (effect_any OkU.out (CU1.out.below HbA.out)).mono ?_; rintro e wB ⟨rfl, hb⟩; rw [EU.out]; have HbB := Lib.hid hb; clear hb)
                  | (refine wpList_load_row rfl 51 _ rfl _ rfl 51 _ _ _ ((HbA.out.block _ (heap_lt G1.out)).trans G1.out) Try.underlying51 rfl (info51 _ _ OkU.out.tag) ?_)
                  | (go_at_call 73; refine (effect_any OkT.out (HcT.out.below Hbx.out)).mono ?_; rintro e wA ⟨rfl, hb⟩; rw [ET.out]; have HbA := Lib.hid hb; clear hb)
                  | (refine wpList_load_row rfl 51 _ rfl _ rfl 51 _ _ _ T1c.out Try.underlying51 rfl (info51 _ _ OkT.out.tag) ?_))
                have cUB := (CU1.out.below HbA.out).below HbB.out
                have cTB := ((HcT.out.below Hbx.out).below HbA.out).below HbB.out
                have tB : Hid (∀ w', Below wB.heap.size wB w' → w'.heap[w.heap.size + 1]? = some (.cells (tokRow T (.slice a5 k q5)) 51 (0, 0))) := Lib.hid fun w' hw => by
                  have hh := below_seq HbA.out (below_seq HbB.out hw)
                  exact (hh.block _ (heap_lt T1c.out)).trans T1c.out
                have kB : Hid (∀ w', Below wB.heap.size wB w' → w'.heap[w.heap.size]? = some (.cells (row8 key) 31 (0, 0))) := Lib.hid fun w' hw => by
                  have hh := below_seq HbA.out (below_seq HbB.out hw)
                  exact (hh.block _ (heap_lt K1c.out)).trans K1c.out
                have uB : Hid (∀ w', Below wB.heap.size wB w' → w'.heap[g]? = some (.cells (tokRow U (.slice au (k + 1) qu)) 51 (0, 0))) := Lib.hid fun w' hw => by
                  have hh := below_seq HbA.out (below_seq HbB.out hw)
                  exact (hh.block _ (heap_lt G1.out)).trans G1.out
                obtain ⟨X, hX⟩ : ∃ X, X = checkOf key T CK n := ⟨_, rfl⟩
                obtain ⟨Z, hZ⟩ : ∃ Z, Z = checkOf key U CU n := ⟨_, rfl⟩
                have hcd : Below wB.heap.size wB wB.drew := (Below.refl _ _).drew
                refine region_k (fun w' => Below wB.heap.size wB w') (by kernel_rfl) hcd (fun Kr hKr => ?_)
                refine g_quiet hcd 0 76 (.agg (row8 key)) (by kernel_rfl) (by kernel_rfl) (by kernel_rfl) (by kernel_rfl) (fun w2 hw2 => load_hy (x := .tmp 4) (by kernel_rfl) w.heap.size 0 key Kl.out (by kernel_rfl) w2 (fun j hj => by rw [Nat.zero_add]; exact cell_row (kB.out w2 hw2) (row8_at key j (by rw [Kl.out]; exact hj)))) ?_
                refine g_quiet hcd 1 77 (.agg (tokRow T (.slice a5 k q5))) (by kernel_rfl) (by kernel_rfl) (by kernel_rfl) (by kernel_rfl) (fun w2 hw2 => load51_hy (.tmp 5) (by kernel_rfl) (w.heap.size + 1) T _ OkT.out.tag (by kernel_rfl) _ (tB.out w2 hw2)) ?_
                refine g_quiet hcd 2 78 (.int .i64 n) (by kernel_rfl) (by kernel_rfl) (by kernel_rfl) (by kernel_rfl) (fun _ _ => by kernel_rfl) ?_
                refine g_quiet hcd 4 80 (.agg (row8 key)) (by kernel_rfl) (by kernel_rfl) (by kernel_rfl) (by kernel_rfl) (fun w2 hw2 => load_hy (x := .tmp 4) (by kernel_rfl) w.heap.size 0 key Kl.out (by kernel_rfl) w2 (fun j hj => by rw [Nat.zero_add]; exact cell_row (kB.out w2 hw2) (row8_at key j (by rw [Kl.out]; exact hj)))) ?_
                refine g_quiet hcd 5 81 (.agg (tokRow U (.slice au (k + 1) qu))) (by kernel_rfl) (by kernel_rfl) (by kernel_rfl) (by kernel_rfl) (fun w2 hw2 => load51_hy (.tmp 11) (by kernel_rfl) g U _ OkU.out.tag (by kernel_rfl) _ (uB.out w2 hw2)) ?_
                refine g_quiet hcd 6 82 (.int .i64 n) (by kernel_rfl) (by kernel_rfl) (by kernel_rfl) (by kernel_rfl) (fun _ _ => by kernel_rfl) ?_
                simp only [Act.put, List.setIfInBounds_toArray, List.set_cons_succ, List.set_cons_zero]
                refine m_pick 3 (by kernel_rfl) (g_call (d := 79) 49 #[.agg (row8 key), .agg (tokRow T (.slice a5 k q5)), .int .i64 n] (by kernel_rfl) (by kernel_rfl) ((check_good Kl.out OkT.out (cTB.below hcd) MT.out).mono ?_))
                rintro e wC ⟨rfl, hbC⟩
                rw [← hX]
                have hC := below_seq hcd hbC
                refine ⟨_, rfl, hC, ?_⟩
                simp only [Act.put, List.setIfInBounds_toArray, List.set_cons_succ, List.set_cons_zero]
                refine m_pick 7 (by kernel_rfl) (g_call (d := 83) 49 #[.agg (row8 key), .agg (tokRow U (.slice au (k + 1) qu)), .int .i64 n] (by kernel_rfl) (by kernel_rfl) ((check_good Kl.out OkU.out (cUB.below hC) MU.out).mono ?_))
                rintro e wD ⟨rfl, hbD⟩
                rw [← hZ]
                have hD := below_seq hC hbD
                refine ⟨_, rfl, hD, ?_⟩
                simp only [Act.put, List.setIfInBounds_toArray, List.set_cons_succ, List.set_cons_zero]
                refine g_quiet hD 8 17 (.int .i64 X) (by kernel_rfl) (by kernel_rfl) (by kernel_rfl) (by kernel_rfl) (fun _ _ => by kernel_rfl) ?_
                refine g_quiet hD 9 18 (.int .i64 Z) (by kernel_rfl) (by kernel_rfl) (by kernel_rfl) (by kernel_rfl) (fun _ _ => by kernel_rfl) ?_
                refine m_end (by kernel_rfl) ?_
                simp only [Act.put, List.setIfInBounds_toArray, List.set_cons_succ, List.set_cons_zero]
                rw [CTn.out] at hX
                rw [CUn.out] at hZ
                have hBD : Below wr.heap.size wr wD := below_seq Hbx.out (below_seq HbA.out (below_seq HbB.out hD))
                obtain ⟨ca, cb⟩ := ccA.out wD hBD
                have tD := Lib.hid (tB.out wD hD)
                have uD := Lib.hid (uB.out wD hD)
                have oD := Lib.hid (((OU.out.keep HbA.out).keep HbB.out).keep hD)
                have sD := hBD.size
                have HBD := Lib.hid hBD
                have e1 : decide (F < Y) = false := by simp; omega
                have e2 : decide (z < Y) = false := by simp; omega
                clear hcd hC hbC hbD hD cUB cTB hBD
                have key3 : (X = 14 ∧ Z = 14) ∨ (X = 0 ∧ Z = 14 ∧ decide (n < z) = false) ∨ (X = 0 ∧ Z = 0) := by
                  by_cases g1 : n < t.f
                  · left; exact ⟨by rw [hX, if_pos (Or.inl g1)], by rw [hZ, if_pos (Or.inl g1)]⟩
                  · by_cases g2 : F ≤ n
                    · left; exact ⟨by rw [hX, if_pos (Or.inr g2)], by rw [hZ, if_pos (Or.inr (by omega))]⟩
                    · by_cases g3 : Y ≤ n
                      · right; left; exact ⟨by rw [hX, if_neg (by omega)], by rw [hZ, if_pos (Or.inr g3)], by simp; omega⟩
                      · right; right; exact ⟨by rw [hX, if_neg (by omega)], by rw [hZ, if_neg (by omega)]⟩
                clear hX hZ CTn CUn
                have pfin : Hid (∀ k1 : Nat, k1 = k + 1 → k1 ≤ cs.length ∧ (∀ c ∈ cs.take k1, c.1 < 16) ∧ (wD.setRow (w.heap.size + 1) (tokRow U (.slice au (k + 1) qu))).heap[w.heap.size]? = some (.cells (row8 key) 31 (0, 0)) ∧ (wD.setRow (w.heap.size + 1) (tokRow U (.slice au (k + 1) qu))).heap[w.heap.size + 1]? = some (.cells (tokRow (tokK key t (cs.take k1)) (.slice au (k + 1) qu)) 51 (0, 0)) ∧ OwnC (wD.setRow (w.heap.size + 1) (tokRow U (.slice au (k + 1) qu))) (w.heap.size + 2) (.slice au (k + 1) qu) (cs.take k1) ∧ Below w.heap.size w (wD.setRow (w.heap.size + 1) (tokRow U (.slice au (k + 1) qu))) ∧ w.heap.size + 2 ≤ (wD.setRow (w.heap.size + 1) (tokRow U (.slice au (k + 1) qu))).heap.size) := Lib.hid fun k1 hk1 => by
                  subst hk1
                  rw [← HCU.out, ← HU.out]
                  refine ⟨by omega, HallU.out, (setRow_other _ _ _ _ (by omega)).trans ((HBD.out.block _ (heap_lt R0.out)).trans R0.out), setRow_heap _ _ _ _ _ _ tD.out, (oD.out.base Hs.out).put51 tD.out _, below_row (below_seq Hb.out HBD.out) (by omega) _, by rw [setRow_size]; have := Hs.out; omega⟩
                rcases key3 with ⟨rfl, rfl⟩ | ⟨rfl, rfl, e3⟩ | ⟨rfl, rfl⟩
                all_goals
                  go_wp2_with (first
                    | (refine wpList_store_row rfl 51 _ _ rfl _ _ rfl rfl 51 _ tD.out (info51 _ _ OkU.out.tag) (by rw [tokRow_size _ _ OkT.out.tag, tokRow_size _ _ OkU.out.tag]) (tokRow_one _ _ rfl) ?_)
                    | (refine wpList_load_row rfl 51 _ rfl _ rfl 51 _ _ _ uD.out Try.underlying51 rfl (info51 _ _ OkU.out.tag) ?_)
                    | (go_at_call 77; first
                        | (with_reducible refine (cov1.out _).mono ?_; rintro e wz ⟨rfl, rfl⟩)
                        | (with_reducible refine (cov2.out _).mono ?_; rintro e wz ⟨rfl, rfl⟩)))
                all_goals
                  obtain ⟨p1, p2, p3, p4, p5, p6, p7⟩ := pfin.out (k + 1) rfl
                  exact ⟨⟨k + 1, _, p1, by go_num, p2, p3, p4, p5, p6, p7⟩, by simp [intOf]; omega⟩
            · have hx15 : (15 < x) = True := by simpa using nlt16 hx
              clear htk hsn hef ho r0 r1
              go_wp2
              go_ret
              exact ⟨rfl, hb⟩
          · clear r0 r1 ho
            go_wp2
            go_ret
            exact ⟨rfl, hb⟩
      · have h8' : ((8 : Int) < (cs.length : Int)) = True := by simp; omega
        go_wp2_with (first
          | (go_at_call 43; refine (may_any Ok.out (cavs_none _)).mono ?_; rintro e w5 ⟨rfl, hb⟩; rw [← HM.out]; have Hb5 := Lib.hid hb; clear hb)
          | (refine wpList_load51_G (by kernel_rfl) _ rfl _ rfl t _ Ok.out.tag ((Hb4.out.block _ (heap_lt R1.out)).trans R1.out) ?_)
          | (go_at_call 42; refine (light_any Ok.out.tag).mono ?_; rintro e w4 ⟨rfl, hb⟩; rw [lt.out]; have Hb4 := Lib.hid hb; clear hb)
          | (refine wpList_load_row rfl 51 _ rfl _ rfl 51 _ _ _ R1.out Try.underlying51 rfl (info51 t _ Ok.out.tag) ?_))
        go_ret
        exact ⟨rfl, below_seq R2.out (below_seq Hb4.out Hb5.out)⟩
  · have lt : Hid ((decide (t.tn.size ≤ 1024) && decide (0 ≤ 64)) = false) := Lib.hid (by simp [h1])
    go_wp2_with (first
      | (go_at_call 42; refine (light_any Ok.out.tag).mono ?_; rintro e w4 ⟨rfl, hb⟩; rw [lt.out]; have Hb4 := Lib.hid hb; clear hb)
      | (refine wpList_load_row rfl 51 _ rfl _ rfl 51 _ _ _ R1.out Try.underlying51 rfl (info51 t _ Ok.out.tag) ?_))
    go_ret
    exact ⟨rfl, below_seq R2.out Hb4.out⟩

theorem capLess_walk {w : World} {key : List UInt8} (hk : key.length = 32) {t : Tok} (ht : t.Ok) {r0 : Option Addr} {len0 cap0 : Nat} {cs0 : List (UInt8 × Int)} (h0 : CavsAt w r0 len0 cap0 cs0) {r : Option Addr} {len cap : Nat} {cs : List (UInt8 × Int)} (h : CavsAt w r len cap cs) {n : Int} (hn : (Lit.int .i64 n).wf = true) :
    Calls Try.prog 22 #[.agg (row8 key), .agg (tokRow t (.slice r0 len0 cap0)), .slice r len cap, .int .i64 n] w fun e w' => e = .returned (.bool true) ∧ Below w.heap.size w w' := capLess_in hk ht h hn
end Go.Proofs.Ytafakjdolnigaaa
