/- rights.Meet; cap.Effect. cap.Bytes. A token that may be has a short name; Covers; light. -/
import Derived.BigQuiet
import Derived.Deep.QuietTactic
import Derived.Test.YtafakjdolnigaaaGMay
namespace Go.Proofs.Ytafakjdolnigaaa
open Go.RowKit
set_option linter.unusedVariables false

set_option maxHeartbeats 1000000 in
theorem meet_any (w : World) (a b : UInt8) : Calls Try.prog 103 #[W8 a, W8 b] w fun e w' => e = .returned (W8 (a &&& b)) ∧ w = w' := by
  go_enter Try.func103, Try.ntmps103
  go_wp2
  go_ret
  exact ⟨rfl, rfl⟩

/-- P14.3. -/
def effOf (r : UInt8) (u : Int) (cs : List (UInt8 × Int)) : UInt8 × Int := cs.foldl (fun p c => (p.1 &&& c.1, min p.2 c.2)) (r, u)
theorem effOf_take (r : UInt8) (u : Int) (cs : List (UInt8 × Int)) (k : Nat) (hk : k < cs.length) :
    effOf r u (cs.take (k + 1)) = ((effOf r u (cs.take k)).1 &&& (cs[k]?.getD (0, 0)).1, min (effOf r u (cs.take k)).2 (cs[k]?.getD (0, 0)).2) := by
  unfold effOf
  rw [List.take_add_one, List.getElem?_eq_getElem hk, Option.toList_some, List.foldl_append]
  rfl

set_option maxRecDepth 100000 in
set_option maxHeartbeats 4000000 in
theorem effect_any {w : World} {t : Tok} {r : Option Addr} {len cap : Nat} {cs : List (UInt8 × Int)} (ht : t.Ok) (h : CavsAt w r len cap cs) :
    Calls Try.prog 73 #[.agg (tokRow t (.slice r len cap))] w fun e w' => e = .returned (.tuple #[W8 (effOf t.r t.u cs).1, .int .i64 (effOf t.r t.u cs).2]) ∧ Below w.heap.size w w' := by
  have hcl := h.hlen
  subst hcl
  obtain ⟨Z, hZ⟩ : ∃ Z, Z = effOf t.r t.u cs := ⟨_, rfl⟩
  rw [← hZ]
  have HZ := Lib.hid hZ
  have Ht := Lib.hid ht.tag
  have H := Lib.hid h
  clear ht h hZ
  go_enter Try.func73, Try.ntmps73
  go_upto_region 1 with (refine wpList_box rfl 51 _ rfl (tokRow _ _) rfl ?_)
  have r0 := heap_alloc_new w (.cells (tokRow t (.slice r cs.length cap)) 51)
  refine abstract_world (fun W => W.heap[w.heap.size]? = some (.cells (tokRow t (.slice r cs.length cap)) 51 (0, 0)) ∧ Below w.heap.size w W) ⟨r0, below_one _ _⟩ ?_
  clear r0
  rintro w1 ⟨r0, r1⟩
  have T : Hid (∀ w2, Below w1.heap.size w1 w2 → TokIn w2 w.heap.size t (.slice r cs.length cap)) := Lib.hid fun w2 h2 => tok_in ((h2.block _ (heap_lt r0)).trans r0) Ht.out
  have R1 := Lib.hid r1
  clear r0 r1
  have hcd : Below w1.heap.size w1 w1.drew := (Below.refl _ _).drew
  refine region_k (fun w' => Below w1.heap.size w1 w') (by kernel_rfl) hcd (fun Kr hKr => ?_)
  refine g_quiet hcd 0 8 (.pointer (some ⟨w.heap.size, 2, none⟩)) (by kernel_rfl) (by kernel_rfl) (by kernel_rfl) (by kernel_rfl) (fun w2 hw2 => by go_simp) ?_
  refine g_quiet hcd 1 9 (W8 t.r) (by kernel_rfl) (by kernel_rfl) (by kernel_rfl) (by kernel_rfl) (fun w2 hw2 => by have c := (T.out w2 hw2).c2; go_simp) ?_
  refine g_quiet hcd 2 10 (.pointer (some ⟨w.heap.size, 4, none⟩)) (by kernel_rfl) (by kernel_rfl) (by kernel_rfl) (by kernel_rfl) (fun w2 hw2 => by go_simp) ?_
  refine g_quiet hcd 3 11 (.int .i64 t.u) (by kernel_rfl) (by kernel_rfl) (by kernel_rfl) (by kernel_rfl) (fun w2 hw2 => by have c := (T.out w2 hw2).c4; go_simp) ?_
  refine g_quiet hcd 4 4 (W8 t.r) (by kernel_rfl) (by kernel_rfl) (by kernel_rfl) (by kernel_rfl) (fun _ _ => by kernel_rfl) ?_
  refine g_quiet hcd 5 5 (.int .i64 t.u) (by kernel_rfl) (by kernel_rfl) (by kernel_rfl) (by kernel_rfl) (fun _ _ => by kernel_rfl) ?_
  refine m_end (by kernel_rfl) ?_
  simp only [Act.put, List.setIfInBounds_toArray, List.set_cons_succ, List.set_cons_zero]
  have c5 := (T.out w1.drew hcd).c5
  have Hcd := Lib.hid hcd
  clear hcd
  go_upto_region 3 with (fail)
  clear c5
  go_loopw [15, 4, 5] (fun v v4 v5 wr => ∃ k : Nat, k ≤ cs.length ∧ v = .int .i64 (k : Int) ∧ v4 = W8 (effOf t.r t.u (cs.take k)).1 ∧ v5 = .int .i64 (effOf t.r t.u (cs.take k)).2 ∧ Below w1.heap.size w1 wr) (fun v _ _ _ => cs.length - (intOf v).toNat)
  case atStart => exact ⟨0, by omega, rfl, rfl, rfl, Hcd.out⟩
  case round =>
    obtain ⟨k, hk, rfl, rfl, rfl, hb⟩ := hrel
    have Hb := Lib.hid hb
    clear hb
    by_cases hlt : k < cs.length
    · obtain ⟨b, o, rfl, hc⟩ := ((H.out.below R1.out).below Hb.out).hcells (by omega)
      obtain ⟨hc1, hc2⟩ := hc k hlt
      have hst := effOf_take t.r t.u cs k hlt
      obtain ⟨⟨x, z⟩, hxz⟩ : ∃ c, c = cs[k]?.getD (0, 0) := ⟨_, rfl⟩
      rw [← hxz] at hc1 hc2 hst
      obtain ⟨⟨y, q⟩, hyq⟩ : ∃ c, c = effOf t.r t.u (cs.take k) := ⟨_, rfl⟩
      rw [← hyq] at hst
      rw [← hyq]
      have Hst := Lib.hid hst
      have hcap := H.out.hmax
      have hle := H.out.hle
      unfold maxLen at hcap
      clear hc hxz hst hyq
      simp only at hc1 hc2
      go_upto_region 5 with (first
        | (refine wpList_allocRow 87 _ alloc87 rfl rfl ?_)
        | (refine wpList_store_row rfl 87 _ _ rfl _ (cavRow x z) rfl rfl 87 _ (heap_alloc_new _ _) (info87 x z) rfl (cavRow_one x z) ?_))
      have r0 : ((wr.alloc (.cells (cavRow 0 0) 87)).setRow wr.heap.size (cavRow x z)).heap[wr.heap.size]? = some (.cells (cavRow x z) 87 (0, 0)) := setRow_heap _ _ _ _ _ _ (heap_alloc_new _ _)
      have r1 : Below w1.heap.size w1 ((wr.alloc (.cells (cavRow 0 0) 87)).setRow wr.heap.size (cavRow x z)) := below_row (below_seq Hb.out (below_one _ _)) Hb.out.size _
      refine abstract_world (fun W => W.heap[wr.heap.size]? = some (.cells (cavRow x z) 87 (0, 0)) ∧ Below w1.heap.size w1 W) ⟨r0, r1⟩ ?_
      clear r0 r1 hc1 hc2
      generalize wr.heap.size = g4 at *
      rintro w4 ⟨r0, r1⟩
      have C : Hid (∀ w2, Below w4.heap.size w4 w2 → w2.cell? ⟨g4, 0, none⟩ = some (W8 x) ∧ w2.cell? ⟨g4, 1, none⟩ = some (.int .i64 z)) := Lib.hid fun w2 h2 => ⟨cell_row ((h2.block _ (heap_lt r0)).trans r0) rfl, cell_row ((h2.block _ (heap_lt r0)).trans r0) rfl⟩
      have Hb4 := Lib.hid r1
      clear r0 r1
      have hcd : Below w4.heap.size w4 w4.drew := (Below.refl _ _).drew
      refine region_k (fun w' => Below w4.heap.size w4 w') (by kernel_rfl) hcd (fun Kr hKr => ?_)
      refine g_quiet hcd 0 19 (W8 y) (by kernel_rfl) (by kernel_rfl) (by kernel_rfl) (by kernel_rfl) (fun _ _ => by kernel_rfl) ?_
      refine g_quiet hcd 1 20 (.pointer (some ⟨g4, 0, none⟩)) (by kernel_rfl) (by kernel_rfl) (by kernel_rfl) (by kernel_rfl) (fun w2 hw2 => by go_simp) ?_
      refine g_quiet hcd 2 21 (W8 x) (by kernel_rfl) (by kernel_rfl) (by kernel_rfl) (by kernel_rfl) (fun w2 hw2 => by have c := (C.out w2 hw2).1; go_simp) ?_
      refine g_quiet hcd 4 23 (.int .i64 q) (by kernel_rfl) (by kernel_rfl) (by kernel_rfl) (by kernel_rfl) (fun _ _ => by kernel_rfl) ?_
      refine g_quiet hcd 5 24 (.pointer (some ⟨g4, 1, none⟩)) (by kernel_rfl) (by kernel_rfl) (by kernel_rfl) (by kernel_rfl) (fun w2 hw2 => by go_simp) ?_
      refine g_quiet hcd 6 25 (.int .i64 z) (by kernel_rfl) (by kernel_rfl) (by kernel_rfl) (by kernel_rfl) (fun w2 hw2 => by have c := (C.out w2 hw2).2; go_simp) ?_
      refine g_quiet hcd 7 26 (.int .i64 (min q z)) (by kernel_rfl) (by kernel_rfl) (by kernel_rfl) (by kernel_rfl) (fun w2 hw2 => by go_simp; split <;> omega) ?_
      refine m_pick 3 (by kernel_rfl) (g_call (d := 22) 103 #[W8 y, W8 x] (by kernel_rfl) (by kernel_rfl) ((meet_any _ y x).mono ?_))
      rintro e w5 ⟨rfl, rfl⟩
      refine ⟨_, rfl, hcd, ?_⟩
      refine g_quiet hcd 8 4 (W8 (y &&& x)) (by kernel_rfl) (by kernel_rfl) (by kernel_rfl) (by kernel_rfl) (fun _ _ => by kernel_rfl) ?_
      refine g_quiet hcd 9 5 (.int .i64 (min q z)) (by kernel_rfl) (by kernel_rfl) (by kernel_rfl) (by kernel_rfl) (fun _ _ => by kernel_rfl) ?_
      refine m_end (by kernel_rfl) ?_
      simp only [Act.put, List.setIfInBounds_toArray, List.set_cons_succ, List.set_cons_zero]
      go_wp2
      exact ⟨⟨k + 1, by omega, by go_num, by rw [Hst.out], by rw [Hst.out], below_seq Hb4.out hcd⟩, by simp [intOf]; omega⟩
    · obtain rfl : k = cs.length := by omega
      have e : effOf t.r t.u (cs.take cs.length) = Z := by rw [List.take_length, HZ.out]
      rw [e]
      go_wp2
      go_ret2
      exact ⟨rfl, below_seq R1.out Hb.out⟩
end Go.Proofs.Ytafakjdolnigaaa

namespace Go.Proofs.Ytafakjdolnigaaa
open Go.RowKit
set_option linter.unusedVariables false

/-- A token's bytes. -/
def cavsOf (cs : List (UInt8 × Int)) : List UInt8 := cs.flatMap fun c => cavOf c.1 c.2
def tokOf (t : Tok) (cs : List (UInt8 × Int)) : List UInt8 := [1] ++ headOf t ++ [UInt8.ofNat cs.length] ++ cavsOf cs ++ t.tag
theorem cavsOf_length (cs : List (UInt8 × Int)) : (cavsOf cs).length = 9 * cs.length := by
  induction cs with
  | nil => rfl
  | cons c cs ih =>
    have : cavsOf (c :: cs) = cavOf c.1 c.2 ++ cavsOf cs := rfl
    rw [this, List.length_append, ih, cavOf_length, List.length_cons]
    omega
theorem cavsOf_take (cs : List (UInt8 × Int)) (k : Nat) (hk : k < cs.length) : cavsOf (cs.take (k + 1)) = cavsOf (cs.take k) ++ cavOf (cs[k]?.getD (0, 0)).1 (cs[k]?.getD (0, 0)).2 := by
  unfold cavsOf
  rw [List.take_add_one, List.getElem?_eq_getElem hk, Option.toList_some, List.flatMap_append]
  simp

set_option maxRecDepth 100000 in
set_option maxHeartbeats 4000000 in
theorem bytes_bad {w : World} {t : Tok} {r : Option Addr} {len cap : Nat} {cs : List (UInt8 × Int)} (ht : t.Ok) (h : CavsAt w r len cap cs) (hm : mayOk t cs = false) :
    Calls Try.prog 44 #[.agg (tokRow t (.slice r len cap))] w fun e w' => e = .returned (.tuple #[.slice none 0 0, .int .i64 1]) ∧ Below w.heap.size w w' := by
  have Ht := Lib.hid ht
  have H := Lib.hid h
  have Hm := Lib.hid hm
  clear ht h hm
  go_enter Try.func44, Try.ntmps44
  go_upto_region 1 with (refine wpList_box rfl 51 _ rfl (tokRow _ _) rfl ?_)
  have r0 := heap_alloc_new w (.cells (tokRow t (.slice r len cap)) 51)
  refine abstract_world (fun W => W.heap[w.heap.size]? = some (.cells (tokRow t (.slice r len cap)) 51 (0, 0)) ∧ Below w.heap.size w W) ⟨r0, below_one _ _⟩ ?_
  clear r0
  rintro w1 ⟨r0, r1⟩
  have R0 := Lib.hid r0
  have R1 := Lib.hid r1
  clear r0 r1
  go_wp2_with (first
    | (refine wpList_load_row rfl 51 _ rfl _ rfl 51 _ _ _ R0.out Try.underlying51 rfl (info51 t _ Ht.out.tag) ?_)
    | (go_at_call 43; refine (may_any Ht.out (H.out.below R1.out)).mono ?_; rintro e w2 ⟨rfl, hb⟩; rw [Hm.out]; have Hb := Lib.hid hb; clear hb))
  go_ret2
  exact ⟨rfl, below_seq R1.out Hb.out⟩

theorem mayOk_iff {t : Tok} {cs : List (UInt8 × Int)} (h : mayOk t cs = true) : (t.tn.toList.isEmpty = true ∨ nameOk t.tn = true) ∧ t.r < 16 ∧ cs.length ≤ 8 ∧ ∀ c ∈ cs, c.1 < 16 := by
  unfold mayOk at h
  simp only [Bool.and_eq_true, Bool.or_eq_true, decide_eq_true_eq, List.all_eq_true] at h
  exact ⟨h.1.1.1, h.1.1.2, h.1.2, h.2⟩

set_option maxRecDepth 100000 in
set_option maxHeartbeats 4000000 in
theorem bytes_good {w : World} {t : Tok} {r : Option Addr} {len cap : Nat} {cs : List (UInt8 × Int)} (ht : t.Ok) (h : CavsAt w r len cap cs) (hm : mayOk t cs = true) (hn : t.tn.size ≤ 16) :
    Calls Try.prog 44 #[.agg (tokRow t (.slice r len cap))] w fun e w' => ∃ v, e = .returned (.tuple #[v, .int .i64 0]) ∧ OwnB w' w.heap.size v (tokOf t cs) ∧ Below w.heap.size w w' := by
  have hcl := h.hlen
  subst hcl
  have hc8 := (mayOk_iff hm).2.2.1
  obtain ⟨A0, hA0⟩ : ∃ A, A = headOf t := ⟨_, rfl⟩
  obtain ⟨A1, hA1⟩ : ∃ A, A = [1] ++ A0 := ⟨_, rfl⟩
  obtain ⟨A2, hA2⟩ : ∃ A, A = A1 ++ [UInt8.ofNat cs.length] := ⟨_, rfl⟩
  obtain ⟨Z, hZ⟩ : ∃ A, A = tokOf t cs := ⟨_, rfl⟩
  have hZ' : Z = A2 ++ cavsOf cs ++ t.tag := by rw [hZ, hA2, hA1, hA0]; rfl
  rw [← hZ]
  have l0 : A0.length ≤ 42 := by rw [hA0, headOf_length]; omega
  have l1 : A1.length ≤ 43 := by rw [hA1, List.length_append]; simp; omega
  have l2 : A2.length ≤ 44 := by rw [hA2, List.length_append]; simp; omega
  have hct : ∀ k, (cavsOf (cs.take k)).length ≤ 72 := fun k => by rw [cavsOf_length, List.length_take]; omega
  have HA0 := Lib.hid hA0
  have HA1 := Lib.hid hA1
  have HA2 := Lib.hid hA2
  have HZ := Lib.hid hZ'
  have L0 := Lib.hid l0
  have L1 := Lib.hid l1
  have L2 := Lib.hid l2
  have Hct := Lib.hid hct
  have Ht := Lib.hid ht
  have H := Lib.hid h
  have Hm := Lib.hid hm
  have Hn := Lib.hid hn
  clear ht h hm hA0 hA1 hA2 hZ' hZ l0 l1 l2 hct hn
  go_enter Try.func44, Try.ntmps44
  go_upto_region 1 with (refine wpList_box rfl 51 _ rfl (tokRow _ _) rfl ?_)
  have r0 := heap_alloc_new w (.cells (tokRow t (.slice r cs.length cap)) 51)
  refine abstract_world (fun W => W.heap[w.heap.size]? = some (.cells (tokRow t (.slice r cs.length cap)) 51 (0, 0)) ∧ Below w.heap.size w W) ⟨r0, below_one _ _⟩ ?_
  clear r0
  rintro w1 ⟨r0, r1⟩
  have R0 := Lib.hid r0
  have R1 := Lib.hid r1
  have T : Hid (∀ w2, Below w1.heap.size w1 w2 → TokIn w2 w.heap.size t (.slice r cs.length cap)) := Lib.hid fun w2 h2 => tok_in ((h2.block _ (heap_lt r0)).trans r0) Ht.out.tag
  clear r0 r1
  go_upto_region 3 with (first
    | (refine wpList_load_row rfl 51 _ rfl _ rfl 51 _ _ _ R0.out Try.underlying51 rfl (info51 t _ Ht.out.tag) ?_)
    | (go_at_call 43; refine (may_any Ht.out (H.out.below R1.out)).mono ?_; rintro e w2 ⟨rfl, hb⟩; rw [Hm.out]; have Hb2 := Lib.hid hb; clear hb))
  have R2 : Hid ((w2.alloc (.cells #[.int .u8 1] 5)).heap[w.heap.size]? = some (.cells (tokRow t (.slice r cs.length cap)) 51 (0, 0))) := Lib.hid (((below_seq Hb2.out (below_one w2 _)).block _ (heap_lt R0.out)).trans R0.out)
  go_upto_region 4 with (first
    | (refine wpList_load_row rfl 51 _ rfl _ rfl 51 _ _ _ R2.out Try.underlying51 rfl (info51 t _ Ht.out.tag) ?_)
    | (go_at_call 85; refine (head_any _ t _ Ht.out (by have := Hn.out; omega)).mono ?_; rintro e w3 ⟨v3, rfl, ho, hb⟩
       rw [← HA0.out] at ho
       have Ho1 : Hid (OwnB w3 w2.heap.size (.slice (some ⟨w2.heap.size, 0, none⟩) 1 1) [1]) := Lib.hid ((ownB_row w2 [1] #[.int .u8 1] rfl w2.heap.size 1 _ rfl rfl (maxLen_small _ (by omega)) (Nat.le_refl _)).keep hb)
       have Hb3 : Hid (Below w2.heap.size w2 w3) := Lib.hid (below_seq (below_one _ _) hb)
       obtain ⟨n3, hn3⟩ : ∃ n, A0.length = n := ⟨_, rfl⟩
       obtain ⟨r3, c3, rfl, hB, _⟩ := ho.at_len n3 hn3
       have hn3' : n3 ≤ 42 := by have := L0.out; omega
       have HB3 := Lib.hid hB
       clear ho hb hB hn3)
    | ((with_reducible refine wpList_append_bytes rfl (.tmp 10) (.tmp 12) rfl w2.heap.size (.slice (some ⟨w2.heap.size, 0, none⟩) 1 1) [1] A0 r3 n3 c3 rfl rfl Ho1.out HB3.out (by have := L0.out; simp; omega) Hb3.out.size ?_); intro v4 w4 ho4 hg4
       rw [← HA1.out] at ho4
       have Ho4 := Lib.hid ho4
       have Hb4 := Lib.hid (Ho1.out.below Hb3.out Hb3.out.size hg4)
       clear ho4 hg4))
  have c5 := (T.out w4 (below_seq Hb2.out Hb4.out)).c5
  have e8 : IntKind.u8.wrap (cs.length : Int) = (cs.length : Int) := by rw [wrapN8]; omega
  have u8 : Value.int .u8 (cs.length : Int) = W8 (UInt8.ofNat cs.length) := by
    show Value.int .u8 ((cs.length : Nat) : Int) = Value.int .u8 (((UInt8.ofNat cs.length).toNat : Nat) : Int)
    rw [UInt8.toNat_ofNat', Nat.mod_eq_of_lt (by omega)]
  have U8 := Lib.hid u8
  clear u8
  go_upto_region 5 with ((with_reducible refine wpList_append_bytes rfl (.tmp 14) (.tmp 19) rfl w2.heap.size v4 A1 [UInt8.ofNat cs.length] (some ⟨w4.heap.size, 0, none⟩) 1 1 rfl rfl (Ho4.out.keep (below_one _ _)) (bytes_one w4 (UInt8.ofNat cs.length) _ U8.out) (by have := L1.out; simp; omega) (Nat.le_trans Hb4.out.size (below_one _ _).size) ?_); intro v5 w5 ho5 hg5; rw [← HA2.out] at ho5; have Ho5 := Lib.hid ho5; have Hb5 := Lib.hid ((Ho4.out.keep (below_one _ _)).below (below_seq Hb4.out (below_one _ _)) (Nat.le_trans Hb4.out.size (below_one _ _).size) hg5); clear ho5 hg5)
  clear c5 e8
  have c5 := (T.out w5 (below_seq Hb2.out Hb5.out)).c5
  go_upto_region 6 with (fail)
  clear c5
  go_loopw [24, 4] (fun v vv wr => ∃ (k : Nat) (r0 : Option Addr) (n0 c0 : Nat), k ≤ cs.length ∧ v = .int .i64 (k : Int) ∧ .slice r0 n0 c0 = vv ∧ OwnB wr w2.heap.size (.slice r0 n0 c0) (A2 ++ cavsOf (cs.take k)) ∧ Below w2.heap.size w2 wr) (fun v _ _ => cs.length - (intOf v).toNat)
  case atStart =>
    obtain ⟨r5, q5, hv5, _, _⟩ := Ho5.out.at
    exact ⟨0, r5, _, q5, by omega, rfl, hv5.symm, by rw [List.take_zero, ← hv5]; show OwnB w5 w2.heap.size v5 (A2 ++ []); rw [List.append_nil]; exact Ho5.out, Hb5.out⟩
  case round =>
    obtain ⟨k, ro, no, co, hk, rfl, rfl, hok, hb⟩ := hrel
    have Hok := Lib.hid hok
    have Hb := Lib.hid hb
    clear hb hok
    by_cases hlt : k < cs.length
    · obtain ⟨b, o, rfl, hc⟩ := ((H.out.below R1.out).below (below_seq Hb2.out Hb.out)).hcells (by omega)
      obtain ⟨hc1, hc2⟩ := hc k hlt
      have hst := cavsOf_take cs k hlt
      have hz : (Lit.int .i64 (cs[k]?.getD (0, 0)).2).wf = true := by rw [List.getElem?_eq_getElem hlt]; exact H.out.hwf _ (List.getElem_mem hlt)
      obtain ⟨⟨x, z⟩, hxz⟩ : ∃ c, c = cs[k]?.getD (0, 0) := ⟨_, rfl⟩
      rw [← hxz] at hc1 hc2 hst hz
      obtain ⟨S, hS⟩ : ∃ S, S = A2 ++ cavsOf (cs.take k) := ⟨_, rfl⟩
      have hSl : S.length ≤ 116 := by rw [hS, List.length_append]; have := L2.out; have := Hct.out k; omega
      have hst2 : A2 ++ cavsOf (cs.take (k + 1)) = S ++ cavOf x z := by rw [hst, hS, List.append_assoc]
      have HoS : Hid (OwnB wr w2.heap.size (.slice ro no co) S) := Lib.hid (by rw [hS]; exact Hok.out)
      have Hst := Lib.hid hst2
      have HSl := Lib.hid hSl
      have hcap := H.out.hmax
      have hle := H.out.hle
      unfold maxLen at hcap
      simp only at hc1 hc2 hz
      have Hz := Lib.hid hz
      clear hc hxz hst hst2 hS hSl hz Hok
      go_upto_region 8 with (first
        | (refine wpList_allocRow 87 _ alloc87 rfl rfl ?_)
        | (refine wpList_store_row rfl 87 _ _ rfl _ (cavRow x z) rfl rfl 87 _ (heap_alloc_new _ _) (info87 x z) rfl (cavRow_one x z) ?_))
      have r0 : ((wr.alloc (.cells (cavRow 0 0) 87)).setRow wr.heap.size (cavRow x z)).heap[wr.heap.size]? = some (.cells (cavRow x z) 87 (0, 0)) := setRow_heap _ _ _ _ _ _ (heap_alloc_new _ _)
      have r1 : Below wr.heap.size wr ((wr.alloc (.cells (cavRow 0 0) 87)).setRow wr.heap.size (cavRow x z)) := below_row (below_one _ _) (Nat.le_refl _) _
      refine abstract_world (fun W => W.heap[wr.heap.size]? = some (.cells (cavRow x z) 87 (0, 0)) ∧ Below wr.heap.size wr W) ⟨r0, r1⟩ ?_
      clear r0 r1 hc1 hc2
      generalize hg4 : wr.heap.size = g4 at *
      rintro w6 ⟨r0, r1⟩
      rw [← hg4] at r1
      have C0 := Lib.hid r0
      have Ho6 := Lib.hid (HoS.out.keep r1)
      have Hb6 := Lib.hid (below_seq Hb.out r1)
      clear r0 r1
      go_wp2_with (first
        | (refine wpList_load_row rfl 87 _ rfl _ rfl 87 _ _ _ C0.out Try.underlying87 rfl (info87 x z) ?_)
        | (go_at_call 86; refine (caveat_any _ x z Hz.out).mono ?_; rintro e w7 ⟨v7, rfl, ho, hb⟩
           obtain ⟨r7, c7, rfl, hB, _⟩ := ho.at_len 9 (cavOf_length _ _)
           have HB7 := Lib.hid hB
           have Ho7 := Lib.hid (Ho6.out.keep hb)
           have Hb7 := Lib.hid (below_seq Hb6.out hb)
           clear ho hb hB)
        | ((with_reducible refine wpList_append_bytes rfl (.tmp 28) (.tmp 30) rfl w2.heap.size (.slice ro no co) S (cavOf x z) r7 9 c7 rfl rfl Ho7.out HB7.out (by have := HSl.out; rw [cavOf_length]; omega) Hb7.out.size ?_); intro v8 w8 ho8 hg8
           rw [← Hst.out] at ho8
           have Ho8 := Lib.hid ho8
           have Hb8 := Lib.hid (Ho7.out.below Hb7.out Hb7.out.size hg8)
           clear ho8 hg8))
      obtain ⟨r8, q8, hv8, _, _⟩ := Ho8.out.at
      exact ⟨⟨k + 1, r8, _, q8, by omega, by go_num, hv8.symm, by rw [← hv8]; exact Ho8.out, Hb8.out⟩, by simp [intOf]; omega⟩
    · obtain rfl : k = cs.length := by omega
      rw [List.take_length] at Hok
      have TG := Lib.hid (T.out wr (below_seq Hb2.out Hb.out)).tag
      have hSl : (A2 ++ cavsOf cs).length ≤ 116 := by rw [List.length_append]; have := L2.out; have := Hct.out cs.length; rw [List.take_length] at this; omega
      obtain ⟨S, hS⟩ : ∃ S, S = A2 ++ cavsOf cs := ⟨_, rfl⟩
      have hz := HZ.out
      rw [← hS] at Hok hSl hz
      have HSl := Lib.hid hSl
      have HZ2 := Lib.hid hz
      have Htl := Lib.hid Ht.out.tag
      clear hS hSl hz
      go_wp2_with ((with_reducible refine wpList_append_bytes rfl (.tmp 33) (.tmp 35) rfl w2.heap.size (.slice ro no co) S t.tag (some ⟨w.heap.size, 6, none⟩) 32 32 rfl rfl Hok.out TG.out (by have := HSl.out; rw [Htl.out]; omega) Hb.out.size ?_); intro v8 w8 ho8 hg8; rw [← HZ2.out] at ho8; have Ho8 := Lib.hid ho8; have Hb8 := Lib.hid (Hok.out.below Hb.out Hb.out.size hg8); clear ho8 hg8)
      go_ret2
      exact ⟨_, rfl, ownB_base Ho8.out (below_seq R1.out Hb2.out).size, below_seq R1.out (below_seq Hb2.out Hb8.out)⟩
end Go.Proofs.Ytafakjdolnigaaa

namespace Go.Proofs.Ytafakjdolnigaaa
open Go.RowKit
set_option linter.unusedVariables false

theorem mayOk_size {t : Tok} {cs : List (UInt8 × Int)} (h : mayOk t cs = true) : t.tn.size ≤ 16 := by
  rcases (mayOk_iff h).1 with h1 | h1
  · rw [ByteArray.toList_eq, List.isEmpty_iff] at h1
    have : t.tn.data.toList.length = 0 := by rw [h1]; rfl
    have e : t.tn.size = t.tn.data.toList.length := rfl
    omega
  · exact nameOk_size h1

set_option maxHeartbeats 1000000 in
theorem covers_any (w : World) (a b : UInt8) : Calls Try.prog 77 #[W8 a, W8 b] w fun e w' => e = .returned (.bool ((b &&& ~~~a) == 0)) ∧ w = w' := by
  go_enter Try.func77, Try.ntmps77
  go_wp2
  go_ret
  exact ⟨rfl, rfl⟩

set_option maxRecDepth 100000 in
set_option maxHeartbeats 1000000 in
theorem light_any {w : World} {t : Tok} {r : Option Addr} {len cap : Nat} (ht : t.tag.length = 32) :
    Calls Try.prog 42 #[.agg (tokRow t (.slice r len cap))] w fun e w' => e = .returned (.bool (decide (t.tn.size ≤ 1024) && decide (len ≤ 64))) ∧ Below w.heap.size w w' := by
  obtain ⟨s, tn, rr, f, u, tag⟩ := t
  have Ht := Lib.hid ht
  clear ht
  obtain ⟨B, hB⟩ : ∃ B, B = (decide (tn.size ≤ 1024) && decide (len ≤ 64)) := ⟨_, rfl⟩
  show Calls Try.prog 42 _ w fun e w' => e = .returned (.bool (decide (tn.size ≤ 1024) && decide (len ≤ 64))) ∧ Below w.heap.size w w'
  rw [← hB]
  have HB := Lib.hid hB
  clear hB
  go_enter Try.func42, Try.ntmps42
  go_upto_region 1 with (refine wpList_box rfl 51 _ rfl (tokRow _ _) rfl ?_)
  have r0 := heap_alloc_new w (.cells (tokRow ⟨s, tn, rr, f, u, tag⟩ (.slice r len cap)) 51)
  refine abstract_world (fun W => W.heap[w.heap.size]? = some (.cells (tokRow ⟨s, tn, rr, f, u, tag⟩ (.slice r len cap)) 51 (0, 0)) ∧ Below w.heap.size w W) ⟨r0, below_one _ _⟩ ?_
  clear r0
  rintro w1 ⟨r0, r1⟩
  have T := tok_in r0 Ht.out
  have c1 := T.c1
  have c5 := T.c5
  simp only at c1 c5
  have R1 := Lib.hid r1
  clear T r0 r1
  by_cases h1 : tn.size ≤ 1024
  · by_cases h2 : len ≤ 64
    · have hb : B = true := by rw [HB.out]; simp [h1, h2]
      have e : Hid (decide ((len : Int) ≤ 64) = true) := Lib.hid (by simp; omega)
      subst hb
      go_wp2
      go_ret
      exact ⟨congrArg (fun b => Ending.returned (.bool b)) e.out, R1.out⟩
    · have hb : B = false := by rw [HB.out]; simp [h2]
      have e : Hid (decide ((len : Int) ≤ 64) = false) := Lib.hid (by simp; omega)
      subst hb
      go_wp2
      go_ret
      exact ⟨congrArg (fun b => Ending.returned (.bool b)) e.out, R1.out⟩
  · have hb : B = false := by rw [HB.out]; simp [h1]
    subst hb
    go_wp2
    go_ret
    exact ⟨rfl, R1.out⟩
end Go.Proofs.Ytafakjdolnigaaa
