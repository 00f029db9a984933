/- The reference's Bytes. Printed by gen_refbytes.py. -/
import Derived.Deep.DeepCutAuto
import Derived.Test.YtafakjdolnigaaaGTok
namespace Go.Proofs.Ytafakjdolnigaaa
open Go.RowKit
set_option linter.unusedVariables false

section
variable {P : Program} {ops : Array Oper} {md : Region.Mode} {C : World → Prop} {F : Act → World → Prop}
/-- Three are ready. -/
theorem m_pick3 {f : Nat} {listed : Array Bool} {a : Act} {w : World} (i k l : Nat) (hr : Region.ready md ops listed = [i, k, l])
    (h1 : wpOp P ops NoExit i (fun a' w' => C w' ∧ mAny P md ops C F f (listed.setIfInBounds i true) a' w') a w)
    (h2 : wpOp P ops NoExit k (fun a' w' => C w' ∧ mAny P md ops C F f (listed.setIfInBounds k true) a' w') a w)
    (h3 : wpOp P ops NoExit l (fun a' w' => C w' ∧ mAny P md ops C F f (listed.setIfInBounds l true) a' w') a w) : mAny P md ops C F (f + 1) listed a w := by
  refine ⟨fun h0 => (by rw [hr] at h0; cases h0), fun j hj => ?_⟩
  rw [hr] at hj
  have hj2 : j = i ∨ j = k ∨ j = l := by simpa using hj
  rcases hj2 with rfl | rfl | rfl
  · exact h1
  · exact h2
  · exact h3
end
theorem m1own (w : World) (base : Nat) (hb : base ≤ w.heap.size) : OwnB (w.alloc (.cells #[.int .u8 1] 5)) base (.slice (some ⟨w.heap.size, 0, none⟩) 1 1) [1] :=
  ownB_row w [1] #[.int .u8 1] rfl base 1 _ rfl rfl (maxLen_small _ (by omega)) hb

set_option maxRecDepth 100000 in
set_option maxHeartbeats 4000000 in
theorem refBytes_bad {w : World} {t : Tok} {r : Option Addr} {len cap : Nat} {cs : List (UInt8 × Int)} (ht : t.Ok) (h : CavsAt w r len cap cs) (hm : mayOk t cs = false) :
    Calls Try.prog 78 #[.agg (tokRow t (.slice r len cap))] w fun e w' => e = .returned (.tuple #[.slice none 0 0, .int .i64 1]) ∧ Below w.heap.size w w' := by
  have Ht := Lib.hid ht
  have H := Lib.hid h
  have Hm := Lib.hid hm
  clear ht h hm
  go_enter Try.func78, Try.ntmps78
  go_upto_region 1 with (refine wpList_box rfl 51 _ rfl (tokRow _ _) rfl ?_)
  have r0 := heap_alloc_new w (.cells (tokRow t (.slice r len cap)) 51)
  refine abstract_world (fun W => W.heap[w.heap.size]? = some (.cells (tokRow t (.slice r len cap)) 51 (0, 0)) ∧ Below w.heap.size w W) ⟨r0, below_one _ _⟩ ?_
  clear r0
  rintro w1 ⟨r0, r1⟩
  have R0 := Lib.hid r0
  have R1 := Lib.hid r1
  clear r0 r1
  go_wp2_with (first
    | (refine wpList_load_row rfl 51 _ rfl _ rfl 51 _ _ _ R0.out Try.underlying51 rfl (info51 t _ Ht.out.tag) ?_)
    | (go_at_call 75; refine (refMay_any Ht.out (H.out.below R1.out)).mono ?_; rintro e w2 ⟨rfl, hb⟩; rw [Hm.out]; have Hb := Lib.hid hb; clear hb))
  go_ret2
  exact ⟨rfl, below_seq R1.out Hb.out⟩

set_option maxRecDepth 100000 in
set_option maxHeartbeats 16000000 in
theorem refBytes_good {w : World} {t : Tok} {r : Option Addr} {len cap : Nat} {cs : List (UInt8 × Int)} (ht : t.Ok) (h : CavsAt w r len cap cs) (hm : mayOk t cs = true) (hn : t.tn.size ≤ 16) :
    Calls Try.prog 78 #[.agg (tokRow t (.slice r len cap))] w fun e w' => ∃ v, e = .returned (.tuple #[v, .int .i64 0]) ∧ OwnB w' w.heap.size v (tokOf t cs) ∧ Below w.heap.size w w' := by
  have hcl := h.hlen
  subst hcl
  have hc8 := (mayOk_iff hm).2.2.1
  obtain ⟨A0, hA0⟩ : ∃ A, A = headOf t := ⟨_, rfl⟩
  obtain ⟨A1, hA1⟩ : ∃ A, A = [1] ++ A0 := ⟨_, rfl⟩
  obtain ⟨A2, hA2⟩ : ∃ A, A = A1 ++ [UInt8.ofNat cs.length] := ⟨_, rfl⟩
  obtain ⟨n5, hn5⟩ : ∃ n, A0.length = n := ⟨_, rfl⟩
  obtain ⟨Z, hZ⟩ : ∃ A, A = tokOf t cs := ⟨_, rfl⟩
  have hZ' : Z = A2 ++ cavsOf cs ++ t.tag := by rw [hZ, hA2, hA1, hA0]; rfl
  rw [← hZ]
  have l0 : A0.length ≤ 42 := by rw [hA0, headOf_length]; omega
  have l1 : A1.length ≤ 43 := by rw [hA1, List.length_append]; simp; omega
  have l2 : A2.length ≤ 44 := by rw [hA2, List.length_append]; simp; omega
  have hct : ∀ k, (cavsOf (cs.take k)).length ≤ 72 := fun k => by rw [cavsOf_length, List.length_take]; omega
  have HA0 := Lib.hid hA0
  have HA1 := Lib.hid hA1
  have HA2 := Lib.hid hA2
  have HZ := Lib.hid hZ'
  have Hn5 := Lib.hid hn5
  have L0 := Lib.hid l0
  have L1 := Lib.hid l1
  have L2 := Lib.hid l2
  have Hct := Lib.hid hct
  have Ht := Lib.hid ht
  have H := Lib.hid h
  have Hm := Lib.hid hm
  have Hn := Lib.hid hn
  clear ht h hm hA0 hA1 hA2 hZ' hZ l0 l1 l2 hct hn hn5
  go_enter Try.func78, Try.ntmps78
  go_upto_region 1 with (refine wpList_box rfl 51 _ rfl (tokRow _ _) rfl ?_)
  have r0 := heap_alloc_new w (.cells (tokRow t (.slice r cs.length cap)) 51)
  refine abstract_world (fun W => W.heap[w.heap.size]? = some (.cells (tokRow t (.slice r cs.length cap)) 51 (0, 0)) ∧ Below w.heap.size w W) ⟨r0, below_one _ _⟩ ?_
  clear r0
  rintro w1 ⟨r0, r1⟩
  have R0 := Lib.hid r0
  have R1 := Lib.hid r1
  have T : Hid (∀ w2, Below w1.heap.size w1 w2 → TokIn w2 w.heap.size t (.slice r cs.length cap)) := Lib.hid fun w2 h2 => tok_in ((h2.block _ (heap_lt r0)).trans r0) Ht.out.tag
  clear r0 r1
  go_upto_region 3 with (first
    | (refine wpList_load_row rfl 51 _ rfl _ rfl 51 _ _ _ R0.out Try.underlying51 rfl (info51 t _ Ht.out.tag) ?_)
    | (go_at_call 75; refine (refMay_any Ht.out (H.out.below R1.out)).mono ?_; rintro e w2 ⟨rfl, hb⟩; rw [Hm.out]; have Hb2 := Lib.hid hb; clear hb))
  have e8 : IntKind.u8.wrap (cs.length : Int) = (cs.length : Int) := by rw [wrapN8]; omega
  have u8 : Value.int .u8 (cs.length : Int) = W8 (UInt8.ofNat cs.length) := by
    show Value.int .u8 ((cs.length : Nat) : Int) = Value.int .u8 (((UInt8.ofNat cs.length).toNat : Nat) : Int)
    rw [UInt8.toNat_ofNat', Nat.mod_eq_of_lt (by omega)]
  have U8 := Lib.hid u8
  clear u8
  have T2 : Hid (∀ w', Below w2.heap.size w2 w' → w'.heap[w.heap.size]? = some (.cells (tokRow t (.slice r cs.length cap)) 51 (0, 0))) := Lib.hid fun w' hw => ((below_seq Hb2.out hw).block _ (heap_lt R0.out)).trans R0.out
  go_cut [4] from 9 to 37 (fun v4 wx => ∃ (ro : Option Addr) (no co : Nat), v4 = .slice ro no co ∧ OwnB wx w2.heap.size (.slice ro no co) A2 ∧ Below w2.heap.size w2 wx)
  case first =>
    have hcd : Below w2.heap.size w2 w2.drew := (Below.refl _ _).drew
    refine region_k (fun w' => Below w2.heap.size w2 w') (by kernel_rfl) hcd (fun Kr hKr => ?_)
    refine g_quiet hcd 1 10 (.agg (tokRow t (.slice r cs.length cap))) (by kernel_rfl) (by kernel_rfl) (by kernel_rfl) (by kernel_rfl) (fun w3 hw3 => load51_hy (.tmp 1) (by kernel_rfl) w.heap.size t _ Ht.out.tag (by kernel_rfl) _ (T2.out w3 hw3)) ?_
    refine g_quiet hcd 4 13 (.pointer (some ⟨w.heap.size, 5, none⟩)) (by kernel_rfl) (by kernel_rfl) (by kernel_rfl) (by kernel_rfl) (fun w3 hw3 => by go_simp) ?_
    refine g_quiet hcd 5 14 (.slice r cs.length cap) (by kernel_rfl) (by kernel_rfl) (by kernel_rfl) (by kernel_rfl) (fun w3 hw3 => by have c := (tok_in (T2.out w3 hw3) Ht.out.tag).c5; go_simp) ?_
    refine g_quiet hcd 6 15 (.int .i64 (cs.length : Int)) (by kernel_rfl) (by kernel_rfl) (by kernel_rfl) (by kernel_rfl) (fun w3 hw3 => by go_simp) ?_
    refine g_quiet hcd 7 16 (.int .u8 (cs.length : Int)) (by kernel_rfl) (by kernel_rfl) (by kernel_rfl) (by kernel_rfl) (fun w3 hw3 => by go_simp) ?_
    simp only [Act.put, List.setIfInBounds_toArray, List.set_cons_succ, List.set_cons_zero]
    refine m_pick3 0 2 8 (by kernel_rfl) ?_ ?_ ?_
    · skip
      refine (g_val (d := 9) (.slice (some ⟨w2.drew.heap.size, 0, none⟩) 1 1) (w2.drew.alloc (.cells #[.int .u8 1] 5)) (by kernel_rfl) (by kernel_rfl) ?_)
      have b1 := below_one w2.drew (.cells #[.int .u8 1] 5)
      have h1 := below_seq hcd b1
      have f0 := m1own w2.drew w2.heap.size hcd.size
      obtain ⟨g0, hg0⟩ : ∃ k, k = w2.drew.heap.size := ⟨_, rfl⟩
      have lg0 : g0 < (w2.drew.alloc (.cells #[.int .u8 1] 5)).heap.size := by rw [hg0]; simp
      obtain ⟨x1, hx1⟩ : ∃ x, x = w2.drew.alloc (.cells #[.int .u8 1] 5) := ⟨_, rfl⟩
      rw [← hx1] at h1 lg0
      rw [← hg0, ← hx1] at f0
      rw [← hg0, ← hx1]
      refine ⟨h1, ?_⟩
      simp only [Act.put, List.setIfInBounds_toArray, List.set_cons_succ, List.set_cons_zero]
      refine m_pick2 2 8 (by kernel_rfl) ?_ ?_
      · skip
        refine (g_call (d := 11) 106 #[.agg (tokRow t (.slice r cs.length cap))] (by kernel_rfl) (by kernel_rfl) ((refHead_any _ t _ Ht.out (by have := Hn.out; omega)).mono ?_))
        rintro e x2 ⟨v2, rfl, ho, b2⟩
        rw [← HA0.out] at ho
        obtain ⟨r5, c5, rfl, f2, _⟩ := ho.at_len n5 Hn5.out
        have h2 := below_seq h1 b2
        have f0 := f0.keep b2
        have lg0 := Nat.lt_of_lt_of_le lg0 b2.size
        refine ⟨_, rfl, h2, ?_⟩
        simp only [Act.put, List.setIfInBounds_toArray, List.set_cons_succ, List.set_cons_zero]
        refine m_pick2 3 8 (by kernel_rfl) ?_ ?_
        · skip
          refine (g_app (d := 12) (.tmp 9) (.tmp 11) (by kernel_rfl) (by kernel_rfl) w2.heap.size (.slice (some ⟨g0, 0, none⟩) 1 1) [1] A0 r5 n5 c5 (by kernel_rfl) (by kernel_rfl) f0 f2 (by have := L0.out; simp; omega) h2.size ?_)
          intro v3 x3 f3 hg3
          rw [← HA1.out] at f3
          have h3 := f0.below h2 h2.size hg3
          refine ⟨h3, ?_⟩
          simp only [Act.put, List.setIfInBounds_toArray, List.set_cons_succ, List.set_cons_zero]
          refine m_pick 8 (by kernel_rfl) ?_
          refine (g_val (d := 17) (.slice (some ⟨x3.heap.size, 0, none⟩) 1 1) (x3.alloc (.cells #[.int .u8 (cs.length : Int)] 5)) (by kernel_rfl) (by kernel_rfl) ?_)
          have b4 := below_one x3 (.cells #[.int .u8 (cs.length : Int)] 5)
          have h4 := below_seq h3 b4
          have f8 := bytes_one x3 (UInt8.ofNat cs.length) _ U8.out
          have f3 := f3.keep b4
          obtain ⟨k8, hk8⟩ : ∃ k, k = x3.heap.size := ⟨_, rfl⟩
          have lk8 : k8 < (x3.alloc (.cells #[.int .u8 (cs.length : Int)] 5)).heap.size := by rw [hk8]; simp
          obtain ⟨x4, hx4⟩ : ∃ x, x = x3.alloc (.cells #[.int .u8 (cs.length : Int)] 5) := ⟨_, rfl⟩
          rw [← hx4] at h4 lk8
          rw [← hk8, ← hx4] at f8
          rw [← hx4] at f3
          rw [← hk8, ← hx4]
          refine ⟨h4, ?_⟩
          simp only [Act.put, List.setIfInBounds_toArray, List.set_cons_succ, List.set_cons_zero]
          refine m_pick 9 (by kernel_rfl) ?_
          refine (g_app (d := 18) (.tmp 12) (.tmp 17) (by kernel_rfl) (by kernel_rfl) w2.heap.size v3 A1 [UInt8.ofNat cs.length] (some ⟨k8, 0, none⟩) 1 1 (by kernel_rfl) (by kernel_rfl) f3 f8 (by have := L1.out; simp; omega) h4.size ?_)
          intro v9 x5 f9 hg5
          rw [← HA2.out] at f9
          have h5 := f3.below h4 h4.size hg5
          refine ⟨h5, ?_⟩
          simp only [Act.put, List.setIfInBounds_toArray, List.set_cons_succ, List.set_cons_zero]
          refine g_quiet h5 10 4 v9 (by kernel_rfl) (by kernel_rfl) (by kernel_rfl) (by kernel_rfl) (fun _ _ => by kernel_rfl) ?_
          refine m_end (by kernel_rfl) ?_
          simp only [Act.put, List.setIfInBounds_toArray, List.set_cons_succ, List.set_cons_zero]
          go_wp2
          go_meet
          obtain ⟨r9, q9, hv9, _, _⟩ := f9.at
          exact ⟨r9, _, q9, hv9, by rw [← hv9]; exact f9, h5⟩
        · skip
          refine (g_val (d := 17) (.slice (some ⟨x2.heap.size, 0, none⟩) 1 1) (x2.alloc (.cells #[.int .u8 (cs.length : Int)] 5)) (by kernel_rfl) (by kernel_rfl) ?_)
          have b6 := below_one x2 (.cells #[.int .u8 (cs.length : Int)] 5)
          have h6 := below_seq h2 b6
          have f8 := bytes_one x2 (UInt8.ofNat cs.length) _ U8.out
          have f0 := f0.keep b6
          have hne : x2.heap.size ≠ g0 := by omega
          have f2 := f2.below b6
          obtain ⟨k8, hk8⟩ : ∃ k, k = x2.heap.size := ⟨_, rfl⟩
          have lk8 : k8 < (x2.alloc (.cells #[.int .u8 (cs.length : Int)] 5)).heap.size := by rw [hk8]; simp
          have lg0 : g0 < (x2.alloc (.cells #[.int .u8 (cs.length : Int)] 5)).heap.size := Nat.lt_of_lt_of_le lg0 b6.size
          obtain ⟨x6, hx6⟩ : ∃ x, x = x2.alloc (.cells #[.int .u8 (cs.length : Int)] 5) := ⟨_, rfl⟩
          rw [← hx6] at h6 lk8
          rw [← hk8, ← hx6] at f8
          rw [← hx6] at f0 lg0
          rw [← hk8] at hne
          rw [← hx6] at f2
          rw [← hk8, ← hx6]
          refine ⟨h6, ?_⟩
          simp only [Act.put, List.setIfInBounds_toArray, List.set_cons_succ, List.set_cons_zero]
          refine m_pick 3 (by kernel_rfl) ?_
          refine (g_app (d := 12) (.tmp 9) (.tmp 11) (by kernel_rfl) (by kernel_rfl) w2.heap.size (.slice (some ⟨g0, 0, none⟩) 1 1) [1] A0 r5 n5 c5 (by kernel_rfl) (by kernel_rfl) f0 f2 (by have := L0.out; simp; omega) h6.size ?_)
          intro v3 x7 f3 hg7
          rw [← HA1.out] at f3
          have h7 := f0.below h6 h6.size hg7
          have f8 := f8.grown hg7 (fun a ha _ => by obtain rfl := Option.some.inj ha; intro hq; exact hne (Option.some.inj hq))
          have lk8 := Nat.lt_of_lt_of_le lk8 hg7.size
          refine ⟨h7, ?_⟩
          simp only [Act.put, List.setIfInBounds_toArray, List.set_cons_succ, List.set_cons_zero]
          refine m_pick 9 (by kernel_rfl) ?_
          refine (g_app (d := 18) (.tmp 12) (.tmp 17) (by kernel_rfl) (by kernel_rfl) w2.heap.size v3 A1 [UInt8.ofNat cs.length] (some ⟨k8, 0, none⟩) 1 1 (by kernel_rfl) (by kernel_rfl) f3 f8 (by have := L1.out; simp; omega) h7.size ?_)
          intro v9 x8 f9 hg8
          rw [← HA2.out] at f9
          have h8 := f3.below h7 h7.size hg8
          refine ⟨h8, ?_⟩
          simp only [Act.put, List.setIfInBounds_toArray, List.set_cons_succ, List.set_cons_zero]
          refine g_quiet h8 10 4 v9 (by kernel_rfl) (by kernel_rfl) (by kernel_rfl) (by kernel_rfl) (fun _ _ => by kernel_rfl) ?_
          refine m_end (by kernel_rfl) ?_
          simp only [Act.put, List.setIfInBounds_toArray, List.set_cons_succ, List.set_cons_zero]
          go_wp2
          go_meet
          obtain ⟨r9, q9, hv9, _, _⟩ := f9.at
          exact ⟨r9, _, q9, hv9, by rw [← hv9]; exact f9, h8⟩
      · skip
        refine (g_val (d := 17) (.slice (some ⟨x1.heap.size, 0, none⟩) 1 1) (x1.alloc (.cells #[.int .u8 (cs.length : Int)] 5)) (by kernel_rfl) (by kernel_rfl) ?_)
        have b9 := below_one x1 (.cells #[.int .u8 (cs.length : Int)] 5)
        have h9 := below_seq h1 b9
        have f8 := bytes_one x1 (UInt8.ofNat cs.length) _ U8.out
        have f0 := f0.keep b9
        have hne : x1.heap.size ≠ g0 := by omega
        obtain ⟨k8, hk8⟩ : ∃ k, k = x1.heap.size := ⟨_, rfl⟩
        have lk8 : k8 < (x1.alloc (.cells #[.int .u8 (cs.length : Int)] 5)).heap.size := by rw [hk8]; simp
        have lg0 : g0 < (x1.alloc (.cells #[.int .u8 (cs.length : Int)] 5)).heap.size := Nat.lt_of_lt_of_le lg0 b9.size
        obtain ⟨x9, hx9⟩ : ∃ x, x = x1.alloc (.cells #[.int .u8 (cs.length : Int)] 5) := ⟨_, rfl⟩
        rw [← hx9] at h9 lk8
        rw [← hk8, ← hx9] at f8
        rw [← hx9] at f0 lg0
        rw [← hk8] at hne
        rw [← hk8, ← hx9]
        refine ⟨h9, ?_⟩
        simp only [Act.put, List.setIfInBounds_toArray, List.set_cons_succ, List.set_cons_zero]
        refine m_pick 2 (by kernel_rfl) ?_
        refine (g_call (d := 11) 106 #[.agg (tokRow t (.slice r cs.length cap))] (by kernel_rfl) (by kernel_rfl) ((refHead_any _ t _ Ht.out (by have := Hn.out; omega)).mono ?_))
        rintro e x10 ⟨v10, rfl, ho, b10⟩
        rw [← HA0.out] at ho
        obtain ⟨r5, c5, rfl, f2, _⟩ := ho.at_len n5 Hn5.out
        have h10 := below_seq h9 b10
        have f0 := f0.keep b10
        have lg0 := Nat.lt_of_lt_of_le lg0 b10.size
        have f8 := f8.below b10
        have lk8 := Nat.lt_of_lt_of_le lk8 b10.size
        refine ⟨_, rfl, h10, ?_⟩
        simp only [Act.put, List.setIfInBounds_toArray, List.set_cons_succ, List.set_cons_zero]
        refine m_pick 3 (by kernel_rfl) ?_
        refine (g_app (d := 12) (.tmp 9) (.tmp 11) (by kernel_rfl) (by kernel_rfl) w2.heap.size (.slice (some ⟨g0, 0, none⟩) 1 1) [1] A0 r5 n5 c5 (by kernel_rfl) (by kernel_rfl) f0 f2 (by have := L0.out; simp; omega) h10.size ?_)
        intro v3 x11 f3 hg11
        rw [← HA1.out] at f3
        have h11 := f0.below h10 h10.size hg11
        have f8 := f8.grown hg11 (fun a ha _ => by obtain rfl := Option.some.inj ha; intro hq; exact hne (Option.some.inj hq))
        have lk8 := Nat.lt_of_lt_of_le lk8 hg11.size
        refine ⟨h11, ?_⟩
        simp only [Act.put, List.setIfInBounds_toArray, List.set_cons_succ, List.set_cons_zero]
        refine m_pick 9 (by kernel_rfl) ?_
        refine (g_app (d := 18) (.tmp 12) (.tmp 17) (by kernel_rfl) (by kernel_rfl) w2.heap.size v3 A1 [UInt8.ofNat cs.length] (some ⟨k8, 0, none⟩) 1 1 (by kernel_rfl) (by kernel_rfl) f3 f8 (by have := L1.out; simp; omega) h11.size ?_)
        intro v9 x12 f9 hg12
        rw [← HA2.out] at f9
        have h12 := f3.below h11 h11.size hg12
        refine ⟨h12, ?_⟩
        simp only [Act.put, List.setIfInBounds_toArray, List.set_cons_succ, List.set_cons_zero]
        refine g_quiet h12 10 4 v9 (by kernel_rfl) (by kernel_rfl) (by kernel_rfl) (by kernel_rfl) (fun _ _ => by kernel_rfl) ?_
        refine m_end (by kernel_rfl) ?_
        simp only [Act.put, List.setIfInBounds_toArray, List.set_cons_succ, List.set_cons_zero]
        go_wp2
        go_meet
        obtain ⟨r9, q9, hv9, _, _⟩ := f9.at
        exact ⟨r9, _, q9, hv9, by rw [← hv9]; exact f9, h12⟩
    · skip
      refine (g_call (d := 11) 106 #[.agg (tokRow t (.slice r cs.length cap))] (by kernel_rfl) (by kernel_rfl) ((refHead_any _ t _ Ht.out (by have := Hn.out; omega)).mono ?_))
      rintro e x13 ⟨v13, rfl, ho, b13⟩
      rw [← HA0.out] at ho
      obtain ⟨r5, c5, rfl, f2, _⟩ := ho.at_len n5 Hn5.out
      have h13 := below_seq hcd b13
      refine ⟨_, rfl, h13, ?_⟩
      simp only [Act.put, List.setIfInBounds_toArray, List.set_cons_succ, List.set_cons_zero]
      refine m_pick2 0 8 (by kernel_rfl) ?_ ?_
      · skip
        refine (g_val (d := 9) (.slice (some ⟨x13.heap.size, 0, none⟩) 1 1) (x13.alloc (.cells #[.int .u8 1] 5)) (by kernel_rfl) (by kernel_rfl) ?_)
        have b14 := below_one x13 (.cells #[.int .u8 1] 5)
        have h14 := below_seq h13 b14
        have f0 := m1own x13 w2.heap.size h13.size
        have f2 := f2.below b14
        obtain ⟨g0, hg0⟩ : ∃ k, k = x13.heap.size := ⟨_, rfl⟩
        have lg0 : g0 < (x13.alloc (.cells #[.int .u8 1] 5)).heap.size := by rw [hg0]; simp
        obtain ⟨x14, hx14⟩ : ∃ x, x = x13.alloc (.cells #[.int .u8 1] 5) := ⟨_, rfl⟩
        rw [← hx14] at h14 lg0
        rw [← hg0, ← hx14] at f0
        rw [← hx14] at f2
        rw [← hg0, ← hx14]
        refine ⟨h14, ?_⟩
        simp only [Act.put, List.setIfInBounds_toArray, List.set_cons_succ, List.set_cons_zero]
        refine m_pick2 3 8 (by kernel_rfl) ?_ ?_
        · skip
          refine (g_app (d := 12) (.tmp 9) (.tmp 11) (by kernel_rfl) (by kernel_rfl) w2.heap.size (.slice (some ⟨g0, 0, none⟩) 1 1) [1] A0 r5 n5 c5 (by kernel_rfl) (by kernel_rfl) f0 f2 (by have := L0.out; simp; omega) h14.size ?_)
          intro v3 x15 f3 hg15
          rw [← HA1.out] at f3
          have h15 := f0.below h14 h14.size hg15
          refine ⟨h15, ?_⟩
          simp only [Act.put, List.setIfInBounds_toArray, List.set_cons_succ, List.set_cons_zero]
          refine m_pick 8 (by kernel_rfl) ?_
          refine (g_val (d := 17) (.slice (some ⟨x15.heap.size, 0, none⟩) 1 1) (x15.alloc (.cells #[.int .u8 (cs.length : Int)] 5)) (by kernel_rfl) (by kernel_rfl) ?_)
          have b16 := below_one x15 (.cells #[.int .u8 (cs.length : Int)] 5)
          have h16 := below_seq h15 b16
          have f8 := bytes_one x15 (UInt8.ofNat cs.length) _ U8.out
          have f3 := f3.keep b16
          obtain ⟨k8, hk8⟩ : ∃ k, k = x15.heap.size := ⟨_, rfl⟩
          have lk8 : k8 < (x15.alloc (.cells #[.int .u8 (cs.length : Int)] 5)).heap.size := by rw [hk8]; simp
          obtain ⟨x16, hx16⟩ : ∃ x, x = x15.alloc (.cells #[.int .u8 (cs.length : Int)] 5) := ⟨_, rfl⟩
          rw [← hx16] at h16 lk8
          rw [← hk8, ← hx16] at f8
          rw [← hx16] at f3
          rw [← hk8, ← hx16]
          refine ⟨h16, ?_⟩
          simp only [Act.put, List.setIfInBounds_toArray, List.set_cons_succ, List.set_cons_zero]
          refine m_pick 9 (by kernel_rfl) ?_
          refine (g_app (d := 18) (.tmp 12) (.tmp 17) (by kernel_rfl) (by kernel_rfl) w2.heap.size v3 A1 [UInt8.ofNat cs.length] (some ⟨k8, 0, none⟩) 1 1 (by kernel_rfl) (by kernel_rfl) f3 f8 (by have := L1.out; simp; omega) h16.size ?_)
          intro v9 x17 f9 hg17
          rw [← HA2.out] at f9
          have h17 := f3.below h16 h16.size hg17
          refine ⟨h17, ?_⟩
          simp only [Act.put, List.setIfInBounds_toArray, List.set_cons_succ, List.set_cons_zero]
          refine g_quiet h17 10 4 v9 (by kernel_rfl) (by kernel_rfl) (by kernel_rfl) (by kernel_rfl) (fun _ _ => by kernel_rfl) ?_
          refine m_end (by kernel_rfl) ?_
          simp only [Act.put, List.setIfInBounds_toArray, List.set_cons_succ, List.set_cons_zero]
          go_wp2
          go_meet
          obtain ⟨r9, q9, hv9, _, _⟩ := f9.at
          exact ⟨r9, _, q9, hv9, by rw [← hv9]; exact f9, h17⟩
        · skip
          refine (g_val (d := 17) (.slice (some ⟨x14.heap.size, 0, none⟩) 1 1) (x14.alloc (.cells #[.int .u8 (cs.length : Int)] 5)) (by kernel_rfl) (by kernel_rfl) ?_)
          have b18 := below_one x14 (.cells #[.int .u8 (cs.length : Int)] 5)
          have h18 := below_seq h14 b18
          have f8 := bytes_one x14 (UInt8.ofNat cs.length) _ U8.out
          have f0 := f0.keep b18
          have hne : x14.heap.size ≠ g0 := by omega
          have f2 := f2.below b18
          obtain ⟨k8, hk8⟩ : ∃ k, k = x14.heap.size := ⟨_, rfl⟩
          have lk8 : k8 < (x14.alloc (.cells #[.int .u8 (cs.length : Int)] 5)).heap.size := by rw [hk8]; simp
          have lg0 : g0 < (x14.alloc (.cells #[.int .u8 (cs.length : Int)] 5)).heap.size := Nat.lt_of_lt_of_le lg0 b18.size
          obtain ⟨x18, hx18⟩ : ∃ x, x = x14.alloc (.cells #[.int .u8 (cs.length : Int)] 5) := ⟨_, rfl⟩
          rw [← hx18] at h18 lk8
          rw [← hk8, ← hx18] at f8
          rw [← hx18] at f0 lg0
          rw [← hk8] at hne
          rw [← hx18] at f2
          rw [← hk8, ← hx18]
          refine ⟨h18, ?_⟩
          simp only [Act.put, List.setIfInBounds_toArray, List.set_cons_succ, List.set_cons_zero]
          refine m_pick 3 (by kernel_rfl) ?_
          refine (g_app (d := 12) (.tmp 9) (.tmp 11) (by kernel_rfl) (by kernel_rfl) w2.heap.size (.slice (some ⟨g0, 0, none⟩) 1 1) [1] A0 r5 n5 c5 (by kernel_rfl) (by kernel_rfl) f0 f2 (by have := L0.out; simp; omega) h18.size ?_)
          intro v3 x19 f3 hg19
          rw [← HA1.out] at f3
          have h19 := f0.below h18 h18.size hg19
          have f8 := f8.grown hg19 (fun a ha _ => by obtain rfl := Option.some.inj ha; intro hq; exact hne (Option.some.inj hq))
          have lk8 := Nat.lt_of_lt_of_le lk8 hg19.size
          refine ⟨h19, ?_⟩
          simp only [Act.put, List.setIfInBounds_toArray, List.set_cons_succ, List.set_cons_zero]
          refine m_pick 9 (by kernel_rfl) ?_
          refine (g_app (d := 18) (.tmp 12) (.tmp 17) (by kernel_rfl) (by kernel_rfl) w2.heap.size v3 A1 [UInt8.ofNat cs.length] (some ⟨k8, 0, none⟩) 1 1 (by kernel_rfl) (by kernel_rfl) f3 f8 (by have := L1.out; simp; omega) h19.size ?_)
          intro v9 x20 f9 hg20
          rw [← HA2.out] at f9
          have h20 := f3.below h19 h19.size hg20
          refine ⟨h20, ?_⟩
          simp only [Act.put, List.setIfInBounds_toArray, List.set_cons_succ, List.set_cons_zero]
          refine g_quiet h20 10 4 v9 (by kernel_rfl) (by kernel_rfl) (by kernel_rfl) (by kernel_rfl) (fun _ _ => by kernel_rfl) ?_
          refine m_end (by kernel_rfl) ?_
          simp only [Act.put, List.setIfInBounds_toArray, List.set_cons_succ, List.set_cons_zero]
          go_wp2
          go_meet
          obtain ⟨r9, q9, hv9, _, _⟩ := f9.at
          exact ⟨r9, _, q9, hv9, by rw [← hv9]; exact f9, h20⟩
      · skip
        refine (g_val (d := 17) (.slice (some ⟨x13.heap.size, 0, none⟩) 1 1) (x13.alloc (.cells #[.int .u8 (cs.length : Int)] 5)) (by kernel_rfl) (by kernel_rfl) ?_)
        have b21 := below_one x13 (.cells #[.int .u8 (cs.length : Int)] 5)
        have h21 := below_seq h13 b21
        have f8 := bytes_one x13 (UInt8.ofNat cs.length) _ U8.out
        have f2 := f2.below b21
        obtain ⟨k8, hk8⟩ : ∃ k, k = x13.heap.size := ⟨_, rfl⟩
        have lk8 : k8 < (x13.alloc (.cells #[.int .u8 (cs.length : Int)] 5)).heap.size := by rw [hk8]; simp
        obtain ⟨x21, hx21⟩ : ∃ x, x = x13.alloc (.cells #[.int .u8 (cs.length : Int)] 5) := ⟨_, rfl⟩
        rw [← hx21] at h21 lk8
        rw [← hk8, ← hx21] at f8
        rw [← hx21] at f2
        rw [← hk8, ← hx21]
        refine ⟨h21, ?_⟩
        simp only [Act.put, List.setIfInBounds_toArray, List.set_cons_succ, List.set_cons_zero]
        refine m_pick 0 (by kernel_rfl) ?_
        refine (g_val (d := 9) (.slice (some ⟨x21.heap.size, 0, none⟩) 1 1) (x21.alloc (.cells #[.int .u8 1] 5)) (by kernel_rfl) (by kernel_rfl) ?_)
        have b22 := below_one x21 (.cells #[.int .u8 1] 5)
        have h22 := below_seq h21 b22
        have f0 := m1own x21 w2.heap.size h21.size
        have f8 := f8.below b22
        have hne : k8 ≠ x21.heap.size := by omega
        have f2 := f2.below b22
        obtain ⟨g0, hg0⟩ : ∃ k, k = x21.heap.size := ⟨_, rfl⟩
        have lg0 : g0 < (x21.alloc (.cells #[.int .u8 1] 5)).heap.size := by rw [hg0]; simp
        have lk8 : k8 < (x21.alloc (.cells #[.int .u8 1] 5)).heap.size := Nat.lt_of_lt_of_le lk8 b22.size
        obtain ⟨x22, hx22⟩ : ∃ x, x = x21.alloc (.cells #[.int .u8 1] 5) := ⟨_, rfl⟩
        rw [← hx22] at h22 lg0
        rw [← hg0, ← hx22] at f0
        rw [← hx22] at f8 lk8
        rw [← hg0] at hne
        rw [← hx22] at f2
        rw [← hg0, ← hx22]
        refine ⟨h22, ?_⟩
        simp only [Act.put, List.setIfInBounds_toArray, List.set_cons_succ, List.set_cons_zero]
        refine m_pick 3 (by kernel_rfl) ?_
        refine (g_app (d := 12) (.tmp 9) (.tmp 11) (by kernel_rfl) (by kernel_rfl) w2.heap.size (.slice (some ⟨g0, 0, none⟩) 1 1) [1] A0 r5 n5 c5 (by kernel_rfl) (by kernel_rfl) f0 f2 (by have := L0.out; simp; omega) h22.size ?_)
        intro v3 x23 f3 hg23
        rw [← HA1.out] at f3
        have h23 := f0.below h22 h22.size hg23
        have f8 := f8.grown hg23 (fun a ha _ => by obtain rfl := Option.some.inj ha; intro hq; exact hne (Option.some.inj hq))
        have lk8 := Nat.lt_of_lt_of_le lk8 hg23.size
        refine ⟨h23, ?_⟩
        simp only [Act.put, List.setIfInBounds_toArray, List.set_cons_succ, List.set_cons_zero]
        refine m_pick 9 (by kernel_rfl) ?_
        refine (g_app (d := 18) (.tmp 12) (.tmp 17) (by kernel_rfl) (by kernel_rfl) w2.heap.size v3 A1 [UInt8.ofNat cs.length] (some ⟨k8, 0, none⟩) 1 1 (by kernel_rfl) (by kernel_rfl) f3 f8 (by have := L1.out; simp; omega) h23.size ?_)
        intro v9 x24 f9 hg24
        rw [← HA2.out] at f9
        have h24 := f3.below h23 h23.size hg24
        refine ⟨h24, ?_⟩
        simp only [Act.put, List.setIfInBounds_toArray, List.set_cons_succ, List.set_cons_zero]
        refine g_quiet h24 10 4 v9 (by kernel_rfl) (by kernel_rfl) (by kernel_rfl) (by kernel_rfl) (fun _ _ => by kernel_rfl) ?_
        refine m_end (by kernel_rfl) ?_
        simp only [Act.put, List.setIfInBounds_toArray, List.set_cons_succ, List.set_cons_zero]
        go_wp2
        go_meet
        obtain ⟨r9, q9, hv9, _, _⟩ := f9.at
        exact ⟨r9, _, q9, hv9, by rw [← hv9]; exact f9, h24⟩
    · skip
      refine (g_val (d := 17) (.slice (some ⟨w2.drew.heap.size, 0, none⟩) 1 1) (w2.drew.alloc (.cells #[.int .u8 (cs.length : Int)] 5)) (by kernel_rfl) (by kernel_rfl) ?_)
      have b25 := below_one w2.drew (.cells #[.int .u8 (cs.length : Int)] 5)
      have h25 := below_seq hcd b25
      have f8 := bytes_one w2.drew (UInt8.ofNat cs.length) _ U8.out
      obtain ⟨k8, hk8⟩ : ∃ k, k = w2.drew.heap.size := ⟨_, rfl⟩
      have lk8 : k8 < (w2.drew.alloc (.cells #[.int .u8 (cs.length : Int)] 5)).heap.size := by rw [hk8]; simp
      obtain ⟨x25, hx25⟩ : ∃ x, x = w2.drew.alloc (.cells #[.int .u8 (cs.length : Int)] 5) := ⟨_, rfl⟩
      rw [← hx25] at h25 lk8
      rw [← hk8, ← hx25] at f8
      rw [← hk8, ← hx25]
      refine ⟨h25, ?_⟩
      simp only [Act.put, List.setIfInBounds_toArray, List.set_cons_succ, List.set_cons_zero]
      refine m_pick2 0 2 (by kernel_rfl) ?_ ?_
      · skip
        refine (g_val (d := 9) (.slice (some ⟨x25.heap.size, 0, none⟩) 1 1) (x25.alloc (.cells #[.int .u8 1] 5)) (by kernel_rfl) (by kernel_rfl) ?_)
        have b26 := below_one x25 (.cells #[.int .u8 1] 5)
        have h26 := below_seq h25 b26
        have f0 := m1own x25 w2.heap.size h25.size
        have f8 := f8.below b26
        have hne : k8 ≠ x25.heap.size := by omega
        obtain ⟨g0, hg0⟩ : ∃ k, k = x25.heap.size := ⟨_, rfl⟩
        have lg0 : g0 < (x25.alloc (.cells #[.int .u8 1] 5)).heap.size := by rw [hg0]; simp
        have lk8 : k8 < (x25.alloc (.cells #[.int .u8 1] 5)).heap.size := Nat.lt_of_lt_of_le lk8 b26.size
        obtain ⟨x26, hx26⟩ : ∃ x, x = x25.alloc (.cells #[.int .u8 1] 5) := ⟨_, rfl⟩
        rw [← hx26] at h26 lg0
        rw [← hg0, ← hx26] at f0
        rw [← hx26] at f8 lk8
        rw [← hg0] at hne
        rw [← hg0, ← hx26]
        refine ⟨h26, ?_⟩
        simp only [Act.put, List.setIfInBounds_toArray, List.set_cons_succ, List.set_cons_zero]
        refine m_pick 2 (by kernel_rfl) ?_
        refine (g_call (d := 11) 106 #[.agg (tokRow t (.slice r cs.length cap))] (by kernel_rfl) (by kernel_rfl) ((refHead_any _ t _ Ht.out (by have := Hn.out; omega)).mono ?_))
        rintro e x27 ⟨v27, rfl, ho, b27⟩
        rw [← HA0.out] at ho
        obtain ⟨r5, c5, rfl, f2, _⟩ := ho.at_len n5 Hn5.out
        have h27 := below_seq h26 b27
        have f0 := f0.keep b27
        have lg0 := Nat.lt_of_lt_of_le lg0 b27.size
        have f8 := f8.below b27
        have lk8 := Nat.lt_of_lt_of_le lk8 b27.size
        refine ⟨_, rfl, h27, ?_⟩
        simp only [Act.put, List.setIfInBounds_toArray, List.set_cons_succ, List.set_cons_zero]
        refine m_pick 3 (by kernel_rfl) ?_
        refine (g_app (d := 12) (.tmp 9) (.tmp 11) (by kernel_rfl) (by kernel_rfl) w2.heap.size (.slice (some ⟨g0, 0, none⟩) 1 1) [1] A0 r5 n5 c5 (by kernel_rfl) (by kernel_rfl) f0 f2 (by have := L0.out; simp; omega) h27.size ?_)
        intro v3 x28 f3 hg28
        rw [← HA1.out] at f3
        have h28 := f0.below h27 h27.size hg28
        have f8 := f8.grown hg28 (fun a ha _ => by obtain rfl := Option.some.inj ha; intro hq; exact hne (Option.some.inj hq))
        have lk8 := Nat.lt_of_lt_of_le lk8 hg28.size
        refine ⟨h28, ?_⟩
        simp only [Act.put, List.setIfInBounds_toArray, List.set_cons_succ, List.set_cons_zero]
        refine m_pick 9 (by kernel_rfl) ?_
        refine (g_app (d := 18) (.tmp 12) (.tmp 17) (by kernel_rfl) (by kernel_rfl) w2.heap.size v3 A1 [UInt8.ofNat cs.length] (some ⟨k8, 0, none⟩) 1 1 (by kernel_rfl) (by kernel_rfl) f3 f8 (by have := L1.out; simp; omega) h28.size ?_)
        intro v9 x29 f9 hg29
        rw [← HA2.out] at f9
        have h29 := f3.below h28 h28.size hg29
        refine ⟨h29, ?_⟩
        simp only [Act.put, List.setIfInBounds_toArray, List.set_cons_succ, List.set_cons_zero]
        refine g_quiet h29 10 4 v9 (by kernel_rfl) (by kernel_rfl) (by kernel_rfl) (by kernel_rfl) (fun _ _ => by kernel_rfl) ?_
        refine m_end (by kernel_rfl) ?_
        simp only [Act.put, List.setIfInBounds_toArray, List.set_cons_succ, List.set_cons_zero]
        go_wp2
        go_meet
        obtain ⟨r9, q9, hv9, _, _⟩ := f9.at
        exact ⟨r9, _, q9, hv9, by rw [← hv9]; exact f9, h29⟩
      · skip
        refine (g_call (d := 11) 106 #[.agg (tokRow t (.slice r cs.length cap))] (by kernel_rfl) (by kernel_rfl) ((refHead_any _ t _ Ht.out (by have := Hn.out; omega)).mono ?_))
        rintro e x30 ⟨v30, rfl, ho, b30⟩
        rw [← HA0.out] at ho
        obtain ⟨r5, c5, rfl, f2, _⟩ := ho.at_len n5 Hn5.out
        have h30 := below_seq h25 b30
        have f8 := f8.below b30
        have lk8 := Nat.lt_of_lt_of_le lk8 b30.size
        refine ⟨_, rfl, h30, ?_⟩
        simp only [Act.put, List.setIfInBounds_toArray, List.set_cons_succ, List.set_cons_zero]
        refine m_pick 0 (by kernel_rfl) ?_
        refine (g_val (d := 9) (.slice (some ⟨x30.heap.size, 0, none⟩) 1 1) (x30.alloc (.cells #[.int .u8 1] 5)) (by kernel_rfl) (by kernel_rfl) ?_)
        have b31 := below_one x30 (.cells #[.int .u8 1] 5)
        have h31 := below_seq h30 b31
        have f0 := m1own x30 w2.heap.size h30.size
        have f8 := f8.below b31
        have hne : k8 ≠ x30.heap.size := by omega
        have f2 := f2.below b31
        obtain ⟨g0, hg0⟩ : ∃ k, k = x30.heap.size := ⟨_, rfl⟩
        have lg0 : g0 < (x30.alloc (.cells #[.int .u8 1] 5)).heap.size := by rw [hg0]; simp
        have lk8 : k8 < (x30.alloc (.cells #[.int .u8 1] 5)).heap.size := Nat.lt_of_lt_of_le lk8 b31.size
        obtain ⟨x31, hx31⟩ : ∃ x, x = x30.alloc (.cells #[.int .u8 1] 5) := ⟨_, rfl⟩
        rw [← hx31] at h31 lg0
        rw [← hg0, ← hx31] at f0
        rw [← hx31] at f8 lk8
        rw [← hg0] at hne
        rw [← hx31] at f2
        rw [← hg0, ← hx31]
        refine ⟨h31, ?_⟩
        simp only [Act.put, List.setIfInBounds_toArray, List.set_cons_succ, List.set_cons_zero]
        refine m_pick 3 (by kernel_rfl) ?_
        refine (g_app (d := 12) (.tmp 9) (.tmp 11) (by kernel_rfl) (by kernel_rfl) w2.heap.size (.slice (some ⟨g0, 0, none⟩) 1 1) [1] A0 r5 n5 c5 (by kernel_rfl) (by kernel_rfl) f0 f2 (by have := L0.out; simp; omega) h31.size ?_)
        intro v3 x32 f3 hg32
        rw [← HA1.out] at f3
        have h32 := f0.below h31 h31.size hg32
        have f8 := f8.grown hg32 (fun a ha _ => by obtain rfl := Option.some.inj ha; intro hq; exact hne (Option.some.inj hq))
        have lk8 := Nat.lt_of_lt_of_le lk8 hg32.size
        refine ⟨h32, ?_⟩
        simp only [Act.put, List.setIfInBounds_toArray, List.set_cons_succ, List.set_cons_zero]
        refine m_pick 9 (by kernel_rfl) ?_
        refine (g_app (d := 18) (.tmp 12) (.tmp 17) (by kernel_rfl) (by kernel_rfl) w2.heap.size v3 A1 [UInt8.ofNat cs.length] (some ⟨k8, 0, none⟩) 1 1 (by kernel_rfl) (by kernel_rfl) f3 f8 (by have := L1.out; simp; omega) h32.size ?_)
        intro v9 x33 f9 hg33
        rw [← HA2.out] at f9
        have h33 := f3.below h32 h32.size hg33
        refine ⟨h33, ?_⟩
        simp only [Act.put, List.setIfInBounds_toArray, List.set_cons_succ, List.set_cons_zero]
        refine g_quiet h33 10 4 v9 (by kernel_rfl) (by kernel_rfl) (by kernel_rfl) (by kernel_rfl) (fun _ _ => by kernel_rfl) ?_
        refine m_end (by kernel_rfl) ?_
        simp only [Act.put, List.setIfInBounds_toArray, List.set_cons_succ, List.set_cons_zero]
        go_wp2
        go_meet
        obtain ⟨r9, q9, hv9, _, _⟩ := f9.at
        exact ⟨r9, _, q9, hv9, by rw [← hv9]; exact f9, h33⟩
  case rest =>
    obtain ⟨ro, no, co, rfl, ho, hb⟩ := hcut
    have Ho := Lib.hid ho
    have Hb := Lib.hid hb
    clear ho hb e8
    go_upto_region 5 with (fail)
    go_loopw [5, 4] (fun v vv wr => ∃ (k : Nat) (r0 : Option Addr) (n0 c0 : Nat), k ≤ cs.length ∧ v = .int .i64 (k : Int) ∧ .slice r0 n0 c0 = vv ∧ OwnB wr w2.heap.size (.slice r0 n0 c0) (A2 ++ cavsOf (cs.take k)) ∧ Below w2.heap.size w2 wr) (fun v _ _ => cs.length - (intOf v).toNat)
    case atStart => exact ⟨0, ro, no, co, by omega, rfl, rfl, by rw [List.take_zero]; show OwnB wc w2.heap.size _ (A2 ++ []); rw [List.append_nil]; exact Ho.out, Hb.out⟩
    case round =>
      clear Ho Hb
      obtain ⟨k, ro, no, co, hk, rfl, rfl, hok, hb⟩ := hrel
      have Hok := Lib.hid hok
      have Hb := Lib.hid hb
      clear hb hok
      have c5 := (tok_in (T2.out wr Hb.out) Ht.out.tag).c5
      by_cases hlt : k < cs.length
      · obtain ⟨b, o, rfl, hc⟩ := ((H.out.below R1.out).below (below_seq Hb2.out Hb.out)).hcells (by omega)
        obtain ⟨hc1, hc2⟩ := hc k hlt
        have hst := cavsOf_take cs k hlt
        have hz : (Lit.int .i64 (cs[k]?.getD (0, 0)).2).wf = true := by rw [List.getElem?_eq_getElem hlt]; exact H.out.hwf _ (List.getElem_mem hlt)
        obtain ⟨⟨x, z⟩, hxz⟩ : ∃ c, c = cs[k]?.getD (0, 0) := ⟨_, rfl⟩
        rw [← hxz] at hc1 hc2 hst hz
        obtain ⟨S, hS⟩ : ∃ S, S = A2 ++ cavsOf (cs.take k) := ⟨_, rfl⟩
        have hSl : S.length ≤ 116 := by rw [hS, List.length_append]; have := L2.out; have := Hct.out k; omega
        have hst2 : A2 ++ cavsOf (cs.take (k + 1)) = S ++ cavOf x z := by rw [hst, hS, List.append_assoc]
        have HoS : Hid (OwnB wr w2.heap.size (.slice ro no co) S) := Lib.hid (by rw [hS]; exact Hok.out)
        have Hst := Lib.hid hst2
        have HSl := Lib.hid hSl
        have hcap := H.out.hmax
        have hle := H.out.hle
        unfold maxLen at hcap
        simp only at hc1 hc2 hz
        have Hz := Lib.hid hz
        have hv : ∀ j, j < (cavRow x z).size → wr.cell? ⟨b, o + k * 2 + j, none⟩ = (cavRow x z)[j]? := fun j hj => by
          have hj' : j = 0 ∨ j = 1 := by simp [cavRow] at hj; omega
          rcases hj' with rfl | rfl
          · exact hc1
          · exact hc2
        have Hv := Lib.hid hv
        clear hc hxz hst hst2 hS hSl hz Hok hv hc1 hc2
        go_wp2_with (first
          | ((with_reducible refine wpList_append_bytes rfl (.tmp 26) (.tmp 32) rfl w2.heap.size (.slice ro no co) S (cavOf x z) r7 9 c7 rfl rfl Ho7.out HB7.out (by have := HSl.out; rw [cavOf_length]; omega) Hb7.out.size ?_); intro v8 w8 ho8 hg8
             rw [← Hst.out] at ho8
             have Ho8 := Lib.hid ho8
             have Hb8 := Lib.hid (Ho7.out.below Hb7.out Hb7.out.size hg8)
             clear ho8 hg8)
          | (go_at_call 102; refine (refCaveat_any _ x z Hz.out).mono ?_; rintro e w7 ⟨v7, rfl, ho, hb⟩
             obtain ⟨r7, c7, rfl, hB, _⟩ := ho.at_len 9 (cavOf_length _ _)
             have HB7 := Lib.hid hB
             have Ho7 := Lib.hid (HoS.out.keep hb)
             have Hb7 := Lib.hid (below_seq Hb.out hb)
             clear ho hb hB)
          | (refine wpList_load_sub rfl 87 _ rfl b (o + k * 2) rfl (cavRow x z) _ Hv.out Try.underlying87 rfl (info87 x z) ?_))
        obtain ⟨r8, q8, hv8, _, _⟩ := Ho8.out.at
        exact ⟨⟨k + 1, r8, _, q8, by omega, by go_num, hv8.symm, by rw [← hv8]; exact Ho8.out, Hb8.out⟩, by simp [intOf]; omega⟩
      · obtain rfl : k = cs.length := by omega
        rw [List.take_length] at Hok
        have TG := Lib.hid (tok_in (T2.out wr Hb.out) Ht.out.tag).tag
        have hSl : (A2 ++ cavsOf cs).length ≤ 116 := by rw [List.length_append]; have := L2.out; have := Hct.out cs.length; rw [List.take_length] at this; omega
        obtain ⟨S, hS⟩ : ∃ S, S = A2 ++ cavsOf cs := ⟨_, rfl⟩
        have hz := HZ.out
        rw [← hS] at Hok hSl hz
        have HSl := Lib.hid hSl
        have HZ2 := Lib.hid hz
        have Htl := Lib.hid Ht.out.tag
        clear hS hSl hz
        go_wp2_with ((with_reducible refine wpList_append_bytes rfl (.tmp 34) (.tmp 36) rfl w2.heap.size (.slice ro no co) S t.tag (some ⟨w.heap.size, 6, none⟩) 32 32 rfl rfl Hok.out TG.out (by have := HSl.out; rw [Htl.out]; omega) Hb.out.size ?_); intro v8 w8 ho8 hg8; rw [← HZ2.out] at ho8; have Ho8 := Lib.hid ho8; have Hb8 := Lib.hid (Hok.out.below Hb.out Hb.out.size hg8); clear ho8 hg8)
        go_ret2
        exact ⟨_, rfl, ownB_base Ho8.out (below_seq R1.out Hb2.out).size, below_seq R1.out (below_seq Hb2.out Hb8.out)⟩
end Go.Proofs.Ytafakjdolnigaaa
