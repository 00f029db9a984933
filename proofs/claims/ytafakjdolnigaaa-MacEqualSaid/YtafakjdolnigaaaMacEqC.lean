/- The walk of cofferlaw3.MacEqual: one of its four cases. -/
import Derived.Test.YtafakjdolnigaaaMacEqA
namespace Go.Proofs.Ytafakjdolnigaaa
open Go.RowKit
set_option linter.unusedVariables false

set_option maxRecDepth 100000 in
set_option maxHeartbeats 40000000 in
theorem macEqual_none1 {w : World} {ra rb : Option Addr} {la ca lb cb : Nat} {a b : List UInt8} {n : Int} {x : UInt8} (A : BytesAt w ra la ca a) (B : BytesAt w rb lb cb b) (hn : (Lit.int .i64 n).wf = true) (hla : la ≤ 4096) (hlb : lb ≤ 4096) (h0 : la = 0) (hx : (x == 0) = false) :
    Calls Try.prog 11 #[.slice ra la ca, .slice rb lb cb, .int .i64 n, W8 x] w fun e w' => e = .returned (.bool true) ∧ Below w.heap.size w w' := by
  obtain ⟨R, hR⟩ : ∃ R, (a == b) = R := ⟨_, rfl⟩
  have hal := A.hlen
  have hmax : ca ≤ 9223372036854775807 := A.hmax
  have hle := A.hle
  subst h0
  have ha0 : a = [] := List.eq_nil_of_length_eq_zero hal
  go_enter Try.func11, Try.ntmps11
  go_upto_region 8 with (first
    | (go_at_call 51; refine (begun3 _).mono ?_; rintro e w1 ⟨rfl, h1⟩)
    | ((with_reducible refine wpList_append_bytes rfl (.tmp 20) (.tmp 21) rfl w1.heap.size (.slice (some ⟨w1.heap.size, 0, none⟩) 0 0) [] a ra 0 ca rfl rfl (ownB_nil w1 w1.heap.size (Nat.le_refl _)) ((A.below h1).below (below_one _ _)) (by rw [hal]; simp) (below_one _ _).size ?_); intro v5 w5 ho5 hg5
       have hb5 : Below w1.heap.size w1 w5 := (ownB_nil w1 w1.heap.size (Nat.le_refl _)).below (below_one _ _) (below_one _ _).size hg5
       rw [List.nil_append] at ho5
       obtain ⟨rc, cc, rfl, hcB, _⟩ := ho5.at_len 0 hal
       have hk5 := below_seq h1 hb5
       have Hbw : Hid (w.heap.size ≤ w1.heap.size) := Lib.hid h1.size
       have Hbs : Hid (w1.heap.size ≤ w5.heap.size) := Lib.hid hb5.size
       clear hg5 hb5 h1))
  · skip
    obtain ⟨c, hc⟩ : ∃ c, c = a := ⟨_, rfl⟩
    have hoC := ho5
    rw [← hc] at hoC hcB
    have Hcl : Hid (c.length = 0) := Lib.hid (by rw [hc]; exact hal)
    have hS : (a == c) = true := by rw [hc]; simp
    have Hne : Hid ((a == (c ++ [0])) = false) := Lib.hid (by rw [hc, beq_eq_false_iff_ne]; intro h; have := congrArg List.length h; simp at this)
    clear ho5 hc ha0
    have HoC := Lib.hid hoC
    have Hk5 := Lib.hid hk5
    have HA := Lib.hid A
    have HB := Lib.hid B
    have c1 : ∀ w2, Below w.heap.size w w2 → Calls Try.prog 52 #[.slice ra 0 ca, .slice rb lb cb] w2 fun e w' => e = .returned (.bool R) ∧ Below w2.heap.size w2 w' := fun w2 h2 => by
      rw [← hR]; exact equal_any (HA.out.below h2) (HB.out.below h2)
    have c2 : ∀ w2, Below w.heap.size w w2 → Calls Try.prog 52 #[.slice ra 0 ca, .slice ra 0 ca] w2 fun e w' => e = .returned (.bool true) ∧ Below w2.heap.size w2 w' := fun w2 h2 => by
      have := equal_any (HA.out.below h2) (HA.out.below h2)
      rwa [show (a == a) = true by simp] at this
    have c3 : ∀ w2, Below w.heap.size w w2 → Below w5.heap.size w5 w2 → Calls Try.prog 52 #[.slice ra 0 ca, .slice rc 0 cc] w2 fun e w' => e = .returned (.bool true) ∧ Below w2.heap.size w2 w' := fun w2 h2 h3 => by
      rw [← hS]; exact equal_any (HA.out.below h2) (hcB.below h3)
    have hdr : Below w5.heap.size w5 w5.drew := (Below.refl _ _).drew
    have hla' : ((0 : Nat) : Int) ≤ 4096 := by omega
    refine region_k (fun w' => Below w.heap.size w w') (by kernel_rfl) (below_seq Hk5.out hdr) (fun Kr hKr => ?_)
    have hcd : Below w.heap.size w w5.drew := below_seq Hk5.out hdr
    refine g_quiet hcd 0 36 (.slice ra 0 ca) (by kernel_rfl) (by kernel_rfl) (by kernel_rfl) (by kernel_rfl) (fun _ _ => by kernel_rfl) ?_
    refine g_quiet hcd 1 37 (.slice rb lb cb) (by kernel_rfl) (by kernel_rfl) (by kernel_rfl) (by kernel_rfl) (fun _ _ => by kernel_rfl) ?_
    refine g_quiet hcd 3 39 (.slice ra 0 ca) (by kernel_rfl) (by kernel_rfl) (by kernel_rfl) (by kernel_rfl) (fun _ _ => by kernel_rfl) ?_
    refine g_quiet hcd 4 40 (.string ⟨a.toArray⟩) (by kernel_rfl) (by kernel_rfl) (by kernel_rfl) (by kernel_rfl) (fun w2 hw2 => by have s1 := conv_str (HA.out.below hw2); go_simp) ?_
    refine g_quiet hcd 5 41 (.slice rb lb cb) (by kernel_rfl) (by kernel_rfl) (by kernel_rfl) (by kernel_rfl) (fun _ _ => by kernel_rfl) ?_
    refine g_quiet hcd 6 42 (.string ⟨b.toArray⟩) (by kernel_rfl) (by kernel_rfl) (by kernel_rfl) (by kernel_rfl) (fun w2 hw2 => by have s1 := conv_str (HB.out.below hw2); go_simp) ?_
    refine g_quiet hcd 7 43 (.bool R) (by kernel_rfl) (by kernel_rfl) (by kernel_rfl) (by kernel_rfl) (fun w2 hw2 => by go_simp) ?_
    simp only [Act.put, List.setIfInBounds_toArray, List.set_cons_succ, List.set_cons_zero]
    refine m_pick 2 (by kernel_rfl) (g_call (d := 38) 52 #[.slice ra 0 ca, .slice rb lb cb] (by kernel_rfl) (by kernel_rfl) ((c1 _ hcd).mono ?_))
    rintro e w11 ⟨rfl, hb11⟩
    have hd11 := below_seq hcd hb11
    refine ⟨_, rfl, hd11, ?_⟩
    clear hcd
    have hcd := hd11
    have hs11 := below_seq hdr hb11
    simp only [Act.put, List.setIfInBounds_toArray, List.set_cons_succ, List.set_cons_zero]
    refine g_quiet hcd 8 44 (.bool true) (by kernel_rfl) (by kernel_rfl) (by kernel_rfl) (by kernel_rfl) (fun w2 hw2 => by go_simp) ?_
    refine g_quiet hcd 9 45 (.bool true) (by kernel_rfl) (by kernel_rfl) (by kernel_rfl) (by kernel_rfl) (fun _ _ => by kernel_rfl) ?_
    refine g_quiet hcd 10 46 (.slice ra 0 ca) (by kernel_rfl) (by kernel_rfl) (by kernel_rfl) (by kernel_rfl) (fun _ _ => by kernel_rfl) ?_
    refine g_quiet hcd 11 47 (.slice ra 0 ca) (by kernel_rfl) (by kernel_rfl) (by kernel_rfl) (by kernel_rfl) (fun _ _ => by kernel_rfl) ?_
    simp only [Act.put, List.setIfInBounds_toArray, List.set_cons_succ, List.set_cons_zero]
    refine m_pick 12 (by kernel_rfl) (g_call (d := 48) 52 #[.slice ra 0 ca, .slice ra 0 ca] (by kernel_rfl) (by kernel_rfl) ((c2 _ hcd).mono ?_))
    rintro e w12 ⟨rfl, hb12⟩
    have hd12 := below_seq hcd hb12
    refine ⟨_, rfl, hd12, ?_⟩
    clear hcd
    have hcd := hd12
    have hs12 := below_seq hs11 hb12
    simp only [Act.put, List.setIfInBounds_toArray, List.set_cons_succ, List.set_cons_zero]
    refine g_quiet hcd 13 49 (.bool true) (by kernel_rfl) (by kernel_rfl) (by kernel_rfl) (by kernel_rfl) (fun _ _ => by kernel_rfl) ?_
    refine g_quiet hcd 14 50 (.bool true) (by kernel_rfl) (by kernel_rfl) (by kernel_rfl) (by kernel_rfl) (fun _ _ => by kernel_rfl) ?_
    refine g_quiet hcd 15 51 (.slice ra 0 ca) (by kernel_rfl) (by kernel_rfl) (by kernel_rfl) (by kernel_rfl) (fun _ _ => by kernel_rfl) ?_
    refine g_quiet hcd 16 52 (.slice rc 0 cc) (by kernel_rfl) (by kernel_rfl) (by kernel_rfl) (by kernel_rfl) (fun _ _ => by kernel_rfl) ?_
    refine g_quiet hcd 18 54 (W8 x) (by kernel_rfl) (by kernel_rfl) (by kernel_rfl) (by kernel_rfl) (fun _ _ => by kernel_rfl) ?_
    refine g_quiet hcd 19 55 (.bool false) (by kernel_rfl) (by kernel_rfl) (by kernel_rfl) (by kernel_rfl) (fun w2 hw2 => by go_simp) ?_
    simp only [Act.put, List.setIfInBounds_toArray, List.set_cons_succ, List.set_cons_zero]
    refine m_pick 17 (by kernel_rfl) (g_call (d := 53) 52 #[.slice ra 0 ca, .slice rc 0 cc] (by kernel_rfl) (by kernel_rfl) ((c3 _ hcd hs12).mono ?_))
    rintro e w13 ⟨rfl, hb13⟩
    have hd13 := below_seq hcd hb13
    refine ⟨_, rfl, hd13, ?_⟩
    clear hcd
    have hcd := hd13
    have hs13 := below_seq hs12 hb13
    simp only [Act.put, List.setIfInBounds_toArray, List.set_cons_succ, List.set_cons_zero]
    refine g_quiet hcd 20 56 (.bool false) (by kernel_rfl) (by kernel_rfl) (by kernel_rfl) (by kernel_rfl) (fun _ _ => by kernel_rfl) ?_
    refine g_quiet hcd 21 57 (.slice ra 0 ca) (by kernel_rfl) (by kernel_rfl) (by kernel_rfl) (by kernel_rfl) (fun _ _ => by kernel_rfl) ?_
    refine g_quiet hcd 22 58 (.int .i64 (0 : Nat)) (by kernel_rfl) (by kernel_rfl) (by kernel_rfl) (by kernel_rfl) (fun w2 hw2 => by go_simp) ?_
    refine g_quiet hcd 23 59 (.bool true) (by kernel_rfl) (by kernel_rfl) (by kernel_rfl) (by kernel_rfl) (fun w2 hw2 => by go_simp) ?_
    refine g_quiet hcd 24 60 (.bool true) (by kernel_rfl) (by kernel_rfl) (by kernel_rfl) (by kernel_rfl) (fun _ _ => by kernel_rfl) ?_
    refine g_quiet hcd 25 61 (.bool true) (by kernel_rfl) (by kernel_rfl) (by kernel_rfl) (by kernel_rfl) (fun w2 hw2 => by go_simp) ?_
    refine g_quiet hcd 26 62 (.bool true) (by kernel_rfl) (by kernel_rfl) (by kernel_rfl) (by kernel_rfl) (fun _ _ => by kernel_rfl) ?_
    refine g_quiet hcd 27 63 (.bool true) (by kernel_rfl) (by kernel_rfl) (by kernel_rfl) (by kernel_rfl) (fun _ _ => by kernel_rfl) ?_
    refine g_quiet hcd 28 64 (.slice ra 0 ca) (by kernel_rfl) (by kernel_rfl) (by kernel_rfl) (by kernel_rfl) (fun _ _ => by kernel_rfl) ?_
    refine g_quiet hcd 29 65 (.slice rc 0 cc) (by kernel_rfl) (by kernel_rfl) (by kernel_rfl) (by kernel_rfl) (fun _ _ => by kernel_rfl) ?_
    simp only [Act.put, List.setIfInBounds_toArray, List.set_cons_succ, List.set_cons_zero]
    refine m_pick 30 (by kernel_rfl) (g_val (d := 66) (.slice (some ⟨w13.heap.size, 0, none⟩) 1 1) (w13.alloc (.cells #[.int .u8 0] 5)) (by kernel_rfl) (by kernel_rfl) ?_)
    have hd14 := below_seq hcd (below_one w13 (.cells #[.int .u8 0] 5))
    have hs14 := below_seq hs13 (below_one w13 (.cells #[.int .u8 0] 5))
    refine ⟨hd14, ?_⟩
    simp only [Act.put, List.setIfInBounds_toArray, List.set_cons_succ, List.set_cons_zero]
    refine m_pick 31 (by kernel_rfl) (g_app (d := 67) (.tmp 65) (.tmp 66) (by kernel_rfl) (by kernel_rfl) w1.heap.size (.slice rc 0 cc) c [0] (some ⟨w13.heap.size, 0, none⟩) 1 1 (by kernel_rfl) (by kernel_rfl) (HoC.out.keep hs14) (bytes_one w13 0 _ m0) (by rw [Hcl.out]; simp <;> omega) (Nat.le_trans Hbs.out hs14.size) ?_)
    intro v15 w15 ho15 hg15
    have hd15 : Below w.heap.size w w15 := hd14.grown hg15 hd14.size (fun k hk => Nat.le_trans Hbw.out ((ownsRow_block (HoC.out.keep hs14) k hk).1))
    obtain ⟨r15, c15, rfl, hB15, _⟩ := ho15.at_len (0 + 1) (by rw [List.length_append, Hcl.out]; rfl)
    refine ⟨hd15, ?_⟩
    simp only [Act.put, List.setIfInBounds_toArray, List.set_cons_succ, List.set_cons_zero]
    refine m_pick 32 (by kernel_rfl) (g_call (d := 68) 52 #[.slice ra 0 ca, .slice r15 (0 + 1) c15] (by kernel_rfl) (by kernel_rfl) ((equal_any (HA.out.below hd15) hB15).mono ?_))
    rintro e w16 ⟨rfl, hb16⟩
    rw [Hne.out]
    have hd16 := below_seq hd15 hb16
    refine ⟨_, rfl, hd16, ?_⟩
    clear hcd
    have hcd := hd16
    simp only [Act.put, List.setIfInBounds_toArray, List.set_cons_succ, List.set_cons_zero]
    refine g_quiet hcd 33 69 (.bool true) (by kernel_rfl) (by kernel_rfl) (by kernel_rfl) (by kernel_rfl) (fun _ _ => by kernel_rfl) ?_
    refine g_quiet hcd 34 70 (.bool true) (by kernel_rfl) (by kernel_rfl) (by kernel_rfl) (by kernel_rfl) (fun _ _ => by kernel_rfl) ?_
    simp only [Act.put, List.setIfInBounds_toArray, List.set_cons_succ, List.set_cons_zero]
    refine m_pick 35 (by kernel_rfl) (g_val (d := 8) (.bool true) w16 (by kernel_rfl) (by kernel_rfl) ⟨hd16, ?_⟩)
    refine m_end (by kernel_rfl) ?_
    simp only [Act.put, List.setIfInBounds_toArray, List.set_cons_succ, List.set_cons_zero]
    have HD16 := Lib.hid hd16
    clear hcd hd16 hd15 hd14 hs14 hs13 hs12 hs11 c1 c2 c3
    go_wp2
    go_ret
    exact ⟨rfl, HD16.out⟩
end Go.Proofs.Ytafakjdolnigaaa
