/- The walks of cofferref1.Put and Eight. -/
import Derived.Test.YtafakjdolnigaaaOctPut
namespace Go.Proofs.Ytafakjdolnigaaa
open Go.RowKit
set_option linter.unusedVariables false

/-- A number without its j lowest bytes. -/
def vAt (v : UInt64) (j : Nat) : UInt64 := UInt64.ofNat (v.toNat / 256 ^ j)
theorem vAt_nat (v : UInt64) (j : Nat) : (vAt v j).toNat = v.toNat / 256 ^ j := by
  unfold vAt
  rw [UInt64.toNat_ofNat']
  exact Nat.mod_eq_of_lt (Nat.lt_of_le_of_lt (Nat.div_le_self _ _) v.toNat_lt)
theorem vAt_zero (v : UInt64) : vAt v 0 = v := by
  apply UInt64.toNat_inj.1
  rw [vAt_nat]; simp
theorem vAt_succ (v : UInt64) (j : Nat) : vAt v j / 256 = vAt v (j + 1) := by
  apply UInt64.toNat_inj.1
  rw [UInt64.toNat_div, vAt_nat, vAt_nat, Nat.pow_succ, ← Nat.div_div_eq_div_mul]; rfl
theorem vAt_byte (v : UInt64) (j : Nat) : (vAt v j % 256).toUInt8 = UInt8.ofNat (v.toNat / 256 ^ j) := by
  apply UInt8.toNat_inj.1
  rw [UInt64.toNat_toUInt8, UInt64.toNat_mod, vAt_nat, UInt8.toNat_ofNat', show (256 : UInt64).toNat = 2 ^ 8 from rfl, Nat.mod_mod]
theorem vAt_end (v : UInt64) (n : Nat) (h : v.toNat < 256 ^ n) : vAt v n = 0 := by
  apply UInt64.toNat_inj.1
  rw [vAt_nat, Nat.div_eq_of_lt h]; rfl

set_option maxRecDepth 100000 in
set_option maxHeartbeats 2000000 in
theorem refPut_any {w : World} {r : Option Addr} {len cap : Nat} {bs : List UInt8} (h : BytesAt w r len cap bs) (v : UInt64) (n : Nat) (hn1 : 1 ≤ n) (hn8 : n ≤ 8) (hsz : len ≤ 1099511627776) (hv : v.toNat < 256 ^ n) :
    Calls Try.prog 96 #[.slice r len cap, W64 v, .int .i64 (n : Int)] w fun e w' => ∃ v', e = .returned (.tuple #[v', .int .i64 0]) ∧ OwnB w' w.heap.size v' (bs ++ beList n v) ∧ Below w.heap.size w w' := by
  have hl := Lib.hid h.hlen
  have Hv := Lib.hid hv
  clear hv
  go_enter Try.func96, Try.ntmps96
  go_wp2
  go_loopw [1, 8, 9] (fun v1 v8 v9 wr => ∃ j : Nat, j ≤ n ∧ v9 = .int .i64 (j : Int) ∧ v1 = W64 (vAt v j) ∧ OwnB wr w.heap.size v8 ((beList n v).drop (n - j)) ∧ Below w.heap.size w wr) (fun _ _ v _ => n - (intOf v).toNat)
  case atStart => exact ⟨0, by omega, rfl, by rw [vAt_zero], by rw [Nat.sub_zero, List.drop_eq_nil_of_le (by rw [beList_length]; exact Nat.le_refl _)]; exact ownB_none _ _, Below.refl _ _⟩
  case round =>
    obtain ⟨j, hj, rfl, rfl, ho, hb⟩ := hrel
    obtain ⟨M, hM⟩ : ∃ M, M = (beList n v).drop (n - j) := ⟨_, rfl⟩
    rw [← hM] at ho
    have hMl : M.length = j := by rw [hM, List.length_drop, beList_length]; omega
    obtain ⟨rv, capv, rfl, hbv, _⟩ := ho.at
    have Ho := Lib.hid ho
    have Hb := Lib.hid hb
    have HM := Lib.hid hM
    have Hbv := Lib.hid hbv
    have HMl := Lib.hid hMl
    clear ho hb hM hbv hMl
    by_cases hlt : j < n
    · have hx := vAt_byte v j
      have hq := vAt_succ v j
      obtain ⟨V, hV⟩ : ∃ V, V = vAt v j := ⟨_, rfl⟩
      rw [← hV] at hx hq ⊢
      have Hx := Lib.hid hx
      have Hq := Lib.hid hq
      have hd := beList_drop n v j hlt
      rw [← HM.out, ← Hx.out] at hd
      have Hd := Lib.hid hd
      clear hx hq hV hd
      go_wp2_with ((with_reducible refine wpList_append_bytes rfl _ _ rfl w.heap.size (.slice (some ⟨wr.heap.size, 0, none⟩) 1 1) [(V % 256).toUInt8] M _ _ _ rfl rfl (ownB_one wr (V % 256).toUInt8 w.heap.size Hb.out.size) (Hbv.out.below (below_one _ _)) (by have := HMl.out; simp; omega) (Nat.le_trans Hb.out.size (below_one _ _).size) ?_); intro v5 w5 ho5 hg5)
      refine ⟨⟨j + 1, by omega, by go_num, by rw [Hq.out], ?_, ?_⟩, by simp [intOf]; omega⟩
      · rw [Hd.out]; exact ho5
      · exact (ownB_one wr (V % 256).toUInt8 w.heap.size Hb.out.size).below (Hb.out.trans ((below_one _ _).mono Hb.out.size)) (Nat.le_trans Hb.out.size (below_one _ _).size) hg5
    · obtain rfl : j = n := by omega
      have hz := vAt_end v j Hv.out
      rw [Nat.sub_self, List.drop_zero] at HM
      have Hz := Lib.hid hz
      rw [Hz.out]
      clear hz
      have hbw := Lib.hid (h.below Hb.out)
      go_wp2_with (first
        | ((with_reducible refine wpList_append_bytes rfl _ _ rfl w.heap.size (.slice (some ⟨wr.heap.size, 0, none⟩) 0 0) [] bs r len cap rfl rfl (ownB_nil wr w.heap.size Hb.out.size) (hbw.out.below (below_one _ _)) (by have := hl.out; simp; omega) (Nat.le_trans Hb.out.size (below_one _ _).size) ?_); intro v5 w5 ho5 hg5
           have hb5 := (ownB_nil wr w.heap.size Hb.out.size).below (Hb.out.trans ((below_one _ _).mono Hb.out.size)) (Nat.le_trans Hb.out.size (below_one _ _).size) hg5
           have g5 : Below wr.heap.size wr w5 := (ownB_nil wr wr.heap.size (Nat.le_refl _)).below (below_one _ _) (below_one _ _).size hg5
           rw [List.nil_append] at ho5
           have Ho5 := Lib.hid ho5
           have Hb5 := Lib.hid hb5
           have G5 := Lib.hid g5
           clear ho5 hb5 g5 hg5)
        | ((with_reducible refine wpList_append_bytes rfl _ _ rfl w.heap.size v5 bs M _ _ _ rfl rfl Ho5.out (Hbv.out.below G5.out) (by have := hl.out; have := HMl.out; omega) Hb5.out.size ?_); intro v6 w6 ho6 hg6))
      go_ret2
      exact ⟨_, rfl, by rw [← HM.out]; exact ho6, Ho5.out.below Hb5.out Hb5.out.size hg6⟩

set_option maxRecDepth 100000 in
set_option maxHeartbeats 2000000 in
theorem eight_any (w : World) (v : UInt64) :
    Calls Try.prog 59 #[W64 v] w fun e w' => ∃ v', e = .returned v' ∧ OwnB w' w.heap.size v' (be64 v) ∧ Below w.heap.size w w' := by
  go_enter Try.func59, Try.ntmps59
  go_wp2_with (go_at_call 96; refine (refPut_any (.empty w none 0 (by unfold maxLen; omega) (fun _ => rfl)) v 8 (by omega) (by omega) (by omega) (Nat.lt_of_lt_of_le v.toNat_lt (by decide))).mono ?_; rintro e w1 ⟨v1, rfl, ho1, hb1⟩)
  go_ret
  exact ⟨_, rfl, by rw [← beList_eight]; exact ho1, hb1⟩
end Go.Proofs.Ytafakjdolnigaaa
