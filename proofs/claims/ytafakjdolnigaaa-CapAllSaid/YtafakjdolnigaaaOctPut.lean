/- The walks of cofferlaw's octet.own and octet.Put, cofferref1.Put and Eight. -/
import Derived.Test.YtafakjdolnigaaaGLib
import Derived.Test.YtafakjdolnigaaaGNum
namespace Go.Proofs.Ytafakjdolnigaaa
open Go.RowKit
set_option linter.unusedVariables false

/-- A row that was just laid is one's own. -/
theorem ownB_row (w : World) (bs : List UInt8) (vs : Array Value) (hv : vs = row8 bs) (base n k : Nat) (hn : bs.length = n) (hk : k = w.heap.size) (hm : n ≤ maxLen) (hb : base ≤ w.heap.size) :
    OwnB (w.alloc (.cells vs 5)) base (.slice (some ⟨k, 0, none⟩) n n) bs := by
  subst hv hn hk
  refine ⟨by simp, .inr ⟨_, _, _, rfl, hb, heap_alloc_new w _, Nat.le_refl _, hm, by rw [row8_size, Nat.mul_one], ?_⟩⟩
  simp [row8, List.take_of_length_le]
theorem ownB_one (w : World) (x : UInt8) (base : Nat) (hb : base ≤ w.heap.size) : OwnB (w.alloc (.cells #[W8 x] 5)) base (.slice (some ⟨w.heap.size, 0, none⟩) 1 1) [x] :=
  ownB_row w [x] _ rfl base 1 _ rfl rfl (maxLen_small _ (by omega)) hb
theorem ownB_nil (w : World) (base : Nat) (hb : base ≤ w.heap.size) : OwnB (w.alloc (.cells #[] 5)) base (.slice (some ⟨w.heap.size, 0, none⟩) 0 0) [] :=
  ownB_row w [] _ rfl base 0 _ rfl rfl (maxLen_small _ (by omega)) hb
theorem ownB_base {w : World} {base base' : Nat} {v : Value} {bs : List UInt8} (h : OwnB w base v bs) (hb : base' ≤ base) : OwnB w base' v bs := by
  obtain ⟨hl, h0 | ⟨g, cap, cur, hv, hb', hr⟩⟩ := h
  · exact ⟨hl, .inl h0⟩
  · exact ⟨hl, .inr ⟨g, cap, cur, hv, Nat.le_trans hb hb', hr⟩⟩

set_option maxRecDepth 100000 in
set_option maxHeartbeats 1000000 in
theorem octOwn_any {w : World} {r : Option Addr} {len cap : Nat} {bs : List UInt8} (h : BytesAt w r len cap bs) (n : Nat) (hn : n ≤ 1048576) (hsz : len ≤ 1099511627776) :
    Calls Try.prog 115 #[.slice r len cap, .int .i64 (n : Int)] w fun e w' => ∃ v, e = .returned v ∧ OwnB w' w.heap.size v bs ∧ Below w.heap.size w w' := by
  obtain ⟨i, hi, hz, hs, hby⟩ := infoU8
  have Hlen := Lib.hid h.hlen
  go_enter Try.func115, Try.ntmps115
  go_wp2_with (first
    | (refine wpList_make_own _ rfl _ _ 29 rfl w.heap.size 5 i _ 1 Try.underlying29 hi hz hs .i64 .i64 _ (len + n) rfl rfl (by omega) (by rw [hby]; omega) (by unfold maxLen; omega) (Nat.le_refl _) ?_; intro w1 ho1 hg1; have hb1 := (Below.refl w.heap.size w).grown hg1 (Nat.le_refl _) (fun k hk => by cases hk))
    | (refine wpList_append_bytes rfl _ _ rfl w.heap.size _ [] bs r len cap rfl rfl ho1 (h.below hb1) (by have := Hlen.out; simp; omega) hb1.size ?_; intro v2 w2 ho2 hg2))
  go_ret
  exact ⟨_, rfl, ho2, OwnB.below (bs := []) ho1 hb1 hb1.size hg2⟩

set_option maxRecDepth 100000 in
set_option maxHeartbeats 2000000 in
theorem octPut4 {w : World} {r : Option Addr} {len cap : Nat} {bs : List UInt8} (h : BytesAt w r len cap bs) (v : UInt64) (hsz : len ≤ 1099511627776) (hv : v >>> 32 = 0) :
    Calls Try.prog 95 #[.slice r len cap, W64 v, .int .i64 4] w fun e w' => ∃ v', e = .returned (.tuple #[v', .int .i64 0]) ∧ OwnB w' w.heap.size v' (bs ++ beList 4 v) ∧ Below w.heap.size w w' := by
  have hl := Lib.hid h.hlen
  go_enter Try.func95, Try.ntmps95
  go_wp2_with (go_at_call 115; refine (octOwn_any h 4 (by omega) hsz).mono ?_; rintro e w1 ⟨v1, rfl, ho1, hb1⟩)
  clear h
  go_loopw [8, 9] (fun v8 v9 wr => ∃ j : Nat, j ≤ 4 ∧ v9 = .int .i64 (3 - (j : Int)) ∧ OwnB wr w.heap.size v8 (bs ++ (beList 4 v).take j) ∧ Below w.heap.size w wr) (fun _ v _ => (intOf v + 1).toNat)
  case atStart => exact ⟨0, by omega, rfl, by simpa using ho1, hb1⟩
  case round =>
    clear ho1 hb1
    obtain ⟨j, hj, rfl, ho, hb⟩ := hrel
    obtain ⟨M, hM⟩ : ∃ M, M = bs ++ (beList 4 v).take j := ⟨_, rfl⟩
    rw [← hM] at ho
    obtain ⟨rv, capv, rfl, _, _⟩ := ho.at
    have Ho := Lib.hid ho
    have Hb := Lib.hid hb
    have HM := Lib.hid hM
    clear ho hb hM
    by_cases hlt : j < 4
    · have hx := shr_byte64 v (3 - j) (by omega)
      have hap := beList_take 4 v j hlt
      have hll : M.length + 1 ≤ 70368744177664 := by
        have := hl.out
        rw [HM.out, List.length_append, List.length_take, beList_length]
        omega
      have Hx := Lib.hid hx
      have Hap := Lib.hid hap
      have Hll := Lib.hid hll
      have I1 := Lib.hid (show ((8 * (3 - j) : Nat) : Int) = 8 * (3 - (j : Int)) by omega)
      clear hx hap hll
      obtain ⟨Y, hY⟩ : ∃ Y, Y = v >>> UInt64.ofNat (8 * (3 - j)) := ⟨_, rfl⟩
      have HY := Lib.hid hY
      clear hY
      go_wp2_with (first
        | (refine wpList_shr64 rfl 35 97 _ _ rfl v rfl _ _ rfl (8 * (3 - j)) I1.out.symm (by omega) ?_; rw [← HY.out])
        | ((with_reducible refine wpList_append_bytes rfl _ _ rfl w.heap.size _ _ [Y.toUInt8] _ 1 1 rfl rfl (Ho.out.keep (below_one _ _)) (bytes_one wr _ _ rfl) Hll.out (Nat.le_trans Hb.out.size (below_one _ _).size) ?_); intro v5 w5 ho5 hg5))
      refine ⟨⟨j + 1, by omega, by go_num, ?_, ?_⟩, by simp [intOf]; omega⟩
      · rw [Hap.out, ← List.append_assoc, ← HM.out, show 4 - 1 - j = 3 - j by omega, ← Hx.out, ← HY.out]; exact ho5
      · exact (Ho.out.keep (below_one _ _)).below (Hb.out.trans ((below_one _ _).mono Hb.out.size)) (Nat.le_trans Hb.out.size (below_one _ _).size) hg5
    · obtain rfl : j = 4 := by omega
      have ht : (beList 4 v).take 4 = beList 4 v := List.take_of_length_le (by rw [beList_length]; omega)
      have hv9 : ¬ (0 : Int) ≤ 3 - ((4 : Nat) : Int) := by omega
      rw [ht] at HM
      clear ht
      go_wp2
      go_ret2
      exact ⟨_, rfl, by rw [← HM.out]; exact Ho.out, Hb.out⟩

set_option maxRecDepth 100000 in
set_option maxHeartbeats 2000000 in
theorem octPut8 {w : World} {r : Option Addr} {len cap : Nat} {bs : List UInt8} (h : BytesAt w r len cap bs) (v : UInt64) (hsz : len ≤ 1099511627776) :
    Calls Try.prog 95 #[.slice r len cap, W64 v, .int .i64 8] w fun e w' => ∃ v', e = .returned (.tuple #[v', .int .i64 0]) ∧ OwnB w' w.heap.size v' (bs ++ beList 8 v) ∧ Below w.heap.size w w' := by
  have hl := Lib.hid h.hlen
  go_enter Try.func95, Try.ntmps95
  go_wp2_with (go_at_call 115; refine (octOwn_any h 8 (by omega) hsz).mono ?_; rintro e w1 ⟨v1, rfl, ho1, hb1⟩)
  clear h
  go_loopw [8, 9] (fun v8 v9 wr => ∃ j : Nat, j ≤ 8 ∧ v9 = .int .i64 (7 - (j : Int)) ∧ OwnB wr w.heap.size v8 (bs ++ (beList 8 v).take j) ∧ Below w.heap.size w wr) (fun _ v _ => (intOf v + 1).toNat)
  case atStart => exact ⟨0, by omega, rfl, by simpa using ho1, hb1⟩
  case round =>
    clear ho1 hb1
    obtain ⟨j, hj, rfl, ho, hb⟩ := hrel
    obtain ⟨M, hM⟩ : ∃ M, M = bs ++ (beList 8 v).take j := ⟨_, rfl⟩
    rw [← hM] at ho
    obtain ⟨rv, capv, rfl, _, _⟩ := ho.at
    have Ho := Lib.hid ho
    have Hb := Lib.hid hb
    have HM := Lib.hid hM
    clear ho hb hM
    by_cases hlt : j < 8
    · have hx := shr_byte64 v (7 - j) (by omega)
      have hap := beList_take 8 v j hlt
      have hll : M.length + 1 ≤ 70368744177664 := by
        have := hl.out
        rw [HM.out, List.length_append, List.length_take, beList_length]
        omega
      have Hx := Lib.hid hx
      have Hap := Lib.hid hap
      have Hll := Lib.hid hll
      have I1 := Lib.hid (show ((8 * (7 - j) : Nat) : Int) = 8 * (7 - (j : Int)) by omega)
      clear hx hap hll
      obtain ⟨Y, hY⟩ : ∃ Y, Y = v >>> UInt64.ofNat (8 * (7 - j)) := ⟨_, rfl⟩
      have HY := Lib.hid hY
      clear hY
      go_wp2_with (first
        | (refine wpList_shr64 rfl 35 97 _ _ rfl v rfl _ _ rfl (8 * (7 - j)) I1.out.symm (by omega) ?_; rw [← HY.out])
        | ((with_reducible refine wpList_append_bytes rfl _ _ rfl w.heap.size _ _ [Y.toUInt8] _ 1 1 rfl rfl (Ho.out.keep (below_one _ _)) (bytes_one wr _ _ rfl) Hll.out (Nat.le_trans Hb.out.size (below_one _ _).size) ?_); intro v5 w5 ho5 hg5))
      refine ⟨⟨j + 1, by omega, by go_num, ?_, ?_⟩, by simp [intOf]; omega⟩
      · rw [Hap.out, ← List.append_assoc, ← HM.out, show 8 - 1 - j = 7 - j by omega, ← Hx.out, ← HY.out]; exact ho5
      · exact (Ho.out.keep (below_one _ _)).below (Hb.out.trans ((below_one _ _).mono Hb.out.size)) (Nat.le_trans Hb.out.size (below_one _ _).size) hg5
    · obtain rfl : j = 8 := by omega
      have ht : (beList 8 v).take 8 = beList 8 v := List.take_of_length_le (by rw [beList_length]; omega)
      have hv9 : ¬ (0 : Int) ≤ 7 - ((8 : Nat) : Int) := by omega
      rw [ht] at HM
      clear ht
      go_wp2
      go_ret2
      exact ⟨_, rfl, by rw [← HM.out]; exact Ho.out, Hb.out⟩
end Go.Proofs.Ytafakjdolnigaaa
