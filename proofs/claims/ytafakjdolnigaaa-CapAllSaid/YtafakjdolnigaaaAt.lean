/- The walks of octet.At and cofferref1.At. -/
import Derived.Test.YtafakjdolnigaaaGNum
import Derived.Test.YtafakjdolnigaaaOwn
namespace Go.Proofs.Ytafakjdolnigaaa
open Go.RowKit
set_option linter.unusedVariables false

theorem sub_at (bs : List UInt8) (a n k : Nat) (h : k < n) : ((bs.drop a).take n)[k]?.getD 0 = bs[a + k]?.getD 0 := by
  rw [List.getElem?_take, if_pos h, List.getElem?_drop]

set_option maxRecDepth 100000 in
set_option maxHeartbeats 2000000 in
theorem octAt_any {w : World} {r : Option Addr} {len cap : Nat} {bs : List UInt8} (h : BytesAt w r len cap bs) (at_ n : Nat) (hn1 : 1 ≤ n) (hn8 : n ≤ 8) (hl : at_ + n ≤ len) :
    Calls Try.prog 98 #[.slice r len cap, .int .i64 (at_ : Int), .int .i64 (n : Int)] w fun e w' => e = .returned (.tuple #[W64 (numOf ((bs.drop at_).take n)), .int .i64 0]) ∧ w = w' := by
  have hmax : cap ≤ 9223372036854775807 := h.hmax
  have hle := h.hle
  have hlen := Lib.hid h.hlen
  obtain ⟨p, hp⟩ : ∃ p, p = (bs.drop at_).take n := ⟨_, rfl⟩
  have hpl : p.length = n := by rw [hp, List.length_take, List.length_drop, hlen.out]; omega
  have hpt : (bs.take (at_ + n)).drop at_ = p := by rw [hp, List.drop_take]; congr 1; omega
  rw [← hp]
  have H := Lib.hid h
  have Hpl := Lib.hid hpl
  have Hpt := Lib.hid hpt
  clear hp hpl hpt h
  go_enter Try.func98, Try.ntmps98
  go_wp2_with (refine wpList_slice rfl 29 5 _ (some _) (some _) none rfl Try.underlying29 info5 r len cap rfl at_ (at_ + n) cap ⟨_, rfl⟩ ⟨_, by go_num⟩ rfl (by omega) hl (Nat.le_trans hl hle) (Nat.le_refl _) (by simp) H.out ?_; intro r2 hr2 hblk; rw [Hpt.out, Nat.add_sub_cancel_left] at hr2; rw [Nat.add_sub_cancel_left])
  have Hr2 := Lib.hid hr2
  clear hr2 hblk
  go_loop [8, 10, 36] (fun v8 _ v36 => ∃ k : Nat, k ≤ n ∧ v36 = .int .i64 (k : Int) ∧ v8 = W64 (numOf (p.take k))) (fun _ _ v => n - (intOf v).toNat)
  case atStart => exact ⟨0, by omega, rfl, rfl⟩
  case round =>
    obtain ⟨k, hk, rfl, rfl⟩ := hrel
    by_cases hlt : k < n
    · obtain ⟨b, o, rfl, hc⟩ := Hr2.out.hcells (by omega)
      have hcell := hc k hlt
      have hst := numOf_take p k (by rw [Hpl.out]; exact hlt)
      have hsh := shl8_or (numOf (p.take k)) (p[k]?.getD 0)
      rw [← hst] at hsh
      have Hsh := Lib.hid hsh
      obtain ⟨N', hN⟩ : ∃ N', N' = numOf (p.take (k + 1)) := ⟨_, rfl⟩
      obtain ⟨V, hV⟩ : ∃ V, V = numOf (p.take k) := ⟨_, rfl⟩
      obtain ⟨c, hcc⟩ : ∃ c, c = p[k]?.getD 0 := ⟨_, rfl⟩
      rw [← hN, ← hV, ← hcc] at Hsh
      rw [← hV]
      rw [← hcc] at hcell
      have HN := Lib.hid hN
      clear hc hst hsh hN hV hcc
      go_wp2
      go_round
      case rel => exact ⟨k + 1, by omega, by go_num, by rw [Hsh.out, HN.out]⟩
      case measure => simp [intOf]; omega
    · obtain rfl : k = n := by omega
      have ht : p.take k = p := List.take_of_length_le (by rw [Hpl.out]; exact Nat.le_refl _)
      rw [ht]
      clear ht
      go_wp2
      go_ret2
      exact ⟨rfl, rfl⟩

set_option maxRecDepth 100000 in
set_option maxHeartbeats 2000000 in
theorem octAt_short {w : World} {r : Option Addr} {len cap : Nat} (at_ n : Nat) (hn1 : 1 ≤ n) (hn8 : n ≤ 8) (ha : at_ ≤ 1099511627776) (hm : len ≤ 9223372036854775807) (hl : len < at_ + n) :
    Calls Try.prog 98 #[.slice r len cap, .int .i64 (at_ : Int), .int .i64 (n : Int)] w fun e w' => e = .returned (.tuple #[.int .u64 0, .int .i64 3]) ∧ w = w' := by
  go_enter Try.func98, Try.ntmps98
  go_wp2
  go_ret2
  exact ⟨rfl, rfl⟩

set_option maxRecDepth 100000 in
set_option maxHeartbeats 2000000 in
theorem refAt_any {w : World} {r : Option Addr} {len cap : Nat} {bs : List UInt8} (h : BytesAt w r len cap bs) (at_ n : Nat) (hn1 : 1 ≤ n) (hn8 : n ≤ 8) (hl : at_ + n ≤ len) :
    Calls Try.prog 100 #[.slice r len cap, .int .i64 (at_ : Int), .int .i64 (n : Int)] w fun e w' => e = .returned (.tuple #[W64 (numOf ((bs.drop at_).take n)), .int .i64 0]) ∧ w = w' := by
  have hmax : cap ≤ 9223372036854775807 := h.hmax
  have hle := h.hle
  have hlen := Lib.hid h.hlen
  obtain ⟨p, hp⟩ : ∃ p, p = (bs.drop at_).take n := ⟨_, rfl⟩
  have hpl : p.length = n := by rw [hp, List.length_take, List.length_drop, hlen.out]; omega
  have hpat : ∀ k, k < n → p[k]?.getD 0 = bs[at_ + k]?.getD 0 := fun k hk => by rw [hp]; exact sub_at bs at_ n k hk
  rw [← hp]
  have H := Lib.hid h
  have Hpl := Lib.hid hpl
  have Hpat := Lib.hid hpat
  clear hp hpl hpat h
  go_enter Try.func100, Try.ntmps100
  go_wp2
  go_loop [8, 9] (fun v8 v9 => ∃ k : Nat, k ≤ n ∧ v9 = .int .i64 (k : Int) ∧ v8 = W64 (numOf (p.take k))) (fun _ v => n - (intOf v).toNat)
  case atStart => exact ⟨0, by omega, rfl, rfl⟩
  case round =>
    obtain ⟨k, hk, rfl, rfl⟩ := hrel
    by_cases hlt : k < n
    · obtain ⟨b, o, rfl, hc⟩ := H.out.hcells (by omega)
      have hcell := hc (at_ + k) (by omega)
      rw [← Hpat.out k hlt] at hcell
      have hst := numOf_take p k (by rw [Hpl.out]; exact hlt)
      obtain ⟨N', hN⟩ : ∃ N', N' = numOf (p.take (k + 1)) := ⟨_, rfl⟩
      obtain ⟨V, hV⟩ : ∃ V, V = numOf (p.take k) := ⟨_, rfl⟩
      obtain ⟨c, hcc⟩ : ∃ c, c = p[k]?.getD 0 := ⟨_, rfl⟩
      rw [← hN, ← hV, ← hcc] at hst
      rw [← hV]
      rw [← hcc] at hcell
      have HN := Lib.hid hN
      have Hst := Lib.hid hst
      clear hc hst hN hV hcc
      go_wp2
      go_round
      case rel => exact ⟨k + 1, by omega, by go_num, by rw [← Hst.out, HN.out]⟩
      case measure => simp [intOf]; omega
    · obtain rfl : k = n := by omega
      have ht : p.take k = p := List.take_of_length_le (by rw [Hpl.out]; exact Nat.le_refl _)
      rw [ht]
      clear ht
      go_wp2
      go_ret2
      exact ⟨rfl, rfl⟩
end Go.Proofs.Ytafakjdolnigaaa
