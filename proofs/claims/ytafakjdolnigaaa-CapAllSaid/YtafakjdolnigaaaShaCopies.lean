/- The walk of cofferlaw2.ShaCopies. -/
import Derived.Test.YtafakjdolnigaaaBegun2
namespace Go.Proofs.Ytafakjdolnigaaa
open Go.RowKit
set_option linter.unusedVariables false

theorem of_one {w : World} {r : Option Addr} {len cap : Nat} {a : List UInt8} (h : BytesAt w r len cap a) (hsz : a.length ≤ 1000000000000000000) (k : Nat) (hk : k = w.heap.size) :
    Calls Try.prog 31 #[.slice (some ⟨k, 0, none⟩) 1 1] (w.alloc (.cells #[.slice r len cap] 29)) fun e w' => e = .returned (.agg (row8 (digest a))) ∧ Below w.heap.size w w' := by
  have := of_any (parts_one h k hk) (by simpa using hsz)
  refine this.mono fun e w' ⟨he, hb⟩ => ⟨?_, below_seq (below_one _ _) hb⟩
  simpa using he
theorem of_two {w : World} {r r2 : Option Addr} {len cap len2 cap2 : Nat} {a b : List UInt8} (h : BytesAt w r len cap a) (h2 : BytesAt w r2 len2 cap2 b) (hsz : a.length + b.length ≤ 1000000000000000000) (k : Nat) (hk : k = w.heap.size) :
    Calls Try.prog 31 #[.slice (some ⟨k, 0, none⟩) 2 2] (w.alloc (.cells #[.slice r len cap, .slice r2 len2 cap2] 29)) fun e w' => e = .returned (.agg (row8 (digest (a ++ b)))) ∧ Below w.heap.size w w' := by
  have := of_any (parts_two h h2 k hk) (by simpa using hsz)
  refine this.mono fun e w' ⟨he, hb⟩ => ⟨?_, below_seq (below_one _ _) hb⟩
  simpa using he

/-- A write to a hash that is one's own. -/
theorem write_own {w0 w : World} {b : Nat} {m c : List UInt8} {r : Option Addr} {len cap : Nat} (hh : HashAt w b m) (hc : BytesAt w0 r len cap c) (hb : Below w0.heap.size w0 w) (hlt : w0.heap.size ≤ b) (hsz : m.length + c.length ≤ 1000000000000000000) :
    Calls Try.prog 29 #[.pointer (some ⟨b, 0, none⟩), .slice r len cap] w fun e w' => e = .returned (.tuple #[]) ∧ HashAt w' b (m ++ c) ∧ w.grownBy w' (some b) ∧ Below w0.heap.size w0 w' := by
  refine (write_any b m c r len cap w hh (hc.below hb) (fun a ha h0 => ?_) (by omega)).mono fun e w' ⟨he, h1, h2⟩ => ⟨he, h1, h2, below_of_grown hb h2 hlt⟩
  have := hc.lt ha h0
  omega
theorem HashAt.other {w w' : World} {b c : Nat} {m : List UInt8} (h : HashAt w b m) (hg : w.grownBy w' (some c)) (hne : b ≠ c) : HashAt w' b m := h.keep (hg.block _ h.lt (by simpa using hne))

set_option maxRecDepth 100000 in
set_option maxHeartbeats 2000000 in
theorem shaCopies_walk {w : World} {ra rb rc : Option Addr} {la ca lb cb lc cc : Nat} {a b c : List UInt8} (A : BytesAt w ra la ca a) (B : BytesAt w rb lb cb b) (C : BytesAt w rc lc cc c) :
    Calls Try.prog 7 #[.slice ra la ca, .slice rb lb cb, .slice rc lc cc] w fun e w' => e = .returned (.bool true) ∧ Below w.heap.size w w' := by
  by_cases ha : 4096 < la
  · go_enter Try.func7, Try.ntmps7
    go_wp2_with (go_at_call 25; refine (begun2 _).mono ?_; rintro e w1 ⟨rfl, h1⟩)
    go_ret
    exact ⟨rfl, h1⟩
  by_cases hb : 4096 < lb
  · go_enter Try.func7, Try.ntmps7
    go_wp2_with (go_at_call 25; refine (begun2 _).mono ?_; rintro e w1 ⟨rfl, h1⟩)
    go_ret
    exact ⟨rfl, h1⟩
  by_cases hc : 4096 < lc
  · go_enter Try.func7, Try.ntmps7
    go_wp2_with (go_at_call 25; refine (begun2 _).mono ?_; rintro e w1 ⟨rfl, h1⟩)
    go_ret
    exact ⟨rfl, h1⟩
  have hla := Lib.hid A.hlen
  have hlb := Lib.hid B.hlen
  have hlc := Lib.hid C.hlen
  have hkl : la + lc < 9223372036854775808 := by omega
  go_enter Try.func7, Try.ntmps7
  go_upto_region 10 with (first
    | (go_at_call 25; refine (begun2 _).mono ?_; rintro e w1 ⟨rfl, h1⟩)
    | (go_at_call 28; refine (new_any _).mono ?_; rintro e w2 ⟨x, rfl, hx2, hxl, h2⟩; have k2 := below_seq h1 h2; have hxw : w.heap.size ≤ x := Nat.le_trans h1.size hxl; clear h1 h2 hxl)
    | (go_at_call 29; with_reducible refine (write_own (b := x) hx2 A k2 hxw (by have := hla.out; have := hlb.out; have := hlc.out; simp; omega)).mono ?_; rintro e w3 ⟨rfl, hx3, g3, k3⟩; clear g3 k2 hx2)
    | (go_at_call 40; refine (copy_at hx3).mono ?_; rintro e w4 ⟨y, rfl, hy4, hyl, h4⟩; have hx4 := hx3.below h4; have k4 := below_seq k3 h4; have hyw : w.heap.size ≤ y := Nat.le_trans k3.size hyl; have hxy : x < y := Nat.lt_of_lt_of_le hx3.lt hyl; clear h4 hyl k3 hx3)
    | (go_at_call 29; with_reducible refine (write_own (b := x) hx4 B k4 hxw (by have := hla.out; have := hlb.out; have := hlc.out; simp; omega)).mono ?_; rintro e w5 ⟨rfl, hx5, g5, k5⟩; have hy5 := hy4.other g5 (by omega); clear g5 k4 hx4 hy4)
    | (go_at_call 29; with_reducible refine (write_own (b := y) hy5 C k5 hyw (by have := hla.out; have := hlb.out; have := hlc.out; simp; omega)).mono ?_; rintro e w6 ⟨rfl, hy6, g6, k6⟩; have hx6 := hx5.other g6 (by omega); clear g6 k5 hx5 hy5))
  rw [List.nil_append] at hx6 hy6
  have Hx := Lib.hid hx6
  have Hy := Lib.hid hy6
  have K6 := Lib.hid k6
  have cl : ((a ++ c).length : Int) = (la : Int) + (lc : Int) := by rw [List.length_append, hla.out, hlc.out]; omega
  have Cl := Lib.hid cl
  clear hx6 hy6 k6 cl
  have ws : ∀ u v : List UInt8, u.length ≤ 4096 → v.length ≤ 4096 → (u ++ v).length ≤ 1000000000000000000 := fun u v h1 h2 => by simp; omega
  have Ws := Lib.hid ws
  clear ws
  go_wp2_with (first
    | (go_at_call 32; with_reducible refine (sum_at Hx.out (by have := hla.out; have := hlb.out; have := hlc.out; simp; omega)).mono ?_; rintro e w7 ⟨rfl, h7⟩; have k7 := below_seq K6.out h7; have Hy7 := Lib.hid (Hy.out.below h7))
    | (go_at_call 31; with_reducible refine (of_two (A.below k7) (B.below k7) (by have := hla.out; have := hlb.out; have := hlc.out; omega) _ rfl).mono ?_; rintro e w8 ⟨rfl, h8⟩; have k8 := below_seq k7 h8; have Hy8 := Lib.hid (Hy7.out.below h8))
    | (go_at_call 32; with_reducible refine (sum_at Hy8.out (by have := hla.out; have := hlb.out; have := hlc.out; simp; omega)).mono ?_; rintro e w9 ⟨rfl, h9⟩; have k9 := below_seq k8 h9; have Hy9 := Lib.hid (Hy8.out.below h9))
    | (go_at_call 31; with_reducible refine (of_two (A.below k9) (C.below k9) (by have := hla.out; have := hlb.out; have := hlc.out; omega) _ rfl).mono ?_; rintro e w10 ⟨rfl, h10⟩; have k10 := below_seq k9 h10; have Hy10 := Lib.hid (Hy9.out.below h10))
    | (go_at_call 33; with_reducible refine (len_at Hy10.out).mono ?_; rintro e w11 ⟨rfl, rfl⟩; rw [Cl.out]))
  go_ret
  exact ⟨rfl, k10⟩
end Go.Proofs.Ytafakjdolnigaaa
