/- The walk of cofferlaw2.ShaKept. -/
import Derived.Test.YtafakjdolnigaaaLib0
import Derived.Test.YtafakjdolnigaaaShaCopies
namespace Go.Proofs.Ytafakjdolnigaaa
open Go.RowKit
set_option linter.unusedVariables false

set_option maxRecDepth 100000 in
set_option maxHeartbeats 2000000 in
theorem shaKept_walk {w : World} {ra rb : Option Addr} {la ca lb cb : Nat} {a b : List UInt8} (A : BytesAt w ra la ca a) (B : BytesAt w rb lb cb b) :
    Calls Try.prog 5 #[.slice ra la ca, .slice rb lb cb] w fun e w' => e = .returned (.bool true) ∧ Below w.heap.size w w' := by
  by_cases ha : 4096 < la
  · go_enter Try.func5, Try.ntmps5
    go_wp2_with (go_at_call 25; refine (begun2 _).mono ?_; rintro e w1 ⟨rfl, h1⟩)
    go_ret
    exact ⟨rfl, h1⟩
  by_cases hb : 4096 < lb
  · go_enter Try.func5, Try.ntmps5
    go_wp2_with (go_at_call 25; refine (begun2 _).mono ?_; rintro e w1 ⟨rfl, h1⟩)
    go_ret
    exact ⟨rfl, h1⟩
  have hla := Lib.hid A.hlen
  have hlb := Lib.hid B.hlen
  go_enter Try.func5, Try.ntmps5
  go_wp2_with (first
    | (go_at_call 25; refine (begun2 _).mono ?_; rintro e w1 ⟨rfl, h1⟩)
    | (go_at_call 28; refine (new_any _).mono ?_; rintro e w2 ⟨x, rfl, hx2, hxl, h2⟩; have k2 := below_seq h1 h2; have hxw : w.heap.size ≤ x := Nat.le_trans h1.size hxl; clear h1 h2 hxl)
    | (go_at_call 36; refine (twin_any (A.below k2) (by omega)).mono ?_; rintro e w3 ⟨g, rfl, ht, hg, h3⟩; have hx3 := hx2.below h3; have k3 := below_seq k2 h3; have hxg : x < g := Nat.lt_of_lt_of_le hx2.lt hg; have T3 := Lib.hid ht; clear h3 hg ht hx2 k2)
    | (go_at_call 29; with_reducible refine (write_any x [] a (some ⟨g, 0, none⟩) la (la + 3) _ hx3 (by have := T3.out.at; rw [hla.out] at this; exact this) (by rintro q hq _; obtain rfl := Option.some.inj hq; exact Nat.ne_of_gt hxg) (by have := hla.out; simp; omega)).mono ?_; rintro e w4 ⟨rfl, hx4, g4⟩; have k4 := below_of_grown k3 g4 hxw; have T4 := Lib.hid (T3.out.keep (g4.block _ T3.out.lt (by simp; omega))); clear g4 k3 hx3 T3)
    | (go_at_call 37; refine (spoil_any T4.out hla.out (by omega)).mono ?_; rintro e w5 ⟨rfl, g5⟩; have hx5 := hx4.other g5 (by omega); have k5 := below_of_grown k4 g5 (by omega); clear g5 k4 hx4 T4)
    | (go_at_call 29; with_reducible refine (write_own (b := x) hx5 B k5 hxw (by have := hla.out; have := hlb.out; simp; omega)).mono ?_; rintro e w6 ⟨rfl, hx6, g6, k6⟩; clear g6 k5 hx5; rw [List.nil_append] at hx6)
    | (go_at_call 32; with_reducible refine (sum_at hx6 (by have := hla.out; have := hlb.out; simp; omega)).mono ?_; rintro e w7 ⟨rfl, h7⟩; have k7 := below_seq k6 h7)
    | (go_at_call 31; with_reducible refine (of_two (A.below k7) (B.below k7) (by have := hla.out; have := hlb.out; omega) _ rfl).mono ?_; rintro e w8 ⟨rfl, h8⟩; have k8 := below_seq k7 h8))
  go_ret
  exact ⟨rfl, k8⟩
end Go.Proofs.Ytafakjdolnigaaa
