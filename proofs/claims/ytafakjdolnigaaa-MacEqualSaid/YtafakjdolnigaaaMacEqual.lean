/- The walk of cofferlaw3.MacEqual, from its four cases. -/
import Derived.Test.YtafakjdolnigaaaMacEqB
import Derived.Test.YtafakjdolnigaaaMacEqC
import Derived.Test.YtafakjdolnigaaaMacEqD
import Derived.Test.YtafakjdolnigaaaMacEqE
namespace Go.Proofs.Ytafakjdolnigaaa
open Go.RowKit
set_option linter.unusedVariables false

set_option maxRecDepth 100000 in
set_option maxHeartbeats 2000000 in
theorem macEqual_walk {w : World} {ra rb : Option Addr} {la ca lb cb : Nat} {a b : List UInt8} (A : BytesAt w ra la ca a) (B : BytesAt w rb lb cb b) {n : Int} (hn : (Lit.int .i64 n).wf = true) {x : Int} (hx : (Lit.int .u8 x).wf = true) :
    Calls Try.prog 11 #[.slice ra la ca, .slice rb lb cb, .int .i64 n, .int .u8 x] w fun e w' => e = .returned (.bool true) ∧ Below w.heap.size w w' := by
  rw [byte_ofInt hx]
  obtain ⟨y, hy⟩ : ∃ y, y = UInt8.ofNat x.toNat := ⟨_, rfl⟩
  rw [← hy]
  clear hy hx
  by_cases ha : 4096 < la
  · clear A B
    go_enter Try.func11, Try.ntmps11
    go_wp2_with (go_at_call 51; refine (begun3 _).mono ?_; rintro e w1 ⟨rfl, h1⟩)
    go_ret
    exact ⟨rfl, h1⟩
  by_cases hb : 4096 < lb
  · clear A B
    go_enter Try.func11, Try.ntmps11
    go_wp2_with (go_at_call 51; refine (begun3 _).mono ?_; rintro e w1 ⟨rfl, h1⟩)
    go_ret
    exact ⟨rfl, h1⟩
  by_cases h0 : la = 0
  · cases hx0 : (y == 0) with
    | true => exact macEqual_none0 A B hn (by omega) (by omega) h0 hx0
    | false => exact macEqual_none1 A B hn (by omega) (by omega) h0 hx0
  · cases hx0 : (y == 0) with
    | true => exact macEqual_some0 A B hn (by omega) (by omega) (by omega) hx0
    | false => exact macEqual_some1 A B hn (by omega) (by omega) (by omega) hx0
end Go.Proofs.Ytafakjdolnigaaa
