/- The walks of mac.Equal and mac.Derive. -/
import Derived.Test.YtafakjdolnigaaaMacC
namespace Go.Proofs.Ytafakjdolnigaaa
open Go.RowKit
set_option linter.unusedVariables false

/-- What the loop of Equal knows. -/
def EqTo (a b : List UInt8) (k : Nat) (x : UInt8) : Prop := x = 0 ↔ a.take k = b.take k
theorem or_xor_zero (x p q : UInt8) : x ||| (p ^^^ q) = 0 ↔ x = 0 ∧ p = q := by
  constructor
  · intro h
    have h1 := congrArg UInt8.toBitVec h
    simp only [UInt8.toBitVec_or, UInt8.toBitVec_xor] at h1
    have h2 : x.toBitVec = 0 ∧ p.toBitVec ^^^ q.toBitVec = 0 := BitVec.or_eq_zero_iff.1 h1
    exact ⟨UInt8.toBitVec_inj.1 h2.1, UInt8.toBitVec_inj.1 (BitVec.xor_eq_zero_iff.1 h2.2)⟩
  · rintro ⟨rfl, rfl⟩
    simp
theorem eqTo_step {a b : List UInt8} {k : Nat} {x : UInt8} (h : EqTo a b k x) (ha : k < a.length) (hb : k < b.length) : EqTo a b (k + 1) (x ||| (a[k]?.getD 0 ^^^ b[k]?.getD 0)) := by
  unfold EqTo at *
  rw [or_xor_zero, h, List.take_succ_eq_append_getElem ha, List.take_succ_eq_append_getElem hb, List.getElem?_eq_getElem ha, List.getElem?_eq_getElem hb]
  simp only [Option.getD_some]
  constructor
  · rintro ⟨h1, h2⟩; rw [h1, h2]
  · intro h
    have := List.append_inj' h rfl
    exact ⟨this.1, by simpa using this.2⟩
theorem eqTo_end {a b : List UInt8} {k : Nat} {x : UInt8} (h : EqTo a b k x) (ha : a.length = k) (hb : b.length = k) : (x == 0) = (a == b) := by
  unfold EqTo at h
  rw [List.take_of_length_le (by omega), List.take_of_length_le (by omega)] at h
  rw [Bool.eq_iff_iff]
  simpa using h

set_option maxRecDepth 100000 in
set_option maxHeartbeats 2000000 in
theorem equal_any {w : World} {ra rb : Option Addr} {la ca lb cb : Nat} {a b : List UInt8} (A : BytesAt w ra la ca a) (B : BytesAt w rb lb cb b) :
    Calls Try.prog 52 #[.slice ra la ca, .slice rb lb cb] w fun e w' => e = .returned (.bool (a == b)) ∧ Below w.heap.size w w' := by
  have hla := Lib.hid A.hlen
  have hlb := Lib.hid B.hlen
  have hmax : ca ≤ 9223372036854775807 := A.hmax
  have hle := A.hle
  by_cases hl : la = lb
  · subst hl
    obtain ⟨Rb, hR⟩ : ∃ Rb, Rb = (a == b) := ⟨_, rfl⟩
    rw [← hR]
    have HR := Lib.hid hR
    clear hR
    go_enter Try.func52, Try.ntmps52
    go_wp2
    go_loopw [5, 14] (fun v5 v14 wr => ∃ (k : Nat) (x : UInt8), k ≤ la ∧ v14 = .int .i64 (k : Int) ∧ v5 = W8 x ∧ EqTo a b k x ∧ Below w.heap.size w wr) (fun _ v _ => la - (intOf v).toNat)
    case atStart => exact ⟨0, 0, by omega, rfl, rfl, by unfold EqTo; simp, Below.refl _ _⟩
    case round =>
      obtain ⟨k, x, hk, rfl, rfl, hx, hbel⟩ := hrel
      have Hx := Lib.hid hx
      have Hbel := Lib.hid hbel
      clear hx
      by_cases hlt : k < la
      · obtain ⟨ba, oa, rfl, hca⟩ := A.hcells (by omega)
        obtain ⟨bb, ob, rfl, hcb⟩ := B.hcells (by omega)
        have cA : ∀ y : Ext wr, y.w.cell? ⟨ba, oa + k, none⟩ = some (W8 (a[k]?.getD 0)) := fun y => y.cell (by rw [hbel.cell (p := ⟨ba, oa + k, none⟩) (block_lt_of_cell (hca k hlt))]; exact hca k hlt)
        have cB : ∀ y : Ext wr, y.w.cell? ⟨bb, ob + k, none⟩ = some (W8 (b[k]?.getD 0)) := fun y => y.cell (by rw [hbel.cell (p := ⟨bb, ob + k, none⟩) (block_lt_of_cell (hcb k hlt))]; exact hcb k hlt)
        have Hst := Lib.hid (eqTo_step Hx.out (by have := hla.out; omega) (by have := hlb.out; omega))
        clear hbel hca hcb
        generalize a[k]?.getD 0 = p at *
        generalize b[k]?.getD 0 = q at *
        go_wp2
        refine region_q (fun w' => ∃ x : Ext wr, w' = x.w) (by kernel_rfl) (by kernel_rfl) (ext_draw wr) ?_
        repeat (refine wpQuiet_step (fun K hK => ?_); go_simp; (try go_bits); refine hK _ ?_; clear hK K)
        refine wpQuiet_nil ?_
        rintro _ ⟨y, rfl⟩
        go_wp2
        refine ⟨⟨k + 1, _, by omega, by go_num, rfl, Hst.out, Hbel.out.trans (y.h.mono Hbel.out.size)⟩, by simp [intOf]; omega⟩
      · obtain rfl : k = la := by omega
        clear hbel
        go_wp2
        go_ret
        exact ⟨by rw [HR.out, ← eqTo_end Hx.out hla.out hlb.out]; rfl, Hbel.out⟩
  · have hne : (a == b) = false := by
      rw [beq_eq_false_iff_ne]
      intro h
      exact hl (by rw [← hla.out, ← hlb.out, h])
    rw [hne]
    clear hne
    have hd : (((la : Int) != (lb : Int)) = true) := by simp; omega
    go_enter Try.func52, Try.ntmps52
    go_wp2
    go_ret
    exact ⟨rfl, Below.refl _ _⟩
end Go.Proofs.Ytafakjdolnigaaa
