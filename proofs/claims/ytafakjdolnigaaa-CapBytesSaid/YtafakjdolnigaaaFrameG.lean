/- frame.Take told in one; Spoil over what one owns. -/
import Derived.Test.YtafakjdolnigaaaGFrames
namespace Go.Proofs.Ytafakjdolnigaaa
open Go.RowKit
set_option linter.unusedVariables false

def tkK (bs : List UInt8) : List UInt8 := if takeErr bs = 0 then (bs.drop 14).take 32 else zero32
def tkD (bs : List UInt8) : List UInt8 := if takeErr bs = 0 then (bs.drop 46).take (frameNum bs).toNat else []
def tkN (bs : List UInt8) : Nat := if takeErr bs = 0 then 46 + (frameNum bs).toNat else 0
theorem tkK_length (bs : List UInt8) : (tkK bs).length = 32 := by
  unfold tkK
  by_cases h : takeErr bs = 0
  · rw [if_pos h]; exact (frame_is h).2.2.1
  · rw [if_neg h]; exact zero32_length
theorem tkD_length (bs : List UInt8) : (tkD bs).length ≤ 4200 := by
  unfold tkD
  by_cases h : takeErr bs = 0
  · rw [if_pos h]; have := frame_is h; omega
  · rw [if_neg h]; simp
theorem taken_all {bs : List UInt8} {w : World} {e : Ending} {w' : World} (h : Taken bs w e w') :
    ∃ v, e = .returned (.tuple #[.agg (row8 (tkK bs)), v, .int .i64 (tkN bs : Int), .int .i64 (takeErr bs : Int)]) ∧ OwnB w' w.heap.size v (tkD bs) ∧ Below w.heap.size w w' := by
  unfold tkK tkD tkN
  by_cases h0 : takeErr bs = 0
  · rw [if_pos h0, if_pos h0, if_pos h0, h0]
    exact h.2 h0
  · rw [if_neg h0, if_neg h0, if_neg h0]
    obtain ⟨he, hb⟩ := h.1 h0
    exact ⟨_, he, ownB_none _ _, hb⟩

set_option maxRecDepth 100000 in
set_option maxHeartbeats 1000000 in
theorem spoil_none (w : World) : Calls Try.prog 37 #[.slice none 0 0] w fun e w' => e = .returned (.tuple #[]) ∧ w = w' := by
  go_enter Try.func37, Try.ntmps37
  go_wp2
  go_loopw [3] (fun v wr => v = .int .i64 0 ∧ w = wr) (fun v _ => 0)
  case atStart => exact ⟨rfl, rfl⟩
  case round =>
    obtain ⟨rfl, rfl⟩ := hrel
    go_wp2
    go_end0
    exact ⟨rfl, rfl⟩

set_option maxRecDepth 100000 in
set_option maxHeartbeats 1000000 in
theorem spoil_zero (w : World) (g : Nat) : Calls Try.prog 37 #[.slice (some ⟨g, 0, none⟩) 0 0] w fun e w' => e = .returned (.tuple #[]) ∧ w = w' := by
  go_enter Try.func37, Try.ntmps37
  go_wp2
  go_loopw [3] (fun v wr => v = .int .i64 0 ∧ w = wr) (fun v _ => 0)
  case atStart => exact ⟨rfl, rfl⟩
  case round =>
    obtain ⟨rfl, rfl⟩ := hrel
    go_wp2
    go_end0
    exact ⟨rfl, rfl⟩

set_option maxRecDepth 100000 in
set_option maxHeartbeats 1000000 in
theorem spoil_some {w : World} {g n cap : Nat} (hrow : ∃ cur : Array Value, cur.size = cap ∧ w.heap[g]? = some (.cells cur 5 (0, 0))) (hn : n ≤ cap) (h0 : 0 < cap) (hsz : cap ≤ 9223372036854775807) :
    Calls Try.prog 37 #[.slice (some ⟨g, 0, none⟩) n cap] w fun e w' => e = .returned (.tuple #[]) ∧ w.grownBy w' (some g) := by
  go_enter Try.func37, Try.ntmps37
  go_wp2
  go_loopw [3] (fun v wr => ∃ k : Nat, k ≤ cap ∧ v = .int .i64 (k : Int) ∧ (∃ cur : Array Value, cur.size = cap ∧ wr.heap[g]? = some (.cells cur 5 (0, 0))) ∧ w.grownBy wr (some g)) (fun v _ => cap - (intOf v).toNat)
  case atStart => exact ⟨0, by omega, by simp, hrow, ⟨rfl, rfl, rfl, Nat.le_refl _, fun _ _ _ => rfl⟩⟩
  case round =>
    clear hrow
    obtain ⟨k, hk, rfl, ⟨l, hl, hrow⟩, hb⟩ := hrel
    by_cases hlt : k < cap
    · obtain ⟨u, hu⟩ : ∃ u, l[k]? = some u := ⟨_, Array.getElem?_eq_getElem (by omega)⟩
      have hc : wr.cell? ⟨g, k, none⟩ = some u := cell_row hrow hu
      have hf := frozen_of_row wr g k _ _ hrow
      have Hrow := Lib.hid hrow
      have Hb := Lib.hid hb
      have Hl := Lib.hid hl
      clear hrow hb hl hu
      go_wp2
      refine ⟨⟨k + 1, by omega, by go_num, ⟨l.setIfInBounds k (.int .u8 90), by rw [Array.size_setIfInBounds, Hl.out], ?_⟩, grown_setCell Hb.out _ _⟩, by simp [intOf]; omega⟩
      exact heap_setCell_same _ _ _ _ _ _ Hrow.out
    · have Hb := Lib.hid hb
      clear hrow hb hl
      go_wp2
      go_end0
      exact ⟨rfl, Hb.out⟩

/-- Spoil over what one owns: no one else sees it. -/
theorem spoil_own {w : World} {base : Nat} {v : Value} {bs : List UInt8} (h : OwnB w base v bs) : Calls Try.prog 37 #[v] w fun e w' => e = .returned (.tuple #[]) ∧ w.grownBy w' v.ownBlock := by
  obtain ⟨hl, ⟨rfl, h1⟩ | ⟨g, cap, cur, rfl, hb, hg, hc, hm, hs, ht⟩⟩ := h
  · exact (spoil_none w).mono fun e w' ⟨he, hw⟩ => ⟨he, by subst hw; exact ⟨rfl, rfl, rfl, Nat.le_refl _, fun _ _ _ => rfl⟩⟩
  · by_cases hpos : 0 < cap
    · exact spoil_some ⟨cur, by omega, hg⟩ hc hpos (by unfold maxLen at hm; omega)
    · obtain rfl : cap = 0 := by omega
      have e : bs.length = 0 := by omega
      rw [e]
      exact (spoil_zero w g).mono fun e w' ⟨he, hw⟩ => ⟨he, by subst hw; exact ⟨rfl, rfl, rfl, Nat.le_refl _, fun _ _ _ => rfl⟩⟩
end Go.Proofs.Ytafakjdolnigaaa
