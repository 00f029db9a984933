/- What a frame reads as, in plain Lean; the ways of frame.Take that end before the hash is asked. -/
import Derived.Test.YtafakjdolnigaaaFrameA
import Derived.Test.YtafakjdolnigaaaAt
import Derived.Test.YtafakjdolnigaaaChain3
import Derived.Test.YtafakjdolnigaaaShaNone
import Derived.Test.YtafakjdolnigaaaMacC
namespace Go.Proofs.Ytafakjdolnigaaa
open Go.RowKit
set_option linter.unusedVariables false

theorem results_cell_4 {P : Program} {fn : Func} {p t1 t2 t3 : Tmp} {ty : TypeId} (h : fn.results = #[.cell p ty, .tmp t1, .tmp t2, .tmp t3]) (tmps : Array Value) (w : World) (g : Nat) (t : TypeId) (cs : Array Value) (fr : Nat × Nat) (d : TypeDesc)
    (hp : tmps.getD p undef = .pointer (some ⟨g, 0, none⟩)) (hg : w.heap[g]? = some (.cells cs t fr))
    (hu : P.underlying ty = some d) (hd : (match d with | .struct _ | .array _ _ => true | _ => false) = true) (hi : (P.info? ty).map (·.size) = some cs.size) :
    (results fn tmps).run P w = .ok (.tuple #[.agg cs, tmps.getD t1 undef, tmps.getD t2 undef, tmps.getD t3 undef]) w := by
  have hp' : tmps[p]?.getD undef = .pointer (some ⟨g, 0, none⟩) := by simpa using hp
  simp [results, h, hp', asAddr, run_loadVar_row w g t ty cs fr d hg hu hd hi]
theorem results_cell_2 {P : Program} {fn : Func} {p t1 : Tmp} {ty : TypeId} (h : fn.results = #[.cell p ty, .tmp t1]) (tmps : Array Value) (w : World) (g : Nat) (t : TypeId) (cs : Array Value) (fr : Nat × Nat) (d : TypeDesc)
    (hp : tmps.getD p undef = .pointer (some ⟨g, 0, none⟩)) (hg : w.heap[g]? = some (.cells cs t fr))
    (hu : P.underlying ty = some d) (hd : (match d with | .struct _ | .array _ _ => true | _ => false) = true) (hi : (P.info? ty).map (·.size) = some cs.size) :
    (results fn tmps).run P w = .ok (.tuple #[.agg cs, tmps.getD t1 undef]) w := by
  have hp' : tmps[p]?.getD undef = .pointer (some ⟨g, 0, none⟩) := by simpa using hp
  simp [results, h, hp', asAddr, run_loadVar_row w g t ty cs fr d hg hu hd hi]

theorem step_store_row {P : Program} {ops : Array Oper} {a : Act} {w : World} {K : Act → World → Prop} {i : Nat} (ty : TypeId) (x y : Operand) (hi : (ops[i]?).map (fun o => (o.dst, o.guard, o.op)) = some (none, none, .store ty x y))
    (g : Nat) (cells : Array Value) (hx : a.eval x = .pointer (some ⟨g, 0, none⟩)) (hy : a.eval y = .agg cells)
    (t : TypeId) (old : Array Value) (hg : w.heap[g]? = some (.cells old t (0, 0))) (hii : (P.info? ty).map (·.size) = some cells.size)
    (hold : old.size = cells.size) (h1 : cells.all (·.oneCell') = true) (h : K a (w.setRow g cells)) : wpOp P ops NoExit i K a w := by
  obtain ⟨o, ho, he⟩ := Option.map_eq_some_iff.1 hi
  simp only [Prod.mk.injEq] at he
  unfold wpOp
  simp only [ho, Region.wanted, he.2.1, if_true]
  refine .inl (wp_store_row ty x y he.2.2 g cells hx hy t old hg hii hold h1 ?_)
  rw [he.1]
  exact h

/-- The number in a frame's head. -/
def frameNum (bs : List UInt8) : UInt64 := numOf ((bs.drop 2).take 4)
/-- What stands at a beginning, told by its error; 0: a frame. -/
def takeErr (bs : List UInt8) : Nat :=
  if bs.length < 46 then 3 else if bs[0]?.getD 0 ≠ 199 ∨ bs[1]?.getD 0 ≠ 70 then 4 else if 4200 < (frameNum bs).toNat then 2 else if bs.length < 46 + (frameNum bs).toNat then 3
  else if (digest ((bs.drop 14).take (32 + (frameNum bs).toNat))).take 8 ≠ (bs.drop 6).take 8 then 11 else 0

/-- No frame. -/
def NoFrame (c : Nat) (w : World) (e : Ending) (w' : World) : Prop := e = .returned (.tuple #[.agg (row8 zero32), .slice none 0 0, .int .i64 0, .int .i64 (c : Int)]) ∧ Below w.heap.size w w'

theorem noFrame_end {w wr : World} (hb : Below w.heap.size w wr) (c : Nat) : NoFrame c w (.returned (.tuple #[.agg (row8 zero32), .slice none 0 0, .int .i64 0, .int .i64 (c : Int)])) (wr.setRow w.heap.size (row8 zero32)) :=
  ⟨rfl, below_row hb (Nat.le_refl _) _⟩

set_option maxRecDepth 100000 in
set_option maxHeartbeats 1000000 in
theorem take_few {w : World} {r : Option Addr} {len cap : Nat} (hl : len < 46) :
    Calls Try.prog 67 #[.slice r len cap] w (NoFrame 3 w) := by
  go_enter Try.func67, Try.ntmps67
  go_wp2_with (first
    | (refine wpList_allocRow 31 _ alloc31 rfl rfl ?_)
    | (refine wpList_buildV (.agg (row8 zero32)) 31 _ rfl rfl (by kernel_rfl) ?_)
    | (refine wpList_store_row rfl 31 _ _ rfl _ _ rfl rfl 31 _ (heap_alloc_new _ _) (info31 _ zero32_length) rfl (row8_one _) ?_))
  exact bodyPost_ret (results_cell_4 (p := 2) (t1 := 3) (t2 := 4) (t3 := 5) rfl _ _ _ 31 _ _ _ rfl (setRow_heap _ _ _ _ _ _ (heap_alloc_new _ _)) Try.underlying31 rfl (info31 _ zero32_length)) rfl (noFrame_end (below_one _ _) 3)

set_option maxRecDepth 100000 in
set_option maxHeartbeats 2000000 in
theorem take_head {w : World} {r : Option Addr} {len cap : Nat} {bs : List UInt8} (h : BytesAt w r len cap bs) (hl : 46 ≤ len) (hd : bs[0]?.getD 0 ≠ 199 ∨ bs[1]?.getD 0 ≠ 70) :
    Calls Try.prog 67 #[.slice r len cap] w (NoFrame 4 w) := by
  obtain ⟨b, o, rfl, hc⟩ := h.hcells (by omega)
  have hmax : cap ≤ 9223372036854775807 := h.hmax
  have hle := h.hle
  go_enter Try.func67, Try.ntmps67
  go_upto_region 1 with (refine wpList_allocRow 31 _ alloc31 rfl rfl ?_)
  refine abstract_world (fun W => W.heap[w.heap.size]? = some (.cells (row8 zero32) 31 (0, 0)) ∧ Below w.heap.size w W ∧ W.heap.size = w.heap.size + 1) (box31 w) ?_
  rintro w1 ⟨r0, r1, r2⟩
  have h0 : w1.cell? ⟨b, o, none⟩ = some (W8 (bs[0]?.getD 0)) := by
    have := hc 0 (by omega); rw [Nat.add_zero] at this
    rw [r1.cell (p := ⟨b, o, none⟩) (block_lt_of_cell this)]; exact this
  have h1 : w1.cell? ⟨b, o + 1, none⟩ = some (W8 (bs[1]?.getD 0)) := by
    have := hc 1 (by omega)
    rw [r1.cell (p := ⟨b, o + 1, none⟩) (block_lt_of_cell this)]; exact this
  have R0 := Lib.hid r0
  have R1 := Lib.hid r1
  clear hc r0 r1 r2 h
  generalize bs[0]?.getD 0 = x0 at *
  generalize bs[1]?.getD 0 = x1 at *
  by_cases hx : x0 = 199
  · have hx0 : (x0 != 199) = false := by simp [hx]
    have hx1 : (x1 != 70) = true := by
      rcases hd with hd | hd
      · exact absurd hx hd
      · simpa using hd
    clear hd hx
    go_wp2_with (first
      | (refine wpList_buildV (.agg (row8 zero32)) 31 _ rfl rfl (by kernel_rfl) ?_)
      | (refine wpList_store_row rfl 31 _ _ rfl _ _ rfl rfl 31 _ R0.out (info31 _ zero32_length) rfl (row8_one _) ?_))
    exact bodyPost_ret (results_cell_4 (p := 2) (t1 := 3) (t2 := 4) (t3 := 5) rfl _ _ _ 31 _ _ _ rfl (setRow_heap _ _ _ _ _ _ R0.out) Try.underlying31 rfl (info31 _ zero32_length)) rfl (noFrame_end R1.out 4)
  · have hx0 : (x0 != 199) = true := by simpa using hx
    clear hd hx
    go_wp2_with (first
      | (refine wpList_buildV (.agg (row8 zero32)) 31 _ rfl rfl (by kernel_rfl) ?_)
      | (refine wpList_store_row rfl 31 _ _ rfl _ _ rfl rfl 31 _ R0.out (info31 _ zero32_length) rfl (row8_one _) ?_))
    exact bodyPost_ret (results_cell_4 (p := 2) (t1 := 3) (t2 := 4) (t3 := 5) rfl _ _ _ 31 _ _ _ rfl (setRow_heap _ _ _ _ _ _ R0.out) Try.underlying31 rfl (info31 _ zero32_length)) rfl (noFrame_end R1.out 4)
end Go.Proofs.Ytafakjdolnigaaa
