/- What a frame reads as, in plain Lean; the ways of frame.Take that end before the hash is asked. The walk of frame.Take. -/
import Derived.Test.YtafakjdolnigaaaFrameA
import Derived.Test.YtafakjdolnigaaaAt
import Derived.Test.YtafakjdolnigaaaGChain
import Derived.Test.YtafakjdolnigaaaShaNone
import Derived.Test.YtafakjdolnigaaaGMacs
namespace Go.Proofs.Ytafakjdolnigaaa
open Go.RowKit
set_option linter.unusedVariables false

theorem results_cell_4 {P : Program} {fn : Func} {p t1 t2 t3 : Tmp} {ty : TypeId} (h : fn.results = #[.cell p ty, .tmp t1, .tmp t2, .tmp t3]) (tmps : Array Value) (w : World) (g : Nat) (t : TypeId) (cs : Array Value) (fr : Nat × Nat) (d : TypeDesc)
    (hp : tmps.getD p undef = .pointer (some ⟨g, 0, none⟩)) (hg : w.heap[g]? = some (.cells cs t fr))
    (hu : P.underlying ty = some d) (hd : (match d with | .struct _ | .array _ _ => true | _ => false) = true) (hi : (P.info? ty).map (·.size) = some cs.size) :
    (results fn tmps).run P w = .ok (.tuple #[.agg cs, tmps.getD t1 undef, tmps.getD t2 undef, tmps.getD t3 undef]) w := by
  have hp' : tmps[p]?.getD undef = .pointer (some ⟨g, 0, none⟩) := by simpa using hp
  simp [results, h, hp', asAddr, run_loadVar_row w g t ty cs fr d hg hu hd hi]
theorem results_cell_2 {P : Program} {fn : Func} {p t1 : Tmp} {ty : TypeId} (h : fn.results = #[.cell p ty, .tmp t1]) (tmps : Array Value) (w : World) (g : Nat) (t : TypeId) (cs : Array Value) (fr : Nat × Nat) (d : TypeDesc)
    (hp : tmps.getD p undef = .pointer (some ⟨g, 0, none⟩)) (hg : w.heap[g]? = some (.cells cs t fr))
    (hu : P.underlying ty = some d) (hd : (match d with | .struct _ | .array _ _ => true | _ => false) = true) (hi : (P.info? ty).map (·.size) = some cs.size) :
    (results fn tmps).run P w = .ok (.tuple #[.agg cs, tmps.getD t1 undef]) w := by
  have hp' : tmps[p]?.getD undef = .pointer (some ⟨g, 0, none⟩) := by simpa using hp
  simp [results, h, hp', asAddr, run_loadVar_row w g t ty cs fr d hg hu hd hi]

theorem step_store_row {P : Program} {ops : Array Oper} {a : Act} {w : World} {K : Act → World → Prop} {i : Nat} (ty : TypeId) (x y : Operand) (hi : (ops[i]?).map (fun o => (o.dst, o.guard, o.op)) = some (none, none, .store ty x y))
    (g : Nat) (cells : Array Value) (hx : a.eval x = .pointer (some ⟨g, 0, none⟩)) (hy : a.eval y = .agg cells)
    (t : TypeId) (old : Array Value) (hg : w.heap[g]? = some (.cells old t (0, 0))) (hii : (P.info? ty).map (·.size) = some cells.size)
    (hold : old.size = cells.size) (h1 : cells.all (·.oneCell') = true) (h : K a (w.setRow g cells)) : wpOp P ops NoExit i K a w := by
  obtain ⟨o, ho, he⟩ := Option.map_eq_some_iff.1 hi
  simp only [Prod.mk.injEq] at he
  unfold wpOp
  simp only [ho, Region.wanted, he.2.1, if_true]
  refine .inl (wp_store_row ty x y he.2.2 g cells hx hy t old hg hii hold h1 ?_)
  rw [he.1]
  exact h

/-- The number in a frame's head. -/
def frameNum (bs : List UInt8) : UInt64 := numOf ((bs.drop 2).take 4)
/-- What stands at a beginning, told by its error; 0: a frame. -/
def takeErr (bs : List UInt8) : Nat :=
  if bs.length < 46 then 3 else if bs[0]?.getD 0 ≠ 199 ∨ bs[1]?.getD 0 ≠ 70 then 4 else if 4200 < (frameNum bs).toNat then 2 else if bs.length < 46 + (frameNum bs).toNat then 3
  else if (digest ((bs.drop 14).take (32 + (frameNum bs).toNat))).take 8 ≠ (bs.drop 6).take 8 then 11 else 0

/-- No frame. -/
def NoFrame (c : Nat) (w : World) (e : Ending) (w' : World) : Prop := e = .returned (.tuple #[.agg (row8 zero32), .slice none 0 0, .int .i64 0, .int .i64 (c : Int)]) ∧ Below w.heap.size w w'

theorem noFrame_end {w wr : World} (hb : Below w.heap.size w wr) (c : Nat) : NoFrame c w (.returned (.tuple #[.agg (row8 zero32), .slice none 0 0, .int .i64 0, .int .i64 (c : Int)])) (wr.setRow w.heap.size (row8 zero32)) :=
  ⟨rfl, below_row hb (Nat.le_refl _) _⟩

set_option maxRecDepth 100000 in
set_option maxHeartbeats 1000000 in
theorem take_few {w : World} {r : Option Addr} {len cap : Nat} (hl : len < 46) :
    Calls Try.prog 67 #[.slice r len cap] w (NoFrame 3 w) := by
  go_enter Try.func67, Try.ntmps67
  go_wp2_with (first
    | (refine wpList_allocRow 31 _ alloc31 rfl rfl ?_)
    | (refine wpList_buildV (.agg (row8 zero32)) 31 _ rfl rfl (by kernel_rfl) ?_)
    | (refine wpList_store_row rfl 31 _ _ rfl _ _ rfl rfl 31 _ (heap_alloc_new _ _) (info31 _ zero32_length) rfl (row8_one _) ?_))
  exact bodyPost_ret (results_cell_4 (p := 2) (t1 := 3) (t2 := 4) (t3 := 5) rfl _ _ _ 31 _ _ _ rfl (setRow_heap _ _ _ _ _ _ (heap_alloc_new _ _)) Try.underlying31 rfl (info31 _ zero32_length)) rfl (noFrame_end (below_one _ _) 3)

set_option maxRecDepth 100000 in
set_option maxHeartbeats 2000000 in
theorem take_head {w : World} {r : Option Addr} {len cap : Nat} {bs : List UInt8} (h : BytesAt w r len cap bs) (hl : 46 ≤ len) (hd : bs[0]?.getD 0 ≠ 199 ∨ bs[1]?.getD 0 ≠ 70) :
    Calls Try.prog 67 #[.slice r len cap] w (NoFrame 4 w) := by
  obtain ⟨b, o, rfl, hc⟩ := h.hcells (by omega)
  have hmax : cap ≤ 9223372036854775807 := h.hmax
  have hle := h.hle
  go_enter Try.func67, Try.ntmps67
  go_upto_region 1 with (refine wpList_allocRow 31 _ alloc31 rfl rfl ?_)
  refine abstract_world (fun W => W.heap[w.heap.size]? = some (.cells (row8 zero32) 31 (0, 0)) ∧ Below w.heap.size w W ∧ W.heap.size = w.heap.size + 1) (box31 w) ?_
  rintro w1 ⟨r0, r1, r2⟩
  have h0 : w1.cell? ⟨b, o, none⟩ = some (W8 (bs[0]?.getD 0)) := by
    have := hc 0 (by omega); rw [Nat.add_zero] at this
    rw [r1.cell (p := ⟨b, o, none⟩) (block_lt_of_cell this)]; exact this
  have h1 : w1.cell? ⟨b, o + 1, none⟩ = some (W8 (bs[1]?.getD 0)) := by
    have := hc 1 (by omega)
    rw [r1.cell (p := ⟨b, o + 1, none⟩) (block_lt_of_cell this)]; exact this
  have R0 := Lib.hid r0
  have R1 := Lib.hid r1
  clear hc r0 r1 r2 h
  generalize bs[0]?.getD 0 = x0 at *
  generalize bs[1]?.getD 0 = x1 at *
  by_cases hx : x0 = 199
  · have hx0 : (x0 != 199) = false := by simp [hx]
    have hx1 : (x1 != 70) = true := by
      rcases hd with hd | hd
      · exact absurd hx hd
      · simpa using hd
    clear hd hx
    go_wp2_with (first
      | (refine wpList_buildV (.agg (row8 zero32)) 31 _ rfl rfl (by kernel_rfl) ?_)
      | (refine wpList_store_row rfl 31 _ _ rfl _ _ rfl rfl 31 _ R0.out (info31 _ zero32_length) rfl (row8_one _) ?_))
    exact bodyPost_ret (results_cell_4 (p := 2) (t1 := 3) (t2 := 4) (t3 := 5) rfl _ _ _ 31 _ _ _ rfl (setRow_heap _ _ _ _ _ _ R0.out) Try.underlying31 rfl (info31 _ zero32_length)) rfl (noFrame_end R1.out 4)
  · have hx0 : (x0 != 199) = true := by simpa using hx
    clear hd hx
    go_wp2_with (first
      | (refine wpList_buildV (.agg (row8 zero32)) 31 _ rfl rfl (by kernel_rfl) ?_)
      | (refine wpList_store_row rfl 31 _ _ rfl _ _ rfl rfl 31 _ R0.out (info31 _ zero32_length) rfl (row8_one _) ?_))
    exact bodyPost_ret (results_cell_4 (p := 2) (t1 := 3) (t2 := 4) (t3 := 5) rfl _ _ _ 31 _ _ _ rfl (setRow_heap _ _ _ _ _ _ R0.out) Try.underlying31 rfl (info31 _ zero32_length)) rfl (noFrame_end R1.out 4)
end Go.Proofs.Ytafakjdolnigaaa

namespace Go.Proofs.Ytafakjdolnigaaa
open Go.RowKit
set_option linter.unusedVariables false

/-- A frame. -/
def AFrame (bs : List UInt8) (w : World) (e : Ending) (w' : World) : Prop :=
  ∃ v, e = .returned (.tuple #[.agg (row8 ((bs.drop 14).take 32)), v, .int .i64 ((46 + (frameNum bs).toNat : Nat) : Int), .int .i64 0]) ∧ OwnB w' w.heap.size v ((bs.drop 46).take (frameNum bs).toNat) ∧ Below w.heap.size w w'
/-- What frame.Take answers. -/
def Taken (bs : List UInt8) (w : World) (e : Ending) (w' : World) : Prop := (takeErr bs ≠ 0 → NoFrame (takeErr bs) w e w') ∧ (takeErr bs = 0 → AFrame bs w e w')
theorem taken_no {bs : List UInt8} {w : World} {e : Ending} {w' : World} (c : Nat) (hc : takeErr bs = c) (h0 : c ≠ 0) (h : NoFrame c w e w') : Taken bs w e w' := by
  subst hc
  exact ⟨fun _ => h, fun h1 => absurd h1 h0⟩
theorem taken_yes {bs : List UInt8} {w : World} {e : Ending} {w' : World} (hc : takeErr bs = 0) (h : AFrame bs w e w') : Taken bs w e w' := ⟨fun h1 => absurd hc h1, fun _ => h⟩

theorem drop_split (bs : List UInt8) (n : Nat) : (bs.drop 14).take 32 ++ (bs.drop 46).take n = (bs.drop 14).take (32 + n) := by
  rw [List.take_add, List.drop_drop]

/-- A bound of a slice expression. -/
def bnd (a : Act) (y : Option Operand) (d v : Nat) : Prop := match y with
  | none => v = d
  | some y => ∃ k, a.eval y = .int k (v : Int)
theorem bnd_some {a : Act} {y : Operand} {d v : Nat} (k : IntKind) (h : a.eval y = .int k (v : Int)) : bnd a (some y) d v := ⟨k, h⟩
theorem bnd_none {a : Act} {d : Nat} : bnd a none d d := rfl
/-- A slice of a slice of bytes, at a quiet step. -/
theorem slice_hy {ops : Array Oper} {a : Act} {i : Nat} {t : TypeId} {x : Operand} {lo hi mx : Option Operand} (hop : (ops[i]?).map (·.op) = some (.slice t x lo hi mx)) (ht : Try.prog.underlying t = some (.slice 5))
    (r : Option Addr) (len cap : Nat) (hx : a.eval x = .slice r len cap) (l h m : Nat)
    (hl : bnd a lo 0 l) (hh : bnd a hi len h) (hm : bnd a mx cap m)
    (h1 : l ≤ h) (h2 : h ≤ m) (h3 : m ≤ cap) (hmx : mx.isSome = true → hi.isSome = true) (v : Value) (hv : v = .slice (if m = l then r else r.map (·.add (l * 1))) (h - l) (m - l)) (w : World) :
    (ops[i]?).map (fun o => (execOp a.eval o).run Try.prog w) = some (.ok (.value v) w) := by
  obtain ⟨o, ho, he⟩ := Option.map_eq_some_iff.1 hop
  rw [ho, hv]
  refine congrArg some ?_
  cases lo <;> cases hi <;> cases mx <;> exact exec_slice t 5 x _ _ _ he ht info5 r len cap hx l h m hl hh hm h1 h2 h3 hmx

/-- An array read, at a quiet step. -/
theorem load_hy {ops : Array Oper} {a : Act} {i : Nat} {x : Operand} (hop : (ops[i]?).map (·.op) = some (.load 31 x)) (g off : Nat) (l : List UInt8) (hl : l.length = 32) (hx : a.eval x = .pointer (some ⟨g, off, none⟩)) (w : World)
    (hv : ∀ j, j < 32 → w.cell? ⟨g, off + j, none⟩ = some (W8 (l[j]?.getD 0))) : (ops[i]?).map (fun o => (execOp a.eval o).run Try.prog w) = some (.ok (.value (.agg (row8 l))) w) := by
  obtain ⟨o, ho, he⟩ := Option.map_eq_some_iff.1 hop
  rw [ho]
  exact congrArg some (exec_load_sub g off 31 (row8 l) _ he hx (fun j hj => by rw [row8_size, hl] at hj; rw [hv j hj, row8_at l j (by omega)]) Try.underlying31 rfl (info31 l hl))

/-- bytes.Equal. -/
theorem beq_any {w : World} {ra rb : Option Addr} {la ca lb cb : Nat} {a b : List UInt8} (A : BytesAt w ra la ca a) (B : BytesAt w rb lb cb b) :
    Calls Try.prog 99 #[.slice ra la ca, .slice rb lb cb] w fun e w' => e = .returned (.bool (a == b)) ∧ w = w' := by
  have s1 := conv_str A
  have s2 := conv_str B
  clear A B
  go_enter Try.func99, Try.ntmps99
  go_wp2
  go_ret
  exact ⟨rfl, rfl⟩

set_option maxRecDepth 100000 in
set_option maxHeartbeats 4000000 in
theorem take_rest {w : World} {r : Option Addr} {len cap : Nat} {bs : List UInt8} (h : BytesAt w r len cap bs) (hl : 46 ≤ len) (hl2 : len ≤ 1048576) (hd0 : bs[0]?.getD 0 = 199) (hd1 : bs[1]?.getD 0 = 70) :
    Calls Try.prog 67 #[.slice r len cap] w (Taken bs w) := by
  obtain ⟨b, o, rfl, hc⟩ := h.hcells (by omega)
  have hmax : cap ≤ 9223372036854775807 := h.hmax
  have hle := h.hle
  have hlen := h.hlen
  subst hlen
  obtain ⟨N, hN⟩ : ∃ N, N = frameNum bs := ⟨_, rfl⟩
  obtain ⟨n, hn⟩ : ∃ n, n = N.toNat := ⟨_, rfl⟩
  have hte : takeErr bs = if 4200 < n then 2 else if bs.length < 46 + n then 3 else if (digest ((bs.drop 14).take (32 + n))).take 8 ≠ (bs.drop 6).take 8 then 11 else 0 := by
    unfold takeErr
    rw [if_neg (by omega), if_neg (by rw [hd0, hd1]; simp), ← hN, ← hn]
  have Hte := Lib.hid hte
  have H := Lib.hid h
  have HN := Lib.hid hN
  have Hn := Lib.hid hn
  clear hte
  go_enter Try.func67, Try.ntmps67
  go_upto_region 1 with (refine wpList_allocRow 31 _ alloc31 rfl rfl ?_)
  refine abstract_world (fun W => W.heap[w.heap.size]? = some (.cells (row8 zero32) 31 (0, 0)) ∧ Below w.heap.size w W ∧ W.heap.size = w.heap.size + 1) (box31 w) ?_
  rintro w1 ⟨r0, r1, r2⟩
  have h0 : w1.cell? ⟨b, o, none⟩ = some (W8 199) := by
    have := hc 0 (by omega); rw [Nat.add_zero, hd0] at this
    rw [r1.cell (p := ⟨b, o, none⟩) (block_lt_of_cell this)]; exact this
  have h1 : w1.cell? ⟨b, o + 1, none⟩ = some (W8 70) := by
    have := hc 1 (by omega); rw [hd1] at this
    rw [r1.cell (p := ⟨b, o + 1, none⟩) (block_lt_of_cell this)]; exact this
  have R0 := Lib.hid r0
  have R1 := Lib.hid r1
  clear hc r0 r1 r2 h hd0 hd1 hN hn
  go_upto_region 6 with (go_at_call 98; refine (octAt_any (H.out.below R1.out) 2 4 (by omega) (by omega) (by omega)).mono ?_; rintro e w2 ⟨rfl, rfl⟩)
  have hfn : numOf ((bs.drop 2).take 4) = N := HN.out.symm
  rw [hfn]
  clear hfn h0 h1
  by_cases hbig : 4200 < n
  · have hg : decide ((4200 : UInt64) < N) = true := by
      rw [decide_eq_true_eq, UInt64.lt_iff_toNat_lt, ← Hn.out]; exact hbig
    have Ht : Hid (takeErr bs = 2) := Lib.hid (by rw [Hte.out, if_pos hbig])
    go_wp2_with (first
      | (refine wpList_buildV (.agg (row8 zero32)) 31 _ rfl rfl (by kernel_rfl) ?_)
      | (refine wpList_store_row rfl 31 _ _ rfl _ _ rfl rfl 31 _ R0.out (info31 _ zero32_length) rfl (row8_one _) ?_))
    exact bodyPost_ret (results_cell_4 (p := 2) (t1 := 3) (t2 := 4) (t3 := 5) rfl _ _ _ 31 _ _ _ rfl (setRow_heap _ _ _ _ _ _ R0.out) Try.underlying31 rfl (info31 _ zero32_length)) rfl (taken_no 2 Ht.out (by omega) ⟨rfl, below_row R1.out (Nat.le_refl _) _⟩)
  have hg : decide ((4200 : UInt64) < N) = false := by
    rw [decide_eq_false_iff_not, UInt64.lt_iff_toNat_lt, ← Hn.out]; exact hbig
  have hwn : IntKind.i64.wrap (N.toNat : Int) = (n : Int) := by
    rw [← Hn.out]; exact IntWalk.i64_in _ (by omega)
  by_cases hsh : bs.length < 46 + n
  · have Ht : Hid (takeErr bs = 3) := Lib.hid (by rw [Hte.out, if_neg hbig, if_pos hsh])
    go_wp2_with (first
      | (refine wpList_buildV (.agg (row8 zero32)) 31 _ rfl rfl (by kernel_rfl) ?_)
      | (refine wpList_store_row rfl 31 _ _ rfl _ _ rfl rfl 31 _ R0.out (info31 _ zero32_length) rfl (row8_one _) ?_))
    exact bodyPost_ret (results_cell_4 (p := 2) (t1 := 3) (t2 := 4) (t3 := 5) rfl _ _ _ 31 _ _ _ rfl (setRow_heap _ _ _ _ _ _ R0.out) Try.underlying31 rfl (info31 _ zero32_length)) rfl (taken_no 3 Ht.out (by omega) ⟨rfl, below_row R1.out (Nat.le_refl _) _⟩)
  have hlo : 46 + n ≤ bs.length := by omega
  have hdrop1 : (bs.take 46).drop 14 = (bs.drop 14).take 32 := by rw [List.drop_take]
  have hdrop2 : (bs.take (46 + n)).drop 46 = (bs.drop 46).take n := by rw [List.drop_take, Nat.add_sub_cancel_left]
  have hdrop3 : (bs.take 14).drop 6 = (bs.drop 6).take 8 := by rw [List.drop_take]
  have hKB := H.out.sub 14 46 (by omega) (by omega) 46 (by omega) (by omega)
  have hDB := H.out.sub 46 (46 + n) (by omega) (by omega) (46 + n) (by omega) (by omega)
  have hSB := H.out.sub 6 14 (by omega) (by omega) cap (by omega) (by omega)
  rw [hdrop1] at hKB
  rw [hdrop2] at hDB
  rw [hdrop3] at hSB
  have KB : Hid (BytesAt w (some ⟨b, o + 14, none⟩) 32 32 ((bs.drop 14).take 32)) := Lib.hid (by simpa [Addr.add_lit] using hKB)
  have SB : Hid (BytesAt w (some ⟨b, o + 6, none⟩) 8 (cap - 6) ((bs.drop 6).take 8)) := Lib.hid (by rw [if_neg (by omega)] at hSB; simpa [Addr.add_lit] using hSB)
  obtain ⟨rd, hrd⟩ : ∃ rd, rd = (if 46 + n = 46 then (some ⟨b, o, none⟩ : Option Addr) else (some (⟨b, o, none⟩ : Addr)).map (·.add (46 * 1))) := ⟨_, rfl⟩
  have DB : Hid (BytesAt w rd n n ((bs.drop 46).take n)) := Lib.hid (by rw [hrd]; simpa using hDB)
  have Hrd := Lib.hid hrd
  obtain ⟨C8, hC8⟩ : ∃ C8, C8 = (digest ((bs.drop 14).take (32 + n))).take 8 := ⟨_, rfl⟩
  have HC8 : Hid (C8 = (digest ((bs.drop 14).take 32 ++ (bs.drop 46).take n)).take 8) := Lib.hid (by rw [drop_split]; exact hC8)
  rw [← hC8] at Hte
  clear hdrop1 hdrop2 hdrop3 hKB hDB hSB hrd hC8
  go_upto_region 11 with fail
  refine region_c (by kernel_rfl) (fun Kr hKr => ?_)
  refine c_quiet 0 42 (.slice (some ⟨b, o, none⟩) bs.length cap) (by kernel_rfl) (by kernel_rfl) (by kernel_rfl) (by kernel_rfl) (fun _ => by kernel_rfl) ?_
  refine c_quiet 1 43 (.slice (some ⟨b, o + 14, none⟩) 32 32) (by kernel_rfl) (by kernel_rfl) (by kernel_rfl) (by kernel_rfl) (slice_hy (x := .tmp 42) (lo := some (.const (.int .i64 14))) (hi := some (.const (.int .i64 46))) (mx := some (.const (.int .i64 46))) (by kernel_rfl) Try.underlying29 (some ⟨b, o, none⟩) bs.length cap (by kernel_rfl) 14 46 46 (bnd_some .i64 (by kernel_rfl)) (bnd_some .i64 (by kernel_rfl)) (bnd_some .i64 (by kernel_rfl)) (by omega) (by omega) (by omega) (by simp) _ (by rw [if_neg (by omega)]; simp [Addr.add_lit])) ?_
  refine c_quiet 2 44 (.slice (some ⟨b, o, none⟩) bs.length cap) (by kernel_rfl) (by kernel_rfl) (by kernel_rfl) (by kernel_rfl) (fun _ => by kernel_rfl) ?_
  refine c_quiet 3 45 (.int .i64 ((46 + n : Nat) : Int)) (by kernel_rfl) (by kernel_rfl) (by kernel_rfl) (by kernel_rfl) (fun _ => by kernel_rfl) ?_
  refine c_quiet 4 46 (.int .i64 ((46 + n : Nat) : Int)) (by kernel_rfl) (by kernel_rfl) (by kernel_rfl) (by kernel_rfl) (fun _ => by kernel_rfl) ?_
  refine c_quiet 5 47 (.slice rd n n) (by kernel_rfl) (by kernel_rfl) (by kernel_rfl) (by kernel_rfl) (slice_hy (x := .tmp 44) (lo := some (.const (.int .i64 46))) (hi := some (.tmp 45)) (mx := some (.tmp 46)) (by kernel_rfl) Try.underlying29 (some ⟨b, o, none⟩) bs.length cap (by kernel_rfl) 46 (46 + n) (46 + n) (bnd_some .i64 (by kernel_rfl)) (bnd_some .i64 (by kernel_rfl)) (bnd_some .i64 (by kernel_rfl)) (by omega) (by omega) (by omega) (by simp) _ (by rw [Nat.add_sub_cancel_left, Hrd.out])) ?_
  refine c_quiet 6 9 (.slice (some ⟨b, o + 14, none⟩) 32 32) (by kernel_rfl) (by kernel_rfl) (by kernel_rfl) (by kernel_rfl) (fun _ => by kernel_rfl) ?_
  refine c_quiet 7 10 (.slice rd n n) (by kernel_rfl) (by kernel_rfl) (by kernel_rfl) (by kernel_rfl) (fun _ => by kernel_rfl) ?_
  refine m_end (by kernel_rfl) ?_
  simp only [Act.put, List.setIfInBounds_toArray, List.set_cons_succ, List.set_cons_zero]
  have hw1d : Below w.heap.size w w1.drew := R1.out.drew
  have R0d : Hid (w1.drew.heap[w.heap.size]? = some (.cells (row8 zero32) 31 (0, 0))) := Lib.hid R0.out
  obtain ⟨w2, hw2⟩ : ∃ w2, w2 = w1.drew := ⟨_, rfl⟩
  rw [← hw2] at hw1d R0d ⊢
  clear hw2 R0 R1
  have R1 := Lib.hid hw1d
  clear hw1d
  go_upto_region 12 with fail
  refine region_c (by kernel_rfl) (fun Kr hKr => ?_)
  refine c_quiet 0 48 (.slice (some ⟨b, o + 14, none⟩) 32 32) (by kernel_rfl) (by kernel_rfl) (by kernel_rfl) (by kernel_rfl) (fun _ => by kernel_rfl) ?_
  refine c_quiet 1 49 (.slice rd n n) (by kernel_rfl) (by kernel_rfl) (by kernel_rfl) (by kernel_rfl) (fun _ => by kernel_rfl) ?_
  refine c_quiet 3 51 (.slice (some ⟨b, o, none⟩) bs.length cap) (by kernel_rfl) (by kernel_rfl) (by kernel_rfl) (by kernel_rfl) (fun _ => by kernel_rfl) ?_
  refine c_quiet 4 52 (.slice (some ⟨b, o + 6, none⟩) 8 (cap - 6)) (by kernel_rfl) (by kernel_rfl) (by kernel_rfl) (by kernel_rfl) (slice_hy (x := .tmp 51) (lo := some (.const (.int .i64 6))) (hi := some (.const (.int .i64 14))) (mx := none) (by kernel_rfl) Try.underlying29 (some ⟨b, o, none⟩) bs.length cap (by kernel_rfl) 6 14 cap (bnd_some .i64 (by kernel_rfl)) (bnd_some .i64 (by kernel_rfl)) bnd_none (by omega) (by omega) (by omega) (by simp) _ (by rw [if_neg (by omega)]; simp [Addr.add_lit])) ?_
  refine m_chain [2, 5, 6] (by kernel_rfl) (by kernel_rfl) (fun Qn => ?_)
  simp only [pickOps, Option.toList_some, List.cons_append, List.nil_append, List.getElem?_toArray, List.getElem?_cons_succ, List.getElem?_cons_zero, Act.put, List.setIfInBounds_toArray, List.set_cons_succ, List.set_cons_zero]
  have R1d := Lib.hid R1.out.drew
  by_cases hR : C8 = (bs.drop 6).take 8
  · have HR : Hid ((C8 == (bs.drop 6).take 8) = true) := Lib.hid (by rw [hR]; simp)
    have Ht : Hid (takeErr bs = 0) := Lib.hid (by rw [Hte.out, if_neg hbig, if_neg hsh, if_neg (by simpa using hR)])
    clear hR
    go_upto_region 14 with (first
      | (go_at_call 97; with_reducible refine (check_any (KB.out.below R1d.out) (DB.out.below R1d.out) (by omega) (by omega)).mono ?_; rintro e w3 ⟨g3, rfl, hB3, hg3, hb3⟩
         rw [← HC8.out] at hB3
         have HB3 := Lib.hid hB3
         have Hb3 : Hid (Below w2.heap.size w2 w3) := Lib.hid (below_seq ((Below.refl _ _).drew) hb3)
         have Hw3 : Hid (Below w.heap.size w w3) := Lib.hid (below_seq R1d.out hb3)
         clear hB3 hb3)
      | (go_at_call 99; with_reducible refine (beq_any HB3.out (SB.out.below Hw3.out)).mono ?_; rintro e w4 ⟨rfl, rfl⟩; rw [HR.out]))
    have hkl : ((bs.drop 14).take 32).length = 32 := KB.out.hlen
    obtain ⟨key, hkey⟩ : ∃ key, key = (bs.drop 14).take 32 := ⟨_, rfl⟩
    rw [← hkey] at hkl
    have Hkey := Lib.hid hkey
    have Hkl := Lib.hid hkl
    have KB' : Hid (BytesAt w (some ⟨b, o + 14, none⟩) 32 32 key) := Lib.hid (by rw [hkey]; exact KB.out)
    have Hz3 : Hid (w3.heap[w.heap.size]? = some (.cells (row8 zero32) 31 (0, 0))) := Lib.hid ((Hb3.out.block _ (heap_lt R0d.out)).trans R0d.out)
    clear hkey hkl
    refine region_k (fun w' => Below w.heap.size w w') (by kernel_rfl) Hw3.out.drew (fun Kr hKr => ?_)
    have hcd : Below w.heap.size w w3.drew := Hw3.out.drew
    have hld : ∀ w' : World, Below w.heap.size w w' → ∀ j, j < 32 → w'.cell? ⟨b, o + 14 + j, none⟩ = some (W8 (key[j]?.getD 0)) := fun w' hw' j hj => by
      obtain ⟨b2, o2, he, hc⟩ := (KB'.out.below hw').hcells (by omega)
      simp only [Option.some.injEq, Addr.mk.injEq, and_true] at he
      obtain ⟨rfl, rfl⟩ := he
      exact hc j hj
    have Hld := Lib.hid hld
    clear hld
    refine k_quiet hcd 0 56 (.slice (some ⟨b, o + 14, none⟩) 32 32) (by kernel_rfl) (by kernel_rfl) (by kernel_rfl) (by kernel_rfl) (fun _ _ => by kernel_rfl) ?_
    refine k_quiet hcd 1 57 (.pointer (some ⟨b, o + 14, none⟩)) (by kernel_rfl) (by kernel_rfl) (by kernel_rfl) (by kernel_rfl) (fun _ _ => by kernel_rfl) ?_
    refine k_quiet hcd 2 58 (.agg (row8 key)) (by kernel_rfl) (by kernel_rfl) (by kernel_rfl) (by kernel_rfl) (fun w' hw' => load_hy (x := .tmp 57) (by kernel_rfl) b (o + 14) key Hkl.out (by kernel_rfl) w' (Hld.out w' hw')) ?_
    refine k_quiet hcd 4 60 (.slice rd n n) (by kernel_rfl) (by kernel_rfl) (by kernel_rfl) (by kernel_rfl) (fun _ _ => by kernel_rfl) ?_
    refine k_quiet hcd 6 62 (.int .i64 ((46 + n : Nat) : Int)) (by kernel_rfl) (by kernel_rfl) (by kernel_rfl) (by kernel_rfl) (fun _ _ => by kernel_rfl) ?_
    refine m_pick 3 (by kernel_rfl) (step_val (d := 59) (.slice (some ⟨w3.drew.heap.size, 0, none⟩) 0 0) (w3.drew.alloc (.cells #[] 5)) (by kernel_rfl) (by kernel_rfl) ?_)
    have hd4 := below_seq hcd (below_one w3.drew (.cells #[] 5))
    refine ⟨hd4, ?_⟩
    refine m_pick 5 (by kernel_rfl) (step_app (d := 61) (.tmp 59) (.tmp 60) (by kernel_rfl) w3.drew.heap.size (.slice (some ⟨w3.drew.heap.size, 0, none⟩) 0 0) [] ((bs.drop 46).take n) rd n n (by kernel_rfl) (by kernel_rfl) (ownB_nil w3.drew w3.drew.heap.size (Nat.le_refl _)) (DB.out.below hd4) (by have := DB.out.hlen; simp only [List.length_nil]; omega) (below_one _ _).size ?_)
    intro v5 w5 ho5 hg5
    rw [List.nil_append] at ho5
    have hb5 : Below w3.heap.size w3 w5 := (ownB_nil w3.drew w3.drew.heap.size (Nat.le_refl _)).below (below_seq ((Below.refl w3.heap.size w3).drew) (below_one w3.drew (.cells #[] 5))) (below_one w3.drew (.cells #[] 5)).size hg5
    have hd5 : Below w.heap.size w w5 := below_seq Hw3.out hb5
    refine ⟨hd5, ?_⟩
    have hz5 : w5.heap[w.heap.size]? = some (.cells (row8 zero32) 31 (0, 0)) := (hb5.block _ (heap_lt Hz3.out)).trans Hz3.out
    refine m_pick 7 (by kernel_rfl) (step_store_row 31 (.tmp 2) (.tmp 58) (by kernel_rfl) w.heap.size (row8 key) (by kernel_rfl) (by kernel_rfl) 31 (row8 zero32) hz5 (info31 _ Hkl.out) (by rw [row8_size, row8_size, Hkl.out]; rfl) (row8_one _) ?_)
    have hd6 : Below w.heap.size w (w5.setRow w.heap.size (row8 key)) := below_row hd5 (Nat.le_refl _) _
    refine ⟨hd6, ?_⟩
    refine m_pick 8 (by kernel_rfl) (step_val (d := 3) v5 (w5.setRow w.heap.size (row8 key)) (by kernel_rfl) (by kernel_rfl) ⟨hd6, ?_⟩)
    refine m_pick 9 (by kernel_rfl) (step_val (d := 4) (.int .i64 ((46 + n : Nat) : Int)) (w5.setRow w.heap.size (row8 key)) (by kernel_rfl) (by kernel_rfl) ⟨hd6, ?_⟩)
    refine m_pick 10 (by kernel_rfl) (step_val (d := 5) (.int .i64 0) (w5.setRow w.heap.size (row8 key)) (by kernel_rfl) (by kernel_rfl) ⟨hd6, ?_⟩)
    refine m_end (by kernel_rfl) ?_
    simp only [Act.put, List.setIfInBounds_toArray, List.set_cons_succ, List.set_cons_zero]
    have Hz5 := Lib.hid hz5
    have Hd6 := Lib.hid hd6
    have ho6 : OwnB (w5.setRow w.heap.size (row8 key)) w.heap.size v5 ((bs.drop 46).take n) := by
      have h1 : OwnB w5 w3.heap.size v5 ((bs.drop 46).take n) := ho5
      have hlt : w.heap.size < w3.heap.size := heap_lt Hz3.out
      obtain ⟨hl, hv | ⟨g, cap', cur, hv, hgb, hgr, hr⟩⟩ := h1
      · exact ⟨hl, .inl hv⟩
      · exact ⟨hl, .inr ⟨g, cap', cur, hv, by omega, (setRow_other _ _ _ _ (by omega)).trans hgr, hr⟩⟩
    have Ho6 := Lib.hid ho6
    clear hcd hd4 hd5 hd6 hz5 ho5 hb5 hg5 ho6
    go_wp2
    refine bodyPost_ret (results_cell_4 (p := 2) (t1 := 3) (t2 := 4) (t3 := 5) rfl _ _ _ 31 _ _ _ rfl (setRow_heap _ _ _ _ _ _ Hz5.out) Try.underlying31 rfl (info31 _ Hkl.out)) rfl (taken_yes Ht.out ⟨v5, ?_, ?_, Hd6.out⟩)
    · rw [← Hkey.out, ← HN.out, ← Hn.out]; rfl
    · rw [← HN.out, ← Hn.out]; exact Ho6.out
  · have HR : Hid ((C8 == (bs.drop 6).take 8) = false) := Lib.hid (by rw [beq_eq_false_iff_ne]; exact hR)
    have Ht : Hid (takeErr bs = 11) := Lib.hid (by rw [Hte.out, if_neg hbig, if_neg hsh, if_pos hR])
    clear hR
    go_upto_region 13 with (first
      | (go_at_call 97; with_reducible refine (check_any (KB.out.below R1d.out) (DB.out.below R1d.out) (by omega) (by omega)).mono ?_; rintro e w3 ⟨g3, rfl, hB3, hg3, hb3⟩
         rw [← HC8.out] at hB3
         have HB3 := Lib.hid hB3
         have Hb3 : Hid (Below w2.heap.size w2 w3) := Lib.hid (below_seq ((Below.refl _ _).drew) hb3)
         have Hw3 : Hid (Below w.heap.size w w3) := Lib.hid (below_seq R1d.out hb3)
         clear hB3 hb3)
      | (go_at_call 99; with_reducible refine (beq_any HB3.out (SB.out.below Hw3.out)).mono ?_; rintro e w4 ⟨rfl, rfl⟩; rw [HR.out]))
    have Hz3 : Hid (w3.heap[w.heap.size]? = some (.cells (row8 zero32) 31 (0, 0))) := Lib.hid ((Hb3.out.block _ (heap_lt R0d.out)).trans R0d.out)
    go_wp2_with (first
      | (refine wpList_buildV (.agg (row8 zero32)) 31 _ rfl rfl (by kernel_rfl) ?_)
      | (refine wpList_store_row rfl 31 _ _ rfl _ _ rfl rfl 31 _ Hz3.out (info31 _ zero32_length) rfl (row8_one _) ?_))
    exact bodyPost_ret (results_cell_4 (p := 2) (t1 := 3) (t2 := 4) (t3 := 5) rfl _ _ _ 31 _ _ _ rfl (setRow_heap _ _ _ _ _ _ Hz3.out) Try.underlying31 rfl (info31 _ zero32_length)) rfl (taken_no 11 Ht.out (by omega) ⟨rfl, below_row Hw3.out (Nat.le_refl _) _⟩)
end Go.Proofs.Ytafakjdolnigaaa
