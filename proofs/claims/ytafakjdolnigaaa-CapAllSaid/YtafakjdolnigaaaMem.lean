/- Laws for the walk on memory: a new variable of an array's or a struct's type, whole arrays read and written, a part of a row. -/
import Derived.Deep.WholeRow
import Derived.Test.YtafakjdolnigaaaWords
namespace Go.Proofs.Ytafakjdolnigaaa
open Go.RowKit
set_option linter.unusedVariables false

section
variable {P : Program}

/-- A new variable of a type whose zero cells are Z. -/
theorem wpList_allocRow {ops : Array Oper} {rest : List Oper} {o : Oper} {a : Act} {w : World} {Q : Exit → Act → World → Prop} (T : TypeId) (Z : Array Value)
    (hz : ∀ w : World, (Instr.alloc T true (.tuple #[])).run P w = .ok (.pointer (some ⟨w.heap.size, 0, none⟩)) (w.alloc (.cells Z T))) (hgd : o.guard = none) (ho : o.op = .alloc T)
    (h : wpList P ops Q rest (a.put o.dst (.pointer (some ⟨w.heap.size, 0, none⟩))) (w.alloc (.cells Z T))) : wpList P ops Q (o :: rest) a w :=
  wpList_plain hgd fun K hK => by
    unfold Oper.wp execOp
    simp only [ho, Sem.run_bind, hz w, Result.andThen_ok]
    exact hK _ _ h

/-- A struct's or an array's value put together, by a closed fact. -/
theorem wpList_buildV {ops : Array Oper} {rest : List Oper} {o : Oper} {a : Act} {w : World} {Q : Exit → Act → World → Prop} (v : Value) (t : TypeId) (parts : Array (Nat × Operand)) (hgd : o.guard = none) (ho : o.op = .build t parts)
    (hb : (Instr.build t (parts.map fun (i, x) => (i, a.eval x))).run P w = .ok v w)
    (h : wpList P ops Q rest (a.put o.dst v) w) : wpList P ops Q (o :: rest) a w :=
  wpList_plain hgd fun K hK => by
    unfold Oper.wp execOp
    simp only [ho, Sem.run_bind, hb, Result.andThen_ok]
    exact hK _ _ h

/-- The cells of words. -/
def row32 (l : List UInt32) : Array Value := (l.map W32).toArray
def row64 (l : List UInt64) : Array Value := (l.map W64).toArray
def row8 (l : List UInt8) : Array Value := (l.map W8).toArray
theorem row32_size (l : List UInt32) : (row32 l).size = l.length := by simp [row32]
theorem row64_size (l : List UInt64) : (row64 l).size = l.length := by simp [row64]
theorem row8_size (l : List UInt8) : (row8 l).size = l.length := by simp [row8]
theorem row32_at (l : List UInt32) (i : Nat) (h : i < l.length) : (row32 l)[i]? = some (W32 (l[i]?.getD 0)) := by simp [row32, h]
theorem row64_at (l : List UInt64) (i : Nat) (h : i < l.length) : (row64 l)[i]? = some (W64 (l[i]?.getD 0)) := by simp [row64, h]
theorem row8_at (l : List UInt8) (i : Nat) (h : i < l.length) : (row8 l)[i]? = some (W8 (l[i]?.getD 0)) := by simp [row8, h]
theorem row32_set (l : List UInt32) (i : Nat) (x : UInt32) : (row32 l).setIfInBounds i (W32 x) = row32 (l.set i x) := by simp [row32, List.map_set]
theorem row64_set (l : List UInt64) (i : Nat) (x : UInt64) : (row64 l).setIfInBounds i (W64 x) = row64 (l.set i x) := by simp [row64, List.map_set]
theorem row8_set (l : List UInt8) (i : Nat) (x : UInt8) : (row8 l).setIfInBounds i (W8 x) = row8 (l.set i x) := by simp [row8, List.map_set]
theorem row32_one (l : List UInt32) : (row32 l).all (·.oneCell') = true := by simp [row32]; intro i h; rfl
theorem row64_one (l : List UInt64) : (row64 l).all (·.oneCell') = true := by simp [row64]; intro i h; rfl
theorem row8_one (l : List UInt8) : (row8 l).all (·.oneCell') = true := by simp [row8]; intro i h; rfl

/-- A cell of a row that is known whole. -/
theorem cell_row {w : World} {g j : Nat} {cs : Array Value} {t : TypeId} {fr : Nat × Nat} (hg : w.heap[g]? = some (.cells cs t fr)) {v : Value} (hv : cs[j]? = some v) : w.cell? ⟨g, j, none⟩ = some v := by
  rw [cell_of_row w g j cs t fr hg, hv]
theorem heap_lt {w : World} {g : Nat} {o : Obj} (hg : w.heap[g]? = some o) : g < w.heap.size := (Array.getElem?_eq_some_iff.1 hg).1

theorem below_row {B g : Nat} {w0 w : World} (h : Below B w0 w) (hg : B ≤ g) (cs : Array Value) : Below B w0 (w.setRow g cs) :=
  h.trans ⟨rfl, rfl, rfl, by simp, fun k hk => setRow_other _ _ _ _ (by omega)⟩

/-- A whole array or struct read from wherever it lies. -/
theorem run_loadVar_sub (w : World) (g o : Nat) (ty : TypeId) (vs : Array Value) (d : TypeDesc) (hv : ∀ j, j < vs.size → w.cell? ⟨g, o + j, none⟩ = vs[j]?)
    (hu : P.underlying ty = some d) (hd : (match d with | .struct _ | .array _ _ => true | _ => false) = true) (hi : (P.info? ty).map (·.size) = some vs.size) :
    (loadVar ty ⟨g, o, none⟩).run P w = .ok (.agg vs) w := by
  have hl : (loadCells ⟨g, o, none⟩ vs.toList.length).run P w = .ok vs.toList.toArray w :=
    run_loadCells_list (P := P) w ⟨g, o, none⟩ vs.toList (fun j v hjv => by
      have hlt : j < vs.size := by
        have := (List.getElem?_eq_some_iff.1 hjv).1
        simpa using this
      rw [Addr.add_lit, hv j hlt]
      simpa using hjv)
  cases hq : P.info? ty with
  | none => simp [hq] at hi
  | some i =>
    have hs : i.size = vs.size := by simpa [hq] using hi
    have hagg : (isAgg ty).run P w = .ok true w := by
      unfold isAgg
      rw [Sem.run_bind, run_underlying hu w]
      cases d <;> simp_all
    simp only [Array.length_toList, Array.toArray_toList] at hl
    simp [loadVar, Sem.run_bind, hagg, sizeOf, typeInfo, hq, hs, hl]

/-- The same as an operation. -/
theorem exec_load_sub {a : Act} {o : Oper} {w : World} {x : Operand} (g off : Nat) (ty : TypeId) (vs : Array Value) (d : TypeDesc) (ho : o.op = .load ty x) (hx : a.eval x = .pointer (some ⟨g, off, none⟩))
    (hv : ∀ j, j < vs.size → w.cell? ⟨g, off + j, none⟩ = vs[j]?)
    (hu : P.underlying ty = some d) (hd : (match d with | .struct _ | .array _ _ => true | _ => false) = true) (hi : (P.info? ty).map (·.size) = some vs.size) :
    (execOp a.eval o).run P w = .ok (.value (.agg vs)) w := by
  unfold execOp
  simp only [ho, hx, Instr.loadAt, Instr.sureAddr, Sem.run_bind, Sem.run_pure, Result.andThen_ok, run_loadVar_sub w g off ty vs d hv hu hd hi]

theorem wpList_load_sub {ops : Array Oper} {rest : List Oper} {o : Oper} {a : Act} {w : World} {Q : Exit → Act → World → Prop} (hgd : o.guard = none) (ty : TypeId) (x : Operand) (ho : o.op = .load ty x)
    (g off : Nat) (hx : a.eval x = .pointer (some ⟨g, off, none⟩)) (vs : Array Value) (d : TypeDesc) (hv : ∀ j, j < vs.size → w.cell? ⟨g, off + j, none⟩ = vs[j]?)
    (hu : P.underlying ty = some d) (hd : (match d with | .struct _ | .array _ _ => true | _ => false) = true) (hi : (P.info? ty).map (·.size) = some vs.size)
    (h : wpList P ops Q rest (a.put o.dst (.agg vs)) w) : wpList P ops Q (o :: rest) a w :=
  wpList_plain hgd fun K hK => by
    unfold Oper.wp
    rw [exec_load_sub g off ty vs d ho hx hv hu hd hi]
    exact hK _ _ h

theorem below_grown {w w' : World} (h : Below w.heap.size w w') (r : Option Nat) : w.grownBy w' r := ⟨h.os, h.tape, h.output, h.size, fun k hk _ => h.block k hk⟩
theorem grown_setCell {w w' : World} {b : Nat} (h : w.grownBy w' (some b)) (i : Nat) (v : Value) : w.grownBy (w'.setCell ⟨b, i, none⟩ v) (some b) :=
  ⟨h.os, h.tape, h.output, by simp [World.setCell]; exact h.size, fun k hk hne => by
    rw [heap_setCell_other _ _ _ _ (fun e => hne (by rw [e]))]; exact h.block k hk hne⟩
theorem grown_drew {w w' : World} {r : Option Nat} (h : w.grownBy w' r) : w.grownBy w'.drew r := ⟨h.os, h.tape, h.output, h.size, h.block⟩
theorem grown_trans' {a b c : World} {r : Option Nat} (h : a.grownBy b r) (k : b.grownBy c r) : a.grownBy c r :=
  ⟨k.os.trans h.os, k.tape.trans h.tape, k.output.trans h.output, Nat.le_trans h.size k.size, fun i hi hne => (k.block i (Nat.lt_of_lt_of_le hi h.size) hne).trans (h.block i hi hne)⟩

/-- A region's operations, out of a function's body. -/
def regionOps (k : Nat) : Code → Option (Array Oper)
  | .region i ops _ => if i = k then some ops else none
  | .seq a b => (regionOps k a).or (regionOps k b)
  | .cond _ a b => (regionOps k a).or (regionOps k b)
  | .block _ c => regionOps k c
  | .loop c => regionOps k c
  | .scope c => regionOps k c
  | _ => none
def opsOf (f : Func) (k : Nat) : Array Oper := (f.body.bind (regionOps k)).getD #[]

end
end Go.Proofs.Ytafakjdolnigaaa
