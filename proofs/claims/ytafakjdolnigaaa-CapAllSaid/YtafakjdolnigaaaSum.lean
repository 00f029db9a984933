/- The walks of sha.New, (*sha.Hash).Sum, Len, Copy. -/
import Derived.Deep.DeepCutAuto
import Derived.Test.YtafakjdolnigaaaHash
namespace Go.Proofs.Ytafakjdolnigaaa
open Go.RowKit
set_option linter.unusedVariables false

theorem HashAt.keep {w w' : World} {b : Nat} {bs : List UInt8} (h : HashAt w b bs) (hb : w'.heap[b]? = w.heap[b]?) : HashAt w' b bs := by
  obtain ⟨wait, hw, hh⟩ := h
  exact ⟨wait, hw, hb.trans hh⟩
theorem HashAt.lt {w : World} {b : Nat} {bs : List UInt8} (h : HashAt w b bs) : b < w.heap.size := by
  obtain ⟨wait, hw, hh⟩ := h
  exact heap_lt hh
theorem HashAt.below {w w' : World} {b : Nat} {bs : List UInt8} (h : HashAt w b bs) (hb : Below w.heap.size w w') : HashAt w' b bs := h.keep (hb.block b h.lt)
theorem HashAt.alloc {w : World} {b : Nat} {bs : List UInt8} (h : HashAt w b bs) (o : Obj) : HashAt (w.alloc o) b bs := h.keep (Below.heap_alloc _ _ _ h.lt)
theorem HashAt.cellN {w : World} {b : Nat} {bs : List UInt8} (h : HashAt w b bs) : w.cell? ⟨b, 73, none⟩ = some (.int .u64 (bs.length : Int)) := by
  obtain ⟨wait, hw, hh⟩ := h
  exact cell_row hh (hashRow_n _ _ _ _ hw.full)

/-- The bytes written, off the object's own cell (for measures). -/
def hashLen (w : World) (b : Nat) : Nat := match w.cell? ⟨b, 73, none⟩ with
  | some (.int _ n) => n.toNat
  | _ => 0
theorem HashAt.hlen {w : World} {b : Nat} {bs : List UInt8} (h : HashAt w b bs) : hashLen w b = bs.length := by simp [hashLen, h.cellN]

theorem hashRow_one (on : Bool) (s : S8) (wait : List UInt8) (n : Nat) : (hashRow on s wait n).all (·.oneCell') = true := by
  simp only [hashRow, List.all_toArray, List.all_cons, List.all_append, List.all_map, List.all_nil, Bool.and_true]
  simp only [Bool.and_eq_true, List.all_eq_true, Function.comp]
  exact ⟨rfl, fun _ _ => rfl, fun _ _ => rfl, rfl⟩

theorem info64 (on : Bool) (s : S8) (wait : List UInt8) (n : Nat) (h : wait.length = 64) : (Try.prog.info? 64).map (·.size) = some (hashRow on s wait n).size := by rw [hashRow_size _ _ _ _ h]; kernel_rfl
def zeroS8 : S8 := ⟨0, 0, 0, 0, 0, 0, 0, 0⟩
def zeroHash : Array Value := hashRow false zeroS8 (List.replicate 64 0) 0
theorem alloc64 : ∀ w : World, (Instr.alloc 64 true (.tuple #[])).run Try.prog w = .ok (.pointer (some ⟨w.heap.size, 0, none⟩)) (w.alloc (.cells zeroHash 64)) := by
  intro w; kernel_rfl
theorem info31 (l : List UInt8) (h : l.length = 32) : (Try.prog.info? 31).map (·.size) = some (row8 l).size := by rw [row8_size, h]; kernel_rfl
def zero32 : List UInt8 := List.replicate 32 0
theorem alloc31 : ∀ w : World, (Instr.alloc 31 true (.tuple #[])).run Try.prog w = .ok (.pointer (some ⟨w.heap.size, 0, none⟩)) (w.alloc (.cells (row8 zero32) 31)) := by
  intro w; kernel_rfl

/-- One byte in a new row. -/
theorem bytes_one (w : World) (x : UInt8) (v : Value) (h : v = W8 x) : BytesAt (w.alloc (.cells #[v] 5)) (some ⟨w.heap.size, 0, none⟩) 1 1 [x] := by
  subst h
  refine ⟨rfl, Nat.le_refl _, by unfold maxLen; omega, fun _ => ⟨_, _, rfl, fun i hi => ?_⟩, fun h => by cases h⟩
  obtain rfl : i = 0 := by omega
  simp

/-- Go on in whatever world of which this is known. -/
theorem abstract_world {P : Program} {c : Code} {Q : Exit → Act → World → Prop} {a : Act} {w : World} (Inv : World → Prop) (h : Inv w) (hk : ∀ w', Inv w' → c.wp P Q a w') : c.wp P Q a w := hk w h

/-! ### New -/
theorem wpList_box {P : Program} {ops : Array Oper} {rest : List Oper} {o : Oper} {a : Act} {w : World} {Q : Exit → Act → World → Prop} (hgd : o.guard = none) (t : TypeId) (x : Operand) (ho : o.op = .box t x) (cs : Array Value) (hx : a.eval x = .agg cs)
    (h : wpList P ops Q rest (a.put o.dst (.pointer (some ⟨w.heap.size, 0, none⟩))) (w.alloc (.cells cs t))) : wpList P ops Q (o :: rest) a w :=
  wpList_val hgd _ _ (by unfold execOp; simp [ho, hx, Instr.box, newVar, newRow, Value.cells]) h

theorem hash_new (w : World) : HashAt (w.alloc (.cells (hashRow true init8 (List.replicate 64 0) 0) 64)) w.heap.size [] :=
  ⟨List.replicate 64 0, ⟨by simp, by simp⟩, by rw [heap_alloc_new]; rfl⟩

set_option maxRecDepth 100000 in
set_option maxHeartbeats 400000 in
theorem new_any (w : World) : Calls Try.prog 28 #[] w fun e w' => ∃ b, e = .returned (.pointer (some ⟨b, 0, none⟩)) ∧ HashAt w' b [] ∧ w.heap.size ≤ b ∧ Below w.heap.size w w' := by
  go_enter Try.func28, Try.ntmps28
  go_wp2_with (first | (refine wpList_buildV (.agg (row32 init8.list)) 61 _ rfl rfl (by kernel_rfl) ?_) | (refine wpList_buildV (.agg (hashRow true init8 (List.replicate 64 0) 0)) 64 _ rfl rfl (by kernel_rfl) ?_) | (refine wpList_box rfl 64 _ rfl _ rfl ?_))
  go_ret
  exact ⟨_, rfl, hash_new w, Nat.le_refl _, (Below.refl _ _).alloc (Nat.le_refl _) _⟩

/-! ### Len, Copy -/
set_option maxHeartbeats 400000 in
theorem len_at {w : World} {b : Nat} {bs : List UInt8} (h : HashAt w b bs) : Calls Try.prog 33 #[.pointer (some ⟨b, 0, none⟩)] w fun e w' => e = .returned (.int .u64 (bs.length : Int)) ∧ w = w' := by
  have hc := h.cellN
  go_enter Try.func33, Try.ntmps33
  go_wp2_with (go_at_call 79; refine (none_at h).mono ?_; rintro e w' ⟨rfl, rfl⟩)
  go_ret
  exact ⟨rfl, rfl⟩

set_option maxRecDepth 100000 in
set_option maxHeartbeats 400000 in
theorem copy_at {w : World} {b : Nat} {bs : List UInt8} (h : HashAt w b bs) : Calls Try.prog 40 #[.pointer (some ⟨b, 0, none⟩)] w fun e w' => ∃ b', e = .returned (.pointer (some ⟨b', 0, none⟩)) ∧ HashAt w' b' bs ∧ w.heap.size ≤ b' ∧ Below w.heap.size w w' := by
  have h' := h
  obtain ⟨wait, hw, hb⟩ := h'
  have Hb := Lib.hid hb
  clear hb
  go_enter Try.func40, Try.ntmps40
  go_wp2_with (first
    | (go_at_call 79; refine (none_at h).mono ?_; rintro e w' ⟨rfl, rfl⟩)
    | (refine wpList_load_row rfl 64 _ rfl b rfl 64 _ _ _ Hb.out Try.underlying64 rfl (info64 _ _ _ _ hw.full) ?_)
    | (refine wpList_allocRow 64 _ alloc64 rfl rfl ?_)
    | (refine wpList_store_row rfl 64 _ _ rfl w.heap.size _ rfl rfl 64 _ (heap_alloc_new _ _) (info64 _ _ _ _ hw.full) (by rw [hashRow_size _ _ _ _ hw.full]; rfl) (hashRow_one _ _ _ _) ?_))
  go_ret
  exact ⟨_, rfl, ⟨wait, hw, setRow_heap _ _ _ _ _ _ (heap_alloc_new _ _)⟩, Nat.le_refl _, below_row ((Below.refl _ _).alloc (Nat.le_refl _) _) (Nat.le_refl _) _⟩

/-! ### Sum -/
theorem outOf_at (s : S8) (i k : Nat) (hi : i < 8) (hk : k < 4) : (outOf s)[4 * i + k]? = some ((s.list[i]?.getD 0) >>> UInt32.ofNat (24 - 8 * k)).toUInt8 := by
  have h1 : i = 0 ∨ i = 1 ∨ i = 2 ∨ i = 3 ∨ i = 4 ∨ i = 5 ∨ i = 6 ∨ i = 7 := by omega
  have h2 : k = 0 ∨ k = 1 ∨ k = 2 ∨ k = 3 := by omega
  rcases h1 with rfl | rfl | rfl | rfl | rfl | rfl | rfl | rfl <;> rcases h2 with rfl | rfl | rfl | rfl <;> rfl

/-- The answer's bytes when m of them have been laid. -/
def laidTo (l : List UInt8) (m : Nat) : List UInt8 := l.take m ++ List.replicate (32 - m) 0
theorem laidTo_length (l : List UInt8) (m : Nat) (h : l.length = 32) (hm : m ≤ 32) : (laidTo l m).length = 32 := by simp [laidTo]; omega
theorem laidTo_set (l : List UInt8) (m : Nat) (x : UInt8) (h : l[m]? = some x) (hm : m < 32) (hl : l.length = 32) : (laidTo l m).set m x = laidTo l (m + 1) := by
  have hlm : m < l.length := by omega
  have hx : l[m] = x := by simpa [hlm] using h
  unfold laidTo
  rw [List.set_append_right _ _ (by simp; omega), List.length_take, show m - min m l.length = 0 by omega, List.take_succ_eq_append_getElem hlm, hx]
  have : List.replicate (32 - m) (0 : UInt8) = 0 :: List.replicate (32 - (m + 1)) 0 := by
    rw [show 32 - m = (32 - (m + 1)) + 1 by omega, List.replicate_succ]
  rw [this]
  simp
theorem laidTo_all (l : List UInt8) (h : l.length = 32) : laidTo l 32 = l := by simp [laidTo, ← h]
theorem laidTo_none (l : List UInt8) : laidTo l 0 = zero32 := by simp [laidTo, zero32]

theorem be64_at (x : UInt64) (i : Nat) (h : i < 8) : (be64 x)[i]? = some (x >>> UInt64.ofNat (56 - 8 * i)).toUInt8 := by simp [be64, h]

theorem run_index_row (st : List UInt32) (i : Nat) (h : i < 8) (hl : st.length = 8) (w : World) : (Instr.index 61 (.agg (row32 st)) (.int .i64 (i : Int))).run Try.prog w = .ok (W32 (st[i]?.getD 0)) w := by
  have hs : (sizeOf 60).run Try.prog w = .ok 1 w := by kernel_rfl
  have hr := row32_at st i (by omega)
  simp [Instr.index, asIntOf, run_underlying Try.underlying61, h, part, hs, hr]

theorem wpList_index_row {ops : Array Oper} {rest : List Oper} {o : Oper} {a : Act} {w : World} {Q : Exit → Act → World → Prop} (hgd : o.guard = none) (x y : Operand) (ho : o.op = .index 61 x y) (st : List UInt32) (hx : a.eval x = .agg (row32 st)) (hl : st.length = 8)
    (i : Nat) (hy : a.eval y = .int .i64 (i : Int)) (hi : i < 8) (h : wpList Try.prog ops Q rest (a.put o.dst (W32 (st[i]?.getD 0))) w) : wpList Try.prog ops Q (o :: rest) a w :=
  wpList_val hgd _ _ (by
    unfold execOp
    simp only [ho, hx, hy, Sem.run_bind, run_index_row st i hi hl w, Result.andThen, Sem.run_pure]) h

theorem wpList_shlN {P : Program} {ops : Array Oper} {rest : List Oper} {o : Oper} {a : Act} {w : World} {Q : Exit → Act → World → Prop} (hgd : o.guard = none) (t t' : TypeId) (x : Operand) (ho : o.op = .binOp .shl t x (.const (.int .u64 3)) t') (n : Nat) (hx : a.eval x = .int .u64 (n : Int)) (hn : n < 18446744073709551616)
    (h : wpList P ops Q rest (a.put o.dst (W64 (UInt64.ofNat n <<< 3))) w) : wpList P ops Q (o :: rest) a w :=
  wpList_val hgd _ _ (by
    unfold execOp
    have e : a.eval (.const (.int .u64 3)) = .int .u64 ((3 : Nat) : Int) := rfl
    simp only [ho, hx, e, lit64 n hn, shl64 t _ _ 3 (by omega)]
    rfl) h

/-- A word of 64 bits by a count that is reckoned. -/
theorem wpList_shr64 {P : Program} {ops : Array Oper} {rest : List Oper} {o : Oper} {a : Act} {w : World} {Q : Exit → Act → World → Prop} (hgd : o.guard = none) (t t' : TypeId) (x y : Operand) (ho : o.op = .binOp .shr t x y t') (X : UInt64) (hx : a.eval x = W64 X) (yk : IntKind) (c : Int) (hy : a.eval y = .int yk c)
    (n : Nat) (hc : c = (n : Int)) (hn : n < 64) (h : wpList P ops Q rest (a.put o.dst (W64 (X >>> UInt64.ofNat n))) w) : wpList P ops Q (o :: rest) a w :=
  wpList_val hgd _ _ (by
    unfold execOp
    simp only [ho, hx, hy, eqGuardW64, Sem.run_bind, Sem.run_pure, Result.andThen, rshr64i w t X yk c n hc hn]) h
theorem wpList_shr32 {P : Program} {ops : Array Oper} {rest : List Oper} {o : Oper} {a : Act} {w : World} {Q : Exit → Act → World → Prop} (hgd : o.guard = none) (t t' : TypeId) (x y : Operand) (ho : o.op = .binOp .shr t x y t') (X : UInt32) (hx : a.eval x = W32 X) (yk : IntKind) (c : Int) (hy : a.eval y = .int yk c)
    (n : Nat) (hc : c = (n : Int)) (hn : n < 32) (h : wpList P ops Q rest (a.put o.dst (W32 (X >>> UInt32.ofNat n))) w) : wpList P ops Q (o :: rest) a w :=
  wpList_val hgd _ _ (by
    unfold execOp
    simp only [ho, hx, hy, eqGuardW32, Sem.run_bind, Sem.run_pure, Result.andThen, rshr32i w t X yk c n hc hn]) h

/-- One byte more. -/
theorem write_one {w : World} {e : Nat} {m : List UInt8} (h : HashAt w e m) (x : UInt8) (v : Value) (hv : v = W8 x) (hsz : m.length + 1 ≤ 1152921504606846976) :
    Calls Try.prog 29 #[.pointer (some ⟨e, 0, none⟩), .slice (some ⟨w.heap.size, 0, none⟩) 1 1] (w.alloc (.cells #[v] 5)) fun r w' => r = .returned (.tuple #[]) ∧ HashAt w' e (m ++ [x]) ∧ w.grownBy w' (some e) := by
  refine (write_any e m [x] _ 1 1 _ (h.alloc _) (bytes_one w x v hv) (fun a ha _ => ?_) hsz).mono fun r w' ⟨h1, h2, h3⟩ => ⟨h1, h2, grown_trans' (World.grownBy_alloc _ _ _) h3⟩
  obtain rfl := Option.some.inj ha
  exact Nat.ne_of_gt h.lt

/-- What Sum keeps while it writes the end behind. -/
structure SumInv (w w' : World) (e : Nat) (m : List UInt8) (o0 o1 : Nat) : Prop where
  hash : HashAt w' e m
  out0 : w'.heap[o0]? = some (.cells (row8 zero32) 31 (0, 0))
  out1 : w'.heap[o1]? = some (.cells (row8 zero32) 31 (0, 0))
  bel : Below w.heap.size w w'
theorem SumInv.step {w w1 w2 : World} {e o0 o1 : Nat} {m m' : List UInt8} (h : SumInv w w1 e m o0 o1) (hh : HashAt w2 e m') (hg : w1.grownBy w2 (some e)) (h0 : o0 ≠ e) (h1 : o1 ≠ e) (he : w.heap.size ≤ e) : SumInv w w2 e m' o0 o1 :=
  ⟨hh, (hg.block _ (heap_lt h.out0) (by simp [h0])).trans h.out0, (hg.block _ (heap_lt h.out1) (by simp [h1])).trans h.out1, h.bel.grown hg h.bel.size (fun k hk => by obtain rfl := Option.some.inj hk; exact he)⟩

theorem heap_new3 (w : World) (A B C : Obj) : (((w.alloc A).alloc B).alloc C).heap[w.heap.size + 1 + 1]? = some C := by
  have h := heap_alloc_new ((w.alloc A).alloc B) C
  have e : ((w.alloc A).alloc B).heap.size = w.heap.size + 1 + 1 := by simp
  rwa [e] at h

set_option maxRecDepth 100000 in
set_option maxHeartbeats 4000000 in
theorem sum_at {w : World} {b : Nat} {bs : List UInt8} (h : HashAt w b bs) (hsz : bs.length ≤ 1000000000000000000) : Calls Try.prog 32 #[.pointer (some ⟨b, 0, none⟩)] w fun e w' => e = .returned (.agg (row8 (digest bs))) ∧ Below w.heap.size w w' := by
  have h' := h
  have hlt := h.lt
  obtain ⟨wait, hw, hb⟩ := h'
  have cn := h.cellN
  have Hb := Lib.hid hb
  clear hb
  go_enter Try.func32, Try.ntmps32
  go_upto_region 5 with (first
    | (go_at_call 79; refine (none_at (h.below (((Below.refl _ _).alloc (Nat.le_refl _) _).alloc (by simp) _))).mono ?_; rintro e w' ⟨rfl, rfl⟩)
    | (refine wpList_allocRow 31 _ alloc31 rfl rfl ?_)
    | (refine wpList_load_row rfl 64 _ rfl b rfl 64 _ _ _ ((Below.block (((Below.refl _ _).alloc (Nat.le_refl _) _).alloc (by simp) _) b hlt).trans Hb.out) Try.underlying64 rfl (info64 _ _ _ _ hw.full) ?_)
    | (refine wpList_allocRow 64 _ alloc64 rfl rfl ?_)
    | (refine wpList_store_row rfl 64 _ _ rfl _ _ rfl rfl 64 _ (heap_alloc_new _ _) (info64 _ _ _ _ hw.full) (by rw [hashRow_size _ _ _ _ hw.full]; rfl) (hashRow_one _ _ _ _) ?_))
  have f0 : ∀ (A B C : Obj), (((w.alloc A).alloc B).alloc C).heap[w.heap.size]? = some A := fun A B C => by
    rw [Below.heap_alloc _ _ _ (by simp; omega)]; exact heap_alloc2_old _ _ _
  have f1 : ∀ (A B C : Obj), (((w.alloc A).alloc B).alloc C).heap[w.heap.size + 1]? = some B := fun A B C => by
    rw [Below.heap_alloc _ _ _ (by simp)]; exact heap_alloc2_new _ _ _
  have hbel : ∀ (A B C : Obj), Below w.heap.size w (((w.alloc A).alloc B).alloc C) := fun A B C => (((Below.refl _ _).alloc (Nat.le_refl _) _).alloc (by simp) _).alloc (by simp; omega) _
  have hes : ((w.alloc (.cells (row8 zero32) 31)).alloc (.cells (row8 zero32) 31)).heap.size = w.heap.size + 1 + 1 := by simp
  have f2 := heap_alloc_new ((w.alloc (.cells (row8 zero32) 31)).alloc (.cells (row8 zero32) 31)) (.cells zeroHash 64)
  generalize ((w.alloc (.cells (row8 zero32) 31)).alloc (.cells (row8 zero32) 31)).heap.size = e at *
  refine abstract_world (fun W => SumInv w W e bs w.heap.size (w.heap.size + 1)) ?_ ?_
  · refine ⟨⟨wait, hw, setRow_heap _ _ _ _ _ _ f2⟩, (setRow_other _ _ _ _ (by omega)).trans (f0 _ _ _), (setRow_other _ _ _ _ (by omega)).trans (f1 _ _ _), below_row (hbel _ _ _) (by omega) _⟩
  clear f0 f1 f2 hbel
  rintro w1 hi1
  have cn1 : w1.cell? ⟨b, 73, none⟩ = some (.int .u64 (bs.length : Int)) := by rw [hi1.bel.cell (p := ⟨b, 73, none⟩) hlt]; exact cn
  have hge : w.heap.size ≤ e := by omega
  have n0 : w.heap.size ≠ e := by omega
  have n1 : w.heap.size + 1 ≠ e := by omega
  have Hes := Lib.hid hes
  have N0 := Lib.hid n0
  have N1 := Lib.hid n1
  clear cn hes Hb n0 n1
  go_wp2_with (first
    | (refine wpList_shlN rfl 35 97 _ rfl bs.length rfl (by omega) ?_)
    | (go_at_call 29; refine (write_one hi1.hash 128 _ rfl (by omega)).mono ?_; rintro r w2 ⟨rfl, hh2, hg2⟩; have hi2 := hi1.step hh2 hg2 N0.out N1.out hge; clear hh2 hg2 hi1 cn1))
  generalize hX : UInt64.ofNat bs.length <<< 3 = X at *
  have HX := Lib.hid hX
  clear hX
  go_loopw [23] (fun _ wr => ∃ z : Nat, z ≤ zeros bs.length ∧ SumInv w wr e (bs ++ (128 :: List.replicate z 0)) w.heap.size (w.heap.size + 1)) (fun _ wr => bs.length + 65 - hashLen wr e)
  case atStart => exact ⟨0, Nat.zero_le _, by simpa using hi2⟩
  case round =>
    clear hi2
    obtain ⟨z, hz, hi⟩ := hrel
    have hzz : zeros bs.length < 64 := by unfold zeros; omega
    have hml : (bs ++ (128 :: List.replicate z (0 : UInt8))).length = bs.length + 1 + z := by simp; omega
    have hap : bs ++ (128 :: List.replicate (z + 1) (0 : UInt8)) = (bs ++ (128 :: List.replicate z 0)) ++ [0] := by simp [List.replicate_succ']
    have hln := hi.hash.hlen
    have cn := hi.hash.cellN
    rw [hml, show ((bs.length + 1 + z : Nat) : Int) = (bs.length : Int) + 1 + (z : Int) by omega] at cn
    have Hml := Lib.hid hml
    have Hap := Lib.hid hap
    have Hln := Lib.hid hln
    clear hml hap hln
    by_cases hzl : z < zeros bs.length
    · have hne : (((bs.length : Int) + 1 + (z : Int)) % 64 != 56) = true := by
        have : (bs.length + 1 + z) % 64 ≠ 56 := by unfold zeros at hzl; omega
        simp; omega
      go_wp2_with (go_at_call 29; refine (write_one hi.hash 0 _ rfl (by rw [Hml.out]; omega)).mono ?_; rintro r w2 ⟨rfl, hh2, hg2⟩)
      refine ⟨⟨z + 1, by omega, ?_⟩, ?_⟩
      · rw [Hap.out]; exact hi.step hh2 hg2 N0.out N1.out hge
      · rw [hh2.hlen, Hln.out, List.length_append, Hml.out]; simp; omega
    · have hzz' : z = zeros bs.length := by omega
      have hne : (((bs.length : Int) + 1 + (z : Int)) % 64 != 56) = false := by
        have : (bs.length + 1 + z) % 64 = 56 := by rw [hzz']; unfold zeros; omega
        simp; omega
      have Hz := Lib.hid hzz'
      clear hzz'
      go_wp2_with fail
      have hn2 : (bs ++ (128 :: List.replicate z (0 : UInt8))).length ≤ 1000000000000000100 := by rw [Hml.out]; omega
      generalize hmm : bs ++ (128 :: List.replicate z (0 : UInt8)) = m at *
      have Hmm := Lib.hid hmm
      clear hmm
      go_loopw [29] (fun v wr => ∃ i : Nat, i ≤ 8 ∧ v = .int .i64 i ∧ SumInv w wr e (m ++ (be64 X).take i) w.heap.size (w.heap.size + 1)) (fun v _ => 8 - (intOf v).toNat)
      case atStart => exact ⟨0, by omega, rfl, by simpa using hi⟩
      case round =>
        clear hi
        obtain ⟨i, hi8, rfl, hi⟩ := hrel
        by_cases hlt8 : i < 8
        · have hat := be64_at X i hlt8
          have hli : ((be64 X).take i).length = i := by rw [List.length_take, be64_length]; omega
          have hap : m ++ (be64 X).take (i + 1) = (m ++ (be64 X).take i) ++ [(X >>> UInt64.ofNat (56 - 8 * i)).toUInt8] := by
            rw [List.take_add_one, hat, List.append_assoc]; rfl
          have Hap := Lib.hid hap
          have Hli := Lib.hid hli
          have Hat := Lib.hid hat
          clear hap hli hat
          have i0 : (8 : Int) * (i : Int) ≤ 56 := by omega
          have i1 : ((56 - 8 * i : Nat) : Int) = 56 - 8 * (i : Int) := by omega
          have I1 := Lib.hid i1
          clear i1
          go_wp2_with (first
            | (refine wpList_shr64 rfl 35 97 _ _ rfl X rfl _ _ rfl (56 - 8 * i) I1.out.symm (by omega) ?_)
            | (go_at_call 29; refine (write_one hi.hash (X >>> UInt64.ofNat (56 - 8 * i)).toUInt8 _ rfl (by rw [List.length_append, Hli.out]; omega)).mono ?_; rintro r w2 ⟨rfl, hh2, hg2⟩))
          refine ⟨⟨i + 1, by omega, by go_num, by rw [Hap.out]; exact hi.step hh2 hg2 N0.out N1.out hge⟩, ?_⟩
          simp [intOf]; omega
        · have hi8' : i = 8 := by omega
          have hall : (be64 X).take i = be64 X := List.take_of_length_le (by rw [be64_length]; omega)
          rw [hall] at hi
          clear hall
          have hdec : decide ((i : Int) < 8) = false := by simp; omega
          have Hi8 := Lib.hid hi8'
          clear hi8' cn
          obtain ⟨⟨wt, hwt, hbt⟩, ho0, ho1, hbel⟩ := hi
          generalize hst : stateOf (m ++ be64 X) = st at *
          have Hst := Lib.hid hst
          have Ho0 := Lib.hid ho0
          have Ho1 := Lib.hid ho1
          have Hbel := Lib.hid hbel
          have Hbt := Lib.hid hbt
          clear hst ho0 ho1 hbel hbt
          go_wp2_with (refine wpList_load_sub rfl 61 _ rfl e 1 rfl (row32 st.list) _ (fun j hj => ?_) Try.underlying61 rfl (info61 st) ?_)
          · have hj8 : j < 8 := hj
            rw [row32_at _ _ hj8]
            exact cell_row Hbt.out (hashRow_state _ _ _ _ _ hj8)
          have hol : (outOf st).length = 32 := rfl
          have Hol := Lib.hid hol
          clear hol
          have Hlist := Lib.hid (show st.list.length = 8 from rfl)
          have Hoat := Lib.hid (outOf_at st)
          generalize hOO : outOf st = O at *
          have HOO := Lib.hid hOO
          clear hOO
          go_loopw [44] (fun v wr => ∃ i : Nat, i ≤ 8 ∧ v = .int .i64 i ∧ wr.heap[w.heap.size]? = some (.cells (row8 zero32) 31 (0, 0)) ∧ wr.heap[w.heap.size + 1]? = some (.cells (row8 (laidTo O (4 * i))) 31 (0, 0)) ∧ Below w.heap.size w wr) (fun v _ => 8 - (intOf v).toNat)
          case atStart => exact ⟨0, by omega, rfl, Ho0.out, by rw [laidTo_none]; exact Ho1.out, Hbel.out⟩
          case round =>
            clear Ho0 Ho1 Hbel Hbt
            obtain ⟨i, hi8, rfl, ho0, ho1, hbel⟩ := hrel
            have Ho0 := Lib.hid ho0
            have Ho1 := Lib.hid ho1
            have Hbel := Lib.hid hbel
            clear ho0 ho1 hbel
            by_cases hlt8 : i < 8
            · go_wp2_with (refine wpList_index_row rfl _ _ rfl st.list rfl Hlist.out i rfl hlt8 ?_)
              obtain ⟨wo, rfl⟩ : ∃ wo : World, wo = wr := ⟨_, rfl⟩
              generalize hsw : st.list[i]?.getD 0 = sw at *
              have Hsw := Lib.hid hsw
              clear hsw
              go_loopw [48] (fun v wr => ∃ k : Nat, k ≤ 4 ∧ v = .int .i64 k ∧ wr.heap[w.heap.size]? = some (.cells (row8 zero32) 31 (0, 0)) ∧ wr.heap[w.heap.size + 1]? = some (.cells (row8 (laidTo O (4 * i + k))) 31 (0, 0)) ∧ Below w.heap.size w wr) (fun v _ => 4 - (intOf v).toNat)
              case atStart => exact ⟨0, by omega, rfl, Ho0.out, Ho1.out, Hbel.out⟩
              case round =>
                clear Ho0 Ho1 Hbel
                obtain ⟨k, hk4, rfl, ho0, ho1, hbel⟩ := hrel
                by_cases hlt4 : k < 4
                · have c0 := cell_row ho1 (row8_at (laidTo O (4 * i + k)) (4 * i + k) (by rw [laidTo_length _ _ Hol.out (by omega)]; omega))
                  have f0 := frozen_of_row wr (w.heap.size + 1) (4 * i + k) _ _ ho1
                  have hset := laidTo_set O (4 * i + k) (sw >>> UInt32.ofNat (24 - 8 * k)).toUInt8 (by rw [Hoat.out i k hlt8 hlt4, Hsw.out]) (by omega) Hol.out
                  have Hset := Lib.hid hset
                  have i0 : (8 : Int) * (k : Int) ≤ 24 := by omega
                  have i1 : ((24 - 8 * k : Nat) : Int) = 24 - 8 * (k : Int) := by omega
                  have I1 := Lib.hid i1
                  have Ho0 := Lib.hid ho0
                  have Ho1 := Lib.hid ho1
                  have Hbel := Lib.hid hbel
                  clear ho0 ho1 hbel hset i1
                  go_wp2_with (refine wpList_shr32 rfl 60 97 _ _ rfl sw rfl _ _ rfl (24 - 8 * k) I1.out.symm (by omega) ?_)
                  refine ⟨⟨k + 1, by omega, by go_num, (heap_setCell_other _ _ _ _ (by simp)).trans Ho0.out, ?_, Hbel.out.setCell (by simp) _⟩, by simp [intOf]; omega⟩
                  rw [← Nat.add_assoc, ← Hset.out, ← row8_set]
                  exact heap_setCell_same _ _ _ _ _ _ Ho1.out
                · have hk4' : 4 * i + k = 4 * (i + 1) := by omega
                  rw [hk4'] at ho1
                  have Ho0 := Lib.hid ho0
                  have Ho1 := Lib.hid ho1
                  have Hbel := Lib.hid hbel
                  clear ho0 ho1 hbel hk4'
                  go_wp2
                  refine ⟨⟨i + 1, by omega, by go_num, Ho0.out, Ho1.out, Hbel.out⟩, by simp [intOf]; omega⟩
            · have hi8' : 4 * i = 32 := by omega
              have ho1 := Ho1.out
              rw [hi8', laidTo_all _ Hol.out] at ho1
              have Ho1' := Lib.hid ho1
              clear ho1 Ho1 hi8'
              go_wp2_with (first
                | (refine wpList_load_row rfl 31 _ rfl _ rfl 31 _ _ _ Ho1'.out Try.underlying31 rfl (info31 _ Hol.out) ?_)
                | (refine wpList_store_row rfl 31 _ _ rfl _ _ rfl rfl 31 _ Ho0.out (info31 _ Hol.out) (by rw [row8_size, row8_size, Hol.out]; rfl) (row8_one _) ?_))
              refine bodyPost_ret (results_cell_row rfl _ _ _ 31 _ _ _ rfl (setRow_heap _ _ _ _ _ _ Ho0.out) Try.underlying31 rfl (info31 _ Hol.out)) rfl ⟨?_, below_row Hbel.out (Nat.le_refl _) _⟩
              have hdig : digest bs = O := by
                rw [← HOO.out, ← Hst.out, ← Hmm.out, Hz.out, ← HX.out]
                simp only [digest, padding, List.append_assoc, List.cons_append]
              rw [hdig]
end Go.Proofs.Ytafakjdolnigaaa
