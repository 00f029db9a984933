/- Slices that the call itself makes: bytes appended to, made anew; twins with spare room; what they read as. -/
import Derived.Deep.AppendSrc
import Derived.Deep.Upon
import Derived.Deep.DeepAppendWide
import Derived.Deep.OwnRows
import Derived.Laws.IdiomStrings
import Derived.Lib.BufferRead
import Derived.Test.YtafakjdolnigaaaBegun2
namespace Go.Proofs.Ytafakjdolnigaaa
open Go.RowKit
set_option linter.unusedVariables false

theorem infoU8 : ∃ i : TypeInfo, Try.prog.info? 5 = some i ∧ i.zero = some (.int .u8 0) ∧ i.size = 1 ∧ i.bytes = 1 := by
  have h : (Try.prog.info? 5).map (fun i => (i.zero, i.size, i.bytes)) = some (some (.int .u8 0), 1, 1) := by kernel_rfl
  obtain ⟨i, hi, hz⟩ := Option.map_eq_some_iff.1 h
  simp only [Prod.mk.injEq] at hz
  exact ⟨i, hi, hz.1, hz.2.1, hz.2.2⟩
theorem infoBytes : ∃ i : TypeInfo, Try.prog.info? 29 = some i ∧ i.zero = some (.slice none 0 0) ∧ i.size = 1 ∧ i.bytes = 24 := by
  have h : (Try.prog.info? 29).map (fun i => (i.zero, i.size, i.bytes)) = some (some (.slice none 0 0), 1, 24) := by kernel_rfl
  obtain ⟨i, hi, hz⟩ := Option.map_eq_some_iff.1 h
  simp only [Prod.mk.injEq] at hz
  exact ⟨i, hi, hz.1, hz.2.1, hz.2.2⟩

/-- A slice of bytes of one's own (its row lies from block 'base' on). -/
def OwnB (w : World) (base : Nat) (v : Value) (bs : List UInt8) : Prop := w.ownsRow base 5 1 v bs.length (bs.map W8)
theorem ownB_none (w : World) (base : Nat) : OwnB w base (.slice none 0 0) [] := ⟨rfl, .inl ⟨rfl, rfl⟩⟩

theorem OwnB.at {w : World} {base : Nat} {v : Value} {bs : List UInt8} (h : OwnB w base v bs) : ∃ r cap, v = .slice r bs.length cap ∧ BytesAt w r bs.length cap bs ∧ (∀ a, r = some a → base ≤ a.block) := by
  obtain ⟨hl, ⟨rfl, h0⟩ | ⟨g, cap, cur, rfl, hb, hg, hc, hm, hs, ht⟩⟩ := h
  · have : bs = [] := List.eq_nil_of_length_eq_zero h0
    subst this
    exact ⟨_, _, rfl, .empty w none 0 (by unfold maxLen; omega) (fun _ => rfl), fun _ h => by cases h⟩
  · refine ⟨_, _, rfl, ⟨rfl, hc, hm, fun h0 => ⟨g, 0, rfl, fun i hi => ?_⟩, fun h => by cases h⟩, fun a ha => by obtain rfl := Option.some.inj ha; exact hb⟩
    have h2 : cur[i]? = some (W8 (bs[i]?.getD 0)) := by
      have h3 : (cur.toList.take (bs.length * 1))[i]? = (bs.map W8)[i]? := by rw [ht]
      rw [List.getElem?_take, if_pos (by omega)] at h3
      simpa [List.getElem?_map, List.getElem?_eq_getElem hi] using h3
    rw [Nat.zero_add]
    exact cell_row hg h2

theorem OwnB.keep {w w' : World} {base : Nat} {v : Value} {bs : List UInt8} (h : OwnB w base v bs) (hb : Below w.heap.size w w') : OwnB w' base v bs := by
  obtain ⟨hl, h0 | ⟨g, cap, cur, hv, hb', hg, hr⟩⟩ := h
  · exact ⟨hl, .inl h0⟩
  · exact ⟨hl, .inr ⟨g, cap, cur, hv, hb', (hb.block _ (heap_lt hg)).trans hg, hr⟩⟩

theorem OwnB.below {w w' : World} {base : Nat} {v : Value} {bs : List UInt8} {B : World} (h : OwnB w base v bs) (hb : Below base B w) (hs : base ≤ w.heap.size) (hg : w.grownBy w' v.ownBlock) : Below base B w' := by
  refine hb.grown hg hs (fun k hk => ?_)
  obtain ⟨hl, ⟨rfl, h0⟩ | ⟨g, cap, cur, rfl, hb', hr⟩⟩ := h
  · cases hk
  · obtain rfl := Option.some.inj hk
    exact hb'

section
variable {P : Program}
/-- append(v, x...), bytes both. -/
theorem run_append_bytes (w : World) (base : Nat) (ty : TypeId) (v : Value) (bs cs : List UInt8) (r : Option Addr) (len cap : Nat) (hv : OwnB w base v bs) (hc : BytesAt w r len cap cs)
    (hsz : bs.length + cs.length ≤ 70368744177664) (hbase : base ≤ w.heap.size) :
    ∃ v' w', (Builtin.append_ #[29, 29] ty #[v, .slice r len cap]).run Try.prog w = .ok v' w' ∧ OwnB w' base v' (bs ++ cs) ∧ w.grownBy w' v.ownBlock := by
  obtain ⟨i, hi, hz, hs, hby⟩ := infoU8
  have hlen := hc.hlen
  cases r with
  | none =>
    have hcap := hc.hnil rfl
    have hle := hc.hle
    have h0 : len = 0 := by omega
    subst h0 hcap
    have : cs = [] := List.eq_nil_of_length_eq_zero hlen
    subst this
    rw [List.append_nil]
    obtain ⟨r0, cap0, rfl, hb0, _⟩ := hv.at
    refine ⟨_, w, run_append_nothing w 29 29 ty 5 i Try.underlying29 hi r0 bs.length cap0 hb0.hle _ (Src.ofNil w Try.underlying29 0), hv, ?_⟩
    exact ⟨rfl, rfl, rfl, Nat.le_refl _, fun _ _ _ => rfl⟩
  | some a =>
    have key := run_append_own_wide (P := Try.prog) w base 29 ty 5 i (.int .u8 0) 1 1 Try.underlying29 hi hz hs hby rfl (by omega) v bs.length (bs.map W8) hv a len cap (cs.map W8) (by simp; omega) (fun j u hj => ?_) (fun u hu => ?_) (by unfold maxLen; omega) (by omega) hbase
    · obtain ⟨v', w', h1, h2, h3, _⟩ := key
      refine ⟨v', w', h1, ?_, h3⟩
      unfold OwnB
      rw [List.length_append, List.map_append, hlen]
      exact h2
    · have hj' : j < cs.length := by simpa using (List.getElem?_eq_some_iff.1 hj).1
      obtain ⟨b, o, hr, hcell⟩ := hc.hcells (by omega)
      obtain rfl := Option.some.inj hr
      rw [Addr.add_lit, hcell j (by omega)]
      simpa [List.getElem?_map, List.getElem?_eq_getElem hj'] using hj
    · obtain ⟨x, _, rfl⟩ := List.mem_map.1 hu
      rfl

theorem exec_append_bytes {a : Act} {o : Oper} {w : World} (s x : Operand) (ho : o.op = .call { callee := .builtin .append, args := #[s, x], argTypes := #[29, 29] }) (base : Nat) (v : Value) (bs cs : List UInt8) (r : Option Addr) (len cap : Nat) (hs : a.eval s = v) (hx : a.eval x = .slice r len cap)
    (hv : OwnB w base v bs) (hc : BytesAt w r len cap cs) (hsz : bs.length + cs.length ≤ 70368744177664) (hbase : base ≤ w.heap.size) :
    ∃ v' w', (execOp a.eval o).run Try.prog w = .ok (.value v') w' ∧ OwnB w' base v' (bs ++ cs) ∧ w.grownBy w' v.ownBlock := by
  obtain ⟨v', w', hr, h1, h2⟩ := run_append_bytes w base o.type v bs cs r len cap hv hc hsz hbase
  refine ⟨v', w', ?_, h1, h2⟩
  unfold execOp
  simp only [ho, resolve, invoke, builtin, Sem.run_bind, Sem.run_pure, Result.andThen_ok, List.map_toArray, List.map_cons, List.map_nil, hs, hx, hr]

theorem wpList_append_bytes {ops : Array Oper} {rest : List Oper} {o : Oper} {a : Act} {w : World} {Q : Exit → Act → World → Prop} (hgd : o.guard = none) (s x : Operand) (ho : o.op = .call { callee := .builtin .append, args := #[s, x], argTypes := #[29, 29] }) (base : Nat) (v : Value) (bs cs : List UInt8) (r : Option Addr) (len cap : Nat) (hs : a.eval s = v) (hx : a.eval x = .slice r len cap)
    (hv : OwnB w base v bs) (hc : BytesAt w r len cap cs) (hsz : bs.length + cs.length ≤ 70368744177664) (hbase : base ≤ w.heap.size)
    (h : ∀ v' w', OwnB w' base v' (bs ++ cs) → w.grownBy w' v.ownBlock → wpList Try.prog ops Q rest (a.put o.dst v') w') : wpList Try.prog ops Q (o :: rest) a w := by
  obtain ⟨v', w', hr, h1, h2⟩ := exec_append_bytes s x ho base v bs cs r len cap hs hx hv hc hsz hbase
  exact wpList_val hgd v' w' hr (h v' w' h1 h2)

/-- string(b). -/
theorem conv_str {w : World} {r : Option Addr} {len cap : Nat} {bs : List UInt8} (h : BytesAt w r len cap bs) : (convert 29 9 (.slice r len cap)).run Try.prog w = .ok (.string ⟨bs.toArray⟩) w := by
  have hlen := h.hlen
  subst hlen
  cases r with
  | none =>
    have hcap := h.hnil rfl
    have hle := h.hle
    have h0 : bs = [] := List.eq_nil_of_length_eq_zero (by omega)
    subst h0
    exact Lib.run_convert_nil_bytes (P := Try.prog) w 29 9 5 cap Try.underlying29 Try.underlying5 Try.underlying9
  | some a =>
    refine run_convert_bytes_back (P := Try.prog) w 29 9 5 a cap bs Try.underlying29 Try.underlying5 Try.underlying9 (fun j hj => ?_)
    obtain ⟨b, o, hr, hc⟩ := h.hcells (by omega)
    obtain rfl := Option.some.inj hr
    rw [Addr.add_lit, hc j hj]
    simp [List.getElem?_eq_getElem hj, W8]

/-- make([]byte, n) lays n zeros. -/
theorem made_row8 (n : Nat) : madeCells #[.int .u8 0] n = row8 (List.replicate n 0) := by
  apply Array.ext
  · simp [madeCells, row8]
  · intro i h1 h2
    have : i < n := by simpa [madeCells] using h1
    simp [madeCells, row8, Nat.mod_one]
    rfl
theorem wpList_make_bytes {ops : Array Oper} {rest : List Oper} {o : Oper} {a : Act} {w : World} {Q : Exit → Act → World → Prop} (hg : o.guard = none) (l c : Operand) (ho : o.op = .makeSlice 29 l c) (n : Nat) (hl : a.eval l = .int .i64 (n : Int)) (hc : a.eval c = .int .i64 (n : Int)) (hn : n ≤ 281474976710656)
    (h : wpList Try.prog ops Q rest (a.put o.dst (.slice (some ⟨w.heap.size, 0, none⟩) n n)) (w.alloc (.cells (row8 (List.replicate n 0)) 5))) : wpList Try.prog ops Q (o :: rest) a w := by
  obtain ⟨i, hi, hz, hs, hby⟩ := infoU8
  refine wpList_make_row w hg l c 29 ho 5 i (.int .u8 0) Try.underlying29 hi hz hs rfl .i64 .i64 n hl hc (by rw [hby]; omega) (by omega) ?_
  rw [made_row8]
  exact h
end

/-- A slice of ints. -/
structure IntsAt (w : World) (r : Option Addr) (len cap : Nat) (zs : List Int) : Prop where
  hlen : zs.length = len
  hle : len ≤ cap
  hmax : cap ≤ maxLen
  hcells : 0 < len → ∃ b o, r = some ⟨b, o, none⟩ ∧ ∀ i, i < len → w.cell? ⟨b, o + i, none⟩ = some (.int .i64 (zs[i]?.getD 0))
  hwf : ∀ z ∈ zs, (Lit.int .i64 z).wf = true
theorem IntsAt.below {w w' : World} {r : Option Addr} {len cap : Nat} {zs : List Int} (h : IntsAt w r len cap zs) (hb : Below w.heap.size w w') : IntsAt w' r len cap zs :=
  ⟨h.hlen, h.hle, h.hmax, fun h0 => by
    obtain ⟨b, o, hr, hc⟩ := h.hcells h0
    exact ⟨b, o, hr, fun i hi => by rw [hb.cell (p := ⟨b, o + i, none⟩) (block_lt_of_cell (hc i hi))]; exact hc i hi⟩, h.hwf⟩

/-- append(v, x), one value of one cell, v a slice of one's own. -/
theorem run_append_val (w : World) (base : Nat) (t ty e : TypeId) (z : Value) (by_ : Nat) (hu : Try.prog.underlying t = some (.slice e)) (hi : ∃ i : TypeInfo, Try.prog.info? e = some i ∧ i.zero = some z ∧ i.size = 1 ∧ i.bytes = by_) (hz1 : z.cells.size = 1)
    (v : Value) (n : Nat) (vs : List Value) (x : Value) (k len cap : Nat) (hx : x.oneCell' = true) (hv : w.ownsRow base e 1 v n vs) (hc : w.cell? ⟨k, 0, none⟩ = some x)
    (hsz : ((n + 1) + (n + 1) / 4 + 192) * by_ ≤ 281474976710656) (hm : n + 1 ≤ maxLen) (hbase : base ≤ w.heap.size) :
    ∃ v' w', (Builtin.append_ #[t, t] ty #[v, .slice (some ⟨k, 0, none⟩) 1 cap]).run Try.prog w = .ok v' w' ∧ w'.ownsRow base e 1 v' (n + 1) (vs ++ [x]) ∧ w.grownBy w' v.ownBlock := by
  obtain ⟨i, hi, hz, hs, hby⟩ := hi
  obtain ⟨v', w', h1, h2, h3, _⟩ := run_append_own_wide (P := Try.prog) w base t ty e i z 1 by_ hu hi hz hs hby hz1 (by omega) v n vs hv ⟨k, 0, none⟩ 1 cap [x] rfl (fun j u hj => by
    have hj0 : j = 0 := by
      have := (List.getElem?_eq_some_iff.1 hj).1
      simp at this; omega
    subst hj0
    simp at hj
    subst hj
    simpa [Addr.add_lit] using hc) (fun u hu => by simp at hu; subst hu; exact hx) hm hsz hbase
  exact ⟨v', w', h1, h2, h3⟩

/-- At the walk, for [][]byte: one slice more. -/
theorem wpList_append_part {ops : Array Oper} {rest : List Oper} {o : Oper} {a : Act} {w : World} {Q : Exit → Act → World → Prop} (hgd : o.guard = none) (s y : Operand) (ho : o.op = .call { callee := .builtin .append, args := #[s, y], argTypes := #[22, 22] }) (base : Nat) (v : Value) (n : Nat) (vs : List Value) (x : Value) (k : Nat)
    (hs : a.eval s = v) (hy : a.eval y = .slice (some ⟨k, 0, none⟩) 1 1) (hx : x.oneCell' = true) (hv : w.ownsRow base 29 1 v n vs) (hc : w.cell? ⟨k, 0, none⟩ = some x) (hn : n ≤ 1099511627776) (hbase : base ≤ w.heap.size)
    (h : ∀ v' w', w'.ownsRow base 29 1 v' (n + 1) (vs ++ [x]) → w.grownBy w' v.ownBlock → wpList Try.prog ops Q rest (a.put o.dst v') w') : wpList Try.prog ops Q (o :: rest) a w := by
  obtain ⟨v', w', hr, h1, h2⟩ := run_append_val w base 22 o.type 29 (.slice none 0 0) 24 Try.underlying22 infoBytes rfl v n vs x k 1 1 hx hv hc (by omega) (by unfold maxLen; omega) hbase
  refine wpList_val hgd v' w' ?_ (h v' w' h1 h2)
  unfold execOp
  simp only [ho, resolve, invoke, builtin, Sem.run_bind, Sem.run_pure, Result.andThen_ok, List.map_toArray, List.map_cons, List.map_nil, hs, hy, hr]

/-- What one owns, behind an allocation; where it lies. -/
theorem ownsRow_below {w w' : World} {base : Nat} {e : TypeId} {size : Nat} {v : Value} {n : Nat} {vs : List Value} (h : w.ownsRow base e size v n vs) (hb : Below w.heap.size w w') : w'.ownsRow base e size v n vs := by
  obtain ⟨hl, h0 | ⟨g, cap, cur, hv, hb', hg, hr⟩⟩ := h
  · exact ⟨hl, .inl h0⟩
  · exact ⟨hl, .inr ⟨g, cap, cur, hv, hb', (hb.block _ (heap_lt hg)).trans hg, hr⟩⟩
theorem ownsRow_block {w : World} {base : Nat} {e : TypeId} {size : Nat} {v : Value} {n : Nat} {vs : List Value} (h : w.ownsRow base e size v n vs) : ∀ k, v.ownBlock = some k → base ≤ k ∧ k < w.heap.size := by
  obtain ⟨hl, ⟨rfl, h0⟩ | ⟨g, cap, cur, rfl, hb', hg, hr⟩⟩ := h
  · intro k hk; cases hk
  · intro k hk; obtain rfl := Option.some.inj hk; exact ⟨hb', heap_lt hg⟩
theorem ownsRow_grown {w0 w w' : World} {base : Nat} {e : TypeId} {size : Nat} {v : Value} {n : Nat} {vs : List Value} (h : w.ownsRow base e size v n vs) (hb : Below base w0 w) (hs : base ≤ w.heap.size) (hg : w.grownBy w' v.ownBlock) : Below base w0 w' :=
  hb.grown hg hs (fun k hk => (ownsRow_block h k hk).1)
theorem ownsRow_shape {w : World} {base : Nat} {e : TypeId} {v : Value} {n : Nat} {vs : List Value} (h : w.ownsRow base e 1 v n vs) : ∃ r cap, v = .slice r n cap ∧ n ≤ cap ∧ cap ≤ maxLen ∧ vs.length = n ∧ (0 < n → ∃ b, r = some ⟨b, 0, none⟩ ∧ base ≤ b ∧ b < w.heap.size ∧ ∀ i, i < n → w.cell? ⟨b, 0 + i, none⟩ = vs[i]?) := by
  obtain ⟨hl, ⟨rfl, h0⟩ | ⟨g, cap, cur, rfl, hb, hg, hc, hm, hs, ht⟩⟩ := h
  · subst h0
    exact ⟨_, _, rfl, Nat.le_refl _, by unfold maxLen; omega, by omega, fun h => by omega⟩
  · refine ⟨_, _, rfl, hc, hm, by omega, fun h0 => ⟨g, rfl, hb, heap_lt hg, fun i hi => ?_⟩⟩
    rw [Nat.zero_add, cell_of_row w g i cur e (0, 0) hg, ← ht, List.getElem?_take, if_pos (by omega)]
    simp

/-- A twin: bytes with three bytes of spare room behind them. -/
def tail3 : List UInt8 := [229, 229, 229]
structure TwinAt (w : World) (g : Nat) (bs : List UInt8) : Prop where
  row : w.heap[g]? = some (.cells (row8 (bs ++ tail3)) 5 (0, 0))
  max : bs.length + 3 ≤ maxLen
theorem TwinAt.lt {w : World} {g : Nat} {bs : List UInt8} (h : TwinAt w g bs) : g < w.heap.size := heap_lt h.row
theorem TwinAt.below {w w' : World} {g : Nat} {bs : List UInt8} (h : TwinAt w g bs) (hb : Below w.heap.size w w') : TwinAt w' g bs := ⟨(hb.block _ h.lt).trans h.row, h.max⟩
theorem TwinAt.keep {w w' : World} {g : Nat} {bs : List UInt8} (h : TwinAt w g bs) (hb : w'.heap[g]? = w.heap[g]?) : TwinAt w' g bs := ⟨hb.trans h.row, h.max⟩
theorem TwinAt.at {w : World} {g : Nat} {bs : List UInt8} (h : TwinAt w g bs) : BytesAt w (some ⟨g, 0, none⟩) bs.length (bs.length + 3) bs := by
  refine ⟨rfl, by omega, h.max, fun h0 => ⟨g, 0, rfl, fun i hi => ?_⟩, fun h => by cases h⟩
  rw [Nat.zero_add, cell_row h.row (row8_at _ i (by simp; omega)), List.getElem?_append_left hi]
end Go.Proofs.Ytafakjdolnigaaa
