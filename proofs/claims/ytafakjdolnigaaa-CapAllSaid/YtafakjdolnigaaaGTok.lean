/- A list of caveats of one's own; appending caveats. cap.own and cap.Issue. cap.Issue. cap.Less. -/
import Derived.Test.YtafakjdolnigaaaGOn
namespace Go.Proofs.Ytafakjdolnigaaa
open Go.RowKit
set_option linter.unusedVariables false

/-- The cells of caveats. -/
def cavCells : List (UInt8 × Int) → List Value
  | [] => []
  | c :: cs => W8 c.1 :: .int .i64 c.2 :: cavCells cs
theorem cavCells_length (cs : List (UInt8 × Int)) : (cavCells cs).length = cs.length * 2 := by
  induction cs with
  | nil => rfl
  | cons c cs ih => simp only [cavCells, List.length_cons, ih]; omega
theorem cavCells_append (cs ds : List (UInt8 × Int)) : cavCells (cs ++ ds) = cavCells cs ++ cavCells ds := by
  induction cs with
  | nil => rfl
  | cons c cs ih => simp only [List.cons_append, cavCells, ih]
theorem cavCells_at (cs : List (UInt8 × Int)) (i : Nat) (h : i < cs.length) : (cavCells cs)[i * 2]? = some (W8 (cs[i]?.getD (0, 0)).1) ∧ (cavCells cs)[i * 2 + 1]? = some (.int .i64 (cs[i]?.getD (0, 0)).2) := by
  induction cs generalizing i with
  | nil => simp at h
  | cons c cs ih =>
    cases i with
    | zero => exact ⟨rfl, rfl⟩
    | succ i =>
      have := ih i (by simpa using h)
      rw [show (i + 1) * 2 = i * 2 + 1 + 1 by omega, show i * 2 + 1 + 1 + 1 = (i * 2 + 1) + 1 + 1 by omega]
      simp only [cavCells, List.getElem?_cons_succ]
      exact this
theorem cavCells_one (cs : List (UInt8 × Int)) : ∀ u ∈ cavCells cs, u.oneCell' = true := by
  induction cs with
  | nil => intro u h; cases h
  | cons c cs ih =>
    intro u h
    simp only [cavCells, List.mem_cons] at h
    rcases h with rfl | rfl | h
    · rfl
    · rfl
    · exact ih u h

theorem info87' : ∃ i : TypeInfo, Try.prog.info? 87 = some i ∧ i.zero = some (.agg #[.int .u8 0, .int .i64 0]) ∧ i.size = 2 ∧ i.bytes = 16 := by
  have h : (Try.prog.info? 87).map (fun i => (i.zero, i.size, i.bytes)) = some (some (.agg #[.int .u8 0, .int .i64 0]), 2, 16) := by kernel_rfl
  obtain ⟨i, hi, hz⟩ := Option.map_eq_some_iff.1 h
  simp only [Prod.mk.injEq] at hz
  exact ⟨i, hi, hz.1, hz.2.1, hz.2.2⟩

/-- Caveats of one's own. -/
structure OwnC (w : World) (base : Nat) (v : Value) (cs : List (UInt8 × Int)) : Prop where
  own : w.ownsRow base 87 2 v cs.length (cavCells cs)
  wf : ∀ c ∈ cs, (Lit.int .i64 c.2).wf = true
theorem OwnC.nil (w : World) (base : Nat) : OwnC w base (.slice none 0 0) [] := ⟨⟨rfl, .inl ⟨rfl, rfl⟩⟩, fun c h => by cases h⟩
theorem OwnC.at {w : World} {base : Nat} {v : Value} {cs : List (UInt8 × Int)} (h : OwnC w base v cs) : ∃ r cap, v = .slice r cs.length cap ∧ CavsAt w r cs.length cap cs ∧ (∀ a, r = some a → base ≤ a.block) := by
  obtain ⟨⟨hl, ⟨rfl, h0⟩ | ⟨g, cap, cur, rfl, hb, hg, hc, hm, hs, ht⟩⟩, hwf⟩ := h
  · have : cs = [] := List.eq_nil_of_length_eq_zero h0
    subst this
    exact ⟨_, _, rfl, ⟨rfl, Nat.le_refl _, by unfold maxLen; omega, fun h => by simp at h, fun _ => rfl, hwf⟩, fun _ h => by cases h⟩
  · refine ⟨_, _, rfl, ⟨rfl, hc, hm, fun h0 => ⟨g, 0, rfl, fun i hi => ?_⟩, (fun h => by cases h), hwf⟩, fun a ha => by obtain rfl := Option.some.inj ha; exact hb⟩
    obtain ⟨e1, e2⟩ := cavCells_at cs i hi
    have key : ∀ (j : Nat) (u : Value), j < cs.length * 2 → (cavCells cs)[j]? = some u → cur[j]? = some u := fun j u hj hu => by
      rw [← ht, List.getElem?_take, if_pos hj] at hu
      simpa using hu
    rw [Nat.zero_add]
    exact ⟨cell_row hg (key _ _ (by omega) e1), cell_row hg (key _ _ (by omega) e2)⟩
theorem OwnC.at_len {w : World} {base : Nat} {v : Value} {cs : List (UInt8 × Int)} (h : OwnC w base v cs) (n : Nat) (hn : cs.length = n) : ∃ r cap, v = .slice r n cap ∧ CavsAt w r n cap cs ∧ (∀ a, r = some a → base ≤ a.block) := by
  subst hn
  exact h.at
theorem OwnC.keep {w w' : World} {base : Nat} {v : Value} {cs : List (UInt8 × Int)} (h : OwnC w base v cs) (hb : Below w.heap.size w w') : OwnC w' base v cs := ⟨ownsRow_below h.own hb, h.wf⟩
theorem OwnC.below {w w' : World} {base : Nat} {v : Value} {cs : List (UInt8 × Int)} {B : World} (h : OwnC w base v cs) (hb : Below base B w) (hs : base ≤ w.heap.size) (hg : w.grownBy w' v.ownBlock) : Below base B w' := ownsRow_grown h.own hb hs hg
theorem OwnC.base {w : World} {base base' : Nat} {v : Value} {cs : List (UInt8 × Int)} (h : OwnC w base v cs) (hb : base' ≤ base) : OwnC w base' v cs := by
  obtain ⟨⟨hl, h0 | ⟨g, cap, cur, hv, hb', hr⟩⟩, hwf⟩ := h
  · exact ⟨⟨hl, .inl h0⟩, hwf⟩
  · exact ⟨⟨hl, .inr ⟨g, cap, cur, hv, Nat.le_trans hb hb', hr⟩⟩, hwf⟩

/-- append(v, l...), caveats both. -/
theorem run_append_cavs (w : World) (base : Nat) (ty : TypeId) (v : Value) (cs ds : List (UInt8 × Int)) (r : Option Addr) (len cap : Nat) (hv : OwnC w base v cs) (hc : CavsAt w r len cap ds)
    (hsz : cs.length + ds.length ≤ 1000000) (hbase : base ≤ w.heap.size) :
    ∃ v' w', (Builtin.append_ #[49, 49] ty #[v, .slice r len cap]).run Try.prog w = .ok v' w' ∧ OwnC w' base v' (cs ++ ds) ∧ w.grownBy w' v.ownBlock := by
  obtain ⟨i, hi, hz, hs, hby⟩ := info87'
  have hlen := hc.hlen
  have hwf : ∀ c ∈ cs ++ ds, (Lit.int .i64 c.2).wf = true := fun c h => by
    rcases List.mem_append.1 h with h | h
    · exact hv.wf c h
    · exact hc.hwf c h
  cases r with
  | none =>
    have hcap := hc.hnil rfl
    have hle := hc.hle
    have h0 : len = 0 := by omega
    subst h0 hcap
    have : ds = [] := List.eq_nil_of_length_eq_zero hlen
    subst this
    rw [List.append_nil]
    obtain ⟨r0, cap0, rfl, hb0, _⟩ := hv.at
    refine ⟨_, w, run_append_nothing w 49 49 ty 87 i Try.underlying49 hi r0 cs.length cap0 hb0.hle _ (Src.ofNil w Try.underlying49 0), hv, ?_⟩
    exact ⟨rfl, rfl, rfl, Nat.le_refl _, fun _ _ _ => rfl⟩
  | some a =>
    have key := run_append_own_wide (P := Try.prog) w base 49 ty 87 i _ 2 16 Try.underlying49 hi hz hs hby rfl (by omega) v cs.length (cavCells cs) hv.own a len cap (cavCells ds) (by rw [cavCells_length]; omega) (fun j u hj => ?_) (cavCells_one ds) (by unfold maxLen; omega) (by omega) hbase
    · obtain ⟨v', w', h1, h2, h3, _⟩ := key
      refine ⟨v', w', h1, ⟨?_, hwf⟩, h3⟩
      rw [List.length_append, cavCells_append, hlen]
      exact h2
    · have hj' : j < ds.length * 2 := by
        have := (List.getElem?_eq_some_iff.1 hj).1
        rwa [cavCells_length] at this
      obtain ⟨b, o, hr, hcell⟩ := hc.hcells (by omega)
      obtain rfl := Option.some.inj hr
      obtain ⟨e1, e2⟩ := cavCells_at ds (j / 2) (by omega)
      obtain ⟨c1, c2⟩ := hcell (j / 2) (by omega)
      rw [Addr.add_lit]
      have hm : j % 2 = 0 ∨ j % 2 = 1 := by omega
      rcases hm with hm | hm
      · have ej : j / 2 * 2 = j := by omega
        rw [ej] at e1 c1
        rw [c1, ← e1, hj]
      · have ej : j / 2 * 2 + 1 = j := by omega
        rw [ej] at e2
        rw [show o + j = o + j / 2 * 2 + 1 by omega, c2, ← e2, hj]

theorem exec_append_cavs {a : Act} {o : Oper} {w : World} (s x : Operand) (ho : o.op = .call { callee := .builtin .append, args := #[s, x], argTypes := #[49, 49] }) (base : Nat) (v : Value) (cs ds : List (UInt8 × Int)) (r : Option Addr) (len cap : Nat) (hs : a.eval s = v) (hx : a.eval x = .slice r len cap)
    (hv : OwnC w base v cs) (hc : CavsAt w r len cap ds) (hsz : cs.length + ds.length ≤ 1000000) (hbase : base ≤ w.heap.size) :
    ∃ v' w', (execOp a.eval o).run Try.prog w = .ok (.value v') w' ∧ OwnC w' base v' (cs ++ ds) ∧ w.grownBy w' v.ownBlock := by
  obtain ⟨v', w', hr, h1, h2⟩ := run_append_cavs w base o.type v cs ds r len cap hv hc hsz hbase
  refine ⟨v', w', ?_, h1, h2⟩
  unfold execOp
  simp only [ho, resolve, invoke, builtin, Sem.run_bind, Sem.run_pure, Result.andThen_ok, List.map_toArray, List.map_cons, List.map_nil, hs, hx, hr]
theorem wpList_append_cavs {ops : Array Oper} {rest : List Oper} {o : Oper} {a : Act} {w : World} {Q : Exit → Act → World → Prop} (hgd : o.guard = none) (s x : Operand) (ho : o.op = .call { callee := .builtin .append, args := #[s, x], argTypes := #[49, 49] }) (base : Nat) (v : Value) (cs ds : List (UInt8 × Int)) (r : Option Addr) (len cap : Nat) (hs : a.eval s = v) (hx : a.eval x = .slice r len cap)
    (hv : OwnC w base v cs) (hc : CavsAt w r len cap ds) (hsz : cs.length + ds.length ≤ 1000000) (hbase : base ≤ w.heap.size)
    (h : ∀ v' w', OwnC w' base v' (cs ++ ds) → w.grownBy w' v.ownBlock → wpList Try.prog ops Q rest (a.put o.dst v') w') : wpList Try.prog ops Q (o :: rest) a w := by
  obtain ⟨v', w', hr, h1, h2⟩ := exec_append_cavs s x ho base v cs ds r len cap hs hx hv hc hsz hbase
  exact wpList_val hgd v' w' hr (h v' w' h1 h2)
theorem g_cavs {ops : Array Oper} {a : Act} {w : World} {K : Act → World → Prop} {i d : Nat} (s x : Operand) (hi : wantsB ops a i = some (some d, true)) (hop : (ops[i]?).map (·.op) = some (.call { callee := .builtin .append, args := #[s, x], argTypes := #[49, 49] }))
    (base : Nat) (v : Value) (cs ds : List (UInt8 × Int)) (r : Option Addr) (len cap : Nat) (hs : a.eval s = v) (hx : a.eval x = .slice r len cap)
    (hv : OwnC w base v cs) (hc : CavsAt w r len cap ds) (hsz : cs.length + ds.length ≤ 1000000) (hbase : base ≤ w.heap.size)
    (h : ∀ v' w', OwnC w' base v' (cs ++ ds) → w.grownBy w' v.ownBlock → K (a.put (some d) v') w') : wpOp Try.prog ops NoExit i K a w := by
  obtain ⟨o, ho, he⟩ := Option.map_eq_some_iff.1 hop
  obtain ⟨v', w', hr, h1, h2⟩ := exec_append_cavs (o := o) s x he base v cs ds r len cap hs hx hv hc hsz hbase
  exact g_val v' w' hi (by rw [ho]; exact congrArg some hr) (h v' w' h1 h2)

/-- A caveat alone, in a row of its own. -/
theorem cav_one (w : World) (x : UInt8) (z : Int) (vs : Array Value) (hv : vs = cavRow x z) (hz : (Lit.int .i64 z).wf = true) : CavsAt (w.alloc (.cells vs 87)) (some ⟨w.heap.size, 0, none⟩) 1 1 [(x, z)] := by
  subst hv
  refine ⟨rfl, Nat.le_refl _, by unfold maxLen; omega, fun _ => ⟨_, _, rfl, fun i hi => ?_⟩, (fun h => by cases h), fun c hc => ?_⟩
  · obtain rfl : i = 0 := by omega
    exact ⟨cell_row (heap_alloc_new _ _) rfl, cell_row (heap_alloc_new _ _) rfl⟩
  · obtain rfl := List.mem_singleton.1 hc
    exact hz
/-- An empty row of one's own. -/
theorem ownC_empty (w : World) (base : Nat) (hb : base ≤ w.heap.size) : OwnC (w.alloc (.cells #[] 87)) base (.slice (some ⟨w.heap.size, 0, none⟩) 0 0) [] :=
  ⟨⟨rfl, .inr ⟨_, 0, #[], rfl, hb, heap_alloc_new _ _, Nat.le_refl _, by unfold maxLen; omega, rfl, rfl⟩⟩, fun c h => by cases h⟩

section
variable {P : Program}
/-- A whole array stored into the middle of a row. -/
theorem run_storeVar_sub (w : World) (g o : Nat) (t ty : TypeId) (old cells : Array Value) (hg : w.heap[g]? = some (.cells old t (0, 0))) (hi : (P.info? ty).map (·.size) = some cells.size)
    (ho : o + cells.size ≤ old.size) (h1 : cells.all (·.oneCell') = true) :
    (storeVar ty ⟨g, o, none⟩ (.agg cells)).run P w = .ok () (w.setRow g (old.toList.take o ++ cells.toList ++ old.toList.drop (o + cells.size)).toArray) := by
  have := run_storeCells_at P g o t cells.toList 0 old w hg (by simp; omega) (fun v hv => (Array.all_eq_true_iff_forall_mem.1 h1) v (by simpa using hv))
  cases hq : P.info? ty with
  | none => simp [hq] at hi
  | some i =>
    have hs : cells.size = i.size := by simp [hq] at hi; omega
    simp [storeVar, sizeOf, typeInfo, hq, Value.cells, hs, this]
theorem exec_store_sub {a : Act} {o : Oper} {w : World} (ty : TypeId) (x y : Operand) (ho : o.op = .store ty x y) (g off : Nat) (cells : Array Value) (hx : a.eval x = .pointer (some ⟨g, off, none⟩)) (hy : a.eval y = .agg cells)
    (t : TypeId) (old : Array Value) (hg : w.heap[g]? = some (.cells old t (0, 0))) (hi : (P.info? ty).map (·.size) = some cells.size)
    (hold : off + cells.size ≤ old.size) (h1 : cells.all (·.oneCell') = true) :
    (execOp a.eval o).run P w = .ok .skip (w.setRow g (old.toList.take off ++ cells.toList ++ old.toList.drop (off + cells.size)).toArray) := by
  unfold execOp
  simp only [ho, hx, hy, Instr.storeAt, Instr.sureAddr, Sem.run_bind, Sem.run_pure, Result.andThen_ok, run_storeVar_sub w g off t ty old cells hg hi hold h1]
theorem wpList_store_sub {ops : Array Oper} {rest : List Oper} {o : Oper} {a : Act} {w : World} {Q : Exit → Act → World → Prop} (hgd : o.guard = none) (ty : TypeId) (x y : Operand) (ho : o.op = .store ty x y)
    (g off : Nat) (cells : Array Value) (hx : a.eval x = .pointer (some ⟨g, off, none⟩)) (hy : a.eval y = .agg cells)
    (t : TypeId) (old new : Array Value) (hg : w.heap[g]? = some (.cells old t (0, 0))) (hi : (P.info? ty).map (·.size) = some cells.size)
    (hold : off + cells.size ≤ old.size) (h1 : cells.all (·.oneCell') = true) (hnew : (old.toList.take off ++ cells.toList ++ old.toList.drop (off + cells.size)).toArray = new)
    (h : wpList P ops Q rest (a.put o.dst undef) (w.setRow g new)) : wpList P ops Q (o :: rest) a w :=
  wpList_plain hgd fun _ hK => by
    unfold Oper.wp
    rw [exec_store_sub ty x y ho g off cells hx hy t old hg hi hold h1, hnew]
    exact hK _ _ h
theorem g_store_sub {ops : Array Oper} {a : Act} {w : World} {K : Act → World → Prop} {i : Nat} (ty : TypeId) (x y : Operand) (hi0 : (ops[i]?).map (fun o => (o.dst, o.guard, o.op)) = some (none, none, .store ty x y))
    (g off : Nat) (cells : Array Value) (hx : a.eval x = .pointer (some ⟨g, off, none⟩)) (hy : a.eval y = .agg cells)
    (t : TypeId) (old new : Array Value) (hg : w.heap[g]? = some (.cells old t (0, 0))) (hi : (P.info? ty).map (·.size) = some cells.size)
    (hold : off + cells.size ≤ old.size) (h1 : cells.all (·.oneCell') = true) (hnew : (old.toList.take off ++ cells.toList ++ old.toList.drop (off + cells.size)).toArray = new)
    (h : K a (w.setRow g new)) : wpOp P ops NoExit i K a w := by
  obtain ⟨o, ho, he⟩ := Option.map_eq_some_iff.1 hi0
  simp only [Prod.mk.injEq] at he
  refine step_skip (w.setRow g new) (by rw [ho]; simp [he.1, he.2.1]) ?_ h
  rw [ho]
  have := exec_store_sub (P := P) ty x y he.2.2 g off cells hx hy t old hg hi hold h1
  rw [hnew] at this
  exact congrArg some this
end

/-- What a token's cells are when its tag, or its list, is another. -/
theorem tokRow_putTag (t : Tok) (l : Value) (k : List UInt8) (ht : t.tag.length = 32) (hk : k.length = 32) :
    ((tokRow t l).toList.take 6 ++ (row8 k).toList ++ (tokRow t l).toList.drop (6 + (row8 k).size)).toArray = tokRow { t with tag := k } l := by
  rw [row8_size, hk, List.drop_eq_nil_of_le (by rw [Array.length_toList, tokRow_size _ _ ht]; omega), List.append_nil]
  simp [tokRow, tokL, row8]
theorem tokRow_putList (t : Tok) (l l' : Value) : (tokRow t l).setIfInBounds 5 l' = tokRow t l' := by simp [tokRow, tokL]
theorem tokRow_one (t : Tok) (l : Value) (hl : l.oneCell' = true) : (tokRow t l).all (·.oneCell') = true := by
  simp only [tokRow, tokL, List.all_toArray, List.all_append, Bool.and_eq_true]
  have hl' := hl
  unfold Value.oneCell' at hl'
  refine ⟨by simp [Value.oneCell', W8, W64]; exact hl', ?_⟩
  simp [Value.oneCell', W8]
end Go.Proofs.Ytafakjdolnigaaa

namespace Go.Proofs.Ytafakjdolnigaaa
open Go.RowKit
set_option linter.unusedVariables false

/-- No token. -/
def zeroTok : Tok := ⟨0, ByteArray.empty, 0, 0, 0, zero32⟩
theorem zeroTok_ok : zeroTok.Ok := ⟨by decide, by decide, zero32_length, by unfold maxLen; simp [zeroTok]⟩
theorem alloc51 : ∀ w : World, (Instr.alloc 51 true (.tuple #[])).run Try.prog w = .ok (.pointer (some ⟨w.heap.size, 0, none⟩)) (w.alloc (.cells (tokRow zeroTok (.slice none 0 0)) 51)) := by
  intro w; kernel_rfl
theorem OwnC.upd {w w' : World} {base : Nat} {v : Value} {cs : List (UInt8 × Int)} (h : OwnC w base v cs) (hw : ∀ k, base ≤ k → w'.heap[k]? = w.heap[k]?) : OwnC w' base v cs := by
  obtain ⟨⟨hl, h0 | ⟨g, cap, cur, hv, hb', hg, hr⟩⟩, hwf⟩ := h
  · exact ⟨⟨hl, .inl h0⟩, hwf⟩
  · exact ⟨⟨hl, .inr ⟨g, cap, cur, hv, hb', (hw g hb').trans hg, hr⟩⟩, hwf⟩
theorem OwnC.oneCell {w : World} {base : Nat} {v : Value} {cs : List (UInt8 × Int)} (h : OwnC w base v cs) : v.oneCell' = true := by
  obtain ⟨r, c, rfl, _⟩ := h.at
  rfl
theorem cat_cavs_nil (cs : List (UInt8 × Int)) : [] ++ cs = cs := rfl

/-- A boxed token and a box for another. -/
theorem tok2 (w : World) (t : Tok) (l : Value) : ((w.alloc (.cells (tokRow t l) 51)).alloc (.cells (tokRow zeroTok (.slice none 0 0)) 51)).heap[w.heap.size]? = some (.cells (tokRow t l) 51 (0, 0)) ∧ ((w.alloc (.cells (tokRow t l) 51)).alloc (.cells (tokRow zeroTok (.slice none 0 0)) 51)).heap[w.heap.size + 1]? = some (.cells (tokRow zeroTok (.slice none 0 0)) 51 (0, 0)) ∧ Below w.heap.size w ((w.alloc (.cells (tokRow t l) 51)).alloc (.cells (tokRow zeroTok (.slice none 0 0)) 51)) ∧ ((w.alloc (.cells (tokRow t l) 51)).alloc (.cells (tokRow zeroTok (.slice none 0 0)) 51)).heap.size = w.heap.size + 2 :=
  ⟨heap_alloc2_old _ _ _, heap_alloc2_new _ _ _, below_seq (below_one _ _) (below_one _ _), by simp⟩

set_option maxRecDepth 100000 in
set_option maxHeartbeats 4000000 in
theorem own_any {w : World} {t : Tok} {r r2 : Option Addr} {len cap len2 cap2 : Nat} {cs ds : List (UInt8 × Int)} (ht : t.tag.length = 32) (h : CavsAt w r len cap cs) (h2 : CavsAt w r2 len2 cap2 ds) (hsz : len + len2 ≤ 1000) :
    Calls Try.prog 101 #[.agg (tokRow t (.slice r len cap)), .slice r2 len2 cap2] w fun e w' => ∃ v, e = .returned (.agg (tokRow t v)) ∧ OwnC w' w.heap.size v (cs ++ ds) ∧ Below w.heap.size w w' := by
  have hl1 := h.hlen
  have hl2 := h2.hlen
  obtain ⟨D, hD⟩ : ∃ D, D = cs ++ ds := ⟨_, rfl⟩
  obtain ⟨n3, hn3⟩ : ∃ n, D.length = n := ⟨_, rfl⟩
  rw [← hD]
  have HD := Lib.hid hD
  have Hn3 := Lib.hid hn3
  have Hl1 := Lib.hid hl1
  have Hl2 := Lib.hid hl2
  have Ht := Lib.hid ht
  have H := Lib.hid h
  have H2 := Lib.hid h2
  clear ht h h2 hl1 hl2 hD hn3
  go_enter Try.func101, Try.ntmps101
  go_upto_region 1 with (first
    | (refine wpList_box rfl 51 _ rfl (tokRow _ _) rfl ?_)
    | (refine wpList_allocRow 51 _ alloc51 rfl rfl ?_))
  refine abstract_world (fun W => W.heap[w.heap.size]? = some (.cells (tokRow t (.slice r len cap)) 51 (0, 0)) ∧ W.heap[w.heap.size + 1]? = some (.cells (tokRow zeroTok (.slice none 0 0)) 51 (0, 0)) ∧ Below w.heap.size w W ∧ W.heap.size = w.heap.size + 2) (tok2 w t _) ?_
  rintro w1 ⟨r0, r1, r2', r3⟩
  have R0 := Lib.hid r0
  have R1 := Lib.hid r1
  have R2 := Lib.hid r2'
  have R3 := Lib.hid r3
  have c5 : (w1.alloc (.cells #[] 87)).cell? ⟨w.heap.size, 5, none⟩ = some (.slice r len cap) := cell_row (((below_one w1 (.cells #[] 87)).block _ (heap_lt r0)).trans r0) rfl
  clear r0 r1 r2' r3
  go_upto_region 2 with (first
    | ((with_reducible refine wpList_append_cavs rfl (.tmp 5) (.tmp 7) rfl w1.heap.size (.slice (some ⟨w1.heap.size, 0, none⟩) 0 0) [] cs r len cap rfl rfl (ownC_empty w1 _ (Nat.le_refl _)) ((H.out.below R2.out).below (below_one _ _)) (by rw [Hl1.out]; simp; omega) (below_one _ _).size ?_); intro v2 w2 ho hg
       rw [cat_cavs_nil] at ho
       have Ho2 := Lib.hid ho
       have Hb2 := Lib.hid ((ownC_empty w1 _ (Nat.le_refl _)).below (below_one _ _) (below_one _ _).size hg)
       clear ho hg c5)
    | ((with_reducible refine wpList_append_cavs rfl (.tmp 8) (.tmp 9) rfl w1.heap.size v2 cs ds r2 len2 cap2 rfl rfl Ho2.out ((H2.out.below R2.out).below Hb2.out) (by rw [Hl1.out, Hl2.out]; omega) Hb2.out.size ?_); intro v3 w3 ho hg
       rw [← HD.out] at ho
       have Hb3 := Lib.hid (Ho2.out.below Hb2.out Hb2.out.size hg)
       have r03 : w3.heap[w.heap.size]? = some (.cells (tokRow t (.slice r len cap)) 51 (0, 0)) := (Hb3.out.block _ (heap_lt R0.out)).trans R0.out
       have f5 := frozen_of_row w3 w.heap.size 5 _ _ r03
       have c5 : w3.cell? ⟨w.heap.size, 5, none⟩ = some (.slice r len cap) := cell_row r03 rfl
       obtain ⟨r3, q3, rfl, _, _⟩ := ho.at_len n3 Hn3.out
       have Ho3 := Lib.hid ho
       have R03 := Lib.hid r03
       clear ho hg r03))
  have r0 : (w3.setCell ⟨w.heap.size, 5, none⟩ (.slice r3 n3 q3)).heap[w.heap.size]? = some (.cells (tokRow t (.slice r3 n3 q3)) 51 (0, 0)) := by
    rw [← tokRow_putList t (.slice r len cap)]
    exact heap_setCell_same _ _ _ _ _ _ R03.out
  have r1 : (w3.setCell ⟨w.heap.size, 5, none⟩ (.slice r3 n3 q3)).heap[w.heap.size + 1]? = some (.cells (tokRow zeroTok (.slice none 0 0)) 51 (0, 0)) := by
    rw [heap_setCell_other _ _ _ _ (by simp)]
    exact (Hb3.out.block _ (heap_lt R1.out)).trans R1.out
  have r2' : Below w.heap.size w (w3.setCell ⟨w.heap.size, 5, none⟩ (.slice r3 n3 q3)) := (below_seq R2.out Hb3.out).setCell (Nat.le_refl _) _
  have r3' : OwnC (w3.setCell ⟨w.heap.size, 5, none⟩ (.slice r3 n3 q3)) w1.heap.size (.slice r3 n3 q3) D := Ho3.out.upd (fun k hk => heap_setCell_other _ _ _ _ (by have := R3.out; show k ≠ w.heap.size; omega))
  refine abstract_world (fun W => W.heap[w.heap.size]? = some (.cells (tokRow t (.slice r3 n3 q3)) 51 (0, 0)) ∧ W.heap[w.heap.size + 1]? = some (.cells (tokRow zeroTok (.slice none 0 0)) 51 (0, 0)) ∧ Below w.heap.size w W ∧ OwnC W w1.heap.size (.slice r3 n3 q3) D) ⟨r0, r1, r2', r3'⟩ ?_
  clear r0 r1 r2' r3' f5 c5
  rintro w4 ⟨r0, r1, r2', r3'⟩
  have P0 := Lib.hid r0
  have P1 := Lib.hid r1
  have P2 := Lib.hid r2'
  have P3 := Lib.hid r3'
  clear r0 r1 r2' r3'
  go_wp2_with (first
    | (refine wpList_load_row rfl 51 _ rfl _ rfl 51 _ _ _ P0.out Try.underlying51 rfl (info51 _ _ Ht.out) ?_)
    | (refine wpList_store_row rfl 51 _ _ rfl _ _ rfl rfl 51 _ P1.out (info51 _ _ Ht.out) (by rw [tokRow_size _ _ zero32_length, tokRow_size _ _ Ht.out]) (tokRow_one _ _ rfl) ?_))
  exact bodyPost_ret (results_cell_row rfl _ _ _ 51 _ _ _ rfl (setRow_heap _ _ _ _ _ _ P1.out) Try.underlying51 rfl (info51 _ _ Ht.out)) rfl ⟨_, rfl, (P3.out.upd (fun k hk => setRow_other _ _ _ _ (by have := R3.out; omega))).base (by have := R3.out; omega), below_row P2.out (by omega) _⟩
end Go.Proofs.Ytafakjdolnigaaa

namespace Go.Proofs.Ytafakjdolnigaaa
open Go.RowKit
set_option linter.unusedVariables false

theorem alloc3 (w : World) (a b c : Obj) : ((((w.alloc a).alloc b).alloc c).heap[w.heap.size]? = some a ∧ (((w.alloc a).alloc b).alloc c).heap[w.heap.size + 1]? = some b ∧ (((w.alloc a).alloc b).alloc c).heap[w.heap.size + 2]? = some c) ∧ Below w.heap.size w (((w.alloc a).alloc b).alloc c) ∧ (((w.alloc a).alloc b).alloc c).heap.size = w.heap.size + 3 := by
  have e1 : (w.alloc a).heap.size = w.heap.size + 1 := by simp
  have e2 : ((w.alloc a).alloc b).heap.size = w.heap.size + 2 := by simp
  have k0 : (w.alloc a).heap[w.heap.size]? = some a := heap_alloc_new w a
  have k1 : ((w.alloc a).alloc b).heap[w.heap.size + 1]? = some b := by rw [← e1]; exact heap_alloc_new _ b
  have k2 : (((w.alloc a).alloc b).alloc c).heap[w.heap.size + 2]? = some c := by rw [← e2]; exact heap_alloc_new _ c
  refine ⟨⟨?_, ?_, k2⟩, below_seq (below_seq (below_one _ _) (below_one _ _)) (below_one _ _), by simp⟩
  · rw [(below_one ((w.alloc a).alloc b) c).block _ (by rw [e2]; omega), (below_one (w.alloc a) b).block _ (by rw [e1]; omega)]
    exact k0
  · rw [(below_one ((w.alloc a).alloc b) c).block _ (by rw [e2]; omega)]
    exact k1

/-- A token's row, or a caveat's, read whole, at a quiet step. -/
theorem load51_hy {ops : Array Oper} {a : Act} {i : Nat} (x : Operand) (hop : (ops[i]?).map (·.op) = some (.load 51 x)) (g : Nat) (t : Tok) (l : Value) (ht : t.tag.length = 32) (hx : a.eval x = .pointer (some ⟨g, 0, none⟩)) (w : World)
    (hg : w.heap[g]? = some (.cells (tokRow t l) 51 (0, 0))) : (ops[i]?).map (fun o => (execOp a.eval o).run Try.prog w) = some (.ok (.value (.agg (tokRow t l))) w) := by
  obtain ⟨o, ho, he⟩ := Option.map_eq_some_iff.1 hop
  rw [ho]
  exact congrArg some (exec_load_sub g 0 51 _ _ he hx (fun j hj => by rw [Nat.zero_add]; exact (cell_of_row w g j _ _ _ hg)) Try.underlying51 rfl (info51 t l ht))
theorem load87_hy {ops : Array Oper} {a : Act} {i : Nat} (x : Operand) (hop : (ops[i]?).map (·.op) = some (.load 87 x)) (g off : Nat) (y : UInt8) (z : Int) (hx : a.eval x = .pointer (some ⟨g, off, none⟩)) (w : World)
    (h0 : w.cell? ⟨g, off, none⟩ = some (W8 y)) (h1 : w.cell? ⟨g, off + 1, none⟩ = some (.int .i64 z)) : (ops[i]?).map (fun o => (execOp a.eval o).run Try.prog w) = some (.ok (.value (.agg (cavRow y z))) w) := by
  obtain ⟨o, ho, he⟩ := Option.map_eq_some_iff.1 hop
  rw [ho]
  refine congrArg some (exec_load_sub g off 87 (cavRow y z) _ he hx (fun j hj => ?_) Try.underlying87 rfl (info87 y z))
  have hj' : j = 0 ∨ j = 1 := by simp [cavRow] at hj; omega
  rcases hj' with rfl | rfl
  · exact h0
  · exact h1

/-- What Issue answers. -/
def issued (key : List UInt8) (t : Tok) : Tok := { t with tag := macOf key [headOf t] }

set_option maxRecDepth 100000 in
set_option maxHeartbeats 4000000 in
theorem issue_bad {w : World} {key : List UInt8} {t : Tok} {r : Option Addr} {len cap : Nat} {cs : List (UInt8 × Int)} (hk : key.length = 32) (ht : t.Ok) (h : CavsAt w r len cap cs) (hm : mayOk t cs = false ∨ 0 < len) :
    Calls Try.prog 47 #[.agg (row8 key), .agg (tokRow t (.slice r len cap))] w fun e w' => e = .returned (.tuple #[.agg (tokRow zeroTok (.slice none 0 0)), .int .i64 1]) ∧ Below w.heap.size w w' := by
  obtain ⟨M, hM⟩ : ∃ M, M = mayOk t cs := ⟨_, rfl⟩
  rw [← hM] at hm
  have HM := Lib.hid hM
  have Ht := Lib.hid ht
  have H := Lib.hid h
  have Hm := Lib.hid hm
  clear ht h hm hM
  go_enter Try.func47, Try.ntmps47
  go_upto_region 1 with (first
    | (refine wpList_box rfl 31 _ rfl _ rfl ?_)
    | (refine wpList_box rfl 51 _ rfl (tokRow _ _) rfl ?_)
    | (refine wpList_allocRow 51 _ alloc51 rfl rfl ?_))
  obtain ⟨⟨a0, a1, a2⟩, a3, a4⟩ := alloc3 w (.cells (row8 key) 31) (.cells (tokRow t (.slice r len cap)) 51) (.cells (tokRow zeroTok (.slice none 0 0)) 51)
  refine abstract_world (fun W => W.heap[w.heap.size + 1]? = some (.cells (tokRow t (.slice r len cap)) 51 (0, 0)) ∧ W.heap[w.heap.size + 2]? = some (.cells (tokRow zeroTok (.slice none 0 0)) 51 (0, 0)) ∧ Below w.heap.size w W) ⟨a1, a2, a3⟩ ?_
  clear a0 a1 a2 a3 a4
  rintro w1 ⟨r1, r2, r3⟩
  have R1 := Lib.hid r1
  have R2 := Lib.hid r2
  have R3 := Lib.hid r3
  clear r1 r2 r3
  cases M with
  | false =>
    go_wp2_with (first
      | (refine wpList_load_row rfl 51 _ rfl _ rfl 51 _ _ _ R1.out Try.underlying51 rfl (info51 t _ Ht.out.tag) ?_)
      | (go_at_call 43; refine (may_any Ht.out (H.out.below R3.out)).mono ?_; rintro e w2 ⟨rfl, hb⟩; rw [← HM.out]; have Hb := Lib.hid hb; clear hb)
      | (refine wpList_buildV (.agg (tokRow zeroTok (.slice none 0 0))) 51 _ rfl rfl (by kernel_rfl) ?_)
      | (refine wpList_store_row rfl 51 _ _ rfl _ _ rfl rfl 51 _ ((Hb.out.block _ (heap_lt R2.out)).trans R2.out) (info51 _ _ zero32_length) rfl (tokRow_one _ _ rfl) ?_))
    exact bodyPost_ret (results_cell_2 (p := 4) (t1 := 5) rfl _ _ _ 51 _ _ _ rfl (setRow_heap _ _ _ _ _ _ ((Hb.out.block _ (heap_lt R2.out)).trans R2.out)) Try.underlying51 rfl (info51 _ _ zero32_length)) rfl ⟨rfl, below_row (below_seq R3.out Hb.out) (by omega) _⟩
  | true =>
    have h0 : 0 < len := by rcases Hm.out with h | h; cases h; exact h
    go_wp2_with (first
      | (refine wpList_load_row rfl 51 _ rfl _ rfl 51 _ _ _ R1.out Try.underlying51 rfl (info51 t _ Ht.out.tag) ?_)
      | (go_at_call 43; refine (may_any Ht.out (H.out.below R3.out)).mono ?_; rintro e w2 ⟨rfl, hb⟩; rw [← HM.out]; have c5 := (tok_in ((hb.block _ (heap_lt R1.out)).trans R1.out) Ht.out.tag).c5; have Hb := Lib.hid hb; clear hb)
      | (refine wpList_buildV (.agg (tokRow zeroTok (.slice none 0 0))) 51 _ rfl rfl (by kernel_rfl) ?_)
      | (refine wpList_store_row rfl 51 _ _ rfl _ _ rfl rfl 51 _ ((Hb.out.block _ (heap_lt R2.out)).trans R2.out) (info51 _ _ zero32_length) rfl (tokRow_one _ _ rfl) ?_))
    exact bodyPost_ret (results_cell_2 (p := 4) (t1 := 5) rfl _ _ _ 51 _ _ _ rfl (setRow_heap _ _ _ _ _ _ ((Hb.out.block _ (heap_lt R2.out)).trans R2.out)) Try.underlying51 rfl (info51 _ _ zero32_length)) rfl ⟨rfl, below_row (below_seq R3.out Hb.out) (by omega) _⟩

set_option maxRecDepth 100000 in
set_option maxHeartbeats 4000000 in
theorem issue_good {w : World} {key : List UInt8} {t : Tok} {r : Option Addr} {cap : Nat} (hk : key.length = 32) (ht : t.Ok) (h : CavsAt w r 0 cap []) (hm : mayOk t [] = true) :
    Calls Try.prog 47 #[.agg (row8 key), .agg (tokRow t (.slice r 0 cap))] w fun e w' => e = .returned (.tuple #[.agg (tokRow (issued key t) (.slice none 0 0)), .int .i64 0]) ∧ Below w.heap.size w w' := by
  obtain ⟨A, hA⟩ : ∃ A, A = headOf t := ⟨_, rfl⟩
  obtain ⟨T, hT⟩ : ∃ T, T = macOf key [A] := ⟨_, rfl⟩
  have hTl : T.length = 32 := by rw [hT]; exact macOf_length _ _
  have hAl : A.length ≤ 42 := by rw [hA, headOf_length]; have := mayOk_size hm; omega
  have he : issued key t = { t with tag := T } := by rw [hT, hA]; rfl
  rw [he]
  have Hs := Lib.hid (mayOk_size hm)
  have HA := Lib.hid hA
  have HT := Lib.hid hT
  have HTl := Lib.hid hTl
  have HAl := Lib.hid hAl
  have Ht := Lib.hid ht
  have H := Lib.hid h
  have Hm := Lib.hid hm
  have Hk := Lib.hid hk
  clear ht h hm hA hT hTl hAl he hk
  go_enter Try.func47, Try.ntmps47
  go_upto_region 1 with (first
    | (refine wpList_box rfl 31 _ rfl _ rfl ?_)
    | (refine wpList_box rfl 51 _ rfl (tokRow _ _) rfl ?_)
    | (refine wpList_allocRow 51 _ alloc51 rfl rfl ?_))
  obtain ⟨⟨a0, a1, a2⟩, a3, a4⟩ := alloc3 w (.cells (row8 key) 31) (.cells (tokRow t (.slice r 0 cap)) 51) (.cells (tokRow zeroTok (.slice none 0 0)) 51)
  refine abstract_world (fun W => W.heap[w.heap.size]? = some (.cells (row8 key) 31 (0, 0)) ∧ W.heap[w.heap.size + 1]? = some (.cells (tokRow t (.slice r 0 cap)) 51 (0, 0)) ∧ W.heap[w.heap.size + 2]? = some (.cells (tokRow zeroTok (.slice none 0 0)) 51 (0, 0)) ∧ Below w.heap.size w W ∧ W.heap.size = w.heap.size + 3) ⟨a0, a1, a2, a3, a4⟩ ?_
  clear a0 a1 a2 a3 a4
  rintro w1 ⟨r0, r1, r2, r3, r4⟩
  have R0 := Lib.hid r0
  have R1 := Lib.hid r1
  have R2 := Lib.hid r2
  have R3 := Lib.hid r3
  have R4 := Lib.hid r4
  clear r0 r1 r2 r3 r4
  go_upto_region 3 with (first
    | (refine wpList_load_row rfl 51 _ rfl _ rfl 51 _ _ _ R1.out Try.underlying51 rfl (info51 t _ Ht.out.tag) ?_)
    | (go_at_call 43; refine (may_any Ht.out (H.out.below R3.out)).mono ?_; rintro e w2 ⟨rfl, hb⟩; rw [Hm.out]; have c5 := (tok_in ((hb.block _ (heap_lt R1.out)).trans R1.out) Ht.out.tag).c5; have Hb := Lib.hid hb; clear hb))
  clear c5
  have hcd : Below w1.heap.size w1 w2.drew := Hb.out.drew
  have K0 : Hid (∀ w', Below w1.heap.size w1 w' → BytesAt w' (some ⟨w.heap.size, 0, none⟩) 32 32 key) := Lib.hid fun w' hw => bytes_of_row ((hw.block _ (heap_lt R0.out)).trans R0.out) Hk.out (by unfold maxLen; omega)
  refine region_k (fun _ => True) (by kernel_rfl) trivial (fun Kr hKr => ?_)
  refine g_quiet trivial 0 16 (.slice (some ⟨w.heap.size, 0, none⟩) 32 32) (by kernel_rfl) (by kernel_rfl) (by kernel_rfl) (by kernel_rfl) (fun w2 hw2 => by go_simp) ?_
  simp only [Act.put, List.setIfInBounds_toArray, List.set_cons_succ, List.set_cons_zero]
  have R12 := (hcd.block _ (heap_lt R1.out)).trans R1.out
  refine m_pick 1 (by kernel_rfl) (g_val (d := 17) (.agg (tokRow t (.slice r 0 cap))) w2.drew (by kernel_rfl) (load51_hy (.tmp 3) (by kernel_rfl) (w.heap.size + 1) t _ Ht.out.tag (by kernel_rfl) _ R12) ?_)
  refine ⟨trivial, ?_⟩
  simp only [Act.put, List.setIfInBounds_toArray, List.set_cons_succ, List.set_cons_zero]
  refine g_quiet trivial 5 21 (.pointer (some ⟨w.heap.size + 1, 5, none⟩)) (by kernel_rfl) (by kernel_rfl) (by kernel_rfl) (by kernel_rfl) (fun w2 hw2 => by go_simp) ?_
  simp only [Act.put, List.setIfInBounds_toArray, List.set_cons_succ, List.set_cons_zero]
  refine m_pick 2 (by kernel_rfl) (g_call (d := 18) 85 #[.agg (tokRow t (.slice r 0 cap))] (by kernel_rfl) (by kernel_rfl) ((head_any _ t _ Ht.out (by have := Hs.out; omega)).mono ?_))
  rintro e w5 ⟨v5, rfl, ho, hb5⟩
  rw [← HA.out] at ho
  obtain ⟨n5, hn5⟩ : ∃ n, A.length = n := ⟨_, rfl⟩
  obtain ⟨r5, c5, rfl, hB5, _⟩ := ho.at_len n5 hn5
  have h5 := below_seq hcd hb5
  have hn5' : n5 ≤ 42 := by have := HAl.out; omega
  refine ⟨_, rfl, trivial, ?_⟩
  simp only [Act.put, List.setIfInBounds_toArray, List.set_cons_succ, List.set_cons_zero]
  refine m_pick 3 (by kernel_rfl) (g_val (d := 19) (.slice (some ⟨w5.heap.size, 0, none⟩) 1 1) (w5.alloc (.cells #[.slice r5 n5 c5] 29)) (by kernel_rfl) (by kernel_rfl) ?_)
  have h6 := below_seq h5 (below_one w5 (.cells #[.slice r5 n5 c5] 29))
  refine ⟨trivial, ?_⟩
  simp only [Act.put, List.setIfInBounds_toArray, List.set_cons_succ, List.set_cons_zero]
  refine m_pick 4 (by kernel_rfl) (g_call (d := 20) 56 #[.slice (some ⟨w.heap.size, 0, none⟩) 32 32, .slice (some ⟨w5.heap.size, 0, none⟩) 1 1] (by kernel_rfl) (by kernel_rfl) ((macOf_any (K0.out _ h6) (parts_one hB5 _ rfl) (by omega) (by omega) (by simp; omega)).mono ?_))
  rintro e w7 ⟨rfl, hb7⟩
  rw [← HT.out]
  have h7 := below_seq h6 hb7
  refine ⟨_, rfl, trivial, ?_⟩
  have R17 := (h7.block _ (heap_lt R1.out)).trans R1.out
  have R27 := (h7.block _ (heap_lt R2.out)).trans R2.out
  simp only [Act.put, List.setIfInBounds_toArray, List.set_cons_succ, List.set_cons_zero]
  refine m_pick 6 (by kernel_rfl) (step_skip (w7.setCell ⟨w.heap.size + 1, 5, none⟩ (.slice none 0 0)) (by kernel_rfl) (by have c := (tok_in R17 Ht.out.tag).c5; have f := frozen_of_row w7 (w.heap.size + 1) 5 _ _ R17; go_simp) ?_)
  refine ⟨trivial, ?_⟩
  have R18 : (w7.setCell ⟨w.heap.size + 1, 5, none⟩ (.slice none 0 0)).heap[w.heap.size + 1]? = some (.cells (tokRow t (.slice none 0 0)) 51 (0, 0)) := by
    rw [← tokRow_putList t (.slice r 0 cap)]
    exact heap_setCell_same _ _ _ _ _ _ R17
  have R28 : (w7.setCell ⟨w.heap.size + 1, 5, none⟩ (.slice none 0 0)).heap[w.heap.size + 2]? = some (.cells (tokRow zeroTok (.slice none 0 0)) 51 (0, 0)) := by
    rw [heap_setCell_other _ _ _ _ (by simp)]
    exact R27
  have h8 : Below w.heap.size w (w7.setCell ⟨w.heap.size + 1, 5, none⟩ (.slice none 0 0)) := (below_seq R3.out h7).setCell (by show w.heap.size ≤ w.heap.size + 1; omega) _
  generalize w7.setCell ⟨w.heap.size + 1, 5, none⟩ (.slice none 0 0) = w8 at *
  refine g_quiet trivial 7 22 (.pointer (some ⟨w.heap.size + 1, 6, none⟩)) (by kernel_rfl) (by kernel_rfl) (by kernel_rfl) (by kernel_rfl) (fun w2 hw2 => by go_simp) ?_
  simp only [Act.put, List.setIfInBounds_toArray, List.set_cons_succ, List.set_cons_zero]
  refine m_pick 8 (by kernel_rfl) (g_store_sub 31 (.tmp 22) (.tmp 20) (by kernel_rfl) (w.heap.size + 1) 6 (row8 T) (by kernel_rfl) (by kernel_rfl) 51 (tokRow t (.slice none 0 0)) (tokRow { t with tag := T } (.slice none 0 0)) R18 (info31 _ HTl.out) (by rw [row8_size, HTl.out, tokRow_size _ _ Ht.out.tag]; omega) (row8_one _) (tokRow_putTag _ _ _ Ht.out.tag HTl.out) ?_)
  refine ⟨trivial, ?_⟩
  refine m_end (by kernel_rfl) ?_
  have r0 : (w8.setRow (w.heap.size + 1) (tokRow { t with tag := T } (.slice none 0 0))).heap[w.heap.size + 1]? = some (.cells (tokRow { t with tag := T } (.slice none 0 0)) 51 (0, 0)) := setRow_heap _ _ _ _ _ _ R18
  have r1 : (w8.setRow (w.heap.size + 1) (tokRow { t with tag := T } (.slice none 0 0))).heap[w.heap.size + 2]? = some (.cells (tokRow zeroTok (.slice none 0 0)) 51 (0, 0)) := (setRow_other _ _ _ _ (by omega)).trans R28
  have r2 : Below w.heap.size w (w8.setRow (w.heap.size + 1) (tokRow { t with tag := T } (.slice none 0 0))) := below_row h8 (by omega) _
  obtain ⟨w9, hw9⟩ : ∃ w9, w9 = w8.setRow (w.heap.size + 1) (tokRow { t with tag := T } (.slice none 0 0)) := ⟨_, rfl⟩
  rw [← hw9] at r0 r1 r2 ⊢
  have P0 := Lib.hid r0
  have P1 := Lib.hid r1
  have P2 := Lib.hid r2
  clear r0 r1 r2 hw9 R18 R28 h8 R17 R27 h7 h6 h5 hB5 ho hcd R12
  go_wp2_with (first
    | (refine wpList_load_row rfl 51 _ rfl _ rfl 51 _ _ _ P0.out Try.underlying51 rfl (info51 _ _ HTl.out) ?_)
    | (refine wpList_store_row rfl 51 _ _ rfl _ _ rfl rfl 51 _ P1.out (info51 _ _ HTl.out) (by rw [tokRow_size _ _ zero32_length, tokRow_size _ _ HTl.out]) (tokRow_one _ _ rfl) ?_))
  exact bodyPost_ret (results_cell_2 (p := 4) (t1 := 5) rfl _ _ _ 51 _ _ _ rfl (setRow_heap _ _ _ _ _ _ P1.out) Try.underlying51 rfl (info51 _ _ HTl.out)) rfl ⟨rfl, below_row P2.out (by omega) _⟩
end Go.Proofs.Ytafakjdolnigaaa

namespace Go.Proofs.Ytafakjdolnigaaa
open Go.RowKit
set_option linter.unusedVariables false

theorem build49 (x : UInt8) (z : Int) : ∀ w : World, (Instr.buildSlice 49 1 #[(0, .agg (cavRow x z))]).run Try.prog w = .ok (.slice (some ⟨w.heap.size, 0, none⟩) 1 1) (w.alloc (.cells (cavRow x z) 87)) := by
  intro w; kernel_rfl
theorem wpList_buildCav {ops : Array Oper} {rest : List Oper} {o : Oper} {a : Act} {w : World} {Q : Exit → Act → World → Prop} (hgd : o.guard = none) (y : Operand) (ho : o.op = .buildSlice 49 1 #[(0, y)]) (x : UInt8) (z : Int) (hy : a.eval y = .agg (cavRow x z))
    (h : wpList Try.prog ops Q rest (a.put o.dst (.slice (some ⟨w.heap.size, 0, none⟩) 1 1)) (w.alloc (.cells (cavRow x z) 87))) : wpList Try.prog ops Q (o :: rest) a w :=
  wpList_plain hgd fun K hK => by
    unfold Oper.wp execOp
    simp only [ho, Sem.run_bind, List.map_toArray, List.map_cons, List.map_nil, hy, build49 x z w, Result.andThen_ok]
    exact hK _ _ h

theorem tok_load_tag {w : World} {g : Nat} {t : Tok} {l : Value} (h : w.heap[g]? = some (.cells (tokRow t l) 51 (0, 0))) (ht : t.tag.length = 32) : ∀ j, j < (row8 t.tag).size → w.cell? ⟨g, 6 + j, none⟩ = (row8 t.tag)[j]? := fun j hj => by
  rw [row8_size] at hj
  rw [cell_row h (tokRow_tag t l j hj), row8_at _ _ hj]

/-- What Less answers. -/
def lessTok (t : Tok) (c : UInt8 × Int) : Tok := { t with tag := macOf t.tag [cavOf c.1 c.2] }
theorem onOf_one (key : List UInt8) (x : UInt8) (z : Int) : onOf key [(x, z)] = macOf key [cavOf x z] := rfl

set_option maxRecDepth 100000 in
set_option maxHeartbeats 4000000 in
theorem less_bad {w : World} {t : Tok} {r : Option Addr} {len cap : Nat} {cs : List (UInt8 × Int)} {x : UInt8} {z : Int} (ht : t.Ok) (h : CavsAt w r len cap cs) (hm : mayOk t cs = false ∨ ¬x < 16) :
    Calls Try.prog 71 #[.agg (tokRow t (.slice r len cap)), .agg (cavRow x z)] w fun e w' => e = .returned (.tuple #[.agg (tokRow zeroTok (.slice none 0 0)), .int .i64 1]) ∧ Below w.heap.size w w' := by
  obtain ⟨M, hM⟩ : ∃ M, M = mayOk t cs := ⟨_, rfl⟩
  rw [← hM] at hm
  have HM := Lib.hid hM
  have Ht := Lib.hid ht
  have H := Lib.hid h
  have Hm := Lib.hid hm
  clear ht h hm hM
  go_enter Try.func71, Try.ntmps71
  go_upto_region 1 with (first
    | (refine wpList_box rfl 87 _ rfl (cavRow x z) rfl ?_)
    | (refine wpList_box rfl 51 _ rfl (tokRow _ _) rfl ?_)
    | (refine wpList_allocRow 51 _ alloc51 rfl rfl ?_))
  obtain ⟨⟨a0, a1, a2⟩, a3, a4⟩ := alloc3 w (.cells (tokRow t (.slice r len cap)) 51) (.cells (cavRow x z) 87) (.cells (tokRow zeroTok (.slice none 0 0)) 51)
  refine abstract_world (fun W => W.heap[w.heap.size]? = some (.cells (tokRow t (.slice r len cap)) 51 (0, 0)) ∧ W.heap[w.heap.size + 1]? = some (.cells (cavRow x z) 87 (0, 0)) ∧ W.heap[w.heap.size + 2]? = some (.cells (tokRow zeroTok (.slice none 0 0)) 51 (0, 0)) ∧ Below w.heap.size w W) ⟨a0, a1, a2, a3⟩ ?_
  clear a0 a1 a2 a3 a4
  rintro w1 ⟨r0, r1, r2, r3⟩
  have R0 := Lib.hid r0
  have R1 := Lib.hid r1
  have R2 := Lib.hid r2
  have R3 := Lib.hid r3
  clear r0 r1 r2 r3
  cases M with
  | false =>
    go_wp2_with (first
      | (refine wpList_load_row rfl 51 _ rfl _ rfl 51 _ _ _ R0.out Try.underlying51 rfl (info51 t _ Ht.out.tag) ?_)
      | (go_at_call 43; refine (may_any Ht.out (H.out.below R3.out)).mono ?_; rintro e w2 ⟨rfl, hb⟩; rw [← HM.out]; have Hb := Lib.hid hb; clear hb)
      | (refine wpList_buildV (.agg (tokRow zeroTok (.slice none 0 0))) 51 _ rfl rfl (by kernel_rfl) ?_)
      | (refine wpList_store_row rfl 51 _ _ rfl _ _ rfl rfl 51 _ ((Hb.out.block _ (heap_lt R2.out)).trans R2.out) (info51 _ _ zero32_length) rfl (tokRow_one _ _ rfl) ?_))
    exact bodyPost_ret (results_cell_2 (p := 4) (t1 := 5) rfl _ _ _ 51 _ _ _ rfl (setRow_heap _ _ _ _ _ _ ((Hb.out.block _ (heap_lt R2.out)).trans R2.out)) Try.underlying51 rfl (info51 _ _ zero32_length)) rfl ⟨rfl, below_row (below_seq R3.out Hb.out) (by omega) _⟩
  | true =>
    have h0 : ¬x < 16 := by rcases Hm.out with h | h; cases h; exact h
    go_wp2_with (first
      | (refine wpList_load_row rfl 51 _ rfl _ rfl 51 _ _ _ R0.out Try.underlying51 rfl (info51 t _ Ht.out.tag) ?_)
      | (go_at_call 43; refine (may_any Ht.out (H.out.below R3.out)).mono ?_; rintro e w2 ⟨rfl, hb⟩; rw [← HM.out]; have c0 : w2.cell? ⟨w.heap.size + 1, 0, none⟩ = some (W8 x) := cell_row ((hb.block _ (heap_lt R1.out)).trans R1.out) rfl; have Hb := Lib.hid hb; clear hb)
      | (go_at_call 84; refine (rightsMay_any _ x).mono ?_; rintro e w3 ⟨rfl, rfl⟩)
      | (refine wpList_buildV (.agg (tokRow zeroTok (.slice none 0 0))) 51 _ rfl rfl (by kernel_rfl) ?_)
      | (refine wpList_store_row rfl 51 _ _ rfl _ _ rfl rfl 51 _ ((Hb.out.block _ (heap_lt R2.out)).trans R2.out) (info51 _ _ zero32_length) rfl (tokRow_one _ _ rfl) ?_))
    exact bodyPost_ret (results_cell_2 (p := 4) (t1 := 5) rfl _ _ _ 51 _ _ _ rfl (setRow_heap _ _ _ _ _ _ ((Hb.out.block _ (heap_lt R2.out)).trans R2.out)) Try.underlying51 rfl (info51 _ _ zero32_length)) rfl ⟨rfl, below_row (below_seq R3.out Hb.out) (by omega) _⟩

set_option maxRecDepth 100000 in
set_option maxHeartbeats 4000000 in
theorem less_long {w : World} {t : Tok} {r : Option Addr} {cap : Nat} {cs : List (UInt8 × Int)} {x : UInt8} {z : Int} (ht : t.Ok) (h : CavsAt w r 8 cap cs) (hm : mayOk t cs = true) (hx : x < 16) :
    Calls Try.prog 71 #[.agg (tokRow t (.slice r 8 cap)), .agg (cavRow x z)] w fun e w' => e = .returned (.tuple #[.agg (tokRow zeroTok (.slice none 0 0)), .int .i64 2]) ∧ Below w.heap.size w w' := by
  have Ht := Lib.hid ht
  have H := Lib.hid h
  have Hm := Lib.hid hm
  clear ht h hm
  go_enter Try.func71, Try.ntmps71
  go_upto_region 1 with (first
    | (refine wpList_box rfl 87 _ rfl (cavRow x z) rfl ?_)
    | (refine wpList_box rfl 51 _ rfl (tokRow _ _) rfl ?_)
    | (refine wpList_allocRow 51 _ alloc51 rfl rfl ?_))
  obtain ⟨⟨a0, a1, a2⟩, a3, a4⟩ := alloc3 w (.cells (tokRow t (.slice r 8 cap)) 51) (.cells (cavRow x z) 87) (.cells (tokRow zeroTok (.slice none 0 0)) 51)
  refine abstract_world (fun W => W.heap[w.heap.size]? = some (.cells (tokRow t (.slice r 8 cap)) 51 (0, 0)) ∧ W.heap[w.heap.size + 1]? = some (.cells (cavRow x z) 87 (0, 0)) ∧ W.heap[w.heap.size + 2]? = some (.cells (tokRow zeroTok (.slice none 0 0)) 51 (0, 0)) ∧ Below w.heap.size w W) ⟨a0, a1, a2, a3⟩ ?_
  clear a0 a1 a2 a3 a4
  rintro w1 ⟨r0, r1, r2, r3⟩
  have R0 := Lib.hid r0
  have R1 := Lib.hid r1
  have R2 := Lib.hid r2
  have R3 := Lib.hid r3
  clear r0 r1 r2 r3
  go_wp2_with (first
    | (refine wpList_load_row rfl 51 _ rfl _ rfl 51 _ _ _ R0.out Try.underlying51 rfl (info51 t _ Ht.out.tag) ?_)
    | (go_at_call 43; refine (may_any Ht.out (H.out.below R3.out)).mono ?_; rintro e w2 ⟨rfl, hb⟩; rw [Hm.out]; have c0 : w2.cell? ⟨w.heap.size + 1, 0, none⟩ = some (W8 x) := cell_row ((hb.block _ (heap_lt R1.out)).trans R1.out) rfl; have c5 := (tok_in ((hb.block _ (heap_lt R0.out)).trans R0.out) Ht.out.tag).c5; have Hb := Lib.hid hb; clear hb)
    | (go_at_call 84; refine (rightsMay_any _ x).mono ?_; rintro e w3 ⟨rfl, rfl⟩)
    | (refine wpList_buildV (.agg (tokRow zeroTok (.slice none 0 0))) 51 _ rfl rfl (by kernel_rfl) ?_)
    | (refine wpList_store_row rfl 51 _ _ rfl _ _ rfl rfl 51 _ ((Hb.out.block _ (heap_lt R2.out)).trans R2.out) (info51 _ _ zero32_length) rfl (tokRow_one _ _ rfl) ?_))
  exact bodyPost_ret (results_cell_2 (p := 4) (t1 := 5) rfl _ _ _ 51 _ _ _ rfl (setRow_heap _ _ _ _ _ _ ((Hb.out.block _ (heap_lt R2.out)).trans R2.out)) Try.underlying51 rfl (info51 _ _ zero32_length)) rfl ⟨rfl, below_row (below_seq R3.out Hb.out) (by omega) _⟩

set_option maxRecDepth 100000 in
set_option maxHeartbeats 4000000 in
theorem less_good {w : World} {t : Tok} {r : Option Addr} {len cap : Nat} {cs : List (UInt8 × Int)} {x : UInt8} {z : Int} (ht : t.Ok) (h : CavsAt w r len cap cs) (hm : mayOk t cs = true) (hx : x < 16) (hl : len < 8) (hz : (Lit.int .i64 z).wf = true) :
    Calls Try.prog 71 #[.agg (tokRow t (.slice r len cap)), .agg (cavRow x z)] w fun e w' => ∃ v, e = .returned (.tuple #[.agg (tokRow (lessTok t (x, z)) v), .int .i64 0]) ∧ OwnC w' w.heap.size v (cs ++ [(x, z)]) ∧ Below w.heap.size w w' := by
  obtain ⟨T, hT⟩ : ∃ T, T = onOf t.tag [(x, z)] := ⟨_, rfl⟩
  have hTl : T.length = 32 := by rw [hT]; exact macOf_length _ _
  have he : lessTok t (x, z) = { t with tag := T } := by rw [hT]; rfl
  obtain ⟨t2, ht2⟩ : ∃ t2 : Tok, t2 = { t with tag := T } := ⟨_, rfl⟩
  rw [he, ← ht2]
  have ht2l : t2.tag.length = 32 := by rw [ht2]; exact hTl
  have hput : ∀ l, ((tokRow t l).toList.take 6 ++ (row8 T).toList ++ (tokRow t l).toList.drop (6 + (row8 T).size)).toArray = tokRow t2 l := fun l => by rw [ht2]; exact tokRow_putTag t l T ht.tag hTl
  have HT := Lib.hid hT
  have HTl := Lib.hid hTl
  have Ht := Lib.hid ht
  have Ht2l := Lib.hid ht2l
  have Hput := Lib.hid hput
  have H := Lib.hid h
  have Hm := Lib.hid hm
  have Hz := Lib.hid hz
  clear ht h hm hT hTl he ht2l hput ht2 hz
  go_enter Try.func71, Try.ntmps71
  go_upto_region 1 with (first
    | (refine wpList_box rfl 87 _ rfl (cavRow x z) rfl ?_)
    | (refine wpList_box rfl 51 _ rfl (tokRow _ _) rfl ?_)
    | (refine wpList_allocRow 51 _ alloc51 rfl rfl ?_))
  obtain ⟨⟨a0, a1, a2⟩, a3, a4⟩ := alloc3 w (.cells (tokRow t (.slice r len cap)) 51) (.cells (cavRow x z) 87) (.cells (tokRow zeroTok (.slice none 0 0)) 51)
  refine abstract_world (fun W => W.heap[w.heap.size]? = some (.cells (tokRow t (.slice r len cap)) 51 (0, 0)) ∧ W.heap[w.heap.size + 1]? = some (.cells (cavRow x z) 87 (0, 0)) ∧ W.heap[w.heap.size + 2]? = some (.cells (tokRow zeroTok (.slice none 0 0)) 51 (0, 0)) ∧ Below w.heap.size w W ∧ W.heap.size = w.heap.size + 3) ⟨a0, a1, a2, a3, a4⟩ ?_
  clear a0 a1 a2 a3 a4
  rintro w1 ⟨r0, r1, r2, r3, r4⟩
  have R0 := Lib.hid r0
  have R1 := Lib.hid r1
  have R2 := Lib.hid r2
  have R3 := Lib.hid r3
  have R4 := Lib.hid r4
  clear r0 r1 r2 r3 r4
  go_upto_region 5 with (first
    | (refine wpList_load_row rfl 51 _ rfl _ rfl 51 _ _ _ R0.out Try.underlying51 rfl (info51 t _ Ht.out.tag) ?_)
    | (go_at_call 43; refine (may_any Ht.out (H.out.below R3.out)).mono ?_; rintro e w2 ⟨rfl, hb⟩; rw [Hm.out]; have c0 : w2.cell? ⟨w.heap.size + 1, 0, none⟩ = some (W8 x) := cell_row ((hb.block _ (heap_lt R1.out)).trans R1.out) rfl; have c5 := (tok_in ((hb.block _ (heap_lt R0.out)).trans R0.out) Ht.out.tag).c5; have Hb2 := Lib.hid hb; clear hb)
    | (go_at_call 84; refine (rightsMay_any _ x).mono ?_; rintro e w3 ⟨rfl, rfl⟩))
  clear c0 c5
  have R02 := Lib.hid ((Hb2.out.block _ (heap_lt R0.out)).trans R0.out)
  have R12 := Lib.hid ((Hb2.out.block _ (heap_lt R1.out)).trans R1.out)
  go_upto_region 6 with (first
    | (refine wpList_load_sub rfl 31 _ rfl w.heap.size 6 rfl (row8 t.tag) _ (tok_load_tag R02.out Ht.out.tag) Try.underlying31 rfl (info31 _ Ht.out.tag) ?_)
    | (refine wpList_load_row rfl 87 _ rfl _ rfl 87 _ _ _ R12.out Try.underlying87 rfl (info87 x z) ?_)
    | (refine wpList_buildCav rfl _ rfl x z rfl ?_)
    | (go_at_call 92; refine (on_any Ht.out.tag (cav_one w2 x z _ rfl Hz.out)).mono ?_; rintro e w4 ⟨rfl, hb⟩
       rw [← HT.out]
       have Hb4 : Hid (Below w1.heap.size w1 w4) := Lib.hid (below_seq Hb2.out (below_seq (below_one _ _) hb))
       clear hb)
    | (refine wpList_store_sub rfl 31 _ _ rfl w.heap.size 6 (row8 T) rfl rfl 51 (tokRow t (.slice r len cap)) (tokRow t2 (.slice r len cap)) ((Hb4.out.block _ (heap_lt R0.out)).trans R0.out) (info31 _ HTl.out) (by rw [row8_size, HTl.out, tokRow_size _ _ Ht.out.tag]; omega) (row8_one _) (Hput.out _) ?_))
  have r04 := (Hb4.out.block _ (heap_lt R0.out)).trans R0.out
  have r14 := (Hb4.out.block _ (heap_lt R1.out)).trans R1.out
  have r24 := (Hb4.out.block _ (heap_lt R2.out)).trans R2.out
  refine abstract_world (fun W => W.heap[w.heap.size]? = some (.cells (tokRow t2 (.slice r len cap)) 51 (0, 0)) ∧ W.heap[w.heap.size + 1]? = some (.cells (cavRow x z) 87 (0, 0)) ∧ W.heap[w.heap.size + 2]? = some (.cells (tokRow zeroTok (.slice none 0 0)) 51 (0, 0)) ∧ Below w.heap.size w W ∧ w.heap.size + 3 ≤ W.heap.size) ⟨setRow_heap _ _ _ _ _ _ r04, (setRow_other _ _ _ _ (by omega)).trans r14, (setRow_other _ _ _ _ (by omega)).trans r24, below_row (below_seq R3.out Hb4.out) (Nat.le_refl _) _, by rw [setRow_size]; have := Hb4.out.size; have := R4.out; omega⟩ ?_
  clear r04 r14 r24 R02 R12
  rintro w5 ⟨r0, r1, r2, r3, r4⟩
  have P0 := Lib.hid r0
  have P1 := Lib.hid r1
  have P2 := Lib.hid r2
  have P3 := Lib.hid r3
  have P4 := Lib.hid r4
  clear r0 r1 r2 r3 r4
  go_wp2_with (first
    | (refine wpList_load_row rfl 51 _ rfl _ rfl 51 _ _ _ P0.out Try.underlying51 rfl (info51 _ _ Ht2l.out) ?_)
    | (refine wpList_load_row rfl 87 _ rfl _ rfl 87 _ _ _ P1.out Try.underlying87 rfl (info87 x z) ?_)
    | (refine wpList_buildCav rfl _ rfl x z rfl ?_)
    | (go_at_call 101; refine (own_any Ht2l.out ((H.out.below P3.out).below (below_one _ _)) (cav_one w5 x z _ rfl Hz.out) (by omega)).mono ?_; rintro e w6 ⟨v6, rfl, ho, hb⟩
       have Ho6 := Lib.hid (ho.base (below_one w5 (.cells (cavRow x z) 87)).size)
       have Hb6 : Hid (Below w5.heap.size w5 w6) := Lib.hid (below_seq (below_one _ _) hb)
       clear ho hb)
    | (refine wpList_store_row rfl 51 _ _ rfl _ _ rfl rfl 51 _ ((Hb6.out.block _ (heap_lt P2.out)).trans P2.out) (info51 _ _ Ht2l.out) (by rw [tokRow_size _ _ zero32_length, tokRow_size _ _ Ht2l.out]) (tokRow_one _ _ Ho6.out.oneCell) ?_))
  exact bodyPost_ret (results_cell_2 (p := 4) (t1 := 5) rfl _ _ _ 51 _ _ _ rfl (setRow_heap _ _ _ _ _ _ ((Hb6.out.block _ (heap_lt P2.out)).trans P2.out)) Try.underlying51 rfl (info51 _ _ Ht2l.out)) rfl ⟨_, rfl, (Ho6.out.upd (fun k hk => setRow_other _ _ _ _ (by have := P4.out; omega))).base (by have := P4.out; omega), below_row (below_seq P3.out Hb6.out) (by omega) _⟩
end Go.Proofs.Ytafakjdolnigaaa
