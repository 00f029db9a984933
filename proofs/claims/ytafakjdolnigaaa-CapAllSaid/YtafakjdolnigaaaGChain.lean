/- Steps of a region that draws its order, one operation at a time, in a class C of worlds that each step keeps; '[]byte(s)'. The steps of Chain2, for operations behind a guard as well. -/
import Derived.Test.YtafakjdolnigaaaChain
import Derived.Test.YtafakjdolnigaaaOctPut
namespace Go.Proofs.Ytafakjdolnigaaa
open Go.RowKit
set_option linter.unusedVariables false

section
variable {P : Program} {ops : Array Oper} {md : Region.Mode} {C : World → Prop} {F : Act → World → Prop}

/-- One is ready. -/
theorem m_pick {f : Nat} {listed : Array Bool} {a : Act} {w : World} (i : Nat) (hr : Region.ready md ops listed = [i])
    (h : wpOp P ops NoExit i (fun a' w' => C w' ∧ mAny P md ops C F f (listed.setIfInBounds i true) a' w') a w) : mAny P md ops C F (f + 1) listed a w := by
  refine ⟨fun h0 => (by rw [hr] at h0; cases h0), fun j hj => ?_⟩
  rw [hr] at hj
  obtain rfl : j = i := by simpa using hj
  exact h
/-- Two are. -/
theorem m_pick2 {f : Nat} {listed : Array Bool} {a : Act} {w : World} (i k : Nat) (hr : Region.ready md ops listed = [i, k])
    (h : wpOp P ops NoExit i (fun a' w' => C w' ∧ mAny P md ops C F f (listed.setIfInBounds i true) a' w') a w)
    (h' : wpOp P ops NoExit k (fun a' w' => C w' ∧ mAny P md ops C F f (listed.setIfInBounds k true) a' w') a w) : mAny P md ops C F (f + 1) listed a w := by
  refine ⟨fun h0 => (by rw [hr] at h0; cases h0), fun j hj => ?_⟩
  rw [hr] at hj
  have hj2 : j = i ∨ j = k := by simpa using hj
  rcases hj2 with rfl | rfl
  · exact h
  · exact h'

/-- A step whose run is known. -/
theorem step_val {a : Act} {w : World} {K : Act → World → Prop} {i d : Nat} (v : Value) (w' : World) (hi : (ops[i]?).map (fun o => (o.dst, o.guard)) = some (some d, none))
    (hrun : (ops[i]?).map (fun o => (execOp a.eval o).run P w) = some (.ok (.value v) w')) (h : K (a.put (some d) v) w') : wpOp P ops NoExit i K a w := by
  obtain ⟨o, ho, he⟩ := Option.map_eq_some_iff.1 hi
  simp only [Prod.mk.injEq] at he
  rw [ho] at hrun
  have hr : (execOp a.eval o).run P w = _ := Option.some.inj hrun
  unfold wpOp
  simp only [ho, Region.wanted, he.2, if_true]
  refine .inl ?_
  unfold Oper.wp
  rw [hr]
  show K (a.put o.dst v) w'
  rw [he.1]
  exact h
/-- A call. -/
theorem step_call {a : Act} {w : World} {K : Act → World → Prop} {i d : Nat} (f : FuncId) (args : Array Value) (hi : (ops[i]?).map (fun o => (o.dst, o.guard)) = some (some d, none))
    (hrun : (ops[i]?).map (fun o => (execOp a.eval o).run P w) = some (.ok (.enter f args) w)) (h : Calls P f args w fun e w' => ∃ v, e = .returned v ∧ K (a.put (some d) v) w') : wpOp P ops NoExit i K a w := by
  obtain ⟨o, ho, he⟩ := Option.map_eq_some_iff.1 hi
  simp only [Prod.mk.injEq] at he
  rw [ho] at hrun
  have hr : (execOp a.eval o).run P w = _ := Option.some.inj hrun
  unfold wpOp
  simp only [ho, Region.wanted, he.2, if_true]
  refine .inl ?_
  unfold Oper.wp
  rw [hr]
  refine h.mono fun e w' ⟨v, hv, hk⟩ => ?_
  subst hv
  rw [he.1]
  exact hk
/-- A store. -/
theorem step_skip {a : Act} {w : World} {K : Act → World → Prop} {i : Nat} (w' : World) (hi : (ops[i]?).map (fun o => (o.dst, o.guard)) = some (none, none))
    (hrun : (ops[i]?).map (fun o => (execOp a.eval o).run P w) = some (.ok .skip w')) (h : K a w') : wpOp P ops NoExit i K a w := by
  obtain ⟨o, ho, he⟩ := Option.map_eq_some_iff.1 hi
  simp only [Prod.mk.injEq] at he
  rw [ho] at hrun
  have hr : (execOp a.eval o).run P w = _ := Option.some.inj hrun
  unfold wpOp
  simp only [ho, Region.wanted, he.2, if_true]
  refine .inl ?_
  unfold Oper.wp
  rw [hr]
  show K (a.put o.dst undef) w'
  rw [he.1]
  exact h

/-- Take the operation i, whose value is the same in every world of the class. -/
theorem k_quiet {f : Nat} {listed : Array Bool} {a : Act} {w : World} (hC : C w) (i d : Nat) (v : Value) (hi : (ops[i]?).map (fun o => (o.dst, o.guard)) = some (some d, none)) (hs : Region.noSelect ops = true) (hr : (Region.ready md ops listed).contains i = true)
    (hf : Region.free md ops listed i = true) (hy : ∀ w, C w → (ops[i]?).map (fun o => (execOp a.eval o).run P w) = some (.ok (.value v) w))
    (h : mAny P md ops C F f (listed.setIfInBounds i true) (a.put (some d) v) w) : mAny P md ops C F (f + 1) listed a w := by
  obtain ⟨o, ho, he⟩ := Option.map_eq_some_iff.1 hi
  simp only [Prod.mk.injEq] at he
  refine m_quiet i o v ho hs hr hf hC he.2 (fun w hw => ?_) ?_
  · have := hy w hw
    rw [ho] at this
    exact Option.some.inj this
  · rw [he.1]; exact h

/-- The region, in a class; what stands behind it under a name. -/
theorem region_k {id : Nat} {Q : Exit → Act → World → Prop} {a : Act} {w : World} {l : List Oper} (C : World → Prop) (hm : P.follows .mixedOrders = true) (hC : C w.drew)
    (h : ∀ K : Act → World → Prop, (∀ a w, Q .normal a w → K a w) → mAny P .any l.toArray C K l.length (Array.replicate l.length false) a w.drew) : (Code.region id l.toArray true).wp P Q a w :=
  wp_region_any hm (by simpa using any_of_m (fun a w _ hF => hF) _ _ _ _ hC (h (fun a w => Q .normal a w) fun _ _ h => h))
end

/-- What one owns, its length spelled as one likes. -/
theorem OwnB.at_len {w : World} {base : Nat} {v : Value} {bs : List UInt8} (h : OwnB w base v bs) (n : Nat) (hn : bs.length = n) : ∃ r cap, v = .slice r n cap ∧ BytesAt w r n cap bs ∧ (∀ a, r = some a → base ≤ a.block) := by
  subst hn
  exact h.at

/-- append of bytes, at such a step. -/
theorem step_app {ops : Array Oper} {a : Act} {w : World} {K : Act → World → Prop} {i d : Nat} (s x : Operand) (hi : (ops[i]?).map (fun o => (o.dst, o.guard, o.op)) = some (some d, none, .call { callee := .builtin .append, args := #[s, x], argTypes := #[29, 29] }))
    (base : Nat) (v : Value) (bs cs : List UInt8) (r : Option Addr) (len cap : Nat) (hs : a.eval s = v) (hx : a.eval x = .slice r len cap)
    (hv : OwnB w base v bs) (hc : BytesAt w r len cap cs) (hsz : bs.length + cs.length ≤ 70368744177664) (hbase : base ≤ w.heap.size)
    (h : ∀ v' w', OwnB w' base v' (bs ++ cs) → w.grownBy w' v.ownBlock → K (a.put (some d) v') w') : wpOp Try.prog ops NoExit i K a w := by
  obtain ⟨o, ho, he⟩ := Option.map_eq_some_iff.1 hi
  simp only [Prod.mk.injEq] at he
  obtain ⟨v', w', hr, h1, h2⟩ := exec_append_bytes (o := o) s x he.2.2 base v bs cs r len cap hs hx hv hc hsz hbase
  exact step_val v' w' (by rw [ho]; simp [he.1, he.2.1]) (by rw [ho]; exact congrArg some hr) (h v' w' h1 h2)

/-- '[]byte(s)'. -/
theorem run_strBytes (w : World) (s : ByteArray) (hs : s.size ≤ maxLen) : ∃ c w', (convert 9 29 (.string s)).run Try.prog w = .ok (.slice (some ⟨w.heap.size, 0, none⟩) s.size c) w' ∧ BytesAt w' (some ⟨w.heap.size, 0, none⟩) s.size c s.data.toList ∧ Below w.heap.size w w' := by
  refine ⟨_, _, run_bytes_of_string w 9 29 5 s Try.underlying9 Try.underlying29 Try.underlying5, ?_, ?_⟩
  · refine ⟨by simp, grownCap_ge _ _ _ _, grownCap_le_maxLen _ _ _ _ hs, fun _ => ⟨_, _, rfl, fun i hi => ?_⟩, fun h => by cases h⟩
    have hi' : i < s.data.size := hi
    rw [Nat.zero_add]
    refine (cell_of_row _ _ i _ _ _ (heap_alloc_new w.drew _)).trans ?_
    rw [bytesRow_at s _ i hi']
    simp [W8, List.getElem?_eq_getElem (show i < s.data.toList.length by simpa using hi')]
  · exact (Below.refl _ _).drew.alloc (Nat.le_refl _) _
theorem wpList_strBytes {ops : Array Oper} {rest : List Oper} {o : Oper} {a : Act} {w : World} {Q : Exit → Act → World → Prop} (hgd : o.guard = none) (x : Operand) (ho : o.op = .convert 9 29 x) (s : ByteArray) (hx : a.eval x = .string s) (hs : s.size ≤ maxLen)
    (h : ∀ c w', BytesAt w' (some ⟨w.heap.size, 0, none⟩) s.size c s.data.toList → Below w.heap.size w w' → wpList Try.prog ops Q rest (a.put o.dst (.slice (some ⟨w.heap.size, 0, none⟩) s.size c)) w') : wpList Try.prog ops Q (o :: rest) a w := by
  obtain ⟨c, w', hr, h1, h2⟩ := run_strBytes w s hs
  refine wpList_val hgd _ w' ?_ (h c w' h1 h2)
  unfold execOp
  simp only [ho, hx, Sem.run_bind, Sem.run_pure, Result.andThen_ok, hr]
theorem step_strBytes {ops : Array Oper} {a : Act} {w : World} {K : Act → World → Prop} {i d : Nat} (x : Operand) (hi : (ops[i]?).map (fun o => (o.dst, o.guard, o.op)) = some (some d, none, .convert 9 29 x)) (s : ByteArray) (hx : a.eval x = .string s) (hs : s.size ≤ maxLen)
    (h : ∀ c w', BytesAt w' (some ⟨w.heap.size, 0, none⟩) s.size c s.data.toList → Below w.heap.size w w' → K (a.put (some d) (.slice (some ⟨w.heap.size, 0, none⟩) s.size c)) w') : wpOp Try.prog ops NoExit i K a w := by
  obtain ⟨o, ho, he⟩ := Option.map_eq_some_iff.1 hi
  simp only [Prod.mk.injEq] at he
  obtain ⟨c, w', hr, h1, h2⟩ := run_strBytes w s hs
  refine step_val _ w' (by rw [ho]; simp [he.1, he.2.1]) (by
    rw [ho]
    simp only [Option.map_some]
    unfold execOp
    simp only [he.2.2, hx, Sem.run_bind, Sem.run_pure, Result.andThen_ok, hr]) (h c w' h1 h2)
end Go.Proofs.Ytafakjdolnigaaa

namespace Go.Proofs.Ytafakjdolnigaaa
open Go.RowKit
set_option linter.unusedVariables false

section
variable {P : Program} {ops : Array Oper} {md : Region.Mode} {C : World → Prop} {F : Act → World → Prop}

/-- Where an operation writes, and whether it is wanted. -/
def wantsB (ops : Array Oper) (a : Act) (i : Nat) : Option (Option Tmp × Bool) := (ops[i]?).map fun o => (o.dst, Region.wanted o (yielded ops a.tmps))

theorem g_quiet {f : Nat} {listed : Array Bool} {a : Act} {w : World} (hC : C w) (i d : Nat) (v : Value) (hi : wantsB ops a i = some (some d, true)) (hs : Region.noSelect ops = true) (hr : (Region.ready md ops listed).contains i = true)
    (hf : Region.free md ops listed i = true) (hy : ∀ w, C w → (ops[i]?).map (fun o => (execOp a.eval o).run P w) = some (.ok (.value v) w))
    (h : mAny P md ops C F f (listed.setIfInBounds i true) (a.put (some d) v) w) : mAny P md ops C F (f + 1) listed a w := by
  obtain ⟨o, ho, he⟩ := Option.map_eq_some_iff.1 hi
  simp only [Prod.mk.injEq] at he
  refine m_first ho (Region.noSelect_spec hs) f listed a w hC (Region.free_spec ho hf) (by simpa using hr) (v := v) (.inl ⟨he.2, fun w hw => ?_⟩) (by rw [he.1]; exact h)
  have := hy w hw
  rw [ho] at this
  exact Option.some.inj this
theorem g_skip {f : Nat} {listed : Array Bool} {a : Act} {w : World} (hC : C w) (i d : Nat) (hi : wantsB ops a i = some (some d, false)) (hs : Region.noSelect ops = true) (hr : (Region.ready md ops listed).contains i = true)
    (hf : Region.free md ops listed i = true)
    (h : mAny P md ops C F f (listed.setIfInBounds i true) (a.put (some d) undef) w) : mAny P md ops C F (f + 1) listed a w := by
  obtain ⟨o, ho, he⟩ := Option.map_eq_some_iff.1 hi
  simp only [Prod.mk.injEq] at he
  exact m_first ho (Region.noSelect_spec hs) f listed a w hC (Region.free_spec ho hf) (by simpa using hr) (v := undef) (.inr ⟨he.2, rfl⟩) (by rw [he.1]; exact h)

theorem g_val {a : Act} {w : World} {K : Act → World → Prop} {i d : Nat} (v : Value) (w' : World) (hi : wantsB ops a i = some (some d, true))
    (hrun : (ops[i]?).map (fun o => (execOp a.eval o).run P w) = some (.ok (.value v) w')) (h : K (a.put (some d) v) w') : wpOp P ops NoExit i K a w := by
  obtain ⟨o, ho, he⟩ := Option.map_eq_some_iff.1 hi
  simp only [Prod.mk.injEq] at he
  rw [ho] at hrun
  have hr : (execOp a.eval o).run P w = _ := Option.some.inj hrun
  unfold wpOp
  simp only [ho, he.2, if_true]
  refine .inl ?_
  unfold Oper.wp
  rw [hr]
  show K (a.put o.dst v) w'
  rw [he.1]
  exact h
theorem g_call {a : Act} {w : World} {K : Act → World → Prop} {i d : Nat} (f : FuncId) (args : Array Value) (hi : wantsB ops a i = some (some d, true))
    (hrun : (ops[i]?).map (fun o => (execOp a.eval o).run P w) = some (.ok (.enter f args) w)) (h : Calls P f args w fun e w' => ∃ v, e = .returned v ∧ K (a.put (some d) v) w') : wpOp P ops NoExit i K a w := by
  obtain ⟨o, ho, he⟩ := Option.map_eq_some_iff.1 hi
  simp only [Prod.mk.injEq] at he
  rw [ho] at hrun
  have hr : (execOp a.eval o).run P w = _ := Option.some.inj hrun
  unfold wpOp
  simp only [ho, he.2, if_true]
  refine .inl ?_
  unfold Oper.wp
  rw [hr]
  refine h.mono fun e w' ⟨v, hv, hk⟩ => ?_
  subst hv
  rw [he.1]
  exact hk
end

theorem g_app {ops : Array Oper} {a : Act} {w : World} {K : Act → World → Prop} {i d : Nat} (s x : Operand) (hi : wantsB ops a i = some (some d, true)) (hop : (ops[i]?).map (·.op) = some (.call { callee := .builtin .append, args := #[s, x], argTypes := #[29, 29] }))
    (base : Nat) (v : Value) (bs cs : List UInt8) (r : Option Addr) (len cap : Nat) (hs : a.eval s = v) (hx : a.eval x = .slice r len cap)
    (hv : OwnB w base v bs) (hc : BytesAt w r len cap cs) (hsz : bs.length + cs.length ≤ 70368744177664) (hbase : base ≤ w.heap.size)
    (h : ∀ v' w', OwnB w' base v' (bs ++ cs) → w.grownBy w' v.ownBlock → K (a.put (some d) v') w') : wpOp Try.prog ops NoExit i K a w := by
  obtain ⟨o, ho, he⟩ := Option.map_eq_some_iff.1 hop
  obtain ⟨v', w', hr, h1, h2⟩ := exec_append_bytes (o := o) s x he base v bs cs r len cap hs hx hv hc hsz hbase
  exact g_val v' w' hi (by rw [ho]; exact congrArg some hr) (h v' w' h1 h2)
end Go.Proofs.Ytafakjdolnigaaa
