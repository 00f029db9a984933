/- The steps of Chain2, for operations behind a guard as well. -/
import Derived.Test.YtafakjdolnigaaaChain2
namespace Go.Proofs.Ytafakjdolnigaaa
open Go.RowKit
set_option linter.unusedVariables false

section
variable {P : Program} {ops : Array Oper} {md : Region.Mode} {C : World → Prop} {F : Act → World → Prop}

/-- Where an operation writes, and whether it is wanted. -/
def wantsB (ops : Array Oper) (a : Act) (i : Nat) : Option (Option Tmp × Bool) := (ops[i]?).map fun o => (o.dst, Region.wanted o (yielded ops a.tmps))

theorem g_quiet {f : Nat} {listed : Array Bool} {a : Act} {w : World} (hC : C w) (i d : Nat) (v : Value) (hi : wantsB ops a i = some (some d, true)) (hs : Region.noSelect ops = true) (hr : (Region.ready md ops listed).contains i = true)
    (hf : Region.free md ops listed i = true) (hy : ∀ w, C w → (ops[i]?).map (fun o => (execOp a.eval o).run P w) = some (.ok (.value v) w))
    (h : mAny P md ops C F f (listed.setIfInBounds i true) (a.put (some d) v) w) : mAny P md ops C F (f + 1) listed a w := by
  obtain ⟨o, ho, he⟩ := Option.map_eq_some_iff.1 hi
  simp only [Prod.mk.injEq] at he
  refine m_first ho (Region.noSelect_spec hs) f listed a w hC (Region.free_spec ho hf) (by simpa using hr) (v := v) (.inl ⟨he.2, fun w hw => ?_⟩) (by rw [he.1]; exact h)
  have := hy w hw
  rw [ho] at this
  exact Option.some.inj this
theorem g_skip {f : Nat} {listed : Array Bool} {a : Act} {w : World} (hC : C w) (i d : Nat) (hi : wantsB ops a i = some (some d, false)) (hs : Region.noSelect ops = true) (hr : (Region.ready md ops listed).contains i = true)
    (hf : Region.free md ops listed i = true)
    (h : mAny P md ops C F f (listed.setIfInBounds i true) (a.put (some d) undef) w) : mAny P md ops C F (f + 1) listed a w := by
  obtain ⟨o, ho, he⟩ := Option.map_eq_some_iff.1 hi
  simp only [Prod.mk.injEq] at he
  exact m_first ho (Region.noSelect_spec hs) f listed a w hC (Region.free_spec ho hf) (by simpa using hr) (v := undef) (.inr ⟨he.2, rfl⟩) (by rw [he.1]; exact h)

theorem g_val {a : Act} {w : World} {K : Act → World → Prop} {i d : Nat} (v : Value) (w' : World) (hi : wantsB ops a i = some (some d, true))
    (hrun : (ops[i]?).map (fun o => (execOp a.eval o).run P w) = some (.ok (.value v) w')) (h : K (a.put (some d) v) w') : wpOp P ops NoExit i K a w := by
  obtain ⟨o, ho, he⟩ := Option.map_eq_some_iff.1 hi
  simp only [Prod.mk.injEq] at he
  rw [ho] at hrun
  have hr : (execOp a.eval o).run P w = _ := Option.some.inj hrun
  unfold wpOp
  simp only [ho, he.2, if_true]
  refine .inl ?_
  unfold Oper.wp
  rw [hr]
  show K (a.put o.dst v) w'
  rw [he.1]
  exact h
theorem g_call {a : Act} {w : World} {K : Act → World → Prop} {i d : Nat} (f : FuncId) (args : Array Value) (hi : wantsB ops a i = some (some d, true))
    (hrun : (ops[i]?).map (fun o => (execOp a.eval o).run P w) = some (.ok (.enter f args) w)) (h : Calls P f args w fun e w' => ∃ v, e = .returned v ∧ K (a.put (some d) v) w') : wpOp P ops NoExit i K a w := by
  obtain ⟨o, ho, he⟩ := Option.map_eq_some_iff.1 hi
  simp only [Prod.mk.injEq] at he
  rw [ho] at hrun
  have hr : (execOp a.eval o).run P w = _ := Option.some.inj hrun
  unfold wpOp
  simp only [ho, he.2, if_true]
  refine .inl ?_
  unfold Oper.wp
  rw [hr]
  refine h.mono fun e w' ⟨v, hv, hk⟩ => ?_
  subst hv
  rw [he.1]
  exact hk
end

theorem g_app {ops : Array Oper} {a : Act} {w : World} {K : Act → World → Prop} {i d : Nat} (s x : Operand) (hi : wantsB ops a i = some (some d, true)) (hop : (ops[i]?).map (·.op) = some (.call { callee := .builtin .append, args := #[s, x], argTypes := #[29, 29] }))
    (base : Nat) (v : Value) (bs cs : List UInt8) (r : Option Addr) (len cap : Nat) (hs : a.eval s = v) (hx : a.eval x = .slice r len cap)
    (hv : OwnB w base v bs) (hc : BytesAt w r len cap cs) (hsz : bs.length + cs.length ≤ 70368744177664) (hbase : base ≤ w.heap.size)
    (h : ∀ v' w', OwnB w' base v' (bs ++ cs) → w.grownBy w' v.ownBlock → K (a.put (some d) v') w') : wpOp Try.prog ops NoExit i K a w := by
  obtain ⟨o, ho, he⟩ := Option.map_eq_some_iff.1 hop
  obtain ⟨v', w', hr, h1, h2⟩ := exec_append_bytes (o := o) s x he base v bs cs r len cap hs hx hv hc hsz hbase
  exact g_val v' w' hi (by rw [ho]; exact congrArg some hr) (h v' w' h1 h2)
end Go.Proofs.Ytafakjdolnigaaa
