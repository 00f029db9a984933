/- A region that draws its order: first the operations whose value is the same in every world, then the others, which come one behind the other. Conditions: the Bools over the region, computed by the kernel. -/
import Derived.Test.YtafakjdolnigaaaMixed
namespace Go.Proofs.Ytafakjdolnigaaa
open Go.RowKit

/-- The way out is the normal one, and there F holds. -/
def OnlyN (F : Act → World → Prop) : Exit → Act → World → Prop := fun e a w => match e with
  | .normal => F a w
  | _ => False

/-- One operation is ready at a time, in this order. -/
def chainIs (md : Region.Mode) (ops : Array Oper) : List Nat → Array Bool → Bool
  | [], listed => (Region.ready md ops listed).isEmpty
  | i :: is, listed => decide (Region.ready md ops listed = [i]) && chainIs md ops is (listed.setIfInBounds i true)

def pickOps (ops : Array Oper) : List Nat → List Oper
  | [] => []
  | i :: is => (ops[i]?).toList ++ pickOps ops is

section
variable {P : Program} {ops : Array Oper} {md : Region.Mode} {F : Act → World → Prop}

theorem wp_only {o : Oper} {a : Act} {w : World} {K : Act → World → Prop} (hh : o.wp P a w K (OnlyN F)) : o.wp P a w K NoExit := by
  unfold Oper.wp at *
  generalize (execOp a.eval o).run P w = r at *
  cases r with
  | ok n w' =>
    cases n <;> simp only [Oper.upon] at hh ⊢ <;> first
      | exact hh
      | (refine hh.mono fun e w'' he => ?_
         cases e with
         | returned v => exact he
         | panicked c => exact he.elim
         | outgrown => exact he.elim fun _ hx => hx.elim fun _ hy => hy.elim)
  | halt x w' => cases x <;> simp only [Oper.upon] at hh ⊢ <;> first | exact hh | exact hh.elim

theorem m_list : ∀ (is : List Nat) (listed : Array Bool) (a : Act) (w : World), chainIs md ops is listed = true → is.all (fun i => decide (i < ops.size)) = true →
    wpList P ops (OnlyN F) (pickOps ops is) a w → mAny P md ops (fun _ => True) F is.length listed a w
  | [], listed, a, w, hB, _, h => ⟨by simpa [chainIs] using hB, h⟩
  | i :: is, listed, a, w, hB, hs, h => by
    simp only [chainIs, Bool.and_eq_true, decide_eq_true_eq] at hB
    simp only [List.all_cons, Bool.and_eq_true, decide_eq_true_eq] at hs
    refine ⟨fun h1 => (by rw [hB.1] at h1; cases h1), fun j hj => ?_⟩
    rw [hB.1] at hj
    have hij : j = i := by simpa using hj
    subst hij
    have hi : ops[j]? = some ops[j] := by simp [hs.1]
    have hp : pickOps ops (j :: is) = ops[j] :: pickOps ops is := by simp [pickOps, hi]
    rw [hp] at h
    unfold wpList at h
    unfold wpOp
    simp only [hi]
    split
    · rename_i hw
      simp only [hw, if_true] at h
      rcases h with h | ⟨_, hx⟩
      · exact .inl (Oper.wp_mono (fun a' w' h' => ⟨trivial, m_list is _ a' w' hB.2 hs.2 h'⟩) (wp_only h))
      · exact hx.elim fun _ hx => hx.elim fun _ hy => hy.elim
    · rename_i hw
      simp only [hw] at h
      exact ⟨trivial, m_list is _ _ _ hB.2 hs.2 h⟩

/-- The same, in the walk's own form. -/
theorem m_chain (is : List Nat) {listed : Array Bool} {a : Act} {w : World} (hB : chainIs md ops is listed = true) (hs : is.all (fun i => decide (i < ops.size)) = true)
    (h : ∀ Q : Exit → Act → World → Prop, wpList P ops (Exit.then F Q) (pickOps ops is) a w) : mAny P md ops (fun _ => True) F is.length listed a w := by
  refine m_list is listed a w hB hs ?_
  have e : OnlyN F = Exit.then F (fun _ _ _ => False) := by
    funext e a w
    cases e <;> rfl
  rw [e]
  exact h _

/-- Take the operation i, whose value is the same in every world. -/
theorem c_quiet {f : Nat} {listed : Array Bool} {a : Act} {w : World} (i d : Nat) (v : Value) (hi : (ops[i]?).map (fun o => (o.dst, o.guard)) = some (some d, none)) (hs : Region.noSelect ops = true) (hr : (Region.ready md ops listed).contains i = true)
    (hf : Region.free md ops listed i = true) (hy : ∀ w, (ops[i]?).map (fun o => (execOp a.eval o).run P w) = some (.ok (.value v) w))
    (h : mAny P md ops (fun _ => True) F f (listed.setIfInBounds i true) (a.put (some d) v) w) : mAny P md ops (fun _ => True) F (f + 1) listed a w := by
  obtain ⟨o, ho, he⟩ := Option.map_eq_some_iff.1 hi
  simp only [Prod.mk.injEq] at he
  refine m_quiet i o v ho hs hr hf trivial he.2 (fun w _ => ?_) ?_
  · have := hy w
    rw [ho] at this
    exact Option.some.inj this
  · rw [he.1]; exact h

/-- The region; what stands behind it under a name. -/
theorem region_c {id : Nat} {Q : Exit → Act → World → Prop} {a : Act} {w : World} {l : List Oper} (hm : P.follows .mixedOrders = true)
    (h : ∀ K : Act → World → Prop, (∀ a w, Q .normal a w → K a w) → mAny P .any l.toArray (fun _ => True) K l.length (Array.replicate l.length false) a w.drew) : (Code.region id l.toArray true).wp P Q a w :=
  wp_region_any hm (by simpa using any_of_m (fun a w _ hF => hF) _ _ _ _ trivial (h (fun a w => Q .normal a w) fun _ _ h => h))
end
end Go.Proofs.Ytafakjdolnigaaa
