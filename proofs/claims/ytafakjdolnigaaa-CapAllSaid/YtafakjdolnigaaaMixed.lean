/- A region that draws its order and in which some operations make or write memory: an operation that only reads (its value the same in every world of a class C that all others keep) may be taken first; the others are met in each order that is left. -/
import Derived.Test.YtafakjdolnigaaaRegion
namespace Go.Proofs.Ytafakjdolnigaaa
open Go.RowKit

/-- No way out but the normal one. -/
def NoExit : Exit → Act → World → Prop := fun _ _ _ => False

section
variable {P : Program} {ops : Array Oper} {md : Region.Mode} {C : World → Prop} {F : Act → World → Prop}

theorem wp_of_noExit {o : Oper} {a : Act} {w : World} {K K' : Act → World → Prop} {Q : Exit → Act → World → Prop} (h : ∀ a w, K a w → K' a w) (hh : o.wp P a w K NoExit) : o.wp P a w K' Q := by
  unfold Oper.wp at *
  generalize (execOp a.eval o).run P w = r at *
  cases r with
  | ok n w' =>
    cases n <;> simp only [Oper.upon] at hh ⊢ <;> first
      | exact h _ _ hh
      | exact hh
      | exact hh.mono fun v w'' hv => h _ _ hv
      | (refine hh.mono fun e w'' he => ?_
         cases e with
         | returned v => exact h _ _ he
         | panicked c => exact he.elim
         | outgrown => exact he.elim fun _ hx => hx.elim fun _ hy => hy.elim)
  | halt x w' => cases x <;> simp only [Oper.upon] at hh ⊢ <;> first | exact hh | exact hh.elim

theorem wpOp_of_noExit {i : Nat} {a : Act} {w : World} {K K' : Act → World → Prop} {Q : Exit → Act → World → Prop} (h : ∀ a w, K a w → K' a w) (hh : wpOp P ops NoExit i K a w) : wpOp P ops Q i K' a w := by
  unfold wpOp at *
  split
  · rename_i ho; simp only [ho] at hh; exact h _ _ hh
  · rename_i o ho
    simp only [ho] at hh
    split
    · rename_i hw
      simp only [hw, if_true] at hh
      rcases hh with hh | ⟨_, hx⟩
      · exact .inl (wp_of_noExit h hh)
      · exact hx.elim fun _ hx => hx.elim fun _ hy => hy.elim
    · rename_i hw; simp only [hw] at hh; exact h _ _ hh

/-- Whatever order is picked from here on, each operation leaving a world of the class. -/
def mAny (P : Program) (md : Region.Mode) (ops : Array Oper) (C : World → Prop) (F : Act → World → Prop) : Nat → Array Bool → Act → World → Prop
  | 0, listed, a, w => Region.ready md ops listed = [] ∧ F a w
  | f + 1, listed, a, w =>
    (Region.ready md ops listed = [] → F a w) ∧
    ∀ i ∈ Region.ready md ops listed, wpOp P ops NoExit i (fun a' w' => C w' ∧ mAny P md ops C F f (listed.setIfInBounds i true) a' w') a w

theorem any_of_m {Q : Exit → Act → World → Prop} (hQ : ∀ a w, C w → F a w → Q .normal a w) : ∀ (f : Nat) (listed : Array Bool) (a : Act) (w : World), C w → mAny P md ops C F f listed a w → wpAny P md ops Q f listed a w := by
  intro f
  induction f with
  | zero => intro listed a w hC h; exact ⟨h.1, hQ _ _ hC h.2⟩
  | succ f ih => intro listed a w hC h; exact ⟨fun h0 => hQ _ _ hC (h.1 h0), fun i hi => wpOp_of_noExit (fun a' w' hh => ih _ a' w' hh.1 hh.2) (h.2 i hi)⟩

/-- What an operation yields, in every world of the class, the world unturned. -/
def YieldsC (P : Program) (ops : Array Oper) (C : World → Prop) (o : Oper) (v : Value) (a : Act) : Prop :=
  (Region.wanted o (yielded ops a.tmps) = true ∧ ∀ w, C w → (execOp a.eval o).run P w = .ok (.value v) w) ∨
  (Region.wanted o (yielded ops a.tmps) = false ∧ v = undef)

theorem YieldsC.wpOp {Q : Exit → Act → World → Prop} {i : Nat} {o : Oper} {v : Value} {a : Act} (hi : ops[i]? = some o) (hy : YieldsC P ops C o v a) {K : Act → World → Prop} {w : World} (hw : C w) (h : K (a.put o.dst v) w) : wpOp P ops Q i K a w := by
  unfold Go.wpOp
  simp only [hi]
  rcases hy with ⟨h1, hv⟩ | ⟨h1, rfl⟩
  · simp only [h1, if_true, Oper.wp, hv w hw, Oper.upon]; exact .inl h
  · simp only [h1, Bool.false_eq_true, if_false]; exact h

theorem YieldsC.put {oi oj : Oper} {v u : Value} {a : Act} (hs : ∀ cs b, oi.op ≠ .select cs b) (h3 : ∀ d, oj.dst = some d → d ∉ oi.looksAt ops) (hy : YieldsC P ops C oi v a) : YieldsC P ops C oi v (a.put oj.dst u) := by
  unfold YieldsC at *
  rw [execOp_put oi hs a oj.dst u h3, wanted_put oi a oj.dst u h3]
  exact hy

/-- An operation j that comes ahead of a reading one i. -/
theorem wpOp_before {j : Nat} {oi oj : Oper} {v : Value} (hj : ops[j]? = some oj) (hap : oi.apart ops oj = true)
    (hsi : ∀ cs b, oi.op ≠ .select cs b) (hsj : ∀ cs b, oj.op ≠ .select cs b) {K : Act → World → Prop} {a : Act} {w : World}
    (hy : YieldsC P ops C oi v a) (h : wpOp P ops NoExit j K (a.put oi.dst v) w) :
    wpOp P ops NoExit j (fun a' w' => YieldsC P ops C oi v a' ∧ K (a'.put oi.dst v) w') a w := by
  obtain ⟨h1, h2, h3⟩ := Oper.apart_spec hap
  have keep : ∀ u, YieldsC P ops C oi v (a.put oj.dst u) := fun u => hy.put hsi h3
  have comm : ∀ u, (a.put oi.dst v).put oj.dst u = (a.put oj.dst u).put oi.dst v := fun u => Act.put_comm a v u h2
  unfold wpOp at *
  simp only [hj] at *
  rw [wanted_put oj a oi.dst v h1] at h
  split
  · rename_i hw
    simp only [hw, if_true] at h
    rcases h with h | ⟨_, hx⟩
    case inr => exact hx.elim fun _ hx => hx.elim fun _ hy => hy.elim
    refine .inl ?_
    unfold Oper.wp at *
    rw [execOp_put oj hsj a oi.dst v h1] at h
    generalize (execOp a.eval oj).run P w = r at *
    cases r with
    | ok n w' =>
      cases n <;> simp only [Oper.upon] at h ⊢
      case value u => exact ⟨keep u, by rw [← comm]; exact h⟩
      case skip => exact ⟨keep undef, by rw [← comm]; exact h⟩
      case enter f args =>
        refine h.mono fun e w'' he => ?_
        cases e with
        | returned u => exact ⟨keep u, by rw [← comm]; exact he⟩
        | panicked c => exact he
        | outgrown => exact he
      case row r args => exact h.mono fun u w'' hu => ⟨keep u, by rw [← comm]; exact hu⟩
      case defer d =>
        refine ⟨?_, ?_⟩
        · have := keep undef
          unfold YieldsC at *
          have e1 : execOp (({ a with defers := d :: a.defers } : Act).put oj.dst undef).eval oi = execOp (a.put oj.dst undef).eval oi := by
            congr 1
            cases hd : oj.dst <;> rfl
          have e2 : (({ a with defers := d :: a.defers } : Act).put oj.dst undef).tmps = (a.put oj.dst undef).tmps := by cases hd : oj.dst <;> rfl
          rw [e1, e2]
          exact this
        · have e : ({ a.put oi.dst v with defers := d :: (a.put oi.dst v).defers } : Act).put oj.dst undef = (({ a with defers := d :: a.defers } : Act).put oj.dst undef).put oi.dst v := by
            rw [Act.put_defers]
            exact Act.put_comm _ v undef h2
          rw [← e]
          exact h
    | halt x w' => cases x <;> simp only [Oper.upon] at h ⊢ <;> exact h
  · rename_i hw
    simp only [hw] at h
    exact ⟨keep undef, by rw [← comm]; exact h⟩

/-- **A reading operation that may come now may be taken first.** -/
theorem m_first {i : Nat} {oi : Oper} {v : Value} (hi : ops[i]? = some oi) (hsel : ∀ (j : Nat) (o : Oper) cs b, ops[j]? = some o → o.op ≠ .select cs b) :
    ∀ (f : Nat) (listed : Array Bool) (a : Act) (w : World), C w →
      (∀ j oj, ops[j]? = some oj → j ≠ i → listed.getD j true = false → (∀ e ∈ oj.after, Region.binds md e = true → e.on ≠ i) → oi.apart ops oj = true) →
      i ∈ Region.ready md ops listed → YieldsC P ops C oi v a →
      mAny P md ops C F f (listed.setIfInBounds i true) (a.put oi.dst v) w → mAny P md ops C F (f + 1) listed a w := by
  intro f
  induction f with
  | zero =>
    intro listed a w hC _ hr hy H
    refine ⟨fun h => (by rw [h] at hr; cases hr), fun j hj => ?_⟩
    by_cases hji : j = i
    · subst hji; exact hy.wpOp hi hC ⟨hC, H⟩
    · have h1 := ready_mono hj hji
      rw [H.1] at h1
      cases h1
  | succ f ih =>
    intro listed a w hC hfree hr hy H
    refine ⟨fun h => (by rw [h] at hr; cases hr), fun j hj => ?_⟩
    by_cases hji : j = i
    · subst hji; exact hy.wpOp hi hC ⟨hC, H⟩
    · have h1 := H.2 j (ready_mono hj hji)
      obtain ⟨hjun, oj, hoj, hall⟩ := mem_ready.1 hj
      have hnot : ∀ e ∈ oj.after, Region.binds md e = true → e.on ≠ i := fun e he hb heq => by
        have h2 := hall e he hb
        have h3 := (mem_ready.1 hr).1
        rw [heq] at h2
        rcases Nat.lt_or_ge i listed.size with h' | h'
        · simp [h'] at h2 h3; rw [h3] at h2; cases h2
        · simp [Array.getElem?_eq_none h'] at h2
      have h2 := wpOp_before hoj (hfree j oj hoj hji hjun hnot) (fun cs b => hsel i oi cs b hi) (fun cs b => hsel j oj cs b hoj) hy h1
      refine wpOp_mono (fun a' w' h3 => ⟨h3.2.1, ih (listed.setIfInBounds j true) a' w' h3.2.1 ?_ (ready_mono hr (Ne.symm hji)) h3.1 ?_⟩) h2
      · intro k ok hk hki hun hno
        refine hfree k ok hk hki ?_ hno
        by_cases hjk : j = k
        · subst hjk; exact hjun
        · rwa [getD_set_ne true hjk] at hun
      · rw [Array.setIfInBounds_comm _ _ hji]
        exact h3.2.2

/-! ### The rules as they are used -/
/-- Take the reading operation i. -/
theorem m_quiet {f : Nat} {listed : Array Bool} {a : Act} {w : World} (i : Nat) (oi : Oper) (v : Value) (hi : ops[i]? = some oi) (hs : Region.noSelect ops = true) (hr : (Region.ready md ops listed).contains i = true)
    (hf : Region.free md ops listed i = true) (hC : C w) (hg : oi.guard = none) (hy : ∀ w, C w → (execOp a.eval oi).run P w = .ok (.value v) w)
    (h : mAny P md ops C F f (listed.setIfInBounds i true) (a.put oi.dst v) w) : mAny P md ops C F (f + 1) listed a w :=
  m_first hi (Region.noSelect_spec hs) f listed a w hC (Region.free_spec hi hf) (by simpa using hr) (.inl ⟨by simp [Region.wanted, hg], hy⟩) h

/-- One operation is ready. -/
theorem m_one {f : Nat} {listed : Array Bool} {a : Act} {w : World} (i : Nat) (oi : Oper) (hr : Region.ready md ops listed = [i]) (hi : ops[i]? = some oi) (hg : oi.guard = none)
    (h : ∀ K : Act → World → Prop, (∀ a w, C w → mAny P md ops C F f (listed.setIfInBounds i true) a w → K a w) → oi.wp P a w K NoExit) : mAny P md ops C F (f + 1) listed a w := by
  refine ⟨fun h0 => (by rw [hr] at h0; cases h0), fun j hj => ?_⟩
  rw [hr] at hj
  obtain rfl : j = i := by simpa using hj
  unfold wpOp
  simp only [hi, Region.wanted, hg, if_true]
  exact .inl (h _ fun a w hC hm => ⟨hC, hm⟩)

/-- Two are. -/
theorem m_two {f : Nat} {listed : Array Bool} {a : Act} {w : World} (i k : Nat) (oi ok : Oper) (hr : Region.ready md ops listed = [i, k]) (hi : ops[i]? = some oi) (hk : ops[k]? = some ok) (hg : oi.guard = none) (hgk : ok.guard = none)
    (h : ∀ K : Act → World → Prop, (∀ a w, C w → mAny P md ops C F f (listed.setIfInBounds i true) a w → K a w) → oi.wp P a w K NoExit)
    (h' : ∀ K : Act → World → Prop, (∀ a w, C w → mAny P md ops C F f (listed.setIfInBounds k true) a w → K a w) → ok.wp P a w K NoExit) : mAny P md ops C F (f + 1) listed a w := by
  refine ⟨fun h0 => (by rw [hr] at h0; cases h0), fun j hj => ?_⟩
  rw [hr] at hj
  have hj2 : j = i ∨ j = k := by simpa using hj
  rcases hj2 with rfl | rfl
  · unfold wpOp
    simp only [hi, Region.wanted, hg, if_true]
    exact .inl (h _ fun a w hC hm => ⟨hC, hm⟩)
  · unfold wpOp
    simp only [hk, Region.wanted, hgk, if_true]
    exact .inl (h' _ fun a w hC hm => ⟨hC, hm⟩)

/-- None is left. -/
theorem m_end {f : Nat} {listed : Array Bool} {a : Act} {w : World} (hr : Region.ready md ops listed = []) (h : F a w) : mAny P md ops C F f listed a w := by
  cases f with
  | zero => exact ⟨hr, h⟩
  | succ f => exact ⟨fun _ => h, fun i hi => by rw [hr] at hi; cases hi⟩

/-- The region. -/
theorem region_m {id : Nat} {Q : Exit → Act → World → Prop} {a : Act} {w : World} {l : List Oper} (C : World → Prop) (hm : P.follows .mixedOrders = true)
    (hC : C { w with drawn := w.drawn + 1 })
    (h : mAny P .any l.toArray C (fun a w => C w → Q .normal a w) l.length (Array.replicate l.length false) a { w with drawn := w.drawn + 1 }) : (Code.region id l.toArray true).wp P Q a w :=
  wp_region_any hm (by simpa using any_of_m (fun a w hw hF => hF hw) _ _ _ _ hC h)

/-- A quiet step whose run is known in every world of the class. -/
theorem q_run {o : Oper} {rest : List Oper} {a : Act} {Q : Act → Prop} (hw : Region.wanted o (yielded ops a.tmps) = true) (v : Value) (hv : ∀ w', C w' → (execOp a.eval o).run P w' = .ok (.value v) w')
    (h : wpQuiet P ops C Q rest (a.put o.dst v)) : wpQuiet P ops C Q (o :: rest) a := by
  unfold wpQuiet
  rw [if_pos hw]
  exact ⟨v, fun w' hC => by unfold Oper.quietAt; rw [hv w' hC]; exact ⟨rfl, rfl⟩, h⟩
end
end Go.Proofs.Ytafakjdolnigaaa
