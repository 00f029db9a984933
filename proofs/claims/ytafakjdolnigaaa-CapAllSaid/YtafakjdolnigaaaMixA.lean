/- (*sha.Hash).mix, its first statement: 'k, w, s := primes(), spread(&h.wait), h.state': whatever order is taken, three new variables hold these, and nothing else has turned. -/
import Derived.Test.YtafakjdolnigaaaProg
import Derived.Test.YtafakjdolnigaaaSpread
import Derived.Test.YtafakjdolnigaaaMixed
namespace Go.Proofs.Ytafakjdolnigaaa
open Go.RowKit
set_option linter.unusedVariables false

/-! ### Single operations, by what they are -/
section
variable {P : Program} {ops : Array Oper} {Q : Exit → Act → World → Prop} {K : Act → World → Prop} {a : Act} {w : World} {i : Nat} {d : Option Tmp}

def opIs (ops : Array Oper) (i : Nat) (d : Option Tmp) (op : Op) : Prop := ∃ o, ops[i]? = some o ∧ o.dst = d ∧ o.op = op ∧ o.guard = none

theorem opIs_of {op : Op} (h : (ops[i]?).map (fun o => (o.dst, o.op, o.guard)) = some (d, op, none)) : opIs ops i d op := by
  obtain ⟨o, ho, he⟩ := Option.map_eq_some_iff.1 h
  simp only [Prod.mk.injEq] at he
  exact ⟨o, ho, he.1, he.2.1, he.2.2⟩

theorem wpOp_of {o : Oper} (h : ops[i]? = some o) (hg : o.guard = none) (hw : o.wp P a w K Q) : wpOp P ops Q i K a w := by
  unfold wpOp
  simp only [h, Region.wanted, hg, if_true]
  exact .inl hw

theorem wpOp_call {f : FuncId} {args : Array Operand} {ats : Array TypeId} (h : opIs ops i d (.call { callee := .value (.func f), args := args, argTypes := ats })) (hcf : ∀ (args : Array Value) (w : World), (callFunc f args).run P w = .ok (.enter f args) w)
    (vs : Array Value) (hvs : args.map a.eval = vs) (hc : Calls P f vs w fun e w' => ∃ v, e = .returned v ∧ K (a.put d v) w') : wpOp P ops Q i K a w := by
  obtain ⟨o, ho, rfl, hop, hg⟩ := h
  subst hvs
  refine wpOp_of ho hg ?_
  have hr : (execOp a.eval o).run P w = .ok (.enter f (args.map a.eval)) w := by
    unfold execOp
    simp [hop, resolve, Act.eval, invoke, Deferred.ofValue]
    exact hcf _ _
  unfold Oper.wp
  rw [hr]
  exact hc.mono fun e w' ⟨v, he, hk⟩ => by subst he; exact hk

theorem wpOp_alloc {T : TypeId} {Z : Array Value} (h : opIs ops i d (.alloc T)) (hz : ∀ w : World, (Instr.alloc T true (.tuple #[])).run P w = .ok (.pointer (some ⟨w.heap.size, 0, none⟩)) (w.alloc (.cells Z T)))
    (hk : K (a.put d (.pointer (some ⟨w.heap.size, 0, none⟩))) (w.alloc (.cells Z T))) : wpOp P ops Q i K a w := by
  obtain ⟨o, ho, rfl, hop, hg⟩ := h
  refine wpOp_of ho hg ?_
  have hr : (execOp a.eval o).run P w = .ok (.value (.pointer (some ⟨w.heap.size, 0, none⟩))) (w.alloc (.cells Z T)) := by
    unfold execOp
    simp only [hop, Sem.run_bind, hz w, Result.andThen_ok]
    rfl
  unfold Oper.wp
  rw [hr]
  exact hk

theorem wpOp_store_row {T : TypeId} {x y : Operand} (h : opIs ops i d (.store T x y)) (g : Nat) (cells : Array Value) (hx : a.eval x = .pointer (some ⟨g, 0, none⟩)) (hy : a.eval y = .agg cells)
    (t : TypeId) (old : Array Value) (hg : w.heap[g]? = some (.cells old t (0, 0))) (hi : (P.info? T).map (·.size) = some cells.size)
    (hold : old.size = cells.size) (h1 : cells.all (·.oneCell') = true) (hk : K (a.put d undef) (w.setRow g cells)) : wpOp P ops Q i K a w := by
  obtain ⟨o, ho, rfl, hop, hgd⟩ := h
  exact wpOp_of ho hgd (wp_store_row T x y hop g cells hx hy t old hg hi hold h1 hk)
end

/-! ### The statement -/
theorem info61 (s : S8) : (Try.prog.info? 61).map (·.size) = some (row32 s.list).size := by rw [row32_size]; show _ = some 8; kernel_rfl
def zero8 : List UInt32 := List.replicate 8 0
theorem alloc61 : ∀ w : World, (Instr.alloc 61 true (.tuple #[])).run Try.prog w = .ok (.pointer (some ⟨w.heap.size, 0, none⟩)) (w.alloc (.cells (row32 zero8) 61)) := by
  intro w; kernel_rfl

noncomputable def ops80 : Array Oper := opsOf Try.f80 0
theorem op80_0 : opIs ops80 0 (some 11) (.call { callee := .value (.func 107), args := #[], argTypes := #[] }) := opIs_of (by kernel_rfl)
theorem op80_4 : opIs ops80 4 (some 15) (.call { callee := .value (.func 108), args := #[.tmp 14], argTypes := #[125] }) := opIs_of (by kernel_rfl)
theorem op80_9 : opIs ops80 9 (some 2) (.alloc 122) := opIs_of (by kernel_rfl)
theorem op80_10 : opIs ops80 10 (some 3) (.alloc 122) := opIs_of (by kernel_rfl)
theorem op80_11 : opIs ops80 11 (some 4) (.alloc 61) := opIs_of (by kernel_rfl)
theorem op80_12 : opIs ops80 12 none (.store 122 (.tmp 2) (.tmp 11)) := opIs_of (by kernel_rfl)
theorem op80_13 : opIs ops80 13 none (.store 122 (.tmp 3) (.tmp 15)) := opIs_of (by kernel_rfl)
theorem op80_14 : opIs ops80 14 none (.store 61 (.tmp 4) (.tmp 19)) := opIs_of (by kernel_rfl)

/-- The frame when the reading operations have come. -/
def fr80 (b : Nat) (s : S8) (v2 v3 v4 v11 v15 : Value) : Act :=
  { tmps := #[.pointer (some ⟨b, 0, none⟩), undef, v2, v3, v4, undef, undef, undef, undef, undef, undef, v11, .pointer (some ⟨b, 0, none⟩), .pointer (some ⟨b, 0, none⟩), .pointer (some ⟨b, 9, none⟩), v15,
      .pointer (some ⟨b, 0, none⟩), .pointer (some ⟨b, 0, none⟩), .pointer (some ⟨b, 1, none⟩), .agg (row32 s.list), undef, undef, undef, undef, undef, undef, undef, undef, undef, undef, undef, undef, undef, undef, undef, undef, undef, undef, undef, undef, undef, undef, undef, undef, undef, undef, undef, undef, undef, undef, undef, undef, undef, undef, undef, undef, undef, undef, undef, undef, undef, undef, undef, undef, undef, undef, undef, undef, undef, undef, undef, undef, undef, undef, undef, undef, undef, undef, undef, undef, undef, undef, undef, undef, undef, undef, undef, undef, undef, undef, undef, undef, undef, undef, undef, undef, undef, undef, undef, undef, undef, undef, undef, undef, undef, undef, undef, undef, undef, undef, undef, undef, undef, undef, undef, undef, undef, undef, undef, undef, undef, undef, undef, undef, undef, undef, undef], defers := [] }

theorem fr80_2 (b s v2 v3 v4 v11 v15 v) : (fr80 b s v2 v3 v4 v11 v15).put (some 2) v = fr80 b s v v3 v4 v11 v15 := rfl
theorem fr80_3 (b s v2 v3 v4 v11 v15 v) : (fr80 b s v2 v3 v4 v11 v15).put (some 3) v = fr80 b s v2 v v4 v11 v15 := rfl
theorem fr80_4 (b s v2 v3 v4 v11 v15 v) : (fr80 b s v2 v3 v4 v11 v15).put (some 4) v = fr80 b s v2 v3 v v11 v15 := rfl
theorem fr80_11 (b s v2 v3 v4 v11 v15 v) : (fr80 b s v2 v3 v4 v11 v15).put (some 11) v = fr80 b s v2 v3 v4 v v15 := rfl
theorem fr80_15 (b s v2 v3 v4 v11 v15 v) : (fr80 b s v2 v3 v4 v11 v15).put (some 15) v = fr80 b s v2 v3 v4 v11 v := rfl

def lst80 (c : Nat) (s9 s10 s11 : Bool) : Array Bool := #[decide (1 ≤ c), true, true, true, decide (2 ≤ c), true, true, true, true, s9, s10, s11, decide (3 ≤ c), decide (4 ≤ c), decide (5 ≤ c)]

/-- A new variable, or none yet. -/
def Blk (w : World) (n0 : Nat) (v : Value) (on : Bool) (full : Bool) (z x : List UInt32) (T : TypeId) : Prop :=
  on = true → ∃ p, v = .pointer (some ⟨p, 0, none⟩) ∧ n0 ≤ p ∧ w.heap[p]? = some (.cells (row32 (if full then x else z)) T (0, 0))

theorem Blk.keep {w w' : World} {n0 : Nat} {v : Value} {on full : Bool} {z x : List UInt32} {T : TypeId} (h : Blk w n0 v on full z x T) (hw : ∀ k, k < w.heap.size → w'.heap[k]? = w.heap[k]?) : Blk w' n0 v on full z x T := by
  intro ho
  obtain ⟨p, hv, hp, hb⟩ := h ho
  exact ⟨p, hv, hp, by rw [hw p (heap_lt hb)]; exact hb⟩

theorem Blk.lt {w : World} {n0 : Nat} {v : Value} {on full : Bool} {z x : List UInt32} {T : TypeId} (h : Blk w n0 v on full z x T) (ho : on = true) : v ≠ .pointer (some ⟨w.heap.size, 0, none⟩) := by
  obtain ⟨p, hv, hp, hb⟩ := h ho
  have := heap_lt hb
  subst hv
  intro e
  simp only [Value.pointer.injEq, Option.some.injEq, Addr.mk.injEq] at e
  omega

theorem Blk.put {w : World} {n0 : Nat} {v : Value} {on full : Bool} {z x : List UInt32} {T : TypeId} (h : Blk w n0 v on full z x T) {g : Nat} (hg : on = true → v ≠ .pointer (some ⟨g, 0, none⟩)) (cs : Array Value) : Blk (w.setRow g cs) n0 v on full z x T := by
  intro ho
  obtain ⟨p, hv, hp, hb⟩ := h ho
  refine ⟨p, hv, hp, ?_⟩
  rw [setRow_other _ _ _ _ ?_]
  · exact hb
  · intro e
    exact hg ho (by rw [hv, e])

structure J80 (w0 : World) (b : Nat) (s : S8) (wait : List UInt8) (c : Nat) (s9 s10 s11 : Bool) (v2 v3 v4 v11 v15 : Value) (w : World) : Prop where
  bel : Below w0.heap.size w0 w
  p11 : 1 ≤ c → v11 = .agg (row32 primes)
  p15 : 2 ≤ c → v15 = .agg (row32 (spread wait))
  b2 : Blk w w0.heap.size v2 s9 (decide (3 ≤ c)) zero64 primes 122
  b3 : Blk w w0.heap.size v3 s10 (decide (4 ≤ c)) zero64 (spread wait) 122
  b4 : Blk w w0.heap.size v4 s11 (decide (5 ≤ c)) zero8 s.list 61
  n23 : s9 = true → s10 = true → v2 ≠ v3
  n24 : s9 = true → s11 = true → v2 ≠ v4
  n34 : s10 = true → s11 = true → v3 ≠ v4

def val80 (c : Nat) (s9 s10 s11 : Bool) : Bool := (!decide (3 ≤ c) || s9) && (!decide (4 ≤ c) || s10) && (!decide (5 ≤ c) || s11)
def end80 (c : Nat) (s9 s10 s11 : Bool) : Bool := c == 5 && s9 && s10 && s11
def may80 (c : Nat) (s9 s10 s11 : Bool) (j : Nat) : Bool :=
  (j == 0 && c == 0) || (j == 4 && c == 1) || (j == 12 && c == 2 && s9) || (j == 13 && c == 3 && s10) || (j == 14 && c == 4 && s11) || (j == 9 && !s9) || (j == 10 && !s10) || (j == 11 && !s11)
noncomputable def chk80 (c : Nat) (s9 s10 s11 : Bool) : Bool :=
  !val80 c s9 s10 s11 || (((Region.ready .any ops80 (lst80 c s9 s10 s11)).isEmpty == end80 c s9 s10 s11) && (Region.ready .any ops80 (lst80 c s9 s10 s11)).all (may80 c s9 s10 s11))
theorem chk80_all : ((List.range 6).all fun c => [true, false].all fun s9 => [true, false].all fun s10 => [true, false].all fun s11 => chk80 c s9 s10 s11) = true := by kernel_rfl

theorem tab80 (c : Nat) (s9 s10 s11 : Bool) (hc : c ≤ 5) (h9 : 3 ≤ c → s9 = true) (h10 : 4 ≤ c → s10 = true) (h11 : 5 ≤ c → s11 = true) :
    (Region.ready .any ops80 (lst80 c s9 s10 s11) = [] → c = 5 ∧ s9 = true ∧ s10 = true ∧ s11 = true) ∧
    (c = 5 ∧ s9 = true ∧ s10 = true ∧ s11 = true → Region.ready .any ops80 (lst80 c s9 s10 s11) = []) ∧
    ∀ j ∈ Region.ready .any ops80 (lst80 c s9 s10 s11), (j = 0 ∧ c = 0) ∨ (j = 4 ∧ c = 1) ∨ (j = 12 ∧ c = 2 ∧ s9 = true) ∨ (j = 13 ∧ c = 3 ∧ s10 = true) ∨ (j = 14 ∧ c = 4 ∧ s11 = true) ∨
      (j = 9 ∧ s9 = false) ∨ (j = 10 ∧ s10 = false) ∨ (j = 11 ∧ s11 = false) := by
  have h := List.all_eq_true.1 (List.all_eq_true.1 (List.all_eq_true.1 (List.all_eq_true.1 chk80_all c (List.mem_range.2 (by omega))) s9 (by cases s9 <;> simp)) s10 (by cases s10 <;> simp)) s11 (by cases s11 <;> simp)
  have hv : val80 c s9 s10 s11 = true := by
    simp only [val80, Bool.and_eq_true, Bool.or_eq_true, Bool.not_eq_true', decide_eq_false_iff_not]
    refine ⟨⟨?_, ?_⟩, ?_⟩
    · by_cases h : 3 ≤ c
      · exact .inr (h9 h)
      · exact .inl h
    · by_cases h : 4 ≤ c
      · exact .inr (h10 h)
      · exact .inl h
    · by_cases h : 5 ≤ c
      · exact .inr (h11 h)
      · exact .inl h
  simp only [chk80, hv, Bool.not_true, Bool.false_or, Bool.and_eq_true, beq_iff_eq] at h
  obtain ⟨he, ha⟩ := h
  refine ⟨fun h0 => ?_, fun h0 => ?_, fun j hj => ?_⟩
  · rw [h0] at he
    have : end80 c s9 s10 s11 = true := he.symm
    simpa [end80, and_assoc] using this
  · have : end80 c s9 s10 s11 = true := by simp [end80, h0]
    rw [this] at he
    simpa using he
  · have := List.all_eq_true.1 ha j hj
    simpa [may80, and_assoc, or_assoc] using this

set_option maxRecDepth 100000 in
set_option maxHeartbeats 1000000 in
theorem run80 (w0 : World) (b : Nat) (s : S8) (wait : List UInt8) (hl : wait.length = 64) (hlt : b < w0.heap.size) (hc : ∀ i, i < 64 → w0.cell? ⟨b, 9 + i, none⟩ = some (W8 (wait[i]?.getD 0))) (F : Act → World → Prop)
    (hF : ∀ v2 v3 v4 w, J80 w0 b s wait 5 true true true v2 v3 v4 (.agg (row32 primes)) (.agg (row32 (spread wait))) w → F (fr80 b s v2 v3 v4 (.agg (row32 primes)) (.agg (row32 (spread wait)))) w) :
    ∀ (f c : Nat) (s9 s10 s11 : Bool) (v2 v3 v4 v11 v15 : Value) (w : World), c ≤ 5 → (3 ≤ c → s9 = true) → (4 ≤ c → s10 = true) → (5 ≤ c → s11 = true) → f + c + s9.toNat + s10.toNat + s11.toNat = 8 →
      J80 w0 b s wait c s9 s10 s11 v2 v3 v4 v11 v15 w → mAny Try.prog .any ops80 (fun w' => Below w0.heap.size w0 w') F f (lst80 c s9 s10 s11) (fr80 b s v2 v3 v4 v11 v15) w := by
  intro f
  induction f with
  | zero =>
    intro c s9 s10 s11 v2 v3 v4 v11 v15 w hc5 h9 h10 h11 hsum j
    have b9 : s9.toNat ≤ 1 := Bool.toNat_le s9
    have b10 : s10.toNat ≤ 1 := Bool.toNat_le s10
    have b11 : s11.toNat ≤ 1 := Bool.toNat_le s11
    obtain rfl : c = 5 := by omega
    obtain rfl := h9 (by omega)
    obtain rfl := h10 (by omega)
    obtain rfl := h11 (by omega)
    refine ⟨(tab80 5 true true true (by omega) (fun _ => rfl) (fun _ => rfl) (fun _ => rfl)).2.1 ⟨rfl, rfl, rfl, rfl⟩, ?_⟩
    obtain rfl := j.p11 (by omega)
    obtain rfl := j.p15 (by omega)
    exact hF _ _ _ _ j
  | succ f ih =>
    intro c s9 s10 s11 v2 v3 v4 v11 v15 w hc5 h9 h10 h11 hsum jj
    have b9 : s9.toNat ≤ 1 := Bool.toNat_le s9
    have b10 : s10.toNat ≤ 1 := Bool.toNat_le s10
    have b11 : s11.toNat ≤ 1 := Bool.toNat_le s11
    obtain ⟨t1, _, t3⟩ := tab80 c s9 s10 s11 hc5 h9 h10 h11
    refine ⟨fun h => ?_, fun j hj => ?_⟩
    · obtain ⟨h1, h2, h3, h4⟩ := t1 h
      subst h1; subst h2; subst h3; subst h4
      simp at hsum
    · rcases t3 j hj with ⟨rfl, h⟩ | ⟨rfl, h⟩ | ⟨rfl, h, h'⟩ | ⟨rfl, h, h'⟩ | ⟨rfl, h, h'⟩ | ⟨rfl, h⟩ | ⟨rfl, h⟩ | ⟨rfl, h⟩
      · subst h
        refine wpOp_call op80_0 (by intros; kernel_rfl) #[] (by simp) ((primes_any w).mono fun e w' ⟨he, hb⟩ => ⟨_, he, ?_⟩)
        have hbel := jj.bel.trans (hb.mono jj.bel.size)
        refine ⟨hbel, ?_⟩
        rw [fr80_11]
        exact ih 1 s9 s10 s11 v2 v3 v4 _ v15 w' (by omega) (by omega) (by omega) (by omega) (by omega) ⟨hbel, fun _ => rfl, by omega, jj.b2.keep hb.block, jj.b3.keep hb.block, jj.b4.keep hb.block, jj.n23, jj.n24, jj.n34⟩
      · subst h
        refine wpOp_call op80_4 (by intros; kernel_rfl) #[.pointer (some ⟨b, 9, none⟩)] (by simp [fr80, Act.eval]) ((spread_any b 9 wait w fun i hi => ?_).mono fun e w' ⟨he, hb⟩ => ⟨_, he, ?_⟩)
        · rw [jj.bel.cell (p := ⟨b, 9 + i, none⟩) hlt]; exact hc i hi
        have hbel := jj.bel.trans (hb.mono jj.bel.size)
        refine ⟨hbel, ?_⟩
        rw [fr80_15]
        exact ih 2 s9 s10 s11 v2 v3 v4 v11 _ w' (by omega) (by omega) (by omega) (by omega) (by omega) ⟨hbel, fun _ => jj.p11 (by omega), fun _ => rfl, jj.b2.keep hb.block, jj.b3.keep hb.block, jj.b4.keep hb.block, jj.n23, jj.n24, jj.n34⟩
      · subst h; subst h'
        obtain ⟨p, hv, hp, hbp⟩ := jj.b2 rfl
        obtain rfl := jj.p11 (by omega)
        subst hv
        refine wpOp_store_row op80_12 p (row32 primes) rfl rfl 122 _ hbp (info122 _ rfl) rfl (row32_one _) ⟨below_row jj.bel hp _, ?_⟩
        refine ih 3 true s10 s11 _ v3 v4 _ v15 _ (by omega) (by simp) (by omega) (by omega) (by simp at hsum ⊢; omega) ⟨below_row jj.bel hp _, fun _ => rfl, fun _ => jj.p15 (by omega), fun _ => ⟨p, rfl, hp, setRow_heap _ _ _ _ _ _ hbp⟩, ?_, ?_, jj.n23, jj.n24, jj.n34⟩
        · exact jj.b3.put (fun h => (jj.n23 rfl h).symm) _
        · exact jj.b4.put (fun h => (jj.n24 rfl h).symm) _
      · subst h; subst h'
        obtain rfl := h9 (by omega)
        obtain ⟨p, hv, hp, hbp⟩ := jj.b3 rfl
        obtain rfl := jj.p15 (by omega)
        subst hv
        refine wpOp_store_row op80_13 p (row32 (spread wait)) rfl rfl 122 _ hbp (info122 _ (spread_length _)) (by rw [row32_size, row32_size, spread_length]; rfl) (row32_one _) ⟨below_row jj.bel hp _, ?_⟩
        refine ih 4 true true s11 v2 _ v4 v11 _ _ (by omega) (by simp) (by simp) (by omega) (by simp at hsum ⊢; omega) ⟨below_row jj.bel hp _, fun _ => jj.p11 (by omega), fun _ => rfl, ?_, fun _ => ⟨p, rfl, hp, setRow_heap _ _ _ _ _ _ hbp⟩, ?_, jj.n23, jj.n24, jj.n34⟩
        · exact jj.b2.put (fun h => jj.n23 rfl rfl) _
        · exact jj.b4.put (fun h => (jj.n34 rfl h).symm) _
      · subst h; subst h'
        obtain rfl := h9 (by omega)
        obtain rfl := h10 (by omega)
        obtain ⟨p, hv, hp, hbp⟩ := jj.b4 rfl
        subst hv
        refine wpOp_store_row op80_14 p (row32 s.list) rfl rfl 61 _ hbp (info61 s) rfl (row32_one _) ⟨below_row jj.bel hp _, ?_⟩
        refine ih 5 true true true v2 v3 _ v11 v15 _ (by omega) (by simp) (by simp) (by simp) (by simp at hsum ⊢; omega) ⟨below_row jj.bel hp _, fun _ => jj.p11 (by omega), fun _ => jj.p15 (by omega), ?_, ?_, fun _ => ⟨p, rfl, hp, setRow_heap _ _ _ _ _ _ hbp⟩, jj.n23, jj.n24, jj.n34⟩
        · exact jj.b2.put (fun h => jj.n24 rfl rfl) _
        · exact jj.b3.put (fun h => jj.n34 rfl rfl) _
      · subst h
        have hbel := jj.bel.alloc jj.bel.size (.cells (row32 zero64) 122)
        have hold : ∀ k, k < w.heap.size → (w.alloc (.cells (row32 zero64) 122)).heap[k]? = w.heap[k]? := fun k hk => Below.heap_alloc _ _ _ hk
        refine wpOp_alloc op80_9 alloc122 ⟨hbel, ?_⟩
        rw [fr80_2]
        have hc2 : ¬ 3 ≤ c := fun h => by have := h9 h; cases this
        refine ih c true s10 s11 _ v3 v4 v11 v15 _ hc5 (by simp) h10 h11 (by simp at hsum ⊢; omega) ⟨hbel, jj.p11, jj.p15, fun _ => ⟨_, rfl, jj.bel.size, ?_⟩, jj.b3.keep hold, jj.b4.keep hold, fun _ h => (jj.b3.lt h).symm, fun _ h => (jj.b4.lt h).symm, jj.n34⟩
        rw [heap_alloc_new]; simp [hc2]
      · subst h
        have hbel := jj.bel.alloc jj.bel.size (.cells (row32 zero64) 122)
        have hold : ∀ k, k < w.heap.size → (w.alloc (.cells (row32 zero64) 122)).heap[k]? = w.heap[k]? := fun k hk => Below.heap_alloc _ _ _ hk
        refine wpOp_alloc op80_10 alloc122 ⟨hbel, ?_⟩
        rw [fr80_3]
        have hc2 : ¬ 4 ≤ c := fun h => by have := h10 h; cases this
        refine ih c s9 true s11 v2 _ v4 v11 v15 _ hc5 h9 (by simp) h11 (by simp at hsum ⊢; omega) ⟨hbel, jj.p11, jj.p15, jj.b2.keep hold, fun _ => ⟨_, rfl, jj.bel.size, ?_⟩, jj.b4.keep hold, fun h _ => jj.b2.lt h, jj.n24, fun _ h => (jj.b4.lt h).symm⟩
        rw [heap_alloc_new]; simp [hc2]
      · subst h
        have hbel := jj.bel.alloc jj.bel.size (.cells (row32 zero8) 61)
        have hold : ∀ k, k < w.heap.size → (w.alloc (.cells (row32 zero8) 61)).heap[k]? = w.heap[k]? := fun k hk => Below.heap_alloc _ _ _ hk
        refine wpOp_alloc op80_11 alloc61 ⟨hbel, ?_⟩
        rw [fr80_4]
        have hc2 : ¬ 5 ≤ c := fun h => by have := h11 h; cases this
        refine ih c s9 s10 true v2 v3 _ v11 v15 _ hc5 h9 h10 (by simp) (by simp at hsum ⊢; omega) ⟨hbel, jj.p11, jj.p15, jj.b2.keep hold, jj.b3.keep hold, fun _ => ⟨_, rfl, jj.bel.size, ?_⟩, jj.n23, fun h _ => jj.b2.lt h, fun h _ => jj.b3.lt h⟩
        rw [heap_alloc_new]; simp [hc2]

end Go.Proofs.Ytafakjdolnigaaa
