/- '==' of two arrays of 32 bytes. -/
import Derived.Test.YtafakjdolnigaaaProg
import Derived.KernelRfl
import Derived.Test.YtafakjdolnigaaaMem
namespace Go.Proofs.Ytafakjdolnigaaa
open Go.RowKit
set_option linter.unusedVariables false

theorem run_part5 (l : List UInt8) (i : Nat) (h : i < l.length) (w : World) : (part 5 (row8 l) i).run Try.prog w = .ok (W8 (l[i]?.getD 0)) w := by
  have ha : (isAgg 5).run Try.prog w = .ok false w := by kernel_rfl
  simp [part, ha, row8_at l i h]

theorem run_eqI8 (d : Nat) (a b : UInt8) (w : World) : (Op.equalIn (d + 1) 5 (W8 a) (W8 b)).run Try.prog w = .ok (a == b) w := by
  unfold W8
  rw [run_equalIn_int w d 5 .u8 .u8 _ _ (by kernel_rfl)]
  congr 1
  rw [Bool.eq_iff_iff]
  simp [← UInt8.toNat_inj]
  omega

theorem eq_loop (d : Nat) (a b : List UInt8) (w : World) (ha : a.length = 32) (hb : b.length = 32) : ∀ (m i : Nat), i + m = 32 →
    Sem.run Try.prog (forIn (m := Sem) (List.range' i m) ((none, ()) : Option Bool × Unit) fun k _ => do
      let x ← part 5 (row8 a) (k * 1)
      let y ← part 5 (row8 b) (k * 1)
      let r ← Op.equalIn (d + 1) 5 x y
      if (!r) = true then pure (ForInStep.done (some false, ())) else pure (ForInStep.yield (none, ()))) w =
    .ok (if a.drop i = b.drop i then (none, ()) else (some false, ())) w := by
  intro m
  induction m with
  | zero =>
    intro i hi
    have e1 : a.drop i = [] := List.drop_eq_nil_of_le (by omega)
    have e2 : b.drop i = [] := List.drop_eq_nil_of_le (by omega)
    simp [e1, e2]
  | succ m ih =>
    intro i hi
    have h1 : i < a.length := by omega
    have h2 : i < b.length := by omega
    rw [List.range'_succ, List.forIn_cons]
    simp only [Nat.mul_one, Sem.run_bind, run_part5 a i h1, run_part5 b i h2, Result.andThen_ok, run_eqI8]
    rw [List.drop_eq_getElem_cons h1, List.drop_eq_getElem_cons h2]
    simp only [List.getElem?_eq_getElem h1, List.getElem?_eq_getElem h2, Option.getD_some, List.cons.injEq]
    by_cases he : a[i] = b[i]
    · have hbt : (a[i] == b[i]) = true := by simp [he]
      simp only [hbt, Bool.not_true, Bool.false_eq_true, if_false, Sem.run_pure, Result.andThen_ok]
      simp only [he, true_and]
      have := ih (i + 1) (by omega)
      simpa only [Nat.mul_one] using this
    · have hbf : (a[i] == b[i]) = false := by simp [he]
      simp only [hbf, Bool.not_false, if_true, Sem.run_pure, Result.andThen_ok]
      simp only [he, false_and, if_false]

theorem run_equal_id (d : Nat) (a b : List UInt8) (ha : a.length = 32) (hb : b.length = 32) (w : World) : (Op.equalIn (d + 2) 31 (.agg (row8 a)) (.agg (row8 b))).run Try.prog w = .ok (a == b) w := by
  have hs : (sizeOf 5).run Try.prog w = .ok 1 w := by kernel_rfl
  have hu : (underlying 31).run Try.prog w = .ok (.array 32 5) w := by kernel_rfl
  have := eq_loop d a b w ha hb 32 0 rfl
  simp only [List.drop_zero] at this
  rw [Op.equalIn]
  simp only [Sem.run_bind, hu, hs, Result.andThen_ok]
  rw [Std.Legacy.Range.forIn_eq_forIn_range']
  have hr : Std.Legacy.Range.size [:32] = 32 := rfl
  simp only [hr]
  rw [this]
  by_cases h : a = b
  · simp [h]
  · simp [h]

/-- The two ways a walk meets it. -/
theorem run_eql_id (a b : List UInt8) (ha : a.length = 32) (hb : b.length = 32) (w : World) : (binOp .eql 31 (.agg (row8 a)) (.agg (row8 b))).run Try.prog w = .ok (.bool (a == b)) w := by
  rw [run_eql_struct w 31 (row8 a) (row8 b), run_equal_id 9998 a b ha hb w]; rfl
theorem run_neq_id (a b : List UInt8) (ha : a.length = 32) (hb : b.length = 32) (w : World) : (binOp .neq 31 (.agg (row8 a)) (.agg (row8 b))).run Try.prog w = .ok (.bool (!(a == b))) w := by
  rw [run_neq_struct w 31 (row8 a) (row8 b), run_equal_id 9998 a b ha hb w]; rfl
theorem eqGuard_id (op : BinOp) (x y : Operand) (a b : Array Value) (w : World) : (eqGuard op 31 x y (.agg a) (.agg b)).run Try.prog w = .ok () w := run_eqGuard_agg w op 31 x y a b (by kernel_rfl)
@[go_sem high] theorem run_equal_id' (a b : List UInt8) (ha : a.length = 32) (hb : b.length = 32) (w : World) : (Op.equalIn 10000 31 (.agg (row8 a)) (.agg (row8 b))).run Try.prog w = .ok (a == b) w := run_equal_id 9998 a b ha hb w
attribute [go_sem high] run_eql_id run_neq_id eqGuard_id
end Go.Proofs.Ytafakjdolnigaaa
