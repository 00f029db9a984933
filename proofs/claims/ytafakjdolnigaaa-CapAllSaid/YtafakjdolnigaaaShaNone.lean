/- The walk of cofferlaw2.ShaNone, and of the hash's methods on nil and on a zero hash. -/
import Derived.Test.YtafakjdolnigaaaBegun2
namespace Go.Proofs.Ytafakjdolnigaaa
open Go.RowKit
set_option linter.unusedVariables false

@[go_sem] theorem zero32_length : zero32.length = 32 := by unfold zero32; exact List.length_replicate
/-- The same behind a guard that says yes. -/
theorem wpList_buildVg {P : Program} {ops : Array Oper} {rest : List Oper} {o : Oper} {a : Act} {w : World} {Q : Exit → Act → World → Prop} (v : Value) (t : TypeId) (parts : Array (Nat × Operand)) (hgd : Region.wanted o (yielded ops a.tmps) = true) (ho : o.op = .build t parts)
    (hb : (Instr.build t (parts.map fun (i, x) => (i, a.eval x))).run P w = .ok v w)
    (h : wpList P ops Q rest (a.put o.dst v) w) : wpList P ops Q (o :: rest) a w :=
  BigFrame.wpList_want hgd fun K hK => by
    unfold Oper.wp execOp
    simp only [ho, Sem.run_bind, hb, Result.andThen_ok]
    exact hK _ _ h

set_option maxHeartbeats 400000 in
theorem write_nil (r : Option Addr) (len cap : Nat) (w : World) : Calls Try.prog 29 #[.pointer none, .slice r len cap] w fun e w' => e = .returned (.tuple #[]) ∧ w = w' := by
  go_enter Try.func29, Try.ntmps29
  go_wp2_with (go_at_call 79; refine (none_nil _).mono ?_; rintro e w' ⟨rfl, rfl⟩)
  refine bodyPost_ret (results_none rfl _ _ _) rfl ?_
  exact ⟨rfl, rfl⟩
set_option maxHeartbeats 400000 in
theorem write_off (b : Nat) (r : Option Addr) (len cap : Nat) (w : World) (h : w.cell? ⟨b, 0, none⟩ = some (.bool false)) : Calls Try.prog 29 #[.pointer (some ⟨b, 0, none⟩), .slice r len cap] w fun e w' => e = .returned (.tuple #[]) ∧ w = w' := by
  go_enter Try.func29, Try.ntmps29
  go_wp2_with (go_at_call 79; refine (none_on b false _ h).mono ?_; rintro e w' ⟨rfl, rfl⟩)
  refine bodyPost_ret (results_none rfl _ _ _) rfl ?_
  exact ⟨rfl, rfl⟩
set_option maxHeartbeats 400000 in
theorem len_nil (w : World) : Calls Try.prog 33 #[.pointer none] w fun e w' => e = .returned (.int .u64 0) ∧ w = w' := by
  go_enter Try.func33, Try.ntmps33
  go_wp2_with (go_at_call 79; refine (none_nil _).mono ?_; rintro e w' ⟨rfl, rfl⟩)
  go_ret
  exact ⟨rfl, rfl⟩
set_option maxHeartbeats 400000 in
theorem len_off (b : Nat) (w : World) (h : w.cell? ⟨b, 0, none⟩ = some (.bool false)) : Calls Try.prog 33 #[.pointer (some ⟨b, 0, none⟩)] w fun e w' => e = .returned (.int .u64 0) ∧ w = w' := by
  go_enter Try.func33, Try.ntmps33
  go_wp2_with (go_at_call 79; refine (none_on b false _ h).mono ?_; rintro e w' ⟨rfl, rfl⟩)
  go_ret
  exact ⟨rfl, rfl⟩
set_option maxHeartbeats 400000 in
theorem copy_nil (w : World) : Calls Try.prog 40 #[.pointer none] w fun e w' => e = .returned (.pointer none) ∧ w = w' := by
  go_enter Try.func40, Try.ntmps40
  go_wp2_with (go_at_call 79; refine (none_nil _).mono ?_; rintro e w' ⟨rfl, rfl⟩)
  go_ret
  exact ⟨rfl, rfl⟩
set_option maxHeartbeats 400000 in
theorem copy_off (b : Nat) (w : World) (h : w.cell? ⟨b, 0, none⟩ = some (.bool false)) : Calls Try.prog 40 #[.pointer (some ⟨b, 0, none⟩)] w fun e w' => e = .returned (.pointer none) ∧ w = w' := by
  go_enter Try.func40, Try.ntmps40
  go_wp2_with (go_at_call 79; refine (none_on b false _ h).mono ?_; rintro e w' ⟨rfl, rfl⟩)
  go_ret
  exact ⟨rfl, rfl⟩
set_option maxRecDepth 100000 in
set_option maxHeartbeats 400000 in
theorem sum_nil (w : World) : Calls Try.prog 32 #[.pointer none] w fun e w' => e = .returned (.agg (row8 zero32)) ∧ Below w.heap.size w w' := by
  go_enter Try.func32, Try.ntmps32
  go_wp2_with (first
    | (go_at_call 79; refine (none_nil _).mono ?_; rintro e w' ⟨rfl, rfl⟩)
    | (refine wpList_allocRow 31 _ alloc31 rfl rfl ?_)
    | (refine wpList_load_row rfl 31 _ rfl _ rfl 31 _ _ _ (heap_alloc2_new _ _ _) Try.underlying31 rfl (info31 _ rfl) ?_)
    | (refine wpList_store_row rfl 31 _ _ rfl _ _ rfl rfl 31 _ (heap_alloc2_old _ _ _) (info31 _ rfl) rfl (row8_one _) ?_))
  refine bodyPost_ret (results_cell_row rfl _ _ _ 31 _ _ _ rfl (setRow_heap _ _ _ _ _ _ (heap_alloc2_old _ _ _)) Try.underlying31 rfl (info31 _ rfl)) rfl ⟨rfl, below_row (below_seq (below_one _ _) (below_one _ _)) (Nat.le_refl _) _⟩
set_option maxRecDepth 100000 in
set_option maxHeartbeats 400000 in
theorem sum_off (b : Nat) (w : World) (h : w.cell? ⟨b, 0, none⟩ = some (.bool false)) : Calls Try.prog 32 #[.pointer (some ⟨b, 0, none⟩)] w fun e w' => e = .returned (.agg (row8 zero32)) ∧ Below w.heap.size w w' := by
  have hlt := block_lt_of_cell h
  have h2 : ∀ A B : Obj, ((w.alloc A).alloc B).cell? ⟨b, 0, none⟩ = some (.bool false) := fun A B => by
    rw [(below_seq (below_one w A) (below_one _ B)).cell (p := ⟨b, 0, none⟩) hlt]; exact h
  go_enter Try.func32, Try.ntmps32
  go_wp2_with (first
    | (go_at_call 79; refine (none_on b false _ (h2 _ _)).mono ?_; rintro e w' ⟨rfl, rfl⟩)
    | (refine wpList_allocRow 31 _ alloc31 rfl rfl ?_)
    | (refine wpList_load_row rfl 31 _ rfl _ rfl 31 _ _ _ (heap_alloc2_new _ _ _) Try.underlying31 rfl (info31 _ rfl) ?_)
    | (refine wpList_store_row rfl 31 _ _ rfl _ _ rfl rfl 31 _ (heap_alloc2_old _ _ _) (info31 _ rfl) rfl (row8_one _) ?_))
  refine bodyPost_ret (results_cell_row rfl _ _ _ 31 _ _ _ rfl (setRow_heap _ _ _ _ _ _ (heap_alloc2_old _ _ _)) Try.underlying31 rfl (info31 _ rfl)) rfl ⟨rfl, below_row (below_seq (below_one _ _) (below_one _ _)) (Nat.le_refl _) _⟩

set_option maxRecDepth 100000 in
set_option maxHeartbeats 1000000 in
theorem shaNone_walk (w : World) : Calls Try.prog 9 #[] w fun e w' => e = .returned (.bool true) ∧ Below w.heap.size w w' := by
  go_enter Try.func9, Try.ntmps9
  go_upto_region 5 with (first
    | (refine wpList_buildV (.agg zeroHash) 64 _ rfl rfl (by kernel_rfl) ?_)
    | (refine wpList_box rfl 64 _ rfl _ rfl ?_)
    | (go_at_call 29; (with_reducible refine (write_nil _ _ _ _).mono ?_); rintro e w' ⟨rfl, rfl⟩)
    | (go_at_call 29; (with_reducible refine (write_off w.heap.size _ _ _ _ ?_).mono ?_); rotate_left; rintro e w' ⟨rfl, rfl⟩))
  · refine abstract_world (fun W => Below w.heap.size w W ∧ W.cell? ⟨w.heap.size, 0, none⟩ = some (.bool false) ∧ w.heap.size < W.heap.size) ⟨below_seq (below_seq (below_one _ _) (below_one _ _)) (below_one _ _), ?_, by simp; omega⟩ ?_
    · rw [cell_of_row _ _ 0 zeroHash 64 (0, 0) (by rw [Below.heap_alloc _ _ _ (by simp; omega), heap_alloc2_old])]; rfl
    generalize hzz : w.heap.size = z
    rintro w0 ⟨hb0, hz0, hlt0⟩
    have cz : ∀ w', Below w0.heap.size w0 w' → w'.cell? ⟨z, 0, none⟩ = some (.bool false) := fun w' h => by rw [h.cell (p := ⟨z, 0, none⟩) hlt0]; exact hz0
    have Cz := Lib.hid cz
    clear cz hz0
    go_wp2_with (refine wpList_buildVg (.agg (row8 zero32)) 31 _ rfl rfl (by kernel_rfl) ?_)
    refine (begun2 _).mono ?_
    rintro e w1 ⟨rfl, h1⟩
    go_wp2_with (refine wpList_buildVg (.agg (row8 zero32)) 31 _ rfl rfl (by kernel_rfl) ?_)
    refine (sum_nil _).mono ?_
    rintro e w2 ⟨rfl, h2⟩
    have k2 := below_seq h1 h2
    clear h1 h2
    go_wp2_with (refine wpList_buildVg (.agg (row8 zero32)) 31 _ rfl rfl (by kernel_rfl) ?_)
    refine (sum_off z _ (Cz.out _ k2)).mono ?_
    rintro e w3 ⟨rfl, h3⟩
    have k3 := below_seq k2 h3
    clear k2 h3
    go_wp2_with (refine wpList_buildVg (.agg (row8 zero32)) 31 _ rfl rfl (by kernel_rfl) ?_)
    refine (len_nil _).mono ?_
    rintro e w' ⟨rfl, rfl⟩
    go_wp2_with fail
    refine (len_off z _ (Cz.out _ k3)).mono ?_
    rintro e w' ⟨rfl, rfl⟩
    go_wp2_with fail
    refine (copy_nil _).mono ?_
    rintro e w' ⟨rfl, rfl⟩
    go_wp2_with fail
    refine (copy_off z _ (Cz.out _ k3)).mono ?_
    rintro e w' ⟨rfl, rfl⟩
    go_wp2_with fail
    go_ret
    subst hzz
    exact ⟨rfl, hb0.trans (k3.mono (Nat.le_of_lt hlt0))⟩
  · rw [cell_of_row _ _ 0 zeroHash 64 (0, 0) (by rw [Below.heap_alloc _ _ _ (by simp; omega), heap_alloc2_old])]; rfl
end Go.Proofs.Ytafakjdolnigaaa
