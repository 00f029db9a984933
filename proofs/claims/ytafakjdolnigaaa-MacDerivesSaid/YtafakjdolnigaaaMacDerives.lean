/- The walk of cofferlaw3.MacDerives. -/
import Derived.Test.YtafakjdolnigaaaBegun3
import Derived.Test.YtafakjdolnigaaaMacKeys
import Derived.BigQuiet
import Derived.Deep.QuietTactic
namespace Go.Proofs.Ytafakjdolnigaaa
open Go.RowKit
set_option linter.unusedVariables false

theorem Below.drewN_self (n : Nat) (w : World) (B : Nat) : Below B w (w.drewN n) := ⟨rfl, rfl, rfl, Nat.le_refl _, fun _ _ => rfl⟩

set_option maxRecDepth 100000 in
set_option maxHeartbeats 4000000 in
theorem macDerives_walk64 (w : World) (key : List UInt8) (hk : key.length = 32) (label : ByteArray) (hlm : label.size ≤ 9223372036854775807) (n : UInt64) :
    Calls Try.prog 15 #[.agg (row8 key), .string label, W64 n] w fun e w' => e = .returned (.bool true) ∧ Below w.heap.size w w' := by
  obtain ⟨D, hD⟩ : ∃ D, D = macOf key [label.data.toList, be64 n] := ⟨_, rfl⟩
  have hDl : D.length = 32 := by rw [hD]; exact macOf_length _ _
  have HD := Lib.hid hD
  have HDl := Lib.hid hDl
  have Hk := Lib.hid hk
  clear hD hDl hk
  go_enter Try.func15, Try.ntmps15
  go_upto_region 3 with (first
    | (refine wpList_box rfl 31 _ rfl _ rfl ?_)
    | (go_at_call 51; refine (begun3 _).mono ?_; rintro e w1 ⟨rfl, h1⟩))
  have r0 : w1.heap[w.heap.size]? = some (.cells (row8 key) 31 (0, 0)) := (h1.block _ (by simp)).trans (heap_alloc_new _ _)
  have r1 : Below w.heap.size w w1 := below_seq (below_one _ _) h1
  clear h1
  have cx : ∀ x : Ext w1, ∀ j, j < (row8 key).size → x.w.cell? ⟨w.heap.size, 0 + j, none⟩ = (row8 key)[j]? := fun x j hj => by
    rw [row8_size] at hj
    rw [row8_at key j hj, Nat.zero_add]
    exact x.cell (cell_row r0 (row8_at key j hj))
  have Cx := Lib.hid cx
  have R1 := Lib.hid r1
  clear cx r0 r1
  by_cases hl : label.size ≤ 4096
  · have hd : decide ((4096 : Int) < (label.size : Int)) = false := by simp; omega
    have c60 : ∀ x : Ext w1, Calls Try.prog 60 #[.agg (row8 key), .string label, W64 n] x.w fun e w' => e = .returned (.agg (row8 D)) ∧ Below x.w.heap.size x.w w' := fun y => by
      rw [HD.out]; exact derive_any _ key Hk.out label (by omega) n
    have c61 : ∀ x : Ext w1, Calls Try.prog 61 #[.agg (row8 key), .string label, W64 n] x.w fun e w' => e = .returned (.agg (row8 D)) ∧ Below x.w.heap.size x.w w' := fun y => by
      rw [HD.out]; exact refDerive_any _ key Hk.out label hl n
    have C60 := Lib.hid c60
    have C61 := Lib.hid c61
    have hDl := HDl.out
    clear c60 c61
    refine region_q (fun w' => ∃ x : Ext w1, w' = x.w) (by kernel_rfl) (by kernel_rfl) (ext_draw w1) ?_
    repeat (first
      | (refine q_run (o := ⟨_, .load 31 (.tmp 3), _, _, _, _⟩) rfl (.agg (row8 key)) (by rintro _ ⟨x, rfl⟩; exact exec_load_sub w.heap.size 0 31 (row8 key) _ rfl rfl (Cx.out x) Try.underlying31 rfl (info31 key Hk.out)) ?_)
      | (refine wpQuiet_step (fun K hK => ?_); go_simp; first | (refine hK _ ?_; clear hK K) | (refine ⟨_, fun x => ext_calls x (C60.out x), hK _ ?_⟩; clear hK K) | (refine ⟨_, fun x => ext_calls x (C61.out x), hK _ ?_⟩; clear hK K)))
    refine wpQuiet_nil ?_
    rintro _ ⟨x, rfl⟩
    go_wp2
    go_ret
    exact ⟨rfl, below_seq R1.out x.h⟩
  · have hd : decide ((4096 : Int) < (label.size : Int)) = true := by simp; omega
    go_quiet (fail)
    go_wp2
    go_ret
    exact ⟨rfl, R1.out.trans (Below.drewN_self nq w1 _)⟩

theorem macDerives_walk {w : World} {key : List UInt8} (hk : key.length = 32) {label : ByteArray} (hl : label.size ≤ maxLen) {n : Int} (hn : (Lit.int .u64 n).wf = true) :
    Calls Try.prog 15 #[.agg (row8 key), .string label, .int .u64 n] w fun e w' => e = .returned (.bool true) ∧ Below w.heap.size w w' := by
  rw [word_ofInt hn]
  exact macDerives_walk64 w key hk label hl _
end Go.Proofs.Ytafakjdolnigaaa
