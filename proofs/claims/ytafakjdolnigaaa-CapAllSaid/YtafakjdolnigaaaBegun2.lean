/- cofferlaw2.begun answers true. -/
import Derived.Lib.SlBytesConst
import Derived.Deep.QuietTactic
import Derived.Test.YtafakjdolnigaaaOf
import Derived.Test.YtafakjdolnigaaaEql
import Derived.Test.YtafakjdolnigaaaMixed
namespace Go.Proofs.Ytafakjdolnigaaa
open Go.RowKit
set_option linter.unusedVariables false

theorem abc0 : (digest [97, 98, 99])[0]?.getD 0 = 0xba := by
  have h := congrArg (fun l => l[0]?) digest_abc
  simp only [List.getElem?_take] at h
  simpa using congrArg (fun o => o.getD 0) h
theorem abc1 : (digest [97, 98, 99])[1]?.getD 0 = 0x78 := by
  have h := congrArg (fun l => l[1]?) digest_abc
  simp only [List.getElem?_take] at h
  simpa using congrArg (fun o => o.getD 0) h

attribute [go_sem] digest_length

/-- '[]byte("..")' of a constant: the row that was just laid is marked. -/
@[go_sem] theorem conv_const (w : World) (C : Array Value) (n c k : Nat) (hk : k = w.heap.size) :
    (convert 29 29 (.slice (some ⟨k, 0, none⟩) n c)).run Try.prog (w.alloc (.cells C 5)) = .ok (.slice (some ⟨k, 0, none⟩) n c) (w.alloc (.cells C 5 (C.size, C.size + 1))) := by
  subst hk
  exact Lib.run_convert_bytes_const (P := Try.prog) w 29 5 C n c Try.underlying29 Try.underlying5

theorem maxLen_small (n : Nat) (h : n ≤ 9223372036854775807) : n ≤ maxLen := h

set_option maxRecDepth 100000 in
set_option maxHeartbeats 1000000 in
theorem begun2 (w : World) : Calls Try.prog 25 #[] w fun e w' => e = .returned (.bool true) ∧ Below w.heap.size w w' := by
  have hbel : ∀ A B C : Obj, Below w.heap.size w (((w.alloc A).alloc B).alloc C) := fun A B C => below_seq (below_seq (below_one _ _) (below_one _ _)) (below_one _ _)
  have b1 := bytes_row w [97] #[.int .u8 97] (1, 2) rfl 1 rfl (maxLen_small _ (by omega)) _ rfl
  have b2 := bytes_row (w.alloc (.cells #[.int .u8 97] 5 (1, 2))) [98, 99] #[.int .u8 98, .int .u8 99] (2, 3) rfl 2 rfl (maxLen_small _ (by omega)) (w.heap.size + 1) (by simp)
  have ps := parts_two (b1.below (below_one _ _)) b2 (w.heap.size + 1 + 1) (by simp)
  clear b1 b2
  go_enter Try.func25, Try.ntmps25
  go_upto_region 2 with (first
    | (refine wpList_allocRow 31 _ alloc31 rfl rfl ?_)
    | (go_at_call 31; refine (of_any ps (by decide)).mono ?_; rintro e w1 ⟨rfl, hb1⟩)
    | (refine wpList_store_row rfl 31 _ _ rfl _ _ rfl rfl 31 _ (heap_alloc_new _ _) (info31 _ rfl) rfl (row8_one _) ?_))
  have hx := setRow_heap _ _ _ (row8 (digest [97, 98, 99])) _ _ (heap_alloc_new w1 (.cells (row8 zero32) 31))
  have hb2 := (hbel _ _ _).trans (hb1.mono (hbel _ _ _).size)
  have hb3 := below_row (hb2.trans ((below_one w1 (.cells (row8 zero32) 31)).mono hb2.size)) (g := w1.heap.size) hb2.size (row8 (digest [97, 98, 99]))
  have hge := hb2.size
  generalize w1.heap.size = bx at *
  clear hb1 hb2 ps hbel
  refine abstract_world (fun W => W.heap[bx]? = some (.cells (row8 (digest [97, 98, 99])) 31 (0, 0)) ∧ Below w.heap.size w W) ⟨hx, hb3⟩ ?_
  clear hx hb3
  rintro w2 ⟨hx, hb⟩
  have Hx := Lib.hid hx
  have Hb := Lib.hid hb
  clear hx hb
  go_wp2_with (first
    | (go_at_call 28; refine (new_any _).mono ?_; rintro e w3 ⟨h, rfl, hh, hlt, hbel⟩)
    | (go_at_call 29; refine (write_any h [] [97, 98, 99] _ 3 3 _ (hh.alloc _) (bytes_row w3 [97, 98, 99] _ _ rfl 3 rfl (maxLen_small _ (by omega)) _ rfl) ?_ (by decide)).mono ?_; rotate_left; rintro e w4 ⟨rfl, hh4, hg4⟩))
  · have hw4 : Below w2.heap.size w2 w4 := below_of_grown (below_seq hbel (below_one _ _)) (by simpa using hg4) hlt
    have hx4 : w4.heap[bx]? = some (.cells (row8 (digest [97, 98, 99])) 31 (0, 0)) := (hw4.block _ (heap_lt Hx.out)).trans Hx.out
    have hb4 := Hb.out.trans (hw4.mono Hb.out.size)
    generalize hD : digest [97, 98, 99] = D at *
    have hD0 : D[0]?.getD 0 = 0xba := by rw [← hD]; exact abc0
    have hD1 : D[1]?.getD 0 = 0x78 := by rw [← hD]; exact abc1
    have hDl : D.length = 32 := by rw [← hD]; rfl
    have c0 : ∀ x : Ext w4, x.w.cell? ⟨bx, 0, none⟩ = some (W8 0xba) := fun x => x.cell (cell_row hx4 (by rw [row8_at D 0 (by omega), hD0]))
    have c1 : ∀ x : Ext w4, x.w.cell? ⟨bx, 1, none⟩ = some (W8 0x78) := fun x => x.cell (cell_row hx4 (by rw [row8_at D 1 (by omega), hD1]))
    have cx : ∀ x : Ext w4, ∀ j, j < (row8 D).size → x.w.cell? ⟨bx, 0 + j, none⟩ = (row8 D)[j]? := fun x j hj => by
      rw [row8_size] at hj
      rw [row8_at D j hj, Nat.zero_add]
      exact x.cell (cell_row hx4 (row8_at D j hj))
    have csum : ∀ x : Ext w4, Calls Try.prog 32 #[.pointer (some ⟨h, 0, none⟩)] x.w fun e w' => e = .returned (.agg (row8 D)) ∧ Below x.w.heap.size x.w w' := fun x => by
      have := sum_at (hh4.below x.h) (by decide)
      rwa [List.nil_append, hD] at this
    have clen : ∀ x : Ext w4, Calls Try.prog 33 #[.pointer (some ⟨h, 0, none⟩)] x.w fun e w' => e = .returned (.int .u64 3) ∧ x.w = w' := fun x => len_at (hh4.below x.h)
    have Hcx := Lib.hid cx
    have Hsum := Lib.hid csum
    have Hlen := Lib.hid clen
    have HD := Lib.hid hD
    have HD0 := Lib.hid hD0
    have HD1 := Lib.hid hD1
    have Hx4 := Lib.hid hx4
    have Hb4 := Lib.hid hb4
    clear cx csum clen hD hD0 hD1 hx4 hb4 hw4 hh4 hg4 hbel hh hlt hge Hb Hx
    refine region_q (fun w' => ∃ x : Ext w4, w' = x.w) (by kernel_rfl) (by kernel_rfl) (ext_draw w4) ?_
    repeat (first
      | (refine q_run rfl (.agg (row8 D)) (by rintro _ ⟨x, rfl⟩; exact exec_load_sub bx 0 31 (row8 D) _ rfl rfl (Hcx.out x) Try.underlying31 rfl (info31 D hDl)) ?_)
      | (refine wpQuiet_step (fun K hK => ?_); go_simp; (try go_bits); first | (refine hK _ ?_; clear hK K) | (refine ⟨_, fun x => ext_calls x (Hsum.out x), hK _ ?_⟩; clear hK K) | (refine ⟨_, fun x => ext_same x (Hlen.out x), hK _ ?_⟩; clear hK K)))
    refine wpQuiet_nil ?_
    rintro _ ⟨x, rfl⟩
    go_wp2
    go_ret
    exact ⟨rfl, Hb4.out.trans (x.h.mono Hb4.out.size)⟩
  · intro a ha _
    obtain rfl := Option.some.inj ha
    exact Nat.ne_of_gt hh.lt
end Go.Proofs.Ytafakjdolnigaaa
