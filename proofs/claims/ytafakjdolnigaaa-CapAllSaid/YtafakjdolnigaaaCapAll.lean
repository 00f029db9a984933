/- The walk of cofferlaw14.CapAll. -/
import Derived.Deep.DeepCutAuto
import Derived.Test.YtafakjdolnigaaaCapAllA
namespace Go.Proofs.Ytafakjdolnigaaa
open Go.RowKit
set_option linter.unusedVariables false

section
variable {P : Program} {ops : Array Oper} {C : World → Prop}
/-- A quiet call. -/
theorem q_call {o : Oper} {rest : List Oper} {a : Act} {Q : Act → Prop} (hw : Region.wanted o (yielded ops a.tmps) = true) (f : FuncId) (args : Array Value) (v : Value) (hv : ∀ w', C w' → (execOp a.eval o).run P w' = .ok (.enter f args) w')
    (hc : ∀ w', C w' → Calls P f args w' fun e w'' => e = .returned v ∧ C w'') (h : wpQuiet P ops C Q rest (a.put o.dst v)) : wpQuiet P ops C Q (o :: rest) a := by
  unfold wpQuiet
  rw [if_pos hw]
  exact ⟨v, fun w' hC => by unfold Oper.quietAt; rw [hv w' hC]; exact ⟨rfl, hc w' hC⟩, h⟩
end
theorem q_load51 {ops : Array Oper} {C : World → Prop} {o : Oper} {rest : List Oper} {a : Act} {Q : Act → Prop} (hw : Region.wanted o (yielded ops a.tmps) = true) (x : Operand) (ho : o.op = .load 51 x) (g : Nat) (hx : a.eval x = .pointer (some ⟨g, 0, none⟩)) (t : Tok) (l : Value) (ht : t.tag.length = 32)
    (hg : ∀ w', C w' → w'.heap[g]? = some (.cells (tokRow t l) 51 (0, 0))) (h : wpQuiet Try.prog ops C Q rest (a.put o.dst (.agg (tokRow t l)))) : wpQuiet Try.prog ops C Q (o :: rest) a :=
  q_run hw _ (fun w' hC => exec_load_sub g 0 51 _ _ ho hx (fun j hj => by rw [Nat.zero_add]; exact (cell_of_row w' g j _ _ _ (hg w' hC))) Try.underlying51 rfl (info51 t l ht)) h
theorem q_load31 {ops : Array Oper} {C : World → Prop} {o : Oper} {rest : List Oper} {a : Act} {Q : Act → Prop} (hw : Region.wanted o (yielded ops a.tmps) = true) (x : Operand) (ho : o.op = .load 31 x) (g : Nat) (hx : a.eval x = .pointer (some ⟨g, 0, none⟩)) (l : List UInt8) (hl : l.length = 32)
    (hg : ∀ w', C w' → w'.heap[g]? = some (.cells (row8 l) 31 (0, 0))) (h : wpQuiet Try.prog ops C Q rest (a.put o.dst (.agg (row8 l)))) : wpQuiet Try.prog ops C Q (o :: rest) a :=
  q_run hw _ (fun w' hC => exec_load_sub g 0 31 _ _ ho hx (fun j hj => by rw [Nat.zero_add]; exact (cell_of_row w' g j _ _ _ (hg w' hC))) Try.underlying31 rfl (info31 l hl)) h

theorem ownC_cavs {w : World} {base : Nat} {r : Option Addr} {n c : Nat} {cs : List (UInt8 × Int)} (hn : cs.length = n) (h : OwnC w base (.slice r n c) cs) : CavsAt w r n c cs := by
  obtain ⟨r', c', hv, hc, _⟩ := h.at_len n hn
  injection hv with h1 _ h3
  subst h1 h3
  exact hc
/-- A row of caveats of one's own, whatever stands in it. -/
def RowC (w : World) (base : Nat) (r : Option Addr) (n c : Nat) : Prop := 0 < n → ∃ (b : Nat) (cur : Array Value), r = some ⟨b, 0, none⟩ ∧ base ≤ b ∧ w.heap[b]? = some (.cells cur 87 (0, 0)) ∧ cur.size = c * 2 ∧ n ≤ c ∧ c ≤ maxLen
theorem rowC_own {w : World} {base : Nat} {r : Option Addr} {n c : Nat} {cs : List (UInt8 × Int)} (h : OwnC w base (.slice r n c) cs) : RowC w base r n c := by
  obtain ⟨⟨hl, ⟨h0, h1⟩ | ⟨g, cap, cur, hv, hb, hg, hc, hm, hs, ht⟩⟩, hwf⟩ := h
  · intro hn
    injection h0 with e1 e2 e3
    omega
  · intro hn
    injection hv with e1 e2 e3
    subst e1 e2 e3
    exact ⟨g, cur, rfl, hb, hg, hs, hc, hm⟩
theorem wpList_load87_G {ops : Array Oper} {rest : List Oper} {o : Oper} {a : Act} {w : World} {Q : Exit → Act → World → Prop} (hgd : Region.wanted o (yielded ops a.tmps) = true) (x : Operand) (ho : o.op = .load 87 x) (g off : Nat) (hx : a.eval x = .pointer (some ⟨g, off, none⟩))
    (y : UInt8) (z : Int) (h0 : w.cell? ⟨g, off, none⟩ = some (W8 y)) (h1 : w.cell? ⟨g, off + 1, none⟩ = some (.int .i64 z)) (h : wpList Try.prog ops Q rest (a.put o.dst (.agg (cavRow y z))) w) : wpList Try.prog ops Q (o :: rest) a w := by
  have hr := exec_load_sub (P := Try.prog) (a := a) (o := o) (w := w) g off 87 (cavRow y z) _ ho hx (fun j hj => by
    have hj' : j = 0 ∨ j = 1 := by simp [cavRow] at hj; omega
    rcases hj' with rfl | rfl
    · exact h0
    · exact h1) Try.underlying87 rfl (info87 y z)
  exact BigFrame.wpList_want hgd fun K hK => by
    unfold Oper.wp
    rw [hr]
    exact hK _ _ h
theorem twin_cavs {w : World} {g : Nat} {cs : List (UInt8 × Int)} {n : Nat} (hn : cs.length = n) (h : w.heap[g]? = some (.cells (twinRow cs) 87 (0, 0))) (hl : n ≤ 64) (hwf : ∀ c ∈ cs, (Lit.int .i64 c.2).wf = true) : CavsAt w (some ⟨g, 0, none⟩) n (n + 2) cs := by
  refine ⟨hn, by omega, by unfold maxLen; omega, fun h0 => ⟨g, 0, rfl, fun i hi => ?_⟩, (fun h => by cases h), hwf⟩
  obtain ⟨e1, e2⟩ := cavCells_at (cs ++ [(0, 0), (0, 0)]) i (by simp; omega)
  have e : (cs ++ [((0 : UInt8), (0 : Int)), (0, 0)])[i]? = cs[i]? := List.getElem?_append_left (by omega)
  rw [e] at e1 e2
  rw [Nat.zero_add]
  exact ⟨cell_row h (by simpa [twinRow] using e1), cell_row h (by simpa [twinRow] using e2)⟩
theorem twin_zero {w : World} {g : Nat} {cs : List (UInt8 × Int)} {n : Nat} (hn : cs.length = n) (h : w.heap[g]? = some (.cells (twinRow cs) 87 (0, 0))) : w.cell? ⟨g, n * 2, none⟩ = some (W8 0) ∧ w.cell? ⟨g, n * 2 + 1, none⟩ = some (.int .i64 0) := by
  obtain ⟨e1, e2⟩ := cavCells_at (cs ++ [(0, 0), (0, 0)]) n (by simp; omega)
  have e : (cs ++ [((0 : UInt8), (0 : Int)), (0, 0)])[n]? = some (0, 0) := by rw [List.getElem?_append_right (by omega), hn, Nat.sub_self]; rfl
  rw [e] at e1 e2
  exact ⟨cell_row h (by simpa [twinRow] using e1), cell_row h (by simpa [twinRow] using e2)⟩

set_option maxRecDepth 100000 in
set_option maxHeartbeats 32000000 in
theorem capAll_walk {w : World} {key : List UInt8} (hk : key.length = 32) {t : Tok} (ht : t.Ok) {r : Option Addr} {len cap : Nat} {cs : List (UInt8 × Int)} (h : CavsAt w r len cap cs) {x : UInt8} {z : Int} (hz : (Lit.int .i64 z).wf = true) {n : Int} (hn : (Lit.int .i64 n).wf = true) :
    Calls Try.prog 20 #[.agg (row8 key), .agg (tokRow t (.slice r len cap)), .agg (cavRow x z), .int .i64 n] w fun e w' => e = .returned (.bool true) ∧ Below w.heap.size w w' := by
  obtain ⟨LG, hLG⟩ : ∃ L, L = (decide (t.tn.size ≤ 1024) && decide (len ≤ 64)) := ⟨_, rfl⟩
  have Kl := Lib.hid hk
  have Ok := Lib.hid ht
  have H := Lib.hid h
  have Hz := Lib.hid hz
  have HLG := Lib.hid hLG
  have hlen := h.hlen
  have Hlen := Lib.hid hlen
  clear hk ht h hz hn hLG hlen
  go_enter Try.func20, Try.ntmps20
  go_upto_region 1 with (first
    | (refine wpList_box rfl 31 _ rfl _ rfl ?_)
    | (refine wpList_box rfl 51 _ rfl (tokRow _ _) rfl ?_)
    | (refine wpList_box rfl 87 _ rfl (cavRow x z) rfl ?_))
  obtain ⟨⟨a0, a1, a2⟩, a3, a4⟩ := alloc3 w (.cells (row8 key) 31) (.cells (tokRow t (.slice r len cap)) 51) (.cells (cavRow x z) 87)
  refine abstract_world (fun W => W.heap[w.heap.size]? = some (.cells (row8 key) 31 (0, 0)) ∧ W.heap[w.heap.size + 1]? = some (.cells (tokRow t (.slice r len cap)) 51 (0, 0)) ∧ W.heap[w.heap.size + 2]? = some (.cells (cavRow x z) 87 (0, 0)) ∧ Below w.heap.size w W) ⟨a0, a1, a2, a3⟩ ?_
  clear a0 a1 a2 a3 a4
  rintro w1 ⟨r0, r1, r2, r3⟩
  have R0 := Lib.hid r0
  have R1 := Lib.hid r1
  have R2 := Lib.hid r2
  have R3 := Lib.hid r3
  clear r0 r1 r2 r3
  cases LG with
  | false =>
    go_wp2_with (first
      | (go_at_call 42; refine (light_any Ok.out.tag).mono ?_; rintro e w3 ⟨rfl, hb⟩; rw [← HLG.out]; have Hb3 := Lib.hid hb; clear hb)
      | (refine wpList_load_row rfl 51 _ rfl _ rfl 51 _ _ _ ((Hb2.out.block _ (heap_lt R1.out)).trans R1.out) Try.underlying51 rfl (info51 t _ Ok.out.tag) ?_)
      | (go_at_call 41; refine (begun14 _).mono ?_; rintro e w2 ⟨rfl, hb⟩; have Hb2 := Lib.hid hb; clear hb))
    go_ret
    exact ⟨rfl, below_seq R3.out (below_seq Hb2.out Hb3.out)⟩
  | true =>
    have hl64 : len ≤ 64 := by have := HLG.out; simp at this; exact this.2
    go_upto_region 6 with (first
      | (refine wpList_store_row rfl 51 _ _ rfl _ _ rfl rfl 51 _ (heap_alloc_new w4 _) (info51 _ _ Ok.out.tag) (by rw [tokRow_size _ _ zero32_length, tokRow_size _ _ Ok.out.tag]) (tokRow_one _ _ rfl) ?_)
      | (refine wpList_allocRow 51 _ alloc51 rfl rfl ?_)
      | (go_at_call 69; refine (twin14_any Ok.out (((H.out.below R3.out).below Hb2.out).below Hb3.out) hl64).mono ?_; rintro e w4 ⟨g, rfl, hg, hgs, hb⟩
         have Hg := Lib.hid hg
         have Hb4 := Lib.hid hb
         clear hb hg)
      | (refine wpList_load_row rfl 51 _ rfl _ rfl 51 _ _ _ (((below_seq Hb2.out Hb3.out).block _ (heap_lt R1.out)).trans R1.out) Try.underlying51 rfl (info51 t _ Ok.out.tag) ?_)
      | (go_at_call 42; refine (light_any Ok.out.tag).mono ?_; rintro e w3 ⟨rfl, hb⟩; rw [← HLG.out]; have Hb3 := Lib.hid hb; clear hb)
      | (refine wpList_load_row rfl 51 _ rfl _ rfl 51 _ _ _ ((Hb2.out.block _ (heap_lt R1.out)).trans R1.out) Try.underlying51 rfl (info51 t _ Ok.out.tag) ?_)
      | (go_at_call 41; refine (begun14 _).mono ?_; rintro e w2 ⟨rfl, hb⟩; have Hb2 := Lib.hid hb; clear hb))
    obtain ⟨g9, hg9⟩ : ∃ y, y = w4.heap.size := ⟨_, rfl⟩
    have b4 : Below w1.heap.size w1 w4 := below_seq Hb2.out (below_seq Hb3.out Hb4.out)
    have bN : Below w4.heap.size w4 ((w4.alloc (.cells (tokRow zeroTok (.slice none 0 0)) 51)).setRow w4.heap.size (tokRow t (.slice (some ⟨g, 0, none⟩) len (len + 2)))) := below_row (below_one _ _) (Nat.le_refl _) _
    have q0 := (bN.block _ (heap_lt ((b4.block _ (heap_lt R0.out)).trans R0.out))).trans ((b4.block _ (heap_lt R0.out)).trans R0.out)
    have q1 := (bN.block _ (heap_lt ((b4.block _ (heap_lt R1.out)).trans R1.out))).trans ((b4.block _ (heap_lt R1.out)).trans R1.out)
    have q2 := (bN.block _ (heap_lt ((b4.block _ (heap_lt R2.out)).trans R2.out))).trans ((b4.block _ (heap_lt R2.out)).trans R2.out)
    have q3 : ((w4.alloc (.cells (tokRow zeroTok (.slice none 0 0)) 51)).setRow w4.heap.size (tokRow t (.slice (some ⟨g, 0, none⟩) len (len + 2)))).heap[w4.heap.size]? = some (.cells (tokRow t (.slice (some ⟨g, 0, none⟩) len (len + 2))) 51 (0, 0)) := setRow_heap _ _ _ _ _ _ (heap_alloc_new _ _)
    have q4 := (bN.block _ (heap_lt Hg.out)).trans Hg.out
    have q5 : Below w.heap.size w ((w4.alloc (.cells (tokRow zeroTok (.slice none 0 0)) 51)).setRow w4.heap.size (tokRow t (.slice (some ⟨g, 0, none⟩) len (len + 2)))) := below_seq R3.out (below_seq b4 bN)
    refine abstract_world (fun W => W.heap[w.heap.size]? = some (.cells (row8 key) 31 (0, 0)) ∧ W.heap[w.heap.size + 1]? = some (.cells (tokRow t (.slice r len cap)) 51 (0, 0)) ∧ W.heap[w.heap.size + 2]? = some (.cells (cavRow x z) 87 (0, 0)) ∧ W.heap[w4.heap.size]? = some (.cells (tokRow t (.slice (some ⟨g, 0, none⟩) len (len + 2))) 51 (0, 0)) ∧ W.heap[g]? = some (.cells (twinRow cs) 87 (0, 0)) ∧ Below w.heap.size w W) ⟨q0, q1, q2, q3, q4, q5⟩ ?_
    rw [← hg9]
    clear q0 q1 q2 q3 q4 q5 bN b4 hg9 hgs Hg Hb2 Hb3 Hb4 R0 R1 R2 R3 HLG
    rintro w5 ⟨r0, r1, r2, r3, r4, r5⟩
    have R0 := Lib.hid r0
    have R1 := Lib.hid r1
    have R2 := Lib.hid r2
    have R3 := Lib.hid r3
    have R4 := Lib.hid r4
    have R5 := Lib.hid r5
    clear r0 r1 r2 r3 r4 r5
    have B0 : Hid (∀ w', Below w5.heap.size w5 w' → w'.heap[w.heap.size]? = some (.cells (row8 key) 31 (0, 0))) := Lib.hid fun w' hw => (hw.block _ (heap_lt R0.out)).trans R0.out
    have B1 : Hid (∀ w', Below w5.heap.size w5 w' → w'.heap[w.heap.size + 1]? = some (.cells (tokRow t (.slice r len cap)) 51 (0, 0))) := Lib.hid fun w' hw => (hw.block _ (heap_lt R1.out)).trans R1.out
    have B2 : Hid (∀ w', Below w5.heap.size w5 w' → w'.heap[w.heap.size + 2]? = some (.cells (cavRow x z) 87 (0, 0))) := Lib.hid fun w' hw => (hw.block _ (heap_lt R2.out)).trans R2.out
    have B3 : Hid (∀ w', Below w5.heap.size w5 w' → w'.heap[g9]? = some (.cells (tokRow t (.slice (some ⟨g, 0, none⟩) len (len + 2))) 51 (0, 0))) := Lib.hid fun w' hw => (hw.block _ (heap_lt R3.out)).trans R3.out
    have B4 : Hid (∀ w', Below w5.heap.size w5 w' → w'.heap[g]? = some (.cells (twinRow cs) 87 (0, 0))) := Lib.hid fun w' hw => (hw.block _ (heap_lt R4.out)).trans R4.out
    have BC : Hid (∀ w', Below w5.heap.size w5 w' → CavsAt w' r len cap cs) := Lib.hid fun w' hw => (H.out.below R5.out).below hw
    have BX : Hid (∀ w', Below w5.heap.size w5 w' → CavsAt w' (some ⟨g, 0, none⟩) len (len + 2) cs) := Lib.hid fun w' hw => twin_cavs Hlen.out (B4.out w' hw) hl64 H.out.hwf
    clear R0 R1 R2 R3 R4
    go_upto_region 7 with (fail)
    go_loopw [10] (fun v wr => ∃ (k : Nat), k ≤ 2 ∧ v = .int .i64 (k : Int) ∧ Below w5.heap.size w5 wr) (fun v _ => 2 - (intOf v).toNat)
    case atStart => exact ⟨0, by omega, rfl, Below.refl _ _⟩
    case round =>
      obtain ⟨k, hk, rfl, hb⟩ := hrel
      have Hb := Lib.hid hb
      clear hb
      by_cases hlt : k < 2
      · skip
        obtain ⟨A, hA⟩ : ∃ A, A = issT key t cs := ⟨_, rfl⟩
        obtain ⟨EI, hEI⟩ : ∃ A, A = issE t cs := ⟨_, rfl⟩
        obtain ⟨L, hL⟩ : ∃ A, A = lesT t cs (x, z) := ⟨_, rfl⟩
        obtain ⟨LC, hLC⟩ : ∃ A, A = lesC t cs (x, z) := ⟨_, rfl⟩
        obtain ⟨EL, hEL⟩ : ∃ A, A = lesE t cs (x, z) := ⟨_, rfl⟩
        obtain ⟨nL, hnL⟩ : ∃ A, LC.length = A := ⟨_, rfl⟩
        obtain ⟨EF, hEF⟩ : ∃ A, A = effOf t.r t.u cs := ⟨_, rfl⟩
        have okA : A.Ok := by rw [hA]; exact issT_ok Ok.out
        have okL : L.Ok := by rw [hL]; exact lesT_ok Ok.out
        have hn8 : nL ≤ 8 := by rw [← hnL, hLC]; exact lesC_len _ _ _
        have OkA := Lib.hid okA
        have OkL := Lib.hid okL
        have HnL := Lib.hid hnL
        have CI : Hid (∀ w', Below w5.heap.size w5 w' → Calls Try.prog 47 #[.agg (row8 key), .agg (tokRow t (.slice (some ⟨g, 0, none⟩) len (len + 2)))] w' fun e w'' => ∃ r' c', e = .returned (.tuple #[.agg (tokRow A (.slice r' 0 c')), .int .i64 EI]) ∧ CavsAt w'' r' 0 c' [] ∧ Below w'.heap.size w' w'') := Lib.hid fun w' hw => by rw [hA, hEI]; exact issue_all Kl.out Ok.out (BX.out w' hw)
        have CJ : Hid (∀ w', Below w5.heap.size w5 w' → Calls Try.prog 70 #[.agg (row8 key), .agg (tokRow t (.slice r len cap))] w' fun e w'' => ∃ r' c', e = .returned (.tuple #[.agg (tokRow A (.slice r' 0 c')), .int .i64 EI]) ∧ CavsAt w'' r' 0 c' [] ∧ Below w'.heap.size w' w'') := Lib.hid fun w' hw => by rw [hA, hEI]; exact refIssue_all Kl.out Ok.out (BC.out w' hw)
        have CL : Hid (∀ w', Below w5.heap.size w5 w' → Calls Try.prog 71 #[.agg (tokRow t (.slice (some ⟨g, 0, none⟩) len (len + 2))), .agg (cavRow x z)] w' fun e w'' => ∃ v, e = .returned (.tuple #[.agg (tokRow L v), .int .i64 EL]) ∧ OwnC w'' w'.heap.size v LC ∧ Below w'.heap.size w' w'') := Lib.hid fun w' hw => by rw [hL, hEL, hLC]; exact less_all Ok.out (BX.out w' hw) Hz.out
        have CM : Hid (∀ w', Below w5.heap.size w5 w' → Calls Try.prog 72 #[.agg (tokRow t (.slice r len cap)), .agg (cavRow x z)] w' fun e w'' => ∃ v, e = .returned (.tuple #[.agg (tokRow L v), .int .i64 EL]) ∧ OwnC w'' w'.heap.size v LC ∧ Below w'.heap.size w' w'') := Lib.hid fun w' hw => by rw [hL, hEL, hLC]; exact refLess_all Ok.out (BC.out w' hw) Hz.out
        have CE : Hid (∀ w', Below w5.heap.size w5 w' → Calls Try.prog 73 #[.agg (tokRow t (.slice (some ⟨g, 0, none⟩) len (len + 2)))] w' fun e w'' => e = .returned (.tuple #[W8 EF.1, .int .i64 EF.2]) ∧ Below w'.heap.size w' w'') := Lib.hid fun w' hw => by rw [hEF]; exact effect_any Ok.out (BX.out w' hw)
        have CF : Hid (∀ w', Below w5.heap.size w5 w' → Calls Try.prog 74 #[.agg (tokRow t (.slice r len cap))] w' fun e w'' => e = .returned (.tuple #[W8 EF.1, .int .i64 EF.2]) ∧ Below w'.heap.size w' w'') := Lib.hid fun w' hw => by rw [hEF]; exact refEffect_any Ok.out (BC.out w' hw)
        clear hA hEI hL hLC hEL hnL hEF okA okL
        go_upto_region 10 with (first
          | (refine wpList_store_row rfl 51 _ _ rfl _ _ rfl rfl 51 _ (heap_alloc_new wa _) (info51 _ _ OkA.out.tag) (by rw [tokRow_size _ _ zero32_length, tokRow_size _ _ OkA.out.tag]) (tokRow_one _ _ rfl) ?_)
          | (refine wpList_allocRow 51 _ alloc51 rfl rfl ?_)
          | (go_at_call 47; refine (CI.out _ Hb.out).mono ?_; rintro e wa ⟨ra, ca, rfl, hca, hba⟩; have Hca := Lib.hid hca; have Hba := Lib.hid (below_seq Hb.out hba); clear hca hba)
          | (refine wpList_load_row rfl 51 _ rfl _ rfl 51 _ _ _ (B3.out _ Hb.out) Try.underlying51 rfl (info51 t _ Ok.out.tag) ?_)
          | (refine wpList_load_row rfl 31 _ rfl _ rfl 31 _ _ _ (B0.out _ Hb.out) Try.underlying31 rfl (info31 _ Kl.out) ?_))
        refine abstract_world (fun W => W.heap[wa.heap.size]? = some (.cells (tokRow A (.slice ra 0 ca)) 51 (0, 0)) ∧ Below wa.heap.size wa W) ⟨setRow_heap _ _ _ _ _ _ (heap_alloc_new _ _), below_row (below_one _ _) (Nat.le_refl _) _⟩ ?_
        rintro wA ⟨r0, r1⟩
        obtain ⟨g11, hg11⟩ : ∃ y, y = wa.heap.size := ⟨_, rfl⟩
        rw [← hg11] at r0
        rw [← hg11]
        have XA := Lib.hid r0
        have HCA := Lib.hid (Hca.out.below r1)
        have HbA : Hid (Below w5.heap.size w5 wA) := Lib.hid (below_seq Hba.out r1)
        clear r0 r1 hg11 Hca Hba
        go_upto_region 11 with (first
          | (refine wpList_store_row rfl 51 _ _ rfl _ _ rfl rfl 51 _ (heap_alloc_new wb _) (info51 _ _ OkA.out.tag) (by rw [tokRow_size _ _ zero32_length, tokRow_size _ _ OkA.out.tag]) (tokRow_one _ _ rfl) ?_)
          | (refine wpList_allocRow 51 _ alloc51 rfl rfl ?_)
          | (go_at_call 70; refine (CJ.out _ HbA.out).mono ?_; rintro e wb ⟨rb, cb, rfl, hcb, hbb⟩; have Hcb := Lib.hid hcb; have Hbb := Lib.hid hbb; clear hcb hbb)
          | (refine wpList_load_row rfl 51 _ rfl _ rfl 51 _ _ _ (B1.out _ HbA.out) Try.underlying51 rfl (info51 t _ Ok.out.tag) ?_)
          | (refine wpList_load_row rfl 31 _ rfl _ rfl 31 _ _ _ (B0.out _ HbA.out) Try.underlying31 rfl (info31 _ Kl.out) ?_))
        refine abstract_world (fun W => W.heap[wb.heap.size]? = some (.cells (tokRow A (.slice rb 0 cb)) 51 (0, 0)) ∧ Below wb.heap.size wb W) ⟨setRow_heap _ _ _ _ _ _ (heap_alloc_new _ _), below_row (below_one _ _) (Nat.le_refl _) _⟩ ?_
        rintro wB ⟨r0, r1⟩
        obtain ⟨g13, hg13⟩ : ∃ y, y = wb.heap.size := ⟨_, rfl⟩
        rw [← hg13] at r0
        rw [← hg13]
        have XB := Lib.hid r0
        have HCB := Lib.hid (Hcb.out.below r1)
        have bAB : Hid (Below wA.heap.size wA wB) := Lib.hid (below_seq Hbb.out r1)
        have HbB : Hid (Below w5.heap.size w5 wB) := Lib.hid (below_seq HbA.out bAB.out)
        clear r0 r1 hg13 Hcb Hbb
        go_upto_region 12 with (first
          | (refine wpList_store_row rfl 51 _ _ rfl _ _ rfl rfl 51 _ (heap_alloc_new wc _) (info51 _ _ OkL.out.tag) (by rw [tokRow_size _ _ zero32_length, tokRow_size _ _ OkL.out.tag]) (tokRow_one _ _ rfl) ?_)
          | (refine wpList_allocRow 51 _ alloc51 rfl rfl ?_)
          | (go_at_call 71; refine (CL.out _ HbB.out).mono ?_; rintro e wc ⟨vc, rfl, hoc, hbc⟩; obtain ⟨r15, c15, rfl, _, _⟩ := hoc.at_len nL HnL.out; have Hoc := Lib.hid (hoc.base HbB.out.size); have Hbc := Lib.hid hbc; clear hoc hbc)
          | (refine wpList_load_row rfl 87 _ rfl _ rfl 87 _ _ _ (B2.out _ HbB.out) Try.underlying87 rfl (info87 x z) ?_)
          | (refine wpList_load_row rfl 51 _ rfl _ rfl 51 _ _ _ (B3.out _ HbB.out) Try.underlying51 rfl (info51 t _ Ok.out.tag) ?_))
        refine abstract_world (fun W => W.heap[wc.heap.size]? = some (.cells (tokRow L (.slice r15 nL c15)) 51 (0, 0)) ∧ Below wc.heap.size wc W) ⟨setRow_heap _ _ _ _ _ _ (heap_alloc_new _ _), below_row (below_one _ _) (Nat.le_refl _) _⟩ ?_
        rintro wC ⟨r0, r1⟩
        obtain ⟨g15, hg15⟩ : ∃ y, y = wc.heap.size := ⟨_, rfl⟩
        rw [← hg15] at r0
        rw [← hg15]
        have XC := Lib.hid r0
        have HOC := Lib.hid (Hoc.out.keep r1)
        have bBC : Hid (Below wB.heap.size wB wC) := Lib.hid (below_seq Hbc.out r1)
        have HbC : Hid (Below w5.heap.size w5 wC) := Lib.hid (below_seq HbB.out bBC.out)
        clear r0 r1 hg15 Hoc Hbc
        go_upto_region 13 with (first
          | (refine wpList_store_row rfl 51 _ _ rfl _ _ rfl rfl 51 _ (heap_alloc_new wd _) (info51 _ _ OkL.out.tag) (by rw [tokRow_size _ _ zero32_length, tokRow_size _ _ OkL.out.tag]) (tokRow_one _ _ rfl) ?_)
          | (refine wpList_allocRow 51 _ alloc51 rfl rfl ?_)
          | (go_at_call 72; refine (CM.out _ HbC.out).mono ?_; rintro e wd ⟨vd, rfl, hod, hbd⟩; obtain ⟨r17, c17, rfl, _, _⟩ := hod.at_len nL HnL.out; have Hod := Lib.hid hod; have Hbd := Lib.hid hbd; clear hod hbd)
          | (refine wpList_load_row rfl 87 _ rfl _ rfl 87 _ _ _ (B2.out _ HbC.out) Try.underlying87 rfl (info87 x z) ?_)
          | (refine wpList_load_row rfl 51 _ rfl _ rfl 51 _ _ _ (B1.out _ HbC.out) Try.underlying51 rfl (info51 t _ Ok.out.tag) ?_))
        refine abstract_world (fun W => W.heap[wd.heap.size]? = some (.cells (tokRow L (.slice r17 nL c17)) 51 (0, 0)) ∧ Below wd.heap.size wd W) ⟨setRow_heap _ _ _ _ _ _ (heap_alloc_new _ _), below_row (below_one _ _) (Nat.le_refl _) _⟩ ?_
        rintro wD ⟨r0, r1⟩
        obtain ⟨g17, hg17⟩ : ∃ y, y = wd.heap.size := ⟨_, rfl⟩
        rw [← hg17] at r0
        rw [← hg17]
        have XD := Lib.hid r0
        have HOD := Lib.hid (Hod.out.keep r1)
        have bCD : Hid (Below wC.heap.size wC wD) := Lib.hid (below_seq Hbd.out r1)
        have HbD : Hid (Below w5.heap.size w5 wD) := Lib.hid (below_seq HbC.out bCD.out)
        clear r0 r1 hg17 Hod Hbd
        go_upto_region 15 with (first
          | (go_at_call 74; refine (CF.out _ HbE.out).mono ?_; rintro e wF ⟨rfl, hb⟩; have bEF := Lib.hid hb; have HbF : Hid (Below w5.heap.size w5 wF) := Lib.hid (below_seq HbE.out hb); clear hb)
          | (refine wpList_load_row rfl 51 _ rfl _ rfl 51 _ _ _ (B1.out _ HbE.out) Try.underlying51 rfl (info51 t _ Ok.out.tag) ?_)
          | (go_at_call 73; refine (CE.out _ HbD.out).mono ?_; rintro e wE ⟨rfl, hb⟩; have bDE := Lib.hid hb; have HbE : Hid (Below w5.heap.size w5 wE) := Lib.hid (below_seq HbD.out hb); clear hb)
          | (refine wpList_load_row rfl 51 _ rfl _ rfl 51 _ _ _ (B3.out _ HbD.out) Try.underlying51 rfl (info51 t _ Ok.out.tag) ?_))
        have bDF : Below wD.heap.size wD wF := below_seq bDE.out bEF.out
        have bCF := below_seq bCD.out bDF
        have bBF := below_seq bBC.out bCF
        have bAF := below_seq bAB.out bBF
        have FA : Hid (∀ w', Below wF.heap.size wF w' → w'.heap[g11]? = some (.cells (tokRow A (.slice ra 0 ca)) 51 (0, 0)) ∧ CavsAt w' ra 0 ca []) := Lib.hid fun w' hw => ⟨((below_seq bAF hw).block _ (heap_lt XA.out)).trans XA.out, HCA.out.below (below_seq bAF hw)⟩
        have FB : Hid (∀ w', Below wF.heap.size wF w' → w'.heap[g13]? = some (.cells (tokRow A (.slice rb 0 cb)) 51 (0, 0)) ∧ CavsAt w' rb 0 cb []) := Lib.hid fun w' hw => ⟨((below_seq bBF hw).block _ (heap_lt XB.out)).trans XB.out, HCB.out.below (below_seq bBF hw)⟩
        have FL : Hid (∀ w', Below wF.heap.size wF w' → w'.heap[g15]? = some (.cells (tokRow L (.slice r15 nL c15)) 51 (0, 0)) ∧ OwnC w' w5.heap.size (.slice r15 nL c15) LC) := Lib.hid fun w' hw => ⟨((below_seq bCF hw).block _ (heap_lt XC.out)).trans XC.out, HOC.out.keep (below_seq bCF hw)⟩
        have FM : Hid (∀ w', Below wF.heap.size wF w' → w'.heap[g17]? = some (.cells (tokRow L (.slice r17 nL c17)) 51 (0, 0)) ∧ OwnC w' wC.heap.size (.slice r17 nL c17) LC) := Lib.hid fun w' hw => ⟨((below_seq bDF hw).block _ (heap_lt XD.out)).trans XD.out, HOD.out.keep (below_seq bDF hw)⟩
        clear XA XB XC XD HCA HCB HOC HOD bAF bBF bCF bDF bAB bBC bCD bDE bEF HbA HbB HbC HbD HbE CI CJ CL CM CE CF
        obtain ⟨MB, hMB⟩ : ∃ y, y = mayOk t cs := ⟨_, rfl⟩
        obtain ⟨CK, hCK⟩ : ∃ y, y = checkOf key t cs n := ⟨_, rfl⟩
        have GM : Hid (∀ w', Below wF.heap.size wF w' → Calls Try.prog 43 #[.agg (tokRow t (.slice (some ⟨g, 0, none⟩) len (len + 2)))] w' fun e w'' => e = .returned (.bool MB) ∧ Below w'.heap.size w' w'') := Lib.hid fun w' hw => by rw [hMB]; exact may_any Ok.out (BX.out w' (below_seq HbF.out hw))
        have GN : Hid (∀ w', Below wF.heap.size wF w' → Calls Try.prog 75 #[.agg (tokRow t (.slice r len cap))] w' fun e w'' => e = .returned (.bool MB) ∧ Below w'.heap.size w' w'') := Lib.hid fun w' hw => by rw [hMB]; exact refMay_any Ok.out (BC.out w' (below_seq HbF.out hw))
        have GC : Hid (∀ w', Below wF.heap.size wF w' → Calls Try.prog 49 #[.agg (row8 key), .agg (tokRow t (.slice (some ⟨g, 0, none⟩) len (len + 2))), .int .i64 n] w' fun e w'' => e = .returned (.int .i64 CK) ∧ Below w'.heap.size w' w'') := Lib.hid fun w' hw => by rw [hCK]; exact check_all Kl.out Ok.out (BX.out w' (below_seq HbF.out hw))
        have GD : Hid (∀ w', Below wF.heap.size wF w' → Calls Try.prog 50 #[.agg (row8 key), .agg (tokRow t (.slice r len cap)), .int .i64 n] w' fun e w'' => e = .returned (.int .i64 CK) ∧ Below w'.heap.size w' w'') := Lib.hid fun w' hw => by rw [hCK]; exact refCheck_all Kl.out Ok.out (BC.out w' (below_seq HbF.out hw))
        have FC : Hid (∀ w', Below wF.heap.size wF w' → CavsAt w' r15 nL c15 LC) := Lib.hid fun w' hw => ownC_cavs HnL.out (FL.out w' hw).2
        have FD : Hid (∀ w', Below wF.heap.size wF w' → CavsAt w' r17 nL c17 LC) := Lib.hid fun w' hw => ownC_cavs HnL.out (FM.out w' hw).2
        clear hMB hCK
        go_cut [123] from 32 to 154 (fun v123 wx => v123 = .bool false ∧ Below wF.heap.size wF wx)
        case first =>
          have hcd : Below wF.heap.size wF wF.drew := (Below.refl _ _).drew
          refine region_q (fun w' => Below wF.heap.size wF w') (by kernel_rfl) (by kernel_rfl) hcd ?_
          refine q_run (by kernel_rfl) (.int .i64 EI) (fun _ _ => by kernel_rfl) ?_
          simp only [Act.put, List.setIfInBounds_toArray, List.set_cons_succ, List.set_cons_zero]
          refine q_run (by kernel_rfl) (.int .i64 EI) (fun _ _ => by kernel_rfl) ?_
          simp only [Act.put, List.setIfInBounds_toArray, List.set_cons_succ, List.set_cons_zero]
          refine q_run (by kernel_rfl) (.bool false) (fun _ _ => by go_simp) ?_
          simp only [Act.put, List.setIfInBounds_toArray, List.set_cons_succ, List.set_cons_zero]
          refine q_run (by kernel_rfl) (.bool false) (fun _ _ => by kernel_rfl) ?_
          simp only [Act.put, List.setIfInBounds_toArray, List.set_cons_succ, List.set_cons_zero]
          refine q_run (by kernel_rfl) (.int .i64 EL) (fun _ _ => by kernel_rfl) ?_
          simp only [Act.put, List.setIfInBounds_toArray, List.set_cons_succ, List.set_cons_zero]
          refine q_run (by kernel_rfl) (.int .i64 EL) (fun _ _ => by kernel_rfl) ?_
          simp only [Act.put, List.setIfInBounds_toArray, List.set_cons_succ, List.set_cons_zero]
          refine q_run (by kernel_rfl) (.bool false) (fun _ _ => by go_simp) ?_
          simp only [Act.put, List.setIfInBounds_toArray, List.set_cons_succ, List.set_cons_zero]
          refine q_run (by kernel_rfl) (.bool false) (fun _ _ => by kernel_rfl) ?_
          simp only [Act.put, List.setIfInBounds_toArray, List.set_cons_succ, List.set_cons_zero]
          refine q_run (by kernel_rfl) (.bool false) (fun _ _ => by kernel_rfl) ?_
          simp only [Act.put, List.setIfInBounds_toArray, List.set_cons_succ, List.set_cons_zero]
          refine q_load51 (by kernel_rfl) (.tmp 11) rfl g11 (by kernel_rfl) A (.slice ra 0 ca) OkA.out.tag (fun w' hw => (FA.out w' hw).1) ?_
          simp only [Act.put, List.setIfInBounds_toArray, List.set_cons_succ, List.set_cons_zero]
          refine q_load51 (by kernel_rfl) (.tmp 13) rfl g13 (by kernel_rfl) A (.slice rb 0 cb) OkA.out.tag (fun w' hw => (FB.out w' hw).1) ?_
          simp only [Act.put, List.setIfInBounds_toArray, List.set_cons_succ, List.set_cons_zero]
          refine q_call (by kernel_rfl) 46 #[.agg (tokRow A (.slice ra 0 ca)), .agg (tokRow A (.slice rb 0 cb))] (.bool true) (fun _ _ => by kernel_rfl) (fun w' hw => (same_any OkA.out (FA.out w' hw).2 (FB.out w' hw).2).mono (fun e w'' ⟨he, hb⟩ => ⟨he, below_seq hw hb⟩)) ?_
          simp only [Act.put, List.setIfInBounds_toArray, List.set_cons_succ, List.set_cons_zero]
          refine q_run (by kernel_rfl) (.bool false) (fun _ _ => by kernel_rfl) ?_
          simp only [Act.put, List.setIfInBounds_toArray, List.set_cons_succ, List.set_cons_zero]
          refine q_run (by kernel_rfl) (.bool false) (fun _ _ => by kernel_rfl) ?_
          simp only [Act.put, List.setIfInBounds_toArray, List.set_cons_succ, List.set_cons_zero]
          refine q_run (by kernel_rfl) (.bool false) (fun _ _ => by kernel_rfl) ?_
          simp only [Act.put, List.setIfInBounds_toArray, List.set_cons_succ, List.set_cons_zero]
          refine q_load51 (by kernel_rfl) (.tmp 15) rfl g15 (by kernel_rfl) L (.slice r15 nL c15) OkL.out.tag (fun w' hw => (FL.out w' hw).1) ?_
          simp only [Act.put, List.setIfInBounds_toArray, List.set_cons_succ, List.set_cons_zero]
          refine q_load51 (by kernel_rfl) (.tmp 17) rfl g17 (by kernel_rfl) L (.slice r17 nL c17) OkL.out.tag (fun w' hw => (FM.out w' hw).1) ?_
          simp only [Act.put, List.setIfInBounds_toArray, List.set_cons_succ, List.set_cons_zero]
          refine q_call (by kernel_rfl) 46 #[.agg (tokRow L (.slice r15 nL c15)), .agg (tokRow L (.slice r17 nL c17))] (.bool true) (fun _ _ => by kernel_rfl) (fun w' hw => (same_any OkL.out (FC.out w' hw) (FD.out w' hw)).mono (fun e w'' ⟨he, hb⟩ => ⟨he, below_seq hw hb⟩)) ?_
          simp only [Act.put, List.setIfInBounds_toArray, List.set_cons_succ, List.set_cons_zero]
          refine q_run (by kernel_rfl) (.bool false) (fun _ _ => by kernel_rfl) ?_
          simp only [Act.put, List.setIfInBounds_toArray, List.set_cons_succ, List.set_cons_zero]
          refine q_run (by kernel_rfl) (.bool false) (fun _ _ => by kernel_rfl) ?_
          simp only [Act.put, List.setIfInBounds_toArray, List.set_cons_succ, List.set_cons_zero]
          refine q_run (by kernel_rfl) (.bool false) (fun _ _ => by kernel_rfl) ?_
          simp only [Act.put, List.setIfInBounds_toArray, List.set_cons_succ, List.set_cons_zero]
          refine q_run (by kernel_rfl) (W8 EF.1) (fun _ _ => by kernel_rfl) ?_
          simp only [Act.put, List.setIfInBounds_toArray, List.set_cons_succ, List.set_cons_zero]
          refine q_run (by kernel_rfl) (W8 EF.1) (fun _ _ => by kernel_rfl) ?_
          simp only [Act.put, List.setIfInBounds_toArray, List.set_cons_succ, List.set_cons_zero]
          refine q_run (by kernel_rfl) (.bool false) (fun _ _ => by go_simp) ?_
          simp only [Act.put, List.setIfInBounds_toArray, List.set_cons_succ, List.set_cons_zero]
          refine q_run (by kernel_rfl) (.bool false) (fun _ _ => by kernel_rfl) ?_
          simp only [Act.put, List.setIfInBounds_toArray, List.set_cons_succ, List.set_cons_zero]
          refine q_run (by kernel_rfl) (.bool false) (fun _ _ => by kernel_rfl) ?_
          simp only [Act.put, List.setIfInBounds_toArray, List.set_cons_succ, List.set_cons_zero]
          refine q_run (by kernel_rfl) (.int .i64 EF.2) (fun _ _ => by kernel_rfl) ?_
          simp only [Act.put, List.setIfInBounds_toArray, List.set_cons_succ, List.set_cons_zero]
          refine q_run (by kernel_rfl) (.int .i64 EF.2) (fun _ _ => by kernel_rfl) ?_
          simp only [Act.put, List.setIfInBounds_toArray, List.set_cons_succ, List.set_cons_zero]
          refine q_run (by kernel_rfl) (.bool false) (fun _ _ => by go_simp) ?_
          simp only [Act.put, List.setIfInBounds_toArray, List.set_cons_succ, List.set_cons_zero]
          refine q_run (by kernel_rfl) (.bool false) (fun _ _ => by kernel_rfl) ?_
          simp only [Act.put, List.setIfInBounds_toArray, List.set_cons_succ, List.set_cons_zero]
          refine q_run (by kernel_rfl) (.bool false) (fun _ _ => by kernel_rfl) ?_
          simp only [Act.put, List.setIfInBounds_toArray, List.set_cons_succ, List.set_cons_zero]
          refine q_load51 (by kernel_rfl) (.tmp 9) rfl g9 (by kernel_rfl) t (.slice (some ⟨g, 0, none⟩) len (len + 2)) Ok.out.tag (fun w' hw => B3.out w' (below_seq HbF.out hw)) ?_
          simp only [Act.put, List.setIfInBounds_toArray, List.set_cons_succ, List.set_cons_zero]
          refine q_call (by kernel_rfl) 43 #[.agg (tokRow t (.slice (some ⟨g, 0, none⟩) len (len + 2)))] (.bool MB) (fun _ _ => by kernel_rfl) (fun w' hw => (GM.out w' hw).mono (fun e w'' ⟨he, hb⟩ => ⟨he, below_seq hw hb⟩)) ?_
          simp only [Act.put, List.setIfInBounds_toArray, List.set_cons_succ, List.set_cons_zero]
          refine q_load51 (by kernel_rfl) (.tmp 5) rfl (w.heap.size + 1) (by kernel_rfl) t (.slice r len cap) Ok.out.tag (fun w' hw => B1.out w' (below_seq HbF.out hw)) ?_
          simp only [Act.put, List.setIfInBounds_toArray, List.set_cons_succ, List.set_cons_zero]
          refine q_call (by kernel_rfl) 75 #[.agg (tokRow t (.slice r len cap))] (.bool MB) (fun _ _ => by kernel_rfl) (fun w' hw => (GN.out w' hw).mono (fun e w'' ⟨he, hb⟩ => ⟨he, below_seq hw hb⟩)) ?_
          simp only [Act.put, List.setIfInBounds_toArray, List.set_cons_succ, List.set_cons_zero]
          refine q_run (by kernel_rfl) (.bool false) (fun _ _ => by go_simp) ?_
          simp only [Act.put, List.setIfInBounds_toArray, List.set_cons_succ, List.set_cons_zero]
          refine q_run (by kernel_rfl) (.bool false) (fun _ _ => by kernel_rfl) ?_
          simp only [Act.put, List.setIfInBounds_toArray, List.set_cons_succ, List.set_cons_zero]
          refine q_run (by kernel_rfl) (.bool false) (fun _ _ => by kernel_rfl) ?_
          simp only [Act.put, List.setIfInBounds_toArray, List.set_cons_succ, List.set_cons_zero]
          refine q_load31 (by kernel_rfl) (.tmp 4) rfl w.heap.size (by kernel_rfl) key Kl.out (fun w' hw => B0.out w' (below_seq HbF.out hw)) ?_
          simp only [Act.put, List.setIfInBounds_toArray, List.set_cons_succ, List.set_cons_zero]
          refine q_load51 (by kernel_rfl) (.tmp 9) rfl g9 (by kernel_rfl) t (.slice (some ⟨g, 0, none⟩) len (len + 2)) Ok.out.tag (fun w' hw => B3.out w' (below_seq HbF.out hw)) ?_
          simp only [Act.put, List.setIfInBounds_toArray, List.set_cons_succ, List.set_cons_zero]
          refine q_run (by kernel_rfl) (.int .i64 n) (fun _ _ => by kernel_rfl) ?_
          simp only [Act.put, List.setIfInBounds_toArray, List.set_cons_succ, List.set_cons_zero]
          refine q_call (by kernel_rfl) 49 #[.agg (row8 key), .agg (tokRow t (.slice (some ⟨g, 0, none⟩) len (len + 2))), .int .i64 n] (.int .i64 CK) (fun _ _ => by kernel_rfl) (fun w' hw => (GC.out w' hw).mono (fun e w'' ⟨he, hb⟩ => ⟨he, below_seq hw hb⟩)) ?_
          simp only [Act.put, List.setIfInBounds_toArray, List.set_cons_succ, List.set_cons_zero]
          refine q_load31 (by kernel_rfl) (.tmp 4) rfl w.heap.size (by kernel_rfl) key Kl.out (fun w' hw => B0.out w' (below_seq HbF.out hw)) ?_
          simp only [Act.put, List.setIfInBounds_toArray, List.set_cons_succ, List.set_cons_zero]
          refine q_load51 (by kernel_rfl) (.tmp 5) rfl (w.heap.size + 1) (by kernel_rfl) t (.slice r len cap) Ok.out.tag (fun w' hw => B1.out w' (below_seq HbF.out hw)) ?_
          simp only [Act.put, List.setIfInBounds_toArray, List.set_cons_succ, List.set_cons_zero]
          refine q_run (by kernel_rfl) (.int .i64 n) (fun _ _ => by kernel_rfl) ?_
          simp only [Act.put, List.setIfInBounds_toArray, List.set_cons_succ, List.set_cons_zero]
          refine q_call (by kernel_rfl) 50 #[.agg (row8 key), .agg (tokRow t (.slice r len cap)), .int .i64 n] (.int .i64 CK) (fun _ _ => by kernel_rfl) (fun w' hw => (GD.out w' hw).mono (fun e w'' ⟨he, hb⟩ => ⟨he, below_seq hw hb⟩)) ?_
          simp only [Act.put, List.setIfInBounds_toArray, List.set_cons_succ, List.set_cons_zero]
          refine q_run (by kernel_rfl) (.bool false) (fun _ _ => by go_simp) ?_
          simp only [Act.put, List.setIfInBounds_toArray, List.set_cons_succ, List.set_cons_zero]
          refine q_run (by kernel_rfl) (.bool false) (fun _ _ => by kernel_rfl) ?_
          simp only [Act.put, List.setIfInBounds_toArray, List.set_cons_succ, List.set_cons_zero]
          refine q_run (by kernel_rfl) (.bool false) (fun _ _ => by kernel_rfl) ?_
          simp only [Act.put, List.setIfInBounds_toArray, List.set_cons_succ, List.set_cons_zero]
          refine q_load51 (by kernel_rfl) (.tmp 9) rfl g9 (by kernel_rfl) t (.slice (some ⟨g, 0, none⟩) len (len + 2)) Ok.out.tag (fun w' hw => B3.out w' (below_seq HbF.out hw)) ?_
          simp only [Act.put, List.setIfInBounds_toArray, List.set_cons_succ, List.set_cons_zero]
          refine q_load51 (by kernel_rfl) (.tmp 5) rfl (w.heap.size + 1) (by kernel_rfl) t (.slice r len cap) Ok.out.tag (fun w' hw => B1.out w' (below_seq HbF.out hw)) ?_
          simp only [Act.put, List.setIfInBounds_toArray, List.set_cons_succ, List.set_cons_zero]
          refine q_call (by kernel_rfl) 46 #[.agg (tokRow t (.slice (some ⟨g, 0, none⟩) len (len + 2))), .agg (tokRow t (.slice r len cap))] (.bool true) (fun _ _ => by kernel_rfl) (fun w' hw => (same_any Ok.out (BX.out w' (below_seq HbF.out hw)) (BC.out w' (below_seq HbF.out hw))).mono (fun e w'' ⟨he, hb⟩ => ⟨he, below_seq hw hb⟩)) ?_
          simp only [Act.put, List.setIfInBounds_toArray, List.set_cons_succ, List.set_cons_zero]
          refine q_run (by kernel_rfl) (.bool false) (fun _ _ => by kernel_rfl) ?_
          simp only [Act.put, List.setIfInBounds_toArray, List.set_cons_succ, List.set_cons_zero]
          refine q_run (by kernel_rfl) (.bool false) (fun _ _ => by kernel_rfl) ?_
          simp only [Act.put, List.setIfInBounds_toArray, List.set_cons_succ, List.set_cons_zero]
          refine wpQuiet_nil ?_
          intro w' hw
          have Hw := Lib.hid hw
          clear hw hcd
          go_wp2
          go_meet
          exact ⟨rfl, Hw.out⟩
        case rest =>
          obtain ⟨rfl, hbx⟩ := hcut
          have l0 := (FL.out wc hbx).1
          have l1 := rowC_own (FL.out wc hbx).2
          have Hbc : Hid (Below w5.heap.size w5 wc) := Lib.hid (below_seq HbF.out hbx)
          have L0 := Lib.hid l0
          have L1 := Lib.hid l1
          clear l0 l1 hbx FA FB FL FM FC FD GM GN GC GD HbF
          go_upto_region 18 with (fail)
          go_loopw [23] (fun v w2 => ∃ (i : Nat), i ≤ nL ∧ v = .int .i64 (i : Int) ∧ w2.heap[g15]? = some (.cells (tokRow L (.slice r15 nL c15)) 51 (0, 0)) ∧ RowC w2 w5.heap.size r15 nL c15 ∧ Below w5.heap.size w5 w2) (fun v _ => nL - (intOf v).toNat)
          case atStart => exact ⟨0, by omega, rfl, L0.out, L1.out, Hbc.out⟩
          case round =>
            clear L0 L1 Hbc
            obtain ⟨i, hi, rfl, l0, l1, hb2⟩ := hrel
            have c5 : wr.cell? ⟨g15, 5, none⟩ = some (.slice r15 nL c15) := cell_row l0 rfl
            by_cases hlti : i < nL
            · obtain ⟨b, cur, rfl, hbb, hgb, hsz, hnc, hcm⟩ := l1 (by omega)
              have hcm2 := hcm
              unfold maxLen at hcm2
              have hne : b ≠ g15 := fun e => by rw [e, l0] at hgb; simp at hgb
              have hin : i * 2 + (cavRow 99 0).size ≤ cur.size := by show i * 2 + 2 ≤ cur.size; omega
              obtain ⟨nw, hnw⟩ : ∃ y, (cur.toList.take (i * 2) ++ (cavRow 99 0).toList ++ cur.toList.drop (i * 2 + (cavRow 99 0).size)).toArray = y := ⟨_, rfl⟩
              have hns : nw.size = c15 * 2 := by
                rw [← hnw]
                show (List.take (i * 2) cur.toList ++ [W8 99, .int .i64 0] ++ List.drop (i * 2 + 2) cur.toList).length = c15 * 2
                simp
                omega
              have P1 : Hid ((wr.setRow b nw).heap[g15]? = some (.cells (tokRow L (.slice (some ⟨b, 0, none⟩) nL c15)) 51 (0, 0)) ∧ RowC (wr.setRow b nw) w5.heap.size (some ⟨b, 0, none⟩) nL c15 ∧ Below w5.heap.size w5 (wr.setRow b nw)) := Lib.hid
                ⟨(setRow_other _ _ _ _ (Ne.symm hne)).trans l0, fun _ => ⟨b, nw, rfl, hbb, setRow_heap _ _ _ _ _ _ hgb, hns, hnc, hcm⟩, below_row hb2 hbb _⟩
              have Hgb := Lib.hid hgb
              have Hin := Lib.hid hin
              have Hnw := Lib.hid hnw
              clear l0 l1 hb2 hgb hsz hne hin hnw hns hcm hbb
              go_wp2_with (first
                | (refine wpList_store_sub rfl 87 _ _ rfl b (i * 2) (cavRow 99 0) rfl rfl 87 cur nw Hgb.out (info87 99 0) Hin.out (cavRow_one 99 0) Hnw.out ?_)
                | (refine wpList_store_sub rfl 87 _ _ rfl b (0 + i * 2) (cavRow 99 0) rfl rfl 87 cur nw Hgb.out (info87 99 0) (by rw [Nat.zero_add]; exact Hin.out) (cavRow_one 99 0) (by rw [Nat.zero_add]; exact Hnw.out) ?_)
                | (refine wpList_buildV (.agg (cavRow 99 0)) 87 _ rfl rfl (by kernel_rfl) ?_))
              exact ⟨⟨i + 1, by omega, by go_num, P1.out.1, P1.out.2.1, P1.out.2.2⟩, by simp [intOf]; omega⟩
            · obtain rfl : i = nL := by omega
              have Hb2 := Lib.hid hb2
              clear l0 l1 hb2
              go_upto_region 21 with (fail)
              clear c5
              have B5 : Hid (∀ w', Below wr.heap.size wr w' → w'.cell? ⟨g9, 5, none⟩ = some (.slice (some ⟨g, 0, none⟩) len (len + 2))) := Lib.hid fun w' hw => cell_row (B3.out w' (below_seq Hb2.out hw)) rfl
              have hcd : Below wr.heap.size wr wr.drew := (Below.refl _ _).drew
              obtain ⟨CP, hCP⟩ : ∃ y : Int, y = if len = 0 then 0 else ((len + 1 : Nat) : Int) := ⟨_, rfl⟩
              have G2 : Hid (∀ w', Calls Try.prog 76 #[.agg (tokRow t (.slice (some ⟨g, 0, none⟩) len (len + 2)))] w' fun e w'' => e = .returned (.int .i64 CP) ∧ Below w'.heap.size w' w'') := Lib.hid (by rw [hCP]; intro w'; exact cap2_any Ok.out.tag hl64)
              have HCP := Lib.hid hCP
              clear hCP
              refine region_k (fun w' => Below wr.heap.size wr w') (by kernel_rfl) hcd (fun Kr hKr => ?_)
              refine g_quiet hcd 0 136 (.pointer (some ⟨g9, 5, none⟩)) (by kernel_rfl) (by kernel_rfl) (by kernel_rfl) (by kernel_rfl) (fun w3 hw3 => by go_simp) ?_
              refine g_quiet hcd 1 137 (.slice (some ⟨g, 0, none⟩) len (len + 2)) (by kernel_rfl) (by kernel_rfl) (by kernel_rfl) (by kernel_rfl) (fun w3 hw3 => by have c := B5.out w3 hw3; go_simp) ?_
              refine g_quiet hcd 2 138 (.agg (tokRow t (.slice (some ⟨g, 0, none⟩) len (len + 2)))) (by kernel_rfl) (by kernel_rfl) (by kernel_rfl) (by kernel_rfl) (fun w3 hw3 => load51_hy (.tmp 9) (by kernel_rfl) g9 t _ Ok.out.tag (by kernel_rfl) _ (B3.out w3 (below_seq Hb2.out hw3))) ?_
              simp only [Act.put, List.setIfInBounds_toArray, List.set_cons_succ, List.set_cons_zero]
              refine m_pick 3 (by kernel_rfl) (g_call (d := 139) 76 #[.agg (tokRow t (.slice (some ⟨g, 0, none⟩) len (len + 2)))] (by kernel_rfl) (by kernel_rfl) ((G2.out _).mono ?_))
              rintro e w7 ⟨rfl, hb7⟩
              have h7 := below_seq hcd hb7
              refine ⟨_, rfl, h7, ?_⟩
              simp only [Act.put, List.setIfInBounds_toArray, List.set_cons_succ, List.set_cons_zero]
              have hB7 : Hid (Below w5.heap.size w5 w7) := Lib.hid (below_seq Hb2.out h7)
              by_cases hz0 : len = 0
              · obtain rfl : CP = 0 := by rw [HCP.out, if_pos hz0]
                subst hz0
                clear HCP G2
                refine g_quiet h7 4 140 (.slice (some ⟨g, 0, none⟩) 0 2) (by kernel_rfl) (by kernel_rfl) (by kernel_rfl) (by kernel_rfl) (fun w3 hw3 => by go_simp) ?_
                simp only [Act.put, List.setIfInBounds_toArray, List.set_cons_succ, List.set_cons_zero]
                refine g_quiet h7 5 24 (.slice (some ⟨g, 0, none⟩) 0 2) (by kernel_rfl) (by kernel_rfl) (by kernel_rfl) (by kernel_rfl) (fun _ _ => by kernel_rfl) ?_
                refine m_end (by kernel_rfl) ?_
                simp only [Act.put, List.setIfInBounds_toArray, List.set_cons_succ, List.set_cons_zero]
                have c5 : w7.cell? ⟨w.heap.size + 1, 5, none⟩ = some (.slice r 0 cap) := cell_row (B1.out w7 hB7.out) rfl
                clear h7 hcd hb7
                go_wp2
                exact ⟨⟨k + 1, by omega, by go_num, hB7.out⟩, by simp [intOf]; omega⟩
              · obtain rfl : CP = (len : Int) + 1 := by rw [HCP.out, if_neg hz0]; omega
                clear HCP G2
                refine g_quiet h7 4 140 (.slice (some ⟨g, 0, none⟩) (len + 1) (len + 2)) (by kernel_rfl) (by kernel_rfl) (by kernel_rfl) (by kernel_rfl) (fun w3 hw3 => by go_simp; intro hneg; exfalso; omega) ?_
                simp only [Act.put, List.setIfInBounds_toArray, List.set_cons_succ, List.set_cons_zero]
                refine g_quiet h7 5 24 (.slice (some ⟨g, 0, none⟩) (len + 1) (len + 2)) (by kernel_rfl) (by kernel_rfl) (by kernel_rfl) (by kernel_rfl) (fun _ _ => by kernel_rfl) ?_
                refine m_end (by kernel_rfl) ?_
                simp only [Act.put, List.setIfInBounds_toArray, List.set_cons_succ, List.set_cons_zero]
                have c5 : w7.cell? ⟨w.heap.size + 1, 5, none⟩ = some (.slice r len cap) := cell_row (B1.out w7 hB7.out) rfl
                obtain ⟨z0, z1⟩ := twin_zero Hlen.out (B4.out w7 hB7.out)
                have Z0 := Lib.hid z0
                have Z1 := Lib.hid z1
                clear h7 hcd hb7 z0 z1
                go_wp2_with (first
                  | (refine wpList_load87_G (by kernel_rfl) _ rfl g (len * 2) rfl 0 0 Z0.out Z1.out ?_)
                  | (refine wpList_load87_G (by kernel_rfl) _ rfl g (0 + len * 2) rfl 0 0 (by rw [Nat.zero_add]; exact Z0.out) (by rw [Nat.zero_add]; exact Z1.out) ?_)
                  | (refine wpList_buildVg (.agg (cavRow 0 0)) 87 _ (by kernel_rfl) rfl (by kernel_rfl) ?_))
                exact ⟨⟨k + 1, by omega, by go_num, hB7.out⟩, by simp [intOf]; omega⟩
      · go_wp2
        go_ret
        exact ⟨rfl, below_seq R5.out Hb.out⟩
end Go.Proofs.Ytafakjdolnigaaa
