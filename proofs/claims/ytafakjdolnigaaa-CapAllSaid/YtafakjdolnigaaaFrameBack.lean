/- The walk of cofferlaw10.FrameBack. -/
import Derived.Test.YtafakjdolnigaaaGFrames
import Derived.Test.YtafakjdolnigaaaGRef3
namespace Go.Proofs.Ytafakjdolnigaaa
open Go.RowKit
set_option linter.unusedVariables false

/-- A row of 32 bytes loaded, behind a guard that says yes. -/
theorem wpList_load_G {ops : Array Oper} {rest : List Oper} {o : Oper} {a : Act} {w : World} {Q : Exit → Act → World → Prop} (hgd : Region.wanted o (yielded ops a.tmps) = true) (x : Operand) (ho : o.op = .load 31 x) (g : Nat) (hx : a.eval x = .pointer (some ⟨g, 0, none⟩))
    (l : List UInt8) (hl : l.length = 32) (hg : w.heap[g]? = some (.cells (row8 l) 31 (0, 0))) (h : wpList Try.prog ops Q rest (a.put o.dst (.agg (row8 l))) w) : wpList Try.prog ops Q (o :: rest) a w := by
  have hr := exec_load_sub (P := Try.prog) (a := a) (o := o) (w := w) g 0 31 (row8 l) _ ho hx (fun j hj => by rw [row8_size] at hj; rw [Nat.zero_add]; exact (cell_row hg (row8_at l j hj)).trans (row8_at l j hj).symm) Try.underlying31 rfl (info31 l hl)
  exact BigFrame.wpList_want hgd fun K hK => by
    unfold Oper.wp
    rw [hr]
    exact hK _ _ h

theorem id_eq_self (k : List UInt8) : (k == k) = true := by simp

set_option maxRecDepth 100000 in
set_option maxHeartbeats 4000000 in
theorem frameBack_walk {w : World} {key : List UInt8} (hk : key.length = 32) {r rr : Option Addr} {len cap lr cr : Nat} {b rest : List UInt8} (hb : BytesAt w r len cap b) (hr : BytesAt w rr lr cr rest) {n : Int} (hn : (Lit.int .i64 n).wf = true) :
    Calls Try.prog 18 #[.agg (row8 key), .slice r len cap, .slice rr lr cr, .int .i64 n] w fun e w' => e = .returned (.bool true) ∧ Below w.heap.size w w' := by
  by_cases ha : 4200 < len
  · clear hb hr
    go_enter Try.func18, Try.ntmps18
    go_wp2_with (first
      | (refine wpList_box rfl 31 _ rfl _ rfl ?_)
      | (go_at_call 62; refine (begun10 _).mono ?_; rintro e w1 ⟨rfl, h1⟩))
    go_ret
    exact ⟨rfl, below_seq (below_one _ _) h1⟩
  by_cases hc : 4096 < lr
  · clear hb hr
    go_enter Try.func18, Try.ntmps18
    go_wp2_with (first
      | (refine wpList_box rfl 31 _ rfl _ rfl ?_)
      | (go_at_call 62; refine (begun10 _).mono ?_; rintro e w1 ⟨rfl, h1⟩))
    go_ret
    exact ⟨rfl, below_seq (below_one _ _) h1⟩
  have hbl := hb.hlen
  have hrl := hr.hlen
  subst hbl hrl
  obtain ⟨L, hL⟩ : ∃ L, L = frameOf key b := ⟨_, rfl⟩
  have hl : L.length = 46 + b.length := by rw [hL, frameOf_length _ _ hk]
  obtain ⟨M, hM⟩ : ∃ M, M = L ++ rest := ⟨_, rfl⟩
  obtain ⟨m, hm⟩ : ∃ m, m = 46 + b.length + rest.length := ⟨_, rfl⟩
  have hml : M.length = m := by rw [hM, List.length_append, hl, hm]
  have hMt : M.take (46 + b.length) = frameOf key b := by rw [hM, List.take_append_of_le_length (by omega), List.take_of_length_le (by omega), hL]
  obtain ⟨t1, t2, t3, t4⟩ := take_frame hk (by omega) hMt
  have hpr := placeOf_range n ((46 + b.length : Nat) : Int) (by omega)
  obtain ⟨c, hpc⟩ : ∃ c : Nat, placeOf n ((46 + b.length : Nat) : Int) = (c : Int) := ⟨_, (Int.toNat_of_nonneg hpr.1).symm⟩
  have hcl : c < 46 + b.length := by omega
  have t5 := take_cut c hk (by omega : b.length ≤ 4200) hcl
  rw [← hL] at t5
  have hpl : ∀ w, Calls Try.prog 38 #[.int .i64 n, .int .i64 ((46 + b.length : Nat) : Int)] w fun e w' => e = .returned (.int .i64 (c : Int)) ∧ w = w' := fun w => by
    rw [← hpc]; exact place_any w n _ hn (by omega) (by omega)
  have hsz : ∀ w, Calls Try.prog 65 #[.int .i64 (b.length : Int)] w fun e w' => e = .returned (.int .i64 ((46 + b.length : Nat) : Int)) ∧ w = w' := fun w => by
    have := size_any w (b.length : Int)
    rwa [show sizeOfN (b.length : Int) = ((46 + b.length : Nat) : Int) by unfold sizeOfN; rw [if_neg (by omega)]; omega] at this
  have hlm : L.length + rest.length = m := by rw [hl, hm]
  have HL := Lib.hid hL
  have Hl := Lib.hid hl
  have HM := Lib.hid hM
  have Hml := Lib.hid hml
  have Hlm := Lib.hid hlm
  have T1 := Lib.hid t1
  have T2 := Lib.hid t2
  have T3 := Lib.hid t3
  have T4 := Lib.hid t4
  have T5 := Lib.hid t5
  have Hpl := Lib.hid hpl
  have Hsz := Lib.hid hsz
  have Hk := Lib.hid hk
  have Hb := Lib.hid hb
  have Hr := Lib.hid hr
  have Hm := Lib.hid hm
  have hm2 : m ≤ 8342 := by omega
  clear hL hl hM hml hMt t1 t2 t3 t4 t5 hpr hpc hpl hsz hk hb hr hn hlm hm
  go_enter Try.func18, Try.ntmps18
  go_upto_region 5 with (first
    | (refine wpList_box rfl 31 _ rfl _ rfl ?_)
    | (go_at_call 62; refine (begun10 _).mono ?_; rintro e w1 ⟨rfl, h1⟩))
  have r0 : w1.heap[w.heap.size]? = some (.cells (row8 key) 31 (0, 0)) := (h1.block _ (by simp)).trans (heap_alloc_new _ _)
  have r1 : Below w.heap.size w w1 := below_seq (below_one _ _) h1
  have R0 := Lib.hid r0
  have R1 := Lib.hid r1
  clear h1 r0 r1
  go_upto_region 7 with (first
    | (refine wpList_load_row rfl 31 _ rfl _ rfl 31 _ _ _ R0.out Try.underlying31 rfl (info31 _ Hk.out) ?_)
    | (go_at_call 63; refine (framePut_any Hk.out (Hb.out.below R1.out) (by omega)).mono ?_; rintro e w2 ⟨v, rfl, ho, hb2⟩
       rw [← HL.out] at ho
       obtain ⟨rf, cf, rfl, hF, _⟩ := ho.at_len (46 + b.length) Hl.out
       have HF := Lib.hid hF
       have Hb2 := Lib.hid hb2
       clear hF hb2 ho))
  have Hb2' : Hid (Below w.heap.size w w2) := Lib.hid (below_seq R1.out Hb2.out)
  go_upto_region 8 with (first
    | (with_reducible refine wpList_append_bytes rfl (.tmp 39) (.tmp 40) rfl w2.heap.size (.slice (some ⟨w2.heap.size, 0, none⟩) 0 0) [] L rf (46 + b.length) cf rfl rfl (ownB_nil w2 w2.heap.size (Nat.le_refl _)) (HF.out.below (below_one _ _)) (by rw [Hl.out]; simp; omega) (below_one _ _).size ?_
       intro v5 w5 ho5 hg5
       have Hb5 := Lib.hid ((ownB_nil w2 w2.heap.size (Nat.le_refl _)).below (below_one _ _) (below_one _ _).size hg5)
       rw [List.nil_append] at ho5
       have Ho5 := Lib.hid ho5
       clear hg5 ho5)
    | (with_reducible refine wpList_append_bytes rfl (.tmp 41) (.tmp 42) rfl w2.heap.size v5 L rest rr rest.length cr rfl rfl Ho5.out ((Hr.out.below Hb2'.out).below Hb5.out) (by rw [Hlm.out]; omega) Hb5.out.size ?_
       intro v6 w6 ho6 hg6
       have Hb6 := Lib.hid (Ho5.out.below Hb5.out Hb5.out.size hg6)
       rw [← HM.out] at ho6
       obtain ⟨r6, c6, rfl, hB6, _⟩ := ho6.at_len m Hml.out
       have HB6 := Lib.hid hB6
       clear hg6 ho6 hB6)
    | (go_at_call 67; refine (take_good HB6.out (by omega) T1.out T2.out T3.out T4.out).mono ?_; rintro e w7 ⟨v7, rfl, ho7, hb7⟩
       obtain ⟨r7, c7, rfl, hB7, _⟩ := ho7.at_len b.length rfl
       have HB7 := Lib.hid hB7
       have Hb7 : Hid (Below w2.heap.size w2 w7) := Lib.hid (below_seq Hb6.out hb7)
       clear hB7 hb7 ho7)
    | (refine wpList_allocRow 31 _ alloc31 rfl rfl ?_)
    | (refine wpList_store_row rfl 31 _ _ rfl _ _ rfl rfl 31 _ (heap_alloc_new _ _) (info31 _ Hk.out) (by rw [row8_size, row8_size, Hk.out]; rfl) (row8_one _) ?_))
  have r0 : ((w7.alloc (.cells (row8 zero32) 31)).setRow w7.heap.size (row8 key)).heap[w7.heap.size]? = some (.cells (row8 key) 31 (0, 0)) := setRow_heap _ _ _ _ _ _ (heap_alloc_new _ _)
  have r1 : Below w7.heap.size w7 ((w7.alloc (.cells (row8 zero32) 31)).setRow w7.heap.size (row8 key)) := below_row (below_one _ _) (Nat.le_refl _) _
  refine abstract_world (fun W => W.heap[w7.heap.size]? = some (.cells (row8 key) 31 (0, 0)) ∧ Below w7.heap.size w7 W) ⟨r0, r1⟩ ?_
  clear r0 r1
  generalize hg12 : w7.heap.size = g12 at *
  rintro w8 ⟨r0, r1⟩
  rw [← hg12] at r1
  have S0 := Lib.hid r0
  have Hb8 : Hid (Below w2.heap.size w2 w8) := Lib.hid (below_seq Hb7.out r1)
  have HB8 := Lib.hid (HB7.out.below r1)
  clear r0 r1 HB7 Hb7 Hb6 Hb5 Ho5 HB6
  go_upto_region 9 with (first
    | (go_at_call 38; refine (Hpl.out _).mono ?_; rintro e w9 ⟨rfl, rfl⟩)
    | (refine wpList_slice rfl 29 5 _ none (some _) none rfl Try.underlying29 info5 rf (46 + b.length) cf rfl 0 c cf rfl ⟨_, rfl⟩ rfl (by omega) (by omega) (by have := HF.out.hle; omega) (Nat.le_refl _) (by simp) (HF.out.below Hb8.out) (fun r9 hB9 _ => ?_)
       rw [List.drop_zero] at hB9
       have HB9 := Lib.hid hB9
       clear hB9)
    | (go_at_call 67; refine (take_bad HB9.out (by omega) T5.out (by omega)).mono ?_; rintro e w10 ⟨rfl, hb10⟩
       have Hb10 := Lib.hid hb10
       clear hb10)
    | (refine wpList_allocRow 31 _ alloc31 rfl rfl ?_)
    | (refine wpList_store_row rfl 31 _ _ rfl _ _ rfl rfl 31 _ (heap_alloc_new _ _) (info31 _ zero32_length) rfl (row8_one _) ?_))
  have r1 : Below w8.heap.size w8 ((w10.alloc (.cells (row8 zero32) 31)).setRow w10.heap.size (row8 zero32)) := below_row (below_seq Hb10.out (below_one _ _)) Hb10.out.size _
  refine abstract_world (fun W => Below w8.heap.size w8 W) r1 ?_
  clear r1
  generalize w10.heap.size = g16 at *
  intro w11 hb11
  have Hb11 := Lib.hid hb11
  have U0 : Hid (w11.heap[g12]? = some (.cells (row8 key) 31 (0, 0))) := Lib.hid ((hb11.block _ (heap_lt S0.out)).trans S0.out)
  have U1 : Hid (w11.heap[w.heap.size]? = some (.cells (row8 key) 31 (0, 0))) := Lib.hid (((below_seq Hb8.out hb11).block _ (heap_lt ((Hb2.out.block _ (heap_lt R0.out)).trans R0.out))).trans ((Hb2.out.block _ (heap_lt R0.out)).trans R0.out))
  have s1 := conv_str (HB8.out.below hb11)
  have s2 := conv_str (Hb.out.below (below_seq Hb2'.out (below_seq Hb8.out hb11)))
  have e0 := id_eq_self key
  have hkl := Hk.out
  clear hb11
  go_wp2_with (first
    | (refine wpList_load_G (by kernel_rfl) _ rfl g12 rfl key Hk.out U0.out ?_)
    | (refine wpList_load_G (by kernel_rfl) _ rfl w.heap.size rfl key Hk.out U1.out ?_)
    | (go_at_call 65; refine (Hsz.out _).mono ?_; rintro e w12 ⟨rfl, rfl⟩))
  go_ret
  exact ⟨rfl, below_seq (below_seq Hb2'.out Hb8.out) Hb11.out⟩
end Go.Proofs.Ytafakjdolnigaaa
