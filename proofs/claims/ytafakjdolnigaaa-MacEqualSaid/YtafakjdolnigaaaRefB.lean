/- The walk of cofferref2.block. -/
import Derived.Test.YtafakjdolnigaaaRefA
namespace Go.Proofs.Ytafakjdolnigaaa
open Go.RowKit
set_option linter.unusedVariables false

theorem turn_i (x : UInt32) (c : Int) (h0 : 0 ≤ c) (h : c < 32) (w : World) : Calls Try.prog 110 #[W64 x.toUInt64, .int .i64 c] w fun e w' => e = .returned (W64 (rot x (UInt32.ofNat c.toNat)).toUInt64) ∧ w = w' := by
  have := turn_any x c.toNat (by omega) w
  rwa [Int.toNat_of_nonneg h0] at this
theorem down_i (x : UInt32) (c : Int) (h0 : 0 ≤ c) (h : c < 32) (w : World) : Calls Try.prog 111 #[W64 x.toUInt64, .int .i64 c] w fun e w' => e = .returned (W64 (x >>> UInt32.ofNat c.toNat).toUInt64) ∧ w = w' := by
  have := down_any x c.toNat (by omega) w
  rwa [Int.toNat_of_nonneg h0] at this

theorem next_eq (ws : List UInt32) (k : Nat) : (ws[k - 16]?.getD 0).toUInt64 + ((rot (ws[k - 15]?.getD 0) (UInt32.ofNat 7)).toUInt64 ^^^ (rot (ws[k - 15]?.getD 0) (UInt32.ofNat 18)).toUInt64 ^^^ (ws[k - 15]?.getD 0 >>> UInt32.ofNat 3).toUInt64) + (ws[k - 7]?.getD 0).toUInt64 +
    ((rot (ws[k - 2]?.getD 0) (UInt32.ofNat 17)).toUInt64 ^^^ (rot (ws[k - 2]?.getD 0) (UInt32.ofNat 19)).toUInt64 ^^^ (ws[k - 2]?.getD 0 >>> UInt32.ofNat 10).toUInt64) &&& UInt64.ofNat 4294967295 = (nextWord ws k).toUInt64 := by
  rw [low32]
  congr 1
  simp only [UInt64.toUInt32_add, UInt64.toUInt32_xor, UInt32.toUInt32_toUInt64]
  rfl

theorem low32' (x : UInt64) : x &&& 4294967295 = x.toUInt32.toUInt64 := low32 x
theorem not_sub (x : UInt32) : (4294967295 : UInt64).toUInt32 - x = ~~~x := by
  rw [← UInt32.toNat_inj, UInt32.toNat_sub, UInt32.toNat_not]
  have := x.toNat_lt
  have e : ((4294967295 : UInt64).toUInt32).toNat = 4294967295 := rfl
  rw [e]
  simp only [UInt32.size]
  omega
theorem info100' (l : List UInt64) (h : l.length = 8) : (Try.prog.info? 100).map (·.size) = some (row64 l).size := by rw [row64_size, h]; kernel_rfl

/-- The round's row as the code makes it. -/
theorem rnd_row (sa sb sc sd se sf sg sh pk wk : UInt32) (X T M : UInt64)
    (hX : X = sh.toUInt64 + ((rot se 6).toUInt64 ^^^ (rot se 11).toUInt64 ^^^ (rot se 25).toUInt64) + (se.toUInt64 &&& sf.toUInt64 ^^^ 4294967295 - se.toUInt64 &&& sg.toUInt64) + pk.toUInt64 + wk.toUInt64)
    (hT : T = (rot sa 2).toUInt64 ^^^ (rot sa 13).toUInt64 ^^^ (rot sa 22).toUInt64)
    (hM : M = sa.toUInt64 &&& sb.toUInt64 ^^^ sa.toUInt64 &&& sc.toUInt64 ^^^ sb.toUInt64 &&& sc.toUInt64) :
    row64 [X + T + M &&& 4294967295, sa.toUInt64, sb.toUInt64, sc.toUInt64, sd.toUInt64 + X &&& 4294967295, se.toUInt64, sf.toUInt64, sg.toUInt64] = rowL (rnd ⟨sa, sb, sc, sd, se, sf, sg, sh⟩ pk wk).list := by
  have h1 : X.toUInt32 = tempX ⟨sa, sb, sc, sd, se, sf, sg, sh⟩ pk wk := by
    subst hX
    simp only [UInt64.toUInt32_add, UInt64.toUInt32_xor, UInt64.toUInt32_and, UInt64.toUInt32_sub, UInt32.toUInt32_toUInt64, not_sub]
    rfl
  have h2 : (T + M).toUInt32 = tempY ⟨sa, sb, sc, sd, se, sf, sg, sh⟩ := by
    subst hT hM
    simp only [UInt64.toUInt32_add, UInt64.toUInt32_xor, UInt64.toUInt32_and, UInt32.toUInt32_toUInt64]
    rfl
  have a1 : X + T + M &&& 4294967295 = (tempX ⟨sa, sb, sc, sd, se, sf, sg, sh⟩ pk wk + tempY ⟨sa, sb, sc, sd, se, sf, sg, sh⟩).toUInt64 := by
    rw [low32', UInt64.add_assoc, UInt64.toUInt32_add, h1, h2]
  have a2 : sd.toUInt64 + X &&& 4294967295 = (sd + tempX ⟨sa, sb, sc, sd, se, sf, sg, sh⟩ pk wk).toUInt64 := by
    rw [low32', UInt64.toUInt32_add, h1, UInt32.toUInt32_toUInt64]
  rw [a1, a2]
  rfl

/-- The state when k of the eight words have been added. -/
def addL (s t : S8) (k : Nat) : List UInt32 := (s.add t).list.take k ++ s.list.drop k
theorem addL_length (s t : S8) (k : Nat) (h : k ≤ 8) : (addL s t k).length = 8 := by
  simp [addL, S8.list]; omega
theorem addL_step (s t : S8) (k : Nat) (h : k < 8) : (addL s t k).set k ((addL s t k)[k]?.getD 0 + t.list[k]?.getD 0) = addL s t (k + 1) := by
  match k, h with
  | 0, _ => rfl
  | 1, _ => rfl
  | 2, _ => rfl
  | 3, _ => rfl
  | 4, _ => rfl
  | 5, _ => rfl
  | 6, _ => rfl
  | 7, _ => rfl
theorem add_eq (x y : UInt32) : x.toUInt64 + y.toUInt64 &&& 4294967295 = (x + y).toUInt64 := by
  rw [low32', UInt64.toUInt32_add, UInt32.toUInt32_toUInt64, UInt32.toUInt32_toUInt64]

set_option maxRecDepth 100000 in
set_option maxHeartbeats 4000000 in
theorem block_any (w : World) (s : S8) (ws0 : List UInt32) (hw0 : ws0.length = 64) :
    Calls Try.prog 82 #[.agg (rowL s.list), .agg (rowL ws0), .agg (rowL primes)] w fun e w' => e = .returned (.agg (rowL (s.add (roundsTo primes (spreadTo ws0 48) s 64)).list)) ∧ Below w.heap.size w w' := by
  have hb3 : ∀ A B C D : Obj, Below w.heap.size w ((((w.alloc A).alloc B).alloc C).alloc D) := fun A B C D => below_seq (below_seq (below_seq (below_one _ _) (below_one _ _)) (below_one _ _)) (below_one _ _)
  go_enter Try.func82, Try.ntmps82
  go_upto_region 1 with (first
    | (refine wpList_box rfl 100 _ rfl _ rfl ?_)
    | (refine wpList_box rfl 98 _ rfl _ rfl ?_)
    | (refine wpList_allocRow 100 _ alloc100 rfl rfl ?_))
  have h4 : ∀ A B C D : Obj, ((((w.alloc A).alloc B).alloc C).alloc D).heap[w.heap.size]? = some A ∧ ((((w.alloc A).alloc B).alloc C).alloc D).heap[w.heap.size + 1]? = some B ∧ ((((w.alloc A).alloc B).alloc C).alloc D).heap[w.heap.size + 1 + 1]? = some C ∧ ((((w.alloc A).alloc B).alloc C).alloc D).heap[w.heap.size + 1 + 1 + 1]? = some D := fun A B C D => by
    have s1 : (w.alloc A).heap.size = w.heap.size + 1 := by simp
    have s2 : ((w.alloc A).alloc B).heap.size = w.heap.size + 1 + 1 := by simp
    have s3 : (((w.alloc A).alloc B).alloc C).heap.size = w.heap.size + 1 + 1 + 1 := by simp
    have n1 := heap_alloc_new (w.alloc A) B
    have n2 := heap_alloc_new ((w.alloc A).alloc B) C
    have n3 := heap_alloc_new (((w.alloc A).alloc B).alloc C) D
    rw [s1] at n1
    rw [s2] at n2
    rw [s3] at n3
    refine ⟨?_, ?_, ?_, n3⟩
    · rw [Below.heap_alloc _ _ _ (by omega), Below.heap_alloc _ _ _ (by omega), Below.heap_alloc _ _ _ (by omega)]; exact heap_alloc_new _ _
    · rw [Below.heap_alloc _ _ _ (by omega), Below.heap_alloc _ _ _ (by omega)]; exact n1
    · rw [Below.heap_alloc _ _ _ (by omega)]; exact n2
  refine abstract_world (fun W => W.heap[w.heap.size]? = some (.cells (rowL s.list) 100 (0, 0)) ∧ W.heap[w.heap.size + 1]? = some (.cells (rowL ws0) 98 (0, 0)) ∧ W.heap[w.heap.size + 1 + 1]? = some (.cells (rowL primes) 98 (0, 0)) ∧ W.heap[w.heap.size + 1 + 1 + 1]? = some (.cells (rowL (List.replicate 8 0)) 100 (0, 0)) ∧ Below w.heap.size w W) ⟨(h4 _ _ _ _).1, (h4 _ _ _ _).2.1, (h4 _ _ _ _).2.2.1, (h4 _ _ _ _).2.2.2, hb3 _ _ _ _⟩ ?_
  clear h4 hb3
  rintro w1 ⟨h0, h1, h2, h3, hb⟩
  have e1 : w.heap.size + 1 + 1 = w.heap.size + 2 := rfl
  have e2 : w.heap.size + 1 + 1 + 1 = w.heap.size + 3 := rfl
  have H0 := Lib.hid h0
  have H1 := Lib.hid h1
  have H2 := Lib.hid h2
  have H3 := Lib.hid h3
  have Hb := Lib.hid hb
  clear h0 h1 h2 h3 hb e1 e2
  go_wp2
  go_loopw [7] (fun v wr => ∃ k : Nat, 16 ≤ k ∧ k ≤ 64 ∧ v = .int .i64 (k : Int) ∧ wr.heap[w.heap.size]? = some (.cells (rowL s.list) 100 (0, 0)) ∧ wr.heap[w.heap.size + 1]? = some (.cells (rowL (spreadTo ws0 (k - 16))) 98 (0, 0)) ∧ wr.heap[w.heap.size + 1 + 1]? = some (.cells (rowL primes) 98 (0, 0)) ∧ wr.heap[w.heap.size + 1 + 1 + 1]? = some (.cells (rowL (List.replicate 8 0)) 100 (0, 0)) ∧ Below w.heap.size w wr)
    (fun v _ => 64 - (intOf v).toNat)
  case atStart => exact ⟨16, by omega, by omega, rfl, H0.out, H1.out, H2.out, H3.out, Hb.out⟩
  case round =>
    clear H0 H1 H2 H3 Hb
    obtain ⟨k, hk0, hk, rfl, h0, h1, h2, h3, hb⟩ := hrel
    have hlen : (spreadTo ws0 (k - 16)).length = 64 := by rw [spreadTo_length, hw0]
    have H0 := Lib.hid h0
    have H1 := Lib.hid h1
    have H2 := Lib.hid h2
    have H3 := Lib.hid h3
    have Hb := Lib.hid hb
    clear h0 h2 h3 hb
    by_cases hlt : k < 64
    · have c15 := cell_row h1 (rowL_at (spreadTo ws0 (k - 16)) (k - 15) (by omega))
      have c2 := cell_row h1 (rowL_at (spreadTo ws0 (k - 16)) (k - 2) (by omega))
      have c16 := cell_row h1 (rowL_at (spreadTo ws0 (k - 16)) (k - 16) (by omega))
      have c7 := cell_row h1 (rowL_at (spreadTo ws0 (k - 16)) (k - 7) (by omega))
      have ck := cell_row h1 (rowL_at (spreadTo ws0 (k - 16)) k (by omega))
      have fw := frozen_of_row wr (w.heap.size + 1) k _ _ h1
      have hnx := Lib.hid (spreadTo_next ws0 k hk0)
      have Hlen := Lib.hid hlen
      clear h1 hlen
      generalize spreadTo ws0 (k - 16) = ws at *
      have Hne := Lib.hid (next_eq ws k)
      have i15 : (15 : Int) ≤ (k : Int) := by omega
      have i2 : (2 : Int) ≤ (k : Int) := by omega
      have i7 : (7 : Int) ≤ (k : Int) := by omega
      have i16 : (16 : Int) ≤ (k : Int) := by omega
      have j15 : (k : Int) - 15 < 64 := by omega
      have j2 : (k : Int) - 2 < 64 := by omega
      have j7 : (k : Int) - 7 < 64 := by omega
      have j16 : (k : Int) - 16 < 64 := by omega
      generalize ws[k - 15]?.getD 0 = x15 at *
      generalize ws[k - 2]?.getD 0 = x2 at *
      generalize ws[k - 16]?.getD 0 = x16 at *
      generalize ws[k - 7]?.getD 0 = x7 at *
      go_wp2_with fail
      refine region_q (fun w' => w' = wr.drew) (by kernel_rfl) (by kernel_rfl) rfl ?_
      repeat (refine wpQuiet_step (fun K hK => ?_); go_simp; (try go_bits); refine hK _ ?_; clear hK K)
      refine wpQuiet_nil ?_
      rintro _ rfl
      go_wp2_with (first
        | (go_at_call 110; with_reducible refine (turn_i _ _ (by omega) (by omega) _).mono ?_; rintro e w' ⟨rfl, rfl⟩)
        | (go_at_call 111; with_reducible refine (down_i _ _ (by omega) (by omega) _).mono ?_; rintro e w' ⟨rfl, rfl⟩))
      refine region_ht (fun w' => w' = wr.drew.drew) 16 (by kernel_rfl) (by kernel_rfl) rfl ?_
      simp only [List.take_succ_cons, List.take_zero, List.drop_succ_cons, List.drop_zero]
      repeat (refine wpQuiet_step (fun K hK => ?_); go_simp; (try go_bits); refine hK _ ?_; clear hK K)
      refine wpQuiet_nil ?_
      rintro _ rfl
      go_wp2
      refine ⟨⟨k + 1, by omega, by omega, by go_num, (heap_setCell_other _ _ _ _ (show w.heap.size ≠ w.heap.size + 1 by omega)).trans H0.out, ?_, (heap_setCell_other _ _ _ _ (show w.heap.size + 1 + 1 ≠ w.heap.size + 1 by omega)).trans H2.out, (heap_setCell_other _ _ _ _ (show w.heap.size + 1 + 1 + 1 ≠ w.heap.size + 1 by omega)).trans H3.out, ((Hb.out.setCell (by simp) _).drew).drew⟩, by simp [intOf]; omega⟩
      rw [hnx.out, ← rowL_set, ← Hne.out]
      exact heap_setCell_same _ _ _ _ _ _ H1.out
    · obtain rfl : k = 64 := by omega
      have H1 := Lib.hid h1
      have e48 : 64 - 16 = 48 := rfl
      rw [e48] at H1 hlen
      clear h1 e48
      obtain ⟨W, hW⟩ : ∃ W, W = spreadTo ws0 48 := ⟨_, rfl⟩
      rw [← hW] at H1 hlen
      have HW := Lib.hid hW
      clear hW
      have Hlen := Lib.hid hlen
      clear hlen
      have hsl : s.list.length = 8 := rfl
      go_upto_region 9 with (first
        | (refine wpList_load_row rfl 100 _ rfl _ rfl 100 _ _ _ H0.out Try.underlying100 rfl (info100 _ rfl) ?_)
        | (refine wpList_allocRow 100 _ alloc100 rfl rfl ?_)
        | (refine wpList_store_row rfl 100 _ _ rfl _ _ rfl rfl 100 _ (heap_alloc_new _ _) (info100 _ rfl) rfl (rowL_one _) ?_))
      have hg : ((wr.alloc (.cells (rowL (List.replicate 8 0)) 100)).setRow wr.heap.size (rowL s.list)).heap[wr.heap.size]? = some (.cells (rowL s.list) 100 (0, 0)) := setRow_heap _ _ _ _ _ _ (heap_alloc_new _ _)
      have ho : ∀ i, i < wr.heap.size → ((wr.alloc (.cells (rowL (List.replicate 8 0)) 100)).setRow wr.heap.size (rowL s.list)).heap[i]? = wr.heap[i]? := fun i hi => by
        rw [setRow_other _ _ _ _ (by omega), Below.heap_alloc _ _ _ hi]
      have hbel : Below w.heap.size w ((wr.alloc (.cells (rowL (List.replicate 8 0)) 100)).setRow wr.heap.size (rowL s.list)) := below_row (below_seq Hb.out (below_one _ _)) Hb.out.size _
      have hg3 := heap_lt H3.out
      refine abstract_world (fun V => V.heap[w.heap.size]? = some (.cells (rowL s.list) 100 (0, 0)) ∧ V.heap[w.heap.size + 1]? = some (.cells (rowL W) 98 (0, 0)) ∧ V.heap[w.heap.size + 1 + 1]? = some (.cells (rowL primes) 98 (0, 0)) ∧ V.heap[w.heap.size + 1 + 1 + 1]? = some (.cells (rowL (List.replicate 8 0)) 100 (0, 0)) ∧ V.heap[wr.heap.size]? = some (.cells (rowL s.list) 100 (0, 0)) ∧ Below w.heap.size w V) ⟨(ho _ (by omega)).trans H0.out, (ho _ (by omega)).trans H1.out, (ho _ (by omega)).trans H2.out, (ho _ (by omega)).trans H3.out, hg, hbel⟩ ?_
      clear hg ho hbel H0 H1 H2 H3 Hb
      generalize wr.heap.size = g at *
      rintro w2 ⟨h0, h1, h2, h3, hg, hb⟩
      have H0 := Lib.hid h0
      have H1 := Lib.hid h1
      have H2 := Lib.hid h2
      have H3 := Lib.hid h3
      have Hg := Lib.hid hg
      have Hb := Lib.hid hb
      clear h0 h1 h2 h3 hg hb
      go_wp2
      go_loopw [13] (fun v wr => ∃ k : Nat, k ≤ 64 ∧ v = .int .i64 (k : Int) ∧ wr.heap[w.heap.size]? = some (.cells (rowL s.list) 100 (0, 0)) ∧ wr.heap[w.heap.size + 1]? = some (.cells (rowL W) 98 (0, 0)) ∧ wr.heap[w.heap.size + 1 + 1]? = some (.cells (rowL primes) 98 (0, 0)) ∧ wr.heap[w.heap.size + 1 + 1 + 1]? = some (.cells (rowL (List.replicate 8 0)) 100 (0, 0)) ∧ wr.heap[g]? = some (.cells (rowL (roundsTo primes W s k).list) 100 (0, 0)) ∧ Below w.heap.size w wr)
        (fun v _ => 64 - (intOf v).toNat)
      case atStart => exact ⟨0, by omega, rfl, H0.out, H1.out, H2.out, H3.out, Hg.out, Hb.out⟩
      case round =>
        clear H0 H1 H2 H3 Hb Hg
        obtain ⟨k, hk, rfl, h0, h1, h2, h3, hg, hb⟩ := hrel
        have H0 := Lib.hid h0
        have H1 := Lib.hid h1
        have H2 := Lib.hid h2
        have H3 := Lib.hid h3
        have Hg := Lib.hid hg
        have Hb := Lib.hid hb
        clear h3 hb
        by_cases hlt : k < 64
        · have cp := cell_row h2 (rowL_at primes k hlt)
          have cw := cell_row h1 (rowL_at W k (by have := Hlen.out; omega))
          have v0 := cell_row hg (rowL_at (roundsTo primes W s k).list 0 (by simp [S8.list]))
          have v1 := cell_row hg (rowL_at (roundsTo primes W s k).list 1 (by simp [S8.list]))
          have v2 := cell_row hg (rowL_at (roundsTo primes W s k).list 2 (by simp [S8.list]))
          have v3 := cell_row hg (rowL_at (roundsTo primes W s k).list 3 (by simp [S8.list]))
          have v4 := cell_row hg (rowL_at (roundsTo primes W s k).list 4 (by simp [S8.list]))
          have v5 := cell_row hg (rowL_at (roundsTo primes W s k).list 5 (by simp [S8.list]))
          have v6 := cell_row hg (rowL_at (roundsTo primes W s k).list 6 (by simp [S8.list]))
          have v7 := cell_row hg (rowL_at (roundsTo primes W s k).list 7 (by simp [S8.list]))
          have hst : roundsTo primes W s (k + 1) = rnd (roundsTo primes W s k) (primes[k]?.getD 0) (W[k]?.getD 0) := rfl
          have Hst := Lib.hid hst
          clear h0 h1 h2 hg hst
          generalize roundsTo primes W s k = st at *
          generalize primes[k]?.getD 0 = pk at *
          generalize W[k]?.getD 0 = wk at *
          obtain ⟨sa, sb, sc, sd, se, sf, sg, sh⟩ := st
          simp only [S8.list, List.getElem?_cons_zero, List.getElem?_cons_succ, Option.getD_some] at v0 v1 v2 v3 v4 v5 v6 v7
          go_wp2_with fail
          refine region_q (fun w' => w' = wr.drew) (by kernel_rfl) (by kernel_rfl) rfl ?_
          repeat (refine wpQuiet_step (fun K hK => ?_); go_simp; (try go_bits); refine hK _ ?_; clear hK K)
          refine wpQuiet_nil ?_
          rintro _ rfl
          go_wp2_with (first
            | (go_at_call 110; with_reducible refine (turn_i _ _ (by omega) (by omega) _).mono ?_; rintro e w' ⟨rfl, rfl⟩))
          refine region_q (fun w' => w' = wr.drew.drew) (by kernel_rfl) (by kernel_rfl) rfl ?_
          repeat (refine wpQuiet_step (fun K hK => ?_); go_simp; (try go_bits); refine hK _ ?_; clear hK K)
          refine wpQuiet_nil ?_
          rintro _ rfl
          go_upto_region 18 with (first
            | (go_at_call 110; with_reducible refine (turn_i _ _ (by omega) (by omega) _).mono ?_; rintro e w' ⟨rfl, rfl⟩))
          obtain ⟨X, hX⟩ : ∃ X, X = sh.toUInt64 + ((rot se 6).toUInt64 ^^^ (rot se 11).toUInt64 ^^^ (rot se 25).toUInt64) + (se.toUInt64 &&& sf.toUInt64 ^^^ 4294967295 - se.toUInt64 &&& sg.toUInt64) + pk.toUInt64 + wk.toUInt64 := ⟨_, rfl⟩
          obtain ⟨T, hT⟩ : ∃ T, T = (rot sa 2).toUInt64 ^^^ (rot sa 13).toUInt64 ^^^ (rot sa 22).toUInt64 := ⟨_, rfl⟩
          obtain ⟨M, hM⟩ : ∃ M, M = sa.toUInt64 &&& sb.toUInt64 ^^^ sa.toUInt64 &&& sc.toUInt64 ^^^ sb.toUInt64 &&& sc.toUInt64 := ⟨_, rfl⟩
          rw [← hX, ← hT, ← hM]
          have Hrow := Lib.hid (rnd_row sa sb sc sd se sf sg sh pk wk X T M hX hT hM)
          clear hX hT hM
          go_wp2_with (first
            | (refine wpList_buildV (.agg (row64 [X + T + M &&& 4294967295, sa.toUInt64, sb.toUInt64, sc.toUInt64, sd.toUInt64 + X &&& 4294967295, se.toUInt64, sf.toUInt64, sg.toUInt64])) 100 _ rfl rfl (by kernel_rfl) ?_)
            | (refine wpList_store_row rfl 100 _ _ rfl _ _ rfl rfl 100 _ Hg.out (info100' _ rfl) rfl (row64_one _) ?_))
          rw [Hrow.out]
          refine ⟨⟨k + 1, by omega, by go_num, ?_, ?_, ?_, ?_, ?_, ?_⟩, by simp [intOf]; omega⟩
          · exact (setRow_other _ _ _ _ (by omega)).trans H0.out
          · exact (setRow_other _ _ _ _ (by omega)).trans H1.out
          · exact (setRow_other _ _ _ _ (by omega)).trans H2.out
          · exact (setRow_other _ _ _ _ (by omega)).trans H3.out
          · rw [Hst.out]; exact setRow_heap _ _ _ _ _ _ Hg.out
          · exact below_row Hb.out.drew.drew (by omega) _
        · obtain rfl : k = 64 := by omega
          obtain ⟨R, hR⟩ : ∃ R, R = roundsTo primes W s 64 := ⟨_, rfl⟩
          rw [← hR] at Hg
          have HR := Lib.hid hR
          clear hR h0 h1 h2 hg
          go_wp2
          go_loopw [21] (fun v wr => ∃ k : Nat, k ≤ 8 ∧ v = .int .i64 (k : Int) ∧ wr.heap[w.heap.size]? = some (.cells (rowL (addL s R k)) 100 (0, 0)) ∧ wr.heap[w.heap.size + 1 + 1 + 1]? = some (.cells (rowL (List.replicate 8 0)) 100 (0, 0)) ∧ wr.heap[g]? = some (.cells (rowL R.list) 100 (0, 0)) ∧ Below w.heap.size w wr)
            (fun v _ => 8 - (intOf v).toNat)
          case atStart => exact ⟨0, by omega, rfl, H0.out, H3.out, Hg.out, Hb.out⟩
          case round =>
            clear H0 H1 H2 H3 Hb Hg
            obtain ⟨k, hk, rfl, h0, h3, hg, hb⟩ := hrel
            have H0 := Lib.hid h0
            have H3 := Lib.hid h3
            have Hg := Lib.hid hg
            have Hb := Lib.hid hb
            clear h3 hb
            by_cases hlt : k < 8
            · have cx := cell_row h0 (rowL_at (addL s R k) k (by rw [addL_length _ _ _ hk]; exact hlt))
              have cy := cell_row hg (rowL_at R.list k (by simp [S8.list]; exact hlt))
              have fx := frozen_of_row wr w.heap.size k _ _ h0
              have Hs := Lib.hid (addL_step s R k hlt)
              clear h0 hg
              generalize (addL s R k)[k]?.getD 0 = x at *
              generalize R.list[k]?.getD 0 = y at *
              have Ha := Lib.hid (add_eq x y)
              go_wp2_with fail
              refine region_ht (fun w' => w' = wr.drew) 10 (by kernel_rfl) (by kernel_rfl) rfl ?_
              simp only [List.take_succ_cons, List.take_zero, List.drop_succ_cons, List.drop_zero]
              repeat (refine wpQuiet_step (fun K hK => ?_); go_simp; (try go_bits); refine hK _ ?_; clear hK K)
              refine wpQuiet_nil ?_
              rintro _ rfl
              go_wp2
              go_roundw
              case rel =>
                refine ⟨_, _, _, _, _, _, _, _, _, _, _, _, _, _, _, ⟨k + 1, by omega, by go_num, ?_, (heap_setCell_other _ _ _ _ (show w.heap.size + 1 + 1 + 1 ≠ w.heap.size by omega)).trans H3.out, (heap_setCell_other _ _ _ _ (show g ≠ w.heap.size by omega)).trans Hg.out, (Hb.out.setCell (Nat.le_refl _) _).drew⟩, rfl⟩
                rw [← Hs.out, ← rowL_set, ← Ha.out]
                exact heap_setCell_same _ _ _ _ _ _ H0.out
              case measure => simp [intOf]; omega
            · obtain rfl : k = 8 := by omega
              have e8 : addL s R 8 = (s.add R).list := by rfl
              rw [e8] at H0
              clear h0 hg e8
              go_wp2_with (first
                | (refine wpList_load_row rfl 100 _ rfl _ rfl 100 _ _ _ H0.out Try.underlying100 rfl (info100 _ rfl) ?_)
                | (refine wpList_store_row rfl 100 _ _ rfl _ _ rfl rfl 100 _ H3.out (info100 _ rfl) rfl (rowL_one _) ?_))
              refine bodyPost_ret (results_cell_row rfl _ _ _ 100 _ _ _ rfl (setRow_heap _ _ _ _ _ _ H3.out) Try.underlying100 rfl (info100 _ rfl)) rfl ⟨by rw [← HW.out, ← HR.out], below_row Hb.out (by omega) _⟩
end Go.Proofs.Ytafakjdolnigaaa
