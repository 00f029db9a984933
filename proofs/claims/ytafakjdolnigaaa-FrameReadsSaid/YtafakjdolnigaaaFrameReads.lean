/- The walk of cofferlaw10.FrameReads. -/
import Derived.Test.YtafakjdolnigaaaFrameG
import Derived.Test.YtafakjdolnigaaaFrameBack
namespace Go.Proofs.Ytafakjdolnigaaa
open Go.RowKit
set_option linter.unusedVariables false

theorem id_neq_self (k : List UInt8) : (!(k == k)) = false := by simp

set_option maxRecDepth 100000 in
set_option maxHeartbeats 4000000 in
theorem frameReads_walk {w : World} {r : Option Addr} {len cap : Nat} {bs : List UInt8} (h : BytesAt w r len cap bs) :
    Calls Try.prog 17 #[.slice r len cap] w fun e w' => e = .returned (.bool true) ∧ Below w.heap.size w w' := by
  by_cases ha : 8192 < len
  · clear h
    go_enter Try.func17, Try.ntmps17
    go_wp2_with (go_at_call 62; refine (begun10 _).mono ?_; rintro e w1 ⟨rfl, h1⟩)
    go_ret
    exact ⟨rfl, h1⟩
  have hbl := h.hlen
  subst hbl
  obtain ⟨K, hK⟩ : ∃ K, K = tkK bs := ⟨_, rfl⟩
  obtain ⟨D, hD⟩ : ∃ D, D = tkD bs := ⟨_, rfl⟩
  obtain ⟨N, hN⟩ : ∃ N, N = tkN bs := ⟨_, rfl⟩
  obtain ⟨E, hE⟩ : ∃ E, E = takeErr bs := ⟨_, rfl⟩
  have hKl : K.length = 32 := by rw [hK]; exact tkK_length _
  have c67 : ∀ (w : World) (r : Option Addr) (cap : Nat), BytesAt w r bs.length cap bs → Calls Try.prog 67 #[.slice r bs.length cap] w fun e w' => ∃ v, e = .returned (.tuple #[.agg (row8 K), v, .int .i64 (N : Int), .int .i64 (E : Int)]) ∧ OwnB w' w.heap.size v D ∧ Below w.heap.size w w' := fun w r cap hb => by
    rw [hK, hD, hN, hE]
    exact (take_any hb (by omega)).mono fun e w' h => taken_all h
  have c68 : ∀ (w : World) (r : Option Addr) (cap : Nat), BytesAt w r bs.length cap bs → Calls Try.prog 68 #[.slice r bs.length cap] w fun e w' => ∃ v, e = .returned (.tuple #[.agg (row8 K), v, .int .i64 (N : Int), .int .i64 (E : Int)]) ∧ OwnB w' w.heap.size v D ∧ Below w.heap.size w w' := fun w r cap hb => by
    rw [hK, hD, hN, hE]
    exact (refTake_any hb (by omega)).mono fun e w' h => taken_all h
  have C67 := Lib.hid c67
  have C68 := Lib.hid c68
  have HKl := Lib.hid hKl
  have H := Lib.hid h
  clear hK hD hN hE hKl c67 c68 h
  go_enter Try.func17, Try.ntmps17
  go_upto_region 7 with (first
    | (go_at_call 62; refine (begun10 _).mono ?_; rintro e w1 ⟨rfl, h1⟩)
    | (go_at_call 36; refine (twin_any (H.out.below h1) (by omega)).mono ?_; rintro e w2 ⟨g, rfl, ht, hg, h2⟩; have R2 := Lib.hid (below_seq h1 h2); have T2 := Lib.hid ht; clear h2 ht h1))
  go_loopw [4] (fun v wr => ∃ k : Nat, k ≤ 2 ∧ v = .int .i64 (k : Int) ∧ Below w2.heap.size w2 wr) (fun v _ => 2 - (intOf v).toNat)
  case atStart => exact ⟨0, by omega, rfl, Below.refl _ _⟩
  case round =>
    obtain ⟨k, hk, rfl, hb⟩ := hrel
    have Hb := Lib.hid hb
    clear hb
    by_cases hlt : k < 2
    · go_upto_region 10 with (first
        | (go_at_call 67; refine (C67.out _ _ _ (T2.out.at.below Hb.out)).mono ?_; rintro e w3 ⟨v3, rfl, ho3, hb3⟩
           have Ho3 := Lib.hid ho3
           have Hb3 := Lib.hid hb3
           clear ho3 hb3)
        | (refine wpList_allocRow 31 _ alloc31 rfl rfl ?_)
        | (refine wpList_store_row rfl 31 _ _ rfl _ _ rfl rfl 31 _ (heap_alloc_new _ _) (info31 _ HKl.out) (by rw [row8_size, row8_size, HKl.out]; rfl) (row8_one _) ?_))
      have r0 : ((w3.alloc (.cells (row8 zero32) 31)).setRow w3.heap.size (row8 K)).heap[w3.heap.size]? = some (.cells (row8 K) 31 (0, 0)) := setRow_heap _ _ _ _ _ _ (heap_alloc_new _ _)
      have r1 : Below w3.heap.size w3 ((w3.alloc (.cells (row8 zero32) 31)).setRow w3.heap.size (row8 K)) := below_row (below_one _ _) (Nat.le_refl _) _
      refine abstract_world (fun W => W.heap[w3.heap.size]? = some (.cells (row8 K) 31 (0, 0)) ∧ Below w3.heap.size w3 W) ⟨r0, r1⟩ ?_
      clear r0 r1
      generalize hg5 : w3.heap.size = g5 at *
      rintro w4 ⟨r0, r1⟩
      rw [← hg5] at r1
      have S0 := Lib.hid r0
      have Hb4 := Lib.hid r1
      clear r0 r1
      go_upto_region 11 with (first
        | (go_at_call 68; refine (C68.out _ _ _ ((H.out.below R2.out).below (below_seq Hb.out (below_seq Hb3.out Hb4.out)))).mono ?_; rintro e w5 ⟨v5, rfl, ho5, hb5⟩
           have Ho5 := Lib.hid ho5
           have Hb5 := Lib.hid hb5
           clear ho5 hb5)
        | (refine wpList_allocRow 31 _ alloc31 rfl rfl ?_)
        | (refine wpList_store_row rfl 31 _ _ rfl _ _ rfl rfl 31 _ (heap_alloc_new _ _) (info31 _ HKl.out) (by rw [row8_size, row8_size, HKl.out]; rfl) (row8_one _) ?_))
      have r0 : ((w5.alloc (.cells (row8 zero32) 31)).setRow w5.heap.size (row8 K)).heap[w5.heap.size]? = some (.cells (row8 K) 31 (0, 0)) := setRow_heap _ _ _ _ _ _ (heap_alloc_new _ _)
      have r1 : Below w5.heap.size w5 ((w5.alloc (.cells (row8 zero32) 31)).setRow w5.heap.size (row8 K)) := below_row (below_one _ _) (Nat.le_refl _) _
      refine abstract_world (fun W => W.heap[w5.heap.size]? = some (.cells (row8 K) 31 (0, 0)) ∧ Below w5.heap.size w5 W) ⟨r0, r1⟩ ?_
      clear r0 r1
      generalize hg9 : w5.heap.size = g9 at *
      rintro w6 ⟨r0, r1⟩
      rw [← hg9] at r1
      have U0 := Lib.hid r0
      have Hb46 : Hid (Below w4.heap.size w4 w6) := Lib.hid (below_seq Hb5.out r1)
      have U1 : Hid (w6.heap[g5]? = some (.cells (row8 K) 31 (0, 0))) := Lib.hid ((Hb46.out.block _ (heap_lt S0.out)).trans S0.out)
      have Hb36 : Hid (Below w3.heap.size w3 w6) := Lib.hid (below_seq Hb4.out Hb46.out)
      have Hb26 : Hid (Below wr.heap.size wr w6) := Lib.hid (below_seq Hb3.out Hb36.out)
      have O3 := Lib.hid (Ho3.out.keep Hb36.out)
      have O5 := Lib.hid (Ho5.out.keep r1)
      obtain ⟨ra, ca, hva, hA, _⟩ := O3.out.at
      obtain ⟨rb, cb, hvb, hB, _⟩ := O5.out.at
      have s1 := conv_str hA
      have s2 := conv_str hB
      rw [← hva] at s1
      rw [← hvb] at s2
      have HT := Lib.hid (T2.out.below (below_seq Hb.out Hb26.out))
      have HHb := Lib.hid ((H.out.below R2.out).below (below_seq Hb.out Hb26.out))
      have e1 := id_neq_self K
      have hkl := HKl.out
      clear hA hB hva hvb r0 r1
      go_wp2_with (first
        | (refine wpList_load_row rfl 31 _ rfl g5 rfl 31 _ _ _ U1.out Try.underlying31 rfl (info31 _ HKl.out) ?_)
        | (refine wpList_load_row rfl 31 _ rfl g9 rfl 31 _ _ _ U0.out Try.underlying31 rfl (info31 _ HKl.out) ?_)
        | (go_at_call 58; refine (kept_any HT.out HHb.out (by omega)).mono ?_; rintro e w7 ⟨rfl, rfl⟩)
        | (go_at_call 37; refine (spoil_own O3.out).mono ?_; rintro e w8 ⟨rfl, hg8⟩
           have Hb8 : Hid (Below wr.heap.size wr w8) := Lib.hid (O3.out.below Hb26.out Hb26.out.size hg8)
           clear hg8))
      exact ⟨⟨k + 1, by omega, by go_num, below_seq Hb.out Hb8.out⟩, by simp [intOf]; omega⟩
    · obtain rfl : k = 2 := by omega
      go_wp2
      go_ret
      exact ⟨rfl, below_seq R2.out Hb.out⟩
end Go.Proofs.Ytafakjdolnigaaa
