/- The walk of cofferlaw14.CapTimes. -/
import Derived.Test.YtafakjdolnigaaaGCheck
namespace Go.Proofs.Ytafakjdolnigaaa
open Go.RowKit
set_option linter.unusedVariables false

/-- Serial 3, tenant a, right 1. -/
def tokA (f u : Int) : Tok := ⟨3, ⟨#[97]⟩, 1, f, u, zero32⟩
theorem tokA_ok {f u : Int} (hf : (Lit.int .i64 f).wf = true) (hu : (Lit.int .i64 u).wf = true) : (tokA f u).Ok := ⟨hf, hu, zero32_length, by unfold maxLen; show 1 ≤ _; omega⟩
theorem tokA_may (f u : Int) : mayOk (tokA f u) [] = true := by
  have h : nameOk ⟨#[97]⟩ = true := nameOk_true ⟨by show 1 ≤ 1; omega, by show 1 ≤ 16; omega, fun _ => ⟨by show 97 ≤ 97; omega, by show 97 ≤ 122; omega⟩, fun i hi => by
    have h1 : i < 1 := hi
    obtain rfl : i = 0 := by omega
    exact .inl ⟨by show 97 ≤ 97; omega, by show 97 ≤ 122; omega⟩⟩
  unfold mayOk
  rw [show nameOk (tokA f u).tn = true from h, Bool.or_true]
  rfl

set_option maxRecDepth 100000 in
set_option maxHeartbeats 8000000 in
theorem capTimes_walk {w : World} {key : List UInt8} (hk : key.length = 32) {f u n : Int} (hf : (Lit.int .i64 f).wf = true) (hu : (Lit.int .i64 u).wf = true) (hn : (Lit.int .i64 n).wf = true) :
    Calls Try.prog 21 #[.agg (row8 key), .int .i64 f, .int .i64 u, .int .i64 n] w fun e w' => e = .returned (.bool true) ∧ Below w.heap.size w w' := by
  obtain ⟨t, ht⟩ : ∃ t, t = tokA f u := ⟨_, rfl⟩
  obtain ⟨t2, ht2⟩ : ∃ t2, t2 = issued key t := ⟨_, rfl⟩
  obtain ⟨C, hC⟩ : ∃ C, C = checkOf key t2 [] n := ⟨_, rfl⟩
  have okt : t.Ok := by rw [ht]; exact tokA_ok hf hu
  have hC2 : C = if n < f ∨ u ≤ n then 14 else 0 := by rw [hC, ht2, ht, checkOf_issued (tokA_may f u)]; rfl
  have Kl := Lib.hid hk
  have Ok := Lib.hid okt
  have Ok2 := Lib.hid (show t2.Ok by rw [ht2]; exact issued_ok okt)
  have M := Lib.hid (show mayOk t [] = true by rw [ht]; exact tokA_may f u)
  have M2 := Lib.hid (show mayOk t2 [] = true by rw [ht2, ht, mayOk_issued]; exact tokA_may f u)
  have HT := Lib.hid ht
  have HT2 := Lib.hid ht2
  have HC := Lib.hid hC
  have HC2 := Lib.hid hC2
  clear ht ht2 okt hk hC hC2 hf hu hn
  go_enter Try.func21, Try.ntmps21
  go_upto_region 1 with (refine wpList_box rfl 31 _ rfl _ rfl ?_)
  refine abstract_world (fun W => W.heap[w.heap.size]? = some (.cells (row8 key) 31 (0, 0)) ∧ Below w.heap.size w W) ⟨heap_alloc_new _ _, below_one _ _⟩ ?_
  rintro w1 ⟨r0, r1⟩
  have R0 := Lib.hid r0
  have R1 := Lib.hid r1
  clear r0 r1
  go_upto_region 4 with (first
    | (refine wpList_store_row rfl 51 _ _ rfl _ _ rfl rfl 51 _ (heap_alloc_new w3 _) (info51 _ _ Ok2.out.tag) (by rw [tokRow_size _ _ zero32_length, tokRow_size _ _ Ok2.out.tag]) (tokRow_one _ _ rfl) ?_)
    | (refine wpList_allocRow 51 _ alloc51 rfl rfl ?_)
    | (go_at_call 47; refine (issue_good Kl.out Ok.out (cavs_none _) M.out).mono ?_; rintro e w3 ⟨rfl, hb⟩; rw [← HT2.out]; have Hb3 := Lib.hid hb; clear hb)
    | (refine wpList_buildV (.agg (tokRow (tokA f u) (.slice none 0 0))) 51 _ rfl rfl (by kernel_rfl) ?_; rw [← HT.out])
    | (refine wpList_load_row rfl 31 _ rfl _ rfl 31 _ _ _ ((Hb2.out.block _ (heap_lt R0.out)).trans R0.out) Try.underlying31 rfl (info31 _ Kl.out) ?_)
    | (go_at_call 41; refine (begun14 _).mono ?_; rintro e w2 ⟨rfl, hb⟩; have Hb2 := Lib.hid hb; clear hb))
  refine abstract_world (fun W => W.heap[w3.heap.size]? = some (.cells (tokRow t2 (.slice none 0 0)) 51 (0, 0)) ∧ Below w3.heap.size w3 W) ⟨setRow_heap _ _ _ _ _ _ (heap_alloc_new _ _), below_row (below_one _ _) (Nat.le_refl _) _⟩ ?_
  rintro w4 ⟨r0, r1⟩
  have P0 := Lib.hid r0
  have B4 : Hid (Below w1.heap.size w1 w4) := Lib.hid (below_seq Hb2.out (below_seq Hb3.out r1))
  have R4 := Lib.hid ((B4.out.block _ (heap_lt R0.out)).trans R0.out)
  clear r0 r1
  go_upto_region 5 with (first
    | (go_at_call 49; refine (check_good (now := n) Kl.out Ok2.out (cavs_none _) M2.out).mono ?_; rintro e w5 ⟨rfl, hb⟩; rw [← HC.out]; have Hb5 := Lib.hid hb; clear hb)
    | (refine wpList_load_row rfl 31 _ rfl _ rfl 31 _ _ _ R4.out Try.underlying31 rfl (info31 _ Kl.out) ?_)
    | (refine wpList_load_row rfl 51 _ rfl _ rfl 51 _ _ _ P0.out Try.underlying51 rfl (info51 _ _ Ok2.out.tag) ?_))
  have B5 : Hid (Below w.heap.size w w5) := Lib.hid (below_seq R1.out (below_seq B4.out Hb5.out))
  by_cases h1 : n < f
  · obtain rfl : C = 14 := by rw [HC2.out, if_pos (Or.inl h1)]
    clear HC2 HC
    go_wp2
    go_ret
    exact ⟨rfl, B5.out⟩
  · by_cases h2 : u ≤ n
    · obtain rfl : C = 14 := by rw [HC2.out, if_pos (Or.inr h2)]
      clear HC2 HC
      have hd : decide (n < u) = false := by simpa using h2
      go_wp2
      go_ret
      exact ⟨rfl, B5.out⟩
    · obtain rfl : C = 0 := by rw [HC2.out, if_neg (by omega)]
      clear HC2 HC
      go_wp2
      go_ret
      exact ⟨rfl, B5.out⟩
end Go.Proofs.Ytafakjdolnigaaa
