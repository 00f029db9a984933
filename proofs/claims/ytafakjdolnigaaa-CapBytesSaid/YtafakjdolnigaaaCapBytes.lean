/- The walk of cofferlaw14.CapBytes. -/
import Derived.Test.YtafakjdolnigaaaCapY
import Derived.Test.YtafakjdolnigaaaGCheck
import Derived.Test.YtafakjdolnigaaaFrameG
namespace Go.Proofs.Ytafakjdolnigaaa
open Go.RowKit
set_option linter.unusedVariables false

/-- cap.Bytes and its reference, whatever the token. -/
noncomputable def bytesOf (t : Tok) (cs : List (UInt8 × Int)) : List UInt8 := if mayOk t cs = true then tokOf t cs else []
noncomputable def bytesErr (t : Tok) (cs : List (UInt8 × Int)) : Int := if mayOk t cs = true then 0 else 1
theorem bytes_all {w : World} {t : Tok} {r : Option Addr} {len cap : Nat} {cs : List (UInt8 × Int)} (ht : t.Ok) (h : CavsAt w r len cap cs) :
    Calls Try.prog 44 #[.agg (tokRow t (.slice r len cap))] w fun e w' => ∃ v, e = .returned (.tuple #[v, .int .i64 (bytesErr t cs)]) ∧ OwnB w' w.heap.size v (bytesOf t cs) ∧ Below w.heap.size w w' := by
  by_cases hm : mayOk t cs = true
  · refine (bytes_good ht h hm (mayOk_size hm)).mono ?_
    rintro e w' ⟨v, rfl, ho, hb⟩
    exact ⟨v, by rw [bytesErr, if_pos hm], by rw [bytesOf, if_pos hm]; exact ho, hb⟩
  · refine (bytes_bad ht h (by simpa using hm)).mono ?_
    rintro e w' ⟨rfl, hb⟩
    exact ⟨_, by rw [bytesErr, if_neg hm], by rw [bytesOf, if_neg hm]; exact ownB_none _ _, hb⟩
theorem refBytes_all {w : World} {t : Tok} {r : Option Addr} {len cap : Nat} {cs : List (UInt8 × Int)} (ht : t.Ok) (h : CavsAt w r len cap cs) :
    Calls Try.prog 78 #[.agg (tokRow t (.slice r len cap))] w fun e w' => ∃ v, e = .returned (.tuple #[v, .int .i64 (bytesErr t cs)]) ∧ OwnB w' w.heap.size v (bytesOf t cs) ∧ Below w.heap.size w w' := by
  by_cases hm : mayOk t cs = true
  · refine (refBytes_good ht h hm (mayOk_size hm)).mono ?_
    rintro e w' ⟨v, rfl, ho, hb⟩
    exact ⟨v, by rw [bytesErr, if_pos hm], by rw [bytesOf, if_pos hm]; exact ho, hb⟩
  · refine (refBytes_bad ht h (by simpa using hm)).mono ?_
    rintro e w' ⟨rfl, hb⟩
    exact ⟨_, by rw [bytesErr, if_neg hm], by rw [bytesOf, if_neg hm]; exact ownB_none _ _, hb⟩
theorem bytesErr_01 (t : Tok) (cs : List (UInt8 × Int)) : bytesErr t cs = 0 ∨ bytesErr t cs = 1 := by
  unfold bytesErr; split
  · exact .inl rfl
  · exact .inr rfl

set_option maxRecDepth 100000 in
set_option maxHeartbeats 8000000 in
theorem capBytes_walk {w : World} {t : Tok} (ht : t.Ok) {r : Option Addr} {len cap : Nat} {cs : List (UInt8 × Int)} (h : CavsAt w r len cap cs) :
    Calls Try.prog 23 #[.agg (tokRow t (.slice r len cap))] w fun e w' => e = .returned (.bool true) ∧ Below w.heap.size w w' := by
  obtain ⟨L, hL⟩ : ∃ L, L = (decide (t.tn.size ≤ 1024) && decide (len ≤ 64)) := ⟨_, rfl⟩
  obtain ⟨B, hB⟩ : ∃ B, B = bytesOf t cs := ⟨_, rfl⟩
  obtain ⟨E, hE⟩ : ∃ E, E = bytesErr t cs := ⟨_, rfl⟩
  obtain ⟨n, hn⟩ : ∃ n, B.length = n := ⟨_, rfl⟩
  have Ok := Lib.hid ht
  have H := Lib.hid h
  have HL := Lib.hid hL
  have HB := Lib.hid hB
  have HE := Lib.hid hE
  have Hn := Lib.hid hn
  clear ht h hL hB hE hn
  go_enter Try.func23, Try.ntmps23
  go_upto_region 1 with (refine wpList_box rfl 51 _ rfl (tokRow _ _) rfl ?_)
  refine abstract_world (fun W => W.heap[w.heap.size]? = some (.cells (tokRow t (.slice r len cap)) 51 (0, 0)) ∧ Below w.heap.size w W) ⟨heap_alloc_new _ _, below_one _ _⟩ ?_
  rintro w1 ⟨r0, r1⟩
  have R0 := Lib.hid r0
  have R1 := Lib.hid r1
  clear r0 r1
  cases L with
  | false =>
    go_wp2_with (first
      | (go_at_call 42; refine (light_any Ok.out.tag).mono ?_; rintro e w3 ⟨rfl, hb⟩; rw [← HL.out]; have Hb3 := Lib.hid hb; clear hb)
      | (refine wpList_load_row rfl 51 _ rfl _ rfl 51 _ _ _ ((Hb2.out.block _ (heap_lt R0.out)).trans R0.out) Try.underlying51 rfl (info51 t _ Ok.out.tag) ?_)
      | (go_at_call 41; refine (begun14 _).mono ?_; rintro e w2 ⟨rfl, hb⟩; have Hb2 := Lib.hid hb; clear hb))
    go_ret
    exact ⟨rfl, below_seq R1.out (below_seq Hb2.out Hb3.out)⟩
  | true =>
    go_upto_region 6 with (first
      | (go_at_call 42; refine (light_any Ok.out.tag).mono ?_; rintro e w3 ⟨rfl, hb⟩; rw [← HL.out]; have Hb3 := Lib.hid hb; clear hb)
      | (refine wpList_load_row rfl 51 _ rfl _ rfl 51 _ _ _ ((Hb2.out.block _ (heap_lt R0.out)).trans R0.out) Try.underlying51 rfl (info51 t _ Ok.out.tag) ?_)
      | (go_at_call 41; refine (begun14 _).mono ?_; rintro e w2 ⟨rfl, hb⟩; have Hb2 := Lib.hid hb; clear hb))
    go_loopw [3] (fun v wr => ∃ (k : Nat), k ≤ 2 ∧ v = .int .i64 (k : Int) ∧ Below w1.heap.size w1 wr) (fun v _ => 2 - (intOf v).toNat)
    case atStart => exact ⟨0, by omega, rfl, below_seq Hb2.out Hb3.out⟩
    case round =>
      obtain ⟨k, hk, rfl, hb⟩ := hrel
      have Hb := Lib.hid hb
      clear hb
      by_cases hlt : k < 2
      · have C4 : Hid (∀ w', Below w1.heap.size w1 w' → Calls Try.prog 44 #[.agg (tokRow t (.slice r len cap))] w' fun e w'' => ∃ v, e = .returned (.tuple #[v, .int .i64 E]) ∧ OwnB w'' w'.heap.size v B ∧ Below w'.heap.size w' w'') := Lib.hid fun w' hw => by rw [HE.out, HB.out]; exact bytes_all Ok.out ((H.out.below R1.out).below hw)
        have C5 : Hid (∀ w', Below w1.heap.size w1 w' → Calls Try.prog 78 #[.agg (tokRow t (.slice r len cap))] w' fun e w'' => ∃ v, e = .returned (.tuple #[v, .int .i64 E]) ∧ OwnB w'' w'.heap.size v B ∧ Below w'.heap.size w' w'') := Lib.hid fun w' hw => by rw [HE.out, HB.out]; exact refBytes_all Ok.out ((H.out.below R1.out).below hw)
        go_upto_region 10 with (first
          | (go_at_call 78; refine (C5.out _ Hb4.out).mono ?_; rintro e w5 ⟨v5, rfl, ho, hb⟩
             obtain ⟨r5, q5, rfl, hB5, _⟩ := ho.at_len n Hn.out
             have s5 := conv_str hB5
             have s4 := conv_str (HB4.out.below hb)
             have Ho4' := Lib.hid (Ho4.out.keep hb)
             have Hb5 : Hid (Below w1.heap.size w1 w5) := Lib.hid (below_seq Hb4.out hb)
             clear ho hb hB5)
          | (refine wpList_load_row rfl 51 _ rfl _ rfl 51 _ _ _ ((Hb4.out.block _ (heap_lt R0.out)).trans R0.out) Try.underlying51 rfl (info51 t _ Ok.out.tag) ?_)
          | (go_at_call 44; refine (C4.out _ Hb.out).mono ?_; rintro e w4 ⟨v4, rfl, ho, hb⟩
             obtain ⟨r4, q4, rfl, hB4, _⟩ := ho.at_len n Hn.out
             have HB4 := Lib.hid hB4
             have Ho4 := Lib.hid (ownB_base ho Hb.out.size)
             have Hb4 : Hid (Below w1.heap.size w1 w4) := Lib.hid (below_seq Hb.out hb)
             clear ho hb hB4)
          | (refine wpList_load_row rfl 51 _ rfl _ rfl 51 _ _ _ ((Hb.out.block _ (heap_lt R0.out)).trans R0.out) Try.underlying51 rfl (info51 t _ Ok.out.tag) ?_))
        go_wp2_with (go_at_call 37; refine (spoil_own Ho4'.out).mono ?_; rintro e w6 ⟨rfl, hg⟩; have Hb6 := Lib.hid (Ho4'.out.below Hb5.out Hb5.out.size hg); clear hg)
        exact ⟨⟨k + 1, by omega, by go_num, Hb6.out⟩, by simp [intOf]; omega⟩
      · go_wp2
        go_ret
        exact ⟨rfl, below_seq R1.out Hb.out⟩
end Go.Proofs.Ytafakjdolnigaaa
