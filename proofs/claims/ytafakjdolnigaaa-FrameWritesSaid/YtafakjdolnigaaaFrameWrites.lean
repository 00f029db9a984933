/- The walk of cofferlaw10.FrameWrites. -/
import Derived.Test.YtafakjdolnigaaaFrameG
import Derived.Test.YtafakjdolnigaaaFrameBack
namespace Go.Proofs.Ytafakjdolnigaaa
open Go.RowKit
set_option linter.unusedVariables false

def ptF (key b : List UInt8) : List UInt8 := if b.length ≤ 4200 then frameOf key b else []
def ptE (b : List UInt8) : Nat := if b.length ≤ 4200 then 0 else 2
theorem put_all {w : World} {r : Option Addr} {cap : Nat} {key b : List UInt8} (hk : key.length = 32) (hb : BytesAt w r b.length cap b) :
    Calls Try.prog 63 #[.agg (row8 key), .slice r b.length cap] w fun e w' => ∃ v, e = .returned (.tuple #[v, .int .i64 (ptE b : Int)]) ∧ OwnB w' w.heap.size v (ptF key b) ∧ Below w.heap.size w w' := by
  unfold ptF ptE
  by_cases h : b.length ≤ 4200
  · rw [if_pos h, if_pos h]
    exact framePut_any hk hb h
  · rw [if_neg h, if_neg h]
    exact (framePut_long hb (by omega)).mono fun e w' ⟨he, hw⟩ => ⟨_, he, ownB_none _ _, hw⟩
theorem refPut_all {w : World} {r : Option Addr} {cap : Nat} {key b : List UInt8} (hk : key.length = 32) (hb : BytesAt w r b.length cap b) :
    Calls Try.prog 64 #[.agg (row8 key), .slice r b.length cap] w fun e w' => ∃ v, e = .returned (.tuple #[v, .int .i64 (ptE b : Int)]) ∧ OwnB w' w.heap.size v (ptF key b) ∧ Below w.heap.size w w' := by
  unfold ptF ptE
  by_cases h : b.length ≤ 4200
  · rw [if_pos h, if_pos h]
    exact refFramePut_any hk hb h
  · rw [if_neg h, if_neg h]
    exact (refFramePut_long hb (by omega)).mono fun e w' ⟨he, hw⟩ => ⟨_, he, ownB_none _ _, hw⟩

set_option maxRecDepth 100000 in
set_option maxHeartbeats 4000000 in
theorem frameWrites_walk {w : World} {key : List UInt8} (hk : key.length = 32) {r : Option Addr} {len cap : Nat} {bs : List UInt8} (h : BytesAt w r len cap bs) {n : Int} (hn : (Lit.int .i64 n).wf = true) :
    Calls Try.prog 16 #[.agg (row8 key), .slice r len cap, .int .i64 n] w fun e w' => e = .returned (.bool true) ∧ Below w.heap.size w w' := by
  clear hn
  by_cases ha : 8192 < len
  · clear h
    go_enter Try.func16, Try.ntmps16
    go_wp2_with (first
      | (refine wpList_box rfl 31 _ rfl _ rfl ?_)
      | (go_at_call 62; refine (begun10 _).mono ?_; rintro e w1 ⟨rfl, h1⟩))
    go_ret
    exact ⟨rfl, below_seq (below_one _ _) h1⟩
  have hbl := h.hlen
  subst hbl
  obtain ⟨F, hF⟩ : ∃ F, F = ptF key bs := ⟨_, rfl⟩
  obtain ⟨E, hE⟩ : ∃ E, E = ptE bs := ⟨_, rfl⟩
  obtain ⟨s, hs⟩ : ∃ s, s = sizeOfN n := ⟨_, rfl⟩
  have c63 : ∀ (w : World) (r : Option Addr) (cap : Nat), BytesAt w r bs.length cap bs → Calls Try.prog 63 #[.agg (row8 key), .slice r bs.length cap] w fun e w' => ∃ v, e = .returned (.tuple #[v, .int .i64 (E : Int)]) ∧ OwnB w' w.heap.size v F ∧ Below w.heap.size w w' := fun w r cap hb => by
    rw [hE, hF]
    exact put_all hk hb
  have c64 : ∀ (w : World) (r : Option Addr) (cap : Nat), BytesAt w r bs.length cap bs → Calls Try.prog 64 #[.agg (row8 key), .slice r bs.length cap] w fun e w' => ∃ v, e = .returned (.tuple #[v, .int .i64 (E : Int)]) ∧ OwnB w' w.heap.size v F ∧ Below w.heap.size w w' := fun w r cap hb => by
    rw [hE, hF]
    exact refPut_all hk hb
  have c65 : ∀ w, Calls Try.prog 65 #[.int .i64 n] w fun e w' => e = .returned (.int .i64 s) ∧ w = w' := fun w => by rw [hs]; exact size_any w n
  have c66 : ∀ w, Calls Try.prog 66 #[.int .i64 n] w fun e w' => e = .returned (.int .i64 s) ∧ w = w' := fun w => by rw [hs]; exact refSize_any w n
  have C63 := Lib.hid c63
  have C64 := Lib.hid c64
  have C65 := Lib.hid c65
  have C66 := Lib.hid c66
  have Hk := Lib.hid hk
  have H := Lib.hid h
  clear hF hE hs c63 c64 c65 c66 hk h
  go_enter Try.func16, Try.ntmps16
  go_upto_region 5 with (first
    | (refine wpList_box rfl 31 _ rfl _ rfl ?_)
    | (go_at_call 62; refine (begun10 _).mono ?_; rintro e w1 ⟨rfl, h1⟩))
  have r0 : w1.heap[w.heap.size]? = some (.cells (row8 key) 31 (0, 0)) := (h1.block _ (by simp)).trans (heap_alloc_new _ _)
  have r1 : Below w.heap.size w w1 := below_seq (below_one _ _) h1
  have R0 := Lib.hid r0
  have R1 := Lib.hid r1
  clear h1 r0 r1
  go_upto_region 7 with (go_at_call 36; refine (twin_any (H.out.below R1.out) (by omega)).mono ?_; rintro e w2 ⟨g, rfl, ht, hg, h2⟩; have R2 := Lib.hid (below_seq R1.out h2); have T2 := Lib.hid ht; have K2 : Hid (w2.heap[w.heap.size]? = some (.cells (row8 key) 31 (0, 0))) := Lib.hid ((h2.block _ (heap_lt R0.out)).trans R0.out); clear h2 ht)
  go_loopw [8] (fun v wr => ∃ k : Nat, k ≤ 2 ∧ v = .int .i64 (k : Int) ∧ Below w2.heap.size w2 wr) (fun v _ => 2 - (intOf v).toNat)
  case atStart => exact ⟨0, by omega, rfl, Below.refl _ _⟩
  case round =>
    obtain ⟨k, hk, rfl, hb⟩ := hrel
    have Hb := Lib.hid hb
    have KR : Hid (wr.heap[w.heap.size]? = some (.cells (row8 key) 31 (0, 0))) := Lib.hid ((hb.block _ (heap_lt K2.out)).trans K2.out)
    clear hb
    by_cases hlt : k < 2
    · go_upto_region 10 with (first
        | (refine wpList_load_row rfl 31 _ rfl w.heap.size rfl 31 _ _ _ KR.out Try.underlying31 rfl (info31 _ Hk.out) ?_)
        | (go_at_call 63; refine (C63.out _ _ _ (T2.out.at.below Hb.out)).mono ?_; rintro e w3 ⟨v3, rfl, ho3, hb3⟩
           have Ho3 := Lib.hid ho3
           have Hb3 := Lib.hid hb3
           clear ho3 hb3))
      have K3 : Hid (w3.heap[w.heap.size]? = some (.cells (row8 key) 31 (0, 0))) := Lib.hid ((Hb3.out.block _ (heap_lt KR.out)).trans KR.out)
      go_upto_region 11 with (first
        | (refine wpList_load_row rfl 31 _ rfl w.heap.size rfl 31 _ _ _ K3.out Try.underlying31 rfl (info31 _ Hk.out) ?_)
        | (go_at_call 64; refine (C64.out _ _ _ ((H.out.below R2.out).below (below_seq Hb.out Hb3.out))).mono ?_; rintro e w6 ⟨v5, rfl, ho5, hb5⟩
           have O5 := Lib.hid ho5
           have Hb36 := Lib.hid hb5
           clear ho5 hb5))
      have Hb26 : Hid (Below wr.heap.size wr w6) := Lib.hid (below_seq Hb3.out Hb36.out)
      have O3 := Lib.hid (Ho3.out.keep Hb36.out)
      obtain ⟨ra, ca, hva, hA, _⟩ := O3.out.at
      obtain ⟨rb, cb, hvb, hB, _⟩ := O5.out.at
      have s1 := conv_str hA
      have s2 := conv_str hB
      rw [← hva] at s1
      rw [← hvb] at s2
      have HT := Lib.hid (T2.out.below (below_seq Hb.out Hb26.out))
      have HHb := Lib.hid ((H.out.below R2.out).below (below_seq Hb.out Hb26.out))
      clear hA hB hva hvb
      go_wp2_with (first
        | (go_at_call 58; refine (kept_any HT.out HHb.out (by omega)).mono ?_; rintro e w7 ⟨rfl, rfl⟩)
        | (go_at_call 65; refine (C65.out _).mono ?_; rintro e w7 ⟨rfl, rfl⟩)
        | (go_at_call 66; refine (C66.out _).mono ?_; rintro e w7 ⟨rfl, rfl⟩)
        | (go_at_call 37; refine (spoil_own O3.out).mono ?_; rintro e w8 ⟨rfl, hg8⟩
           have Hb8 : Hid (Below wr.heap.size wr w8) := Lib.hid (O3.out.below Hb26.out Hb26.out.size hg8)
           clear hg8))
      exact ⟨⟨k + 1, by omega, by go_num, below_seq Hb.out Hb8.out⟩, by simp [intOf]; omega⟩
    · obtain rfl : k = 2 := by omega
      go_wp2
      go_ret
      exact ⟨rfl, below_seq R2.out Hb.out⟩
end Go.Proofs.Ytafakjdolnigaaa
