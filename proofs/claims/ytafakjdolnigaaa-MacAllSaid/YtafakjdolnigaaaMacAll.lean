/- The walk of cofferlaw3.MacAll. -/
import Derived.Test.YtafakjdolnigaaaBegun3
import Derived.Test.YtafakjdolnigaaaLib2
namespace Go.Proofs.Ytafakjdolnigaaa
open Go.RowKit
set_option linter.unusedVariables false

set_option maxRecDepth 100000 in
set_option maxHeartbeats 4000000 in
theorem macAll_walk {w : World} {rk r : Option Addr} {lk ck len cap : Nat} {key : List UInt8} {ps : List (List UInt8)} (hk : BytesAt w rk lk ck key) (hp : PartsAt w r len cap ps) :
    Calls Try.prog 13 #[.slice rk lk ck, .slice r len cap] w fun e w' => e = .returned (.bool true) ∧ Below w.heap.size w w' := by
  by_cases ha : 4096 < lk
  · go_enter Try.func13, Try.ntmps13
    go_wp2_with (go_at_call 51; refine (begun3 _).mono ?_; rintro e w1 ⟨rfl, h1⟩)
    go_ret
    exact ⟨rfl, h1⟩
  by_cases hc : 1024 < len
  · go_enter Try.func13, Try.ntmps13
    go_wp2_with (go_at_call 51; refine (begun3 _).mono ?_; rintro e w1 ⟨rfl, h1⟩)
    go_ret
    exact ⟨rfl, h1⟩
  obtain ⟨s, hs⟩ : ∃ s, s = sumTo 4096 ps 0 := ⟨_, rfl⟩
  have hsum : ∀ w', Below w.heap.size w w' → Calls Try.prog 26 #[.slice r len cap, .int .i64 4096] w' fun e w'' => e = .returned (.int .i64 (s : Int)) ∧ w' = w'' := fun w' hb => by
    rw [hs]; exact libSum_any (hp.below hb) 4096 (by omega)
  have Hsum := Lib.hid hsum
  clear hsum
  by_cases hb : 4096 < s
  · go_enter Try.func13, Try.ntmps13
    go_wp2_with (first
      | (go_at_call 51; refine (begun3 _).mono ?_; rintro e w1 ⟨rfl, h1⟩)
      | (go_at_call 26; refine (Hsum.out _ h1).mono ?_; rintro e w2 ⟨rfl, rfl⟩))
    go_ret
    exact ⟨rfl, h1⟩
  have hflat : s = ps.flatten.length := by
    rw [hs]; rw [sumTo_flat 4096 ps 0 (by omega)]; omega
  have hpl := hp.hlen
  have hflt : ps.flatten.length ≤ 4096 := by omega
  have hpt : ∀ i, (ps[i]?.getD []).length ≤ 4096 := fun i => Nat.le_trans (part_le ps i) hflt
  have hkl := hk.hlen
  subst hpl hkl
  have Hflat := Lib.hid hflat
  have Hpt := Lib.hid hpt
  have Hflt := Lib.hid hflt
  obtain ⟨D, hD⟩ : ∃ D, D = macOf key ps := ⟨_, rfl⟩
  have hDl : D.length = 32 := by rw [hD]; exact macOf_length _ _
  obtain ⟨E, hE⟩ : ∃ E, E = hmac key ps.flatten := ⟨_, rfl⟩
  have hEl : E.length = 32 := by rw [hE]; exact hmac_length _ _
  have HD := Lib.hid hD
  have HE := Lib.hid hE
  clear hflat hpt hs hflt hD hE
  go_enter Try.func13, Try.ntmps13
  go_upto_region 7 with (first
    | (go_at_call 51; refine (begun3 _).mono ?_; rintro e w1 ⟨rfl, h1⟩)
    | (go_at_call 26; refine (Hsum.out _ h1).mono ?_; rintro e w2 ⟨rfl, rfl⟩)
    | (go_at_call 36; refine (twin_any (hk.below h1) (by omega)).mono ?_; rintro e w2 ⟨g, rfl, ht, hg, h2⟩; have k2 := below_seq h1 h2; have T2 := Lib.hid ht; clear h2 ht h1)
    | (go_at_call 27; refine (twins_any (hp.below k2) (fun i _ => by have := Hpt.out i; omega) (by omega)).mono ?_; rintro e wt ⟨vt, rfl, TT, ht⟩; have kt := below_seq k2 ht; have T3 := Lib.hid (T2.out.below ht); clear k2 ht T2)
    | (go_at_call 55; refine (joined_any (hp.below kt) (by have := Hflt.out; omega)).mono ?_; rintro e w3 ⟨vb, rfl, ho3, h3⟩; have k3 := below_seq kt h3; have T4 := Lib.hid (T3.out.below h3); have TT4 := Lib.hid (TT.below h3); clear kt h3 T3 TT))
  obtain ⟨rb, cb, rfl, hb3, _⟩ := ho3.at_len s Hflat.out.symm
  obtain ⟨rt, ct, rfl, Pt⟩ := TT4.out.parts
  have HT := Lib.hid T4.out.at
  have HB := Lib.hid hb3
  have HP := Lib.hid Pt
  have K3 := Lib.hid k3
  have hct : ct ≤ 9223372036854775807 := Pt.hmax
  have hct2 := Pt.hle
  clear hb3 Pt k3 ho3
  go_wp2_with (first
    | (go_at_call 56; with_reducible refine (macOf_any HT.out HP.out (by omega) (by omega) (by have := Hflt.out; omega)).mono ?_; rintro e w4 ⟨rfl, h4⟩; rw [← HD.out])
    | (go_at_call 57; with_reducible refine (refMacOf_any ((hk.below K3.out).below h4) ((hp.below K3.out).below h4) (by omega) (by omega) (by have := Hflt.out; omega)).mono ?_; rintro e w5 ⟨rfl, h5⟩; rw [← HD.out]; have k5 := below_seq h4 h5)
    | (go_at_call 53; with_reducible refine (raw_any (HT.out.below k5) (HB.out.below k5) (by omega) (by have := Hflt.out; omega)).mono ?_; rintro e w6 ⟨rfl, h6⟩; rw [← HE.out]; have k6 := below_seq k5 h6)
    | (go_at_call 54; with_reducible refine (refRaw_any ((hk.below K3.out).below k6) (HB.out.below k6) (by omega) (by have := Hflt.out; omega)).mono ?_; rintro e w7 ⟨rfl, h7⟩; rw [← HE.out]; have k7 := below_seq k6 h7)
    | (go_at_call 58; with_reducible refine (kept_any (T4.out.below k7) ((hk.below K3.out).below k7) (by omega)).mono ?_; rintro e w8 ⟨rfl, rfl⟩)
    | (go_at_call 34; with_reducible refine (allKept_any (TT4.out.below k7) ((hp.below K3.out).below k7) (fun i _ => by have := Hpt.out i; omega)).mono ?_; rintro e w9 ⟨rfl, h9⟩))
  go_ret
  exact ⟨rfl, below_seq (below_seq K3.out k7) h9⟩
end Go.Proofs.Ytafakjdolnigaaa
