/- A frame's bytes are read as the frame; in plain Lean. -/
import Derived.Test.YtafakjdolnigaaaFrameE
namespace Go.Proofs.Ytafakjdolnigaaa
open Go.RowKit
set_option linter.unusedVariables false

theorem sub_same {bs L : List UInt8} {m : Nat} (h : bs.take m = L.take m) (i j : Nat) (hij : i + j ≤ m) : (bs.drop i).take j = (L.drop i).take j := by
  have e : ∀ X : List UInt8, (X.drop i).take j = ((X.take m).drop i).take j := fun X => by
    rw [List.drop_take, List.take_take]
    congr 1
    omega
  rw [e bs, e L, h]
theorem at_same {bs L : List UInt8} {m : Nat} (h : bs.take m = L.take m) (i : Nat) (hi : i < m) : bs[i]?.getD 0 = L[i]?.getD 0 := by
  have h1 := congrArg (fun l => l[i]?) h
  simp only [List.getElem?_take, hi, if_true] at h1
  rw [h1]

theorem frameOf_assoc (key b : List UInt8) : frameOf key b = 199 :: 70 :: (beList 4 (UInt64.ofNat b.length) ++ ((digest (key ++ b)).take 8 ++ (key ++ b))) := by
  simp [frameOf, List.append_assoc]
theorem frameOf_num (key b : List UInt8) : ((frameOf key b).drop 2).take 4 = beList 4 (UInt64.ofNat b.length) := by
  rw [frameOf_assoc]
  exact List.take_left' (beList_length _ _)
theorem d8 (key b : List UInt8) : ((digest (key ++ b)).take 8).length = 8 := by rw [List.length_take, digest_length]; rfl
theorem frameOf_d6 (key b : List UInt8) : (frameOf key b).drop 6 = (digest (key ++ b)).take 8 ++ (key ++ b) := by
  rw [frameOf_assoc]
  show (beList 4 (UInt64.ofNat b.length) ++ ((digest (key ++ b)).take 8 ++ (key ++ b))).drop 4 = _
  exact List.drop_left' (beList_length _ _)
theorem frameOf_sum (key b : List UInt8) : ((frameOf key b).drop 6).take 8 = (digest (key ++ b)).take 8 := by
  rw [frameOf_d6]
  exact List.take_left' (d8 key b)
theorem frameOf_d14 (key b : List UInt8) : (frameOf key b).drop 14 = key ++ b := by
  rw [show 14 = 6 + 8 from rfl, ← List.drop_drop, frameOf_d6]
  exact List.drop_left' (d8 key b)
theorem frameOf_key (key b : List UInt8) (hk : key.length = 32) : ((frameOf key b).drop 14).take 32 = key := by
  rw [frameOf_d14]
  exact List.take_left' hk
theorem frameOf_data (key b : List UInt8) (hk : key.length = 32) : ((frameOf key b).drop 46).take b.length = b := by
  rw [show 46 = 14 + 32 from rfl, ← List.drop_drop, frameOf_d14, List.drop_left' hk, List.take_length]

theorem ofNat_small (n : Nat) (h : n ≤ 4200) : (UInt64.ofNat n).toNat = n := by
  rw [UInt64.toNat_ofNat', Nat.mod_eq_of_lt (by omega)]

/-- The head of a frame, or of what begins as one. -/
theorem head_of {bs key b : List UInt8} {m : Nat} (hb : b.length ≤ 4200) (hm : 46 ≤ m) (h : bs.take m = (frameOf key b).take m) : bs[0]?.getD 0 = 199 ∧ bs[1]?.getD 0 = 70 ∧ frameNum bs = UInt64.ofNat b.length := by
  refine ⟨?_, ?_, ?_⟩
  · rw [at_same h 0 (by omega), frameOf_assoc]; rfl
  · rw [at_same h 1 (by omega), frameOf_assoc]; rfl
  · unfold frameNum
    rw [sub_same h 2 4 (by omega), frameOf_num]
    exact numOf_beList 4 _ (by omega) (by rw [ofNat_small _ hb]; omega)

/-- A frame, whatever stands behind it. -/
theorem take_frame {bs key b : List UInt8} (hk : key.length = 32) (hb : b.length ≤ 4200) (h : bs.take (46 + b.length) = frameOf key b) :
    takeErr bs = 0 ∧ (frameNum bs).toNat = b.length ∧ (bs.drop 14).take 32 = key ∧ (bs.drop 46).take b.length = b := by
  have hL := frameOf_length key b hk
  have h' : bs.take (46 + b.length) = (frameOf key b).take (46 + b.length) := by rw [h, List.take_of_length_le (by omega)]
  obtain ⟨h0, h1, hn⟩ := head_of hb (by omega) h'
  have hlen : 46 + b.length ≤ bs.length := by
    have := congrArg List.length h
    rw [hL, List.length_take] at this
    omega
  have hnn : (frameNum bs).toNat = b.length := by rw [hn, ofNat_small _ hb]
  have hkey : (bs.drop 14).take 32 = key := by rw [sub_same h' 14 32 (by omega), frameOf_key key b hk]
  have hdata : (bs.drop 46).take b.length = b := by rw [sub_same h' 46 b.length (by omega), frameOf_data key b hk]
  refine ⟨?_, hnn, hkey, hdata⟩
  unfold takeErr
  rw [if_neg (by omega), if_neg (by rw [h0, h1]; simp), hnn, if_neg (by omega), if_neg (by omega), if_neg]
  rw [← drop_split, hkey, hdata, sub_same h' 6 8 (by omega), frameOf_sum]
  simp

/-- A frame cut off. -/
theorem take_cut {key b : List UInt8} (c : Nat) (hk : key.length = 32) (hb : b.length ≤ 4200) (hc : c < 46 + b.length) : takeErr ((frameOf key b).take c) = 3 := by
  have hL := frameOf_length key b hk
  have hl : ((frameOf key b).take c).length = c := by rw [List.length_take]; omega
  unfold takeErr
  by_cases h46 : c < 46
  · rw [if_pos (by omega)]
  · obtain ⟨h0, h1, hn⟩ := head_of (bs := (frameOf key b).take c) (m := c) hb (by omega) (by rw [List.take_take, Nat.min_self])
    have hnn : (frameNum ((frameOf key b).take c)).toNat = b.length := by rw [hn, ofNat_small _ hb]
    rw [if_neg (by omega), if_neg (by rw [h0, h1]; simp), hnn, if_neg (by omega), if_pos (by omega)]
/-- What is read as a frame is one. -/
theorem frame_is {bs : List UInt8} (h : takeErr bs = 0) : (frameNum bs).toNat ≤ 4200 ∧ 46 + (frameNum bs).toNat ≤ bs.length ∧ ((bs.drop 14).take 32).length = 32 ∧ ((bs.drop 46).take (frameNum bs).toNat).length = (frameNum bs).toNat ∧
    frameOf ((bs.drop 14).take 32) ((bs.drop 46).take (frameNum bs).toNat) = bs.take (46 + (frameNum bs).toNat) := by
  unfold takeErr at h
  by_cases h1 : bs.length < 46
  · rw [if_pos h1] at h; omega
  rw [if_neg h1] at h
  by_cases h2 : bs[0]?.getD 0 ≠ 199 ∨ bs[1]?.getD 0 ≠ 70
  · rw [if_pos h2] at h; omega
  rw [if_neg h2] at h
  by_cases h3 : 4200 < (frameNum bs).toNat
  · rw [if_pos h3] at h; omega
  rw [if_neg h3] at h
  by_cases h4 : bs.length < 46 + (frameNum bs).toNat
  · rw [if_pos h4] at h; omega
  rw [if_neg h4] at h
  by_cases h5 : (digest ((bs.drop 14).take (32 + (frameNum bs).toNat))).take 8 ≠ (bs.drop 6).take 8
  · rw [if_pos h5] at h; omega
  rw [not_or, Decidable.not_not, Decidable.not_not] at h2
  refine ⟨by omega, by omega, ?_, ?_, (frame_same bs _ rfl (by omega) (by omega) h2.1 h2.2).2 (Decidable.not_not.1 h5)⟩
  · rw [List.length_take, List.length_drop]; omega
  · rw [List.length_take, List.length_drop]; omega
end Go.Proofs.Ytafakjdolnigaaa
