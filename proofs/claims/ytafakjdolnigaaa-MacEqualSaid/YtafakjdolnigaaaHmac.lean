/- HMAC with SHA-256 and numbers as bytes, in plain Lean. No program in sight. No conditions. -/
import Derived.Test.YtafakjdolnigaaaSha
namespace Go.Proofs.Ytafakjdolnigaaa

/-- A number in n bytes, the highest first. -/
def beList (n : Nat) (v : UInt64) : List UInt8 := (List.range n).map fun i => UInt8.ofNat (v.toNat / 256 ^ (n - 1 - i))
theorem beList_length (n : Nat) (v : UInt64) : (beList n v).length = n := by simp [beList]
theorem shr_byte64 (v : UInt64) (k : Nat) (h : k < 8) : (v >>> UInt64.ofNat (8 * k)).toUInt8 = UInt8.ofNat (v.toNat / 256 ^ k) := by
  apply UInt8.toNat_inj.1
  rw [UInt64.toNat_toUInt8, UInt64.toNat_shiftRight, UInt64.toNat_ofNat', UInt8.toNat_ofNat', Nat.mod_eq_of_lt (a := 8 * k) (by omega), Nat.mod_eq_of_lt (a := 8 * k) (by omega), Nat.shiftRight_eq_div_pow, Nat.pow_mul]
theorem beList_eight (v : UInt64) : beList 8 v = be64 v := by
  unfold beList be64
  apply List.map_congr_left
  intro i hi
  have : i < 8 := List.mem_range.1 hi
  rw [← shr_byte64 v (8 - 1 - i) (by omega), show 8 * (8 - 1 - i) = 56 - 8 * i by omega]
theorem beList_at (n : Nat) (v : UInt64) (i : Nat) (h : i < n) : (beList n v)[i]? = some (UInt8.ofNat (v.toNat / 256 ^ (n - 1 - i))) := by simp [beList, h]
theorem beList_take (n : Nat) (v : UInt64) (i : Nat) (h : i < n) : (beList n v).take (i + 1) = (beList n v).take i ++ [UInt8.ofNat (v.toNat / 256 ^ (n - 1 - i))] := by
  rw [List.take_add_one, beList_at n v i h]; rfl
theorem beList_drop (n : Nat) (v : UInt64) (i : Nat) (h : i < n) : (beList n v).drop (n - (i + 1)) = UInt8.ofNat (v.toNat / 256 ^ i) :: (beList n v).drop (n - i) := by
  have hl := beList_length n v
  rw [List.drop_eq_getElem_cons (by omega), show n - (i + 1) + 1 = n - i by omega]
  congr 1
  have := beList_at n v (n - (i + 1)) (by omega)
  rw [List.getElem?_eq_getElem (by omega)] at this
  rw [Option.some.inj this, show n - 1 - (n - (i + 1)) = i by omega]

/-- What of a key stands in the block. -/
def keyOf (key : List UInt8) : List UInt8 := if 64 < key.length then digest key else key
def padK (key : List UInt8) (m : UInt8) : List UInt8 := (keyOf key ++ List.replicate (64 - (keyOf key).length) 0).map (· ^^^ m)
/-- RFC 2104. -/
def hmac (key b : List UInt8) : List UInt8 := digest (padK key 0x5c ++ digest (padK key 0x36 ++ b))
/-- The parts, each behind its length. -/
def lenText (ps : List (List UInt8)) : List UInt8 := ps.flatMap fun p => be64 (UInt64.ofNat p.length) ++ p
def macOf (key : List UInt8) (ps : List (List UInt8)) : List UInt8 := hmac key (lenText ps)

theorem keyOf_length (key : List UInt8) : (keyOf key).length ≤ 64 := by
  unfold keyOf
  split
  · rw [digest_length]; omega
  · omega
theorem padK_length (key : List UInt8) (m : UInt8) : (padK key m).length = 64 := by
  have := keyOf_length key
  simp [padK]; omega
theorem hmac_length (key b : List UInt8) : (hmac key b).length = 32 := of_eq_true (eq_self 32)
theorem macOf_length (key : List UInt8) (ps : List (List UInt8)) : (macOf key ps).length = 32 := of_eq_true (eq_self 32)
theorem padK_at (key : List UInt8) (m : UInt8) (i : Nat) (h : i < 64) : (padK key m)[i]? = some (((keyOf key)[i]?.getD 0) ^^^ m) := by
  have := keyOf_length key
  unfold padK
  rw [List.getElem?_map]
  by_cases hi : i < (keyOf key).length
  · rw [List.getElem?_append_left hi, List.getElem?_eq_getElem hi]; rfl
  · rw [List.getElem?_append_right (by omega), List.getElem?_replicate, if_pos (by omega), List.getElem?_eq_none (by omega)]; rfl

theorem lenText_take (ps : List (List UInt8)) (i : Nat) (h : i < ps.length) : lenText (ps.take (i + 1)) = lenText (ps.take i) ++ (be64 (UInt64.ofNat (ps[i]?.getD []).length) ++ ps[i]?.getD []) := by
  unfold lenText
  rw [List.take_succ_eq_append_getElem h, List.flatMap_append]
  simp [List.getElem?_eq_getElem h]
theorem lenText_length (ps : List (List UInt8)) : (lenText ps).length = 8 * ps.length + ps.flatten.length := by
  induction ps with
  | nil => rfl
  | cons p ps ih =>
    have : lenText (p :: ps) = (be64 (UInt64.ofNat p.length) ++ p) ++ lenText ps := rfl
    rw [this, List.length_append, List.length_append, ih, be64_length]
    simp
    omega

theorem hi_there : (hmac (List.replicate 20 0x0b) [72, 105, 32, 84, 104, 101, 114, 101]).take 2 = [0xb0, 0x34] := by decide +kernel
end Go.Proofs.Ytafakjdolnigaaa
