/- HMAC with SHA-256 and numbers as bytes, in plain Lean. No program in sight. No conditions. Numbers out of bytes, the highest first; in plain Lean. -/
import Derived.Test.YtafakjdolnigaaaSha
namespace Go.Proofs.Ytafakjdolnigaaa

/-- A number in n bytes, the highest first. -/
def beList (n : Nat) (v : UInt64) : List UInt8 := (List.range n).map fun i => UInt8.ofNat (v.toNat / 256 ^ (n - 1 - i))
theorem beList_length (n : Nat) (v : UInt64) : (beList n v).length = n := by simp [beList]
theorem shr_byte64 (v : UInt64) (k : Nat) (h : k < 8) : (v >>> UInt64.ofNat (8 * k)).toUInt8 = UInt8.ofNat (v.toNat / 256 ^ k) := by
  apply UInt8.toNat_inj.1
  rw [UInt64.toNat_toUInt8, UInt64.toNat_shiftRight, UInt64.toNat_ofNat', UInt8.toNat_ofNat', Nat.mod_eq_of_lt (a := 8 * k) (by omega), Nat.mod_eq_of_lt (a := 8 * k) (by omega), Nat.shiftRight_eq_div_pow, Nat.pow_mul]
theorem beList_eight (v : UInt64) : beList 8 v = be64 v := by
  unfold beList be64
  apply List.map_congr_left
  intro i hi
  have : i < 8 := List.mem_range.1 hi
  rw [← shr_byte64 v (8 - 1 - i) (by omega), show 8 * (8 - 1 - i) = 56 - 8 * i by omega]
theorem beList_at (n : Nat) (v : UInt64) (i : Nat) (h : i < n) : (beList n v)[i]? = some (UInt8.ofNat (v.toNat / 256 ^ (n - 1 - i))) := by simp [beList, h]
theorem beList_take (n : Nat) (v : UInt64) (i : Nat) (h : i < n) : (beList n v).take (i + 1) = (beList n v).take i ++ [UInt8.ofNat (v.toNat / 256 ^ (n - 1 - i))] := by
  rw [List.take_add_one, beList_at n v i h]; rfl
theorem beList_drop (n : Nat) (v : UInt64) (i : Nat) (h : i < n) : (beList n v).drop (n - (i + 1)) = UInt8.ofNat (v.toNat / 256 ^ i) :: (beList n v).drop (n - i) := by
  have hl := beList_length n v
  rw [List.drop_eq_getElem_cons (by omega), show n - (i + 1) + 1 = n - i by omega]
  congr 1
  have := beList_at n v (n - (i + 1)) (by omega)
  rw [List.getElem?_eq_getElem (by omega)] at this
  rw [Option.some.inj this, show n - 1 - (n - (i + 1)) = i by omega]

/-- What of a key stands in the block. -/
def keyOf (key : List UInt8) : List UInt8 := if 64 < key.length then digest key else key
def padK (key : List UInt8) (m : UInt8) : List UInt8 := (keyOf key ++ List.replicate (64 - (keyOf key).length) 0).map (· ^^^ m)
/-- RFC 2104. -/
def hmac (key b : List UInt8) : List UInt8 := digest (padK key 0x5c ++ digest (padK key 0x36 ++ b))
/-- The parts, each behind its length. -/
def lenText (ps : List (List UInt8)) : List UInt8 := ps.flatMap fun p => be64 (UInt64.ofNat p.length) ++ p
def macOf (key : List UInt8) (ps : List (List UInt8)) : List UInt8 := hmac key (lenText ps)

theorem keyOf_length (key : List UInt8) : (keyOf key).length ≤ 64 := by
  unfold keyOf
  split
  · rw [digest_length]; omega
  · omega
theorem padK_length (key : List UInt8) (m : UInt8) : (padK key m).length = 64 := by
  have := keyOf_length key
  simp [padK]; omega
theorem hmac_length (key b : List UInt8) : (hmac key b).length = 32 := of_eq_true (eq_self 32)
theorem macOf_length (key : List UInt8) (ps : List (List UInt8)) : (macOf key ps).length = 32 := of_eq_true (eq_self 32)
theorem padK_at (key : List UInt8) (m : UInt8) (i : Nat) (h : i < 64) : (padK key m)[i]? = some (((keyOf key)[i]?.getD 0) ^^^ m) := by
  have := keyOf_length key
  unfold padK
  rw [List.getElem?_map]
  by_cases hi : i < (keyOf key).length
  · rw [List.getElem?_append_left hi, List.getElem?_eq_getElem hi]; rfl
  · rw [List.getElem?_append_right (by omega), List.getElem?_replicate, if_pos (by omega), List.getElem?_eq_none (by omega)]; rfl

theorem lenText_take (ps : List (List UInt8)) (i : Nat) (h : i < ps.length) : lenText (ps.take (i + 1)) = lenText (ps.take i) ++ (be64 (UInt64.ofNat (ps[i]?.getD []).length) ++ ps[i]?.getD []) := by
  unfold lenText
  rw [List.take_succ_eq_append_getElem h, List.flatMap_append]
  simp [List.getElem?_eq_getElem h]
theorem lenText_length (ps : List (List UInt8)) : (lenText ps).length = 8 * ps.length + ps.flatten.length := by
  induction ps with
  | nil => rfl
  | cons p ps ih =>
    have : lenText (p :: ps) = (be64 (UInt64.ofNat p.length) ++ p) ++ lenText ps := rfl
    rw [this, List.length_append, List.length_append, ih, be64_length]
    simp
    omega

theorem hi_there : (hmac (List.replicate 20 0x0b) [72, 105, 32, 84, 104, 101, 114, 101]).take 2 = [0xb0, 0x34] := by decide +kernel
end Go.Proofs.Ytafakjdolnigaaa

namespace Go.Proofs.Ytafakjdolnigaaa

def natOf (p : List UInt8) : Nat := p.foldl (fun v c => v * 256 + c.toNat) 0
def numOf (p : List UInt8) : UInt64 := p.foldl (fun v c => v * 256 + c.toUInt64) 0
theorem natOf_snoc (p : List UInt8) (c : UInt8) : natOf (p ++ [c]) = natOf p * 256 + c.toNat := by simp [natOf]
theorem numOf_snoc (p : List UInt8) (c : UInt8) : numOf (p ++ [c]) = numOf p * 256 + c.toUInt64 := by simp [numOf]
theorem take_snoc8 (p : List UInt8) (k : Nat) (h : k < p.length) : p.take (k + 1) = p.take k ++ [p[k]?.getD 0] := by
  rw [List.take_succ_eq_append_getElem h, List.getElem?_eq_getElem h]; rfl
theorem numOf_take (p : List UInt8) (k : Nat) (h : k < p.length) : numOf (p.take (k + 1)) = numOf (p.take k) * 256 + (p[k]?.getD 0).toUInt64 := by
  rw [take_snoc8 p k h, numOf_snoc]
theorem natOf_lt (p : List UInt8) : natOf p < 256 ^ p.length := by
  suffices h : ∀ k, k ≤ p.length → natOf (p.take k) < 256 ^ k by
    have := h p.length (Nat.le_refl _)
    rwa [List.take_length] at this
  intro k
  induction k with
  | zero => intro _; simp [natOf]
  | succ k ih =>
    intro h
    have h1 := ih (by omega)
    have hc := (p[k]?.getD 0).toNat_lt
    rw [take_snoc8 p k (by omega), natOf_snoc, Nat.pow_succ]
    omega
theorem numOf_nat (p : List UInt8) (hp : p.length ≤ 8) : (numOf p).toNat = natOf p := by
  suffices h : ∀ k, k ≤ p.length → (numOf (p.take k)).toNat = natOf (p.take k) by
    have := h p.length (Nat.le_refl _)
    rwa [List.take_length] at this
  intro k
  induction k with
  | zero => intro _; rfl
  | succ k ih =>
    intro h
    have h1 := ih (by omega)
    have hl := natOf_lt (p.take (k + 1))
    have hle : 256 ^ (p.take (k + 1)).length ≤ 256 ^ 8 := Nat.pow_le_pow_right (by omega) (by simp; omega)
    rw [take_snoc8 p k (by omega), natOf_snoc] at hl
    rw [take_snoc8 p k (by omega), numOf_snoc, natOf_snoc, UInt64.toNat_add, UInt64.toNat_mul, h1, UInt8.toNat_toUInt64, show (256 : UInt64).toNat = 256 from rfl]
    have e : (256 : Nat) ^ 8 = 2 ^ 64 := by decide
    rw [take_snoc8 p k (by omega)] at hle
    rw [Nat.mod_add_mod]
    exact Nat.mod_eq_of_lt (by omega)
theorem natOf_div (p : List UInt8) (k : Nat) (h : k ≤ p.length) : natOf p / 256 ^ (p.length - k) = natOf (p.take k) := by
  obtain ⟨j, hj⟩ : ∃ j, j = p.length - k := ⟨_, rfl⟩
  rw [← hj]
  induction j generalizing k with
  | zero =>
    have : k = p.length := by omega
    subst this
    simp
  | succ j ih =>
    have h1 := ih (k + 1) (by omega) (by omega)
    have hc := (p[k]?.getD 0).toNat_lt
    rw [Nat.pow_succ, ← Nat.div_div_eq_div_mul, h1, take_snoc8 p k (by omega), natOf_snoc]
    omega
theorem beList_numOf (p : List UInt8) (n : Nat) (hn : p.length = n) (h8 : n ≤ 8) : beList n (numOf p) = p := by
  subst hn
  apply List.ext_getElem?
  intro i
  by_cases hi : i < p.length
  · have hd := natOf_div p (i + 1) (by omega)
    rw [show p.length - (i + 1) = p.length - 1 - i by omega] at hd
    have hc := (p[i]?.getD 0).toNat_lt
    rw [beList_at _ _ i hi, numOf_nat p h8, hd, take_snoc8 p i hi, natOf_snoc, List.getElem?_eq_getElem hi]
    congr 1
    apply UInt8.toNat_inj.1
    rw [UInt8.toNat_ofNat']
    simp only [Option.getD_some]
    have := p[i].toNat_lt
    omega
  · rw [List.getElem?_eq_none (by rw [beList_length]; omega), List.getElem?_eq_none (by omega)]
theorem numOf_beList (n : Nat) (v : UInt64) (h8 : n ≤ 8) (hv : v.toNat < 256 ^ n) : numOf (beList n v) = v := by
  apply UInt64.toNat_inj.1
  rw [numOf_nat _ (by rw [beList_length]; exact h8)]
  suffices h : ∀ k, k ≤ n → natOf ((beList n v).take k) = v.toNat / 256 ^ (n - k) by
    have := h n (Nat.le_refl _)
    rw [List.take_of_length_le (by rw [beList_length]; exact Nat.le_refl _), Nat.sub_self, Nat.pow_zero, Nat.div_one] at this
    exact this
  intro k
  induction k with
  | zero => intro _; rw [Nat.sub_zero, Nat.div_eq_of_lt hv]; simp [natOf]
  | succ k ih =>
    intro h
    have h1 := ih (by omega)
    rw [beList_take n v k (by omega), natOf_snoc, h1, UInt8.toNat_ofNat', show n - 1 - k = n - (k + 1) by omega]
    have e : 256 ^ (n - k) = 256 ^ (n - (k + 1)) * 256 := by rw [← Nat.pow_succ]; congr 1; omega
    rw [e, ← Nat.div_div_eq_div_mul]
    omega
theorem shl8_or (v : UInt64) (c : UInt8) : v <<< 8 ||| c.toUInt64 = v * 256 + c.toUInt64 := by
  apply UInt64.toNat_inj.1
  have hc := c.toNat_lt
  have hv := v.toNat_lt
  rw [UInt64.toNat_or, UInt64.toNat_shiftLeft, UInt64.toNat_add, UInt64.toNat_mul, UInt8.toNat_toUInt64, show ((8 : UInt64).toNat % 64) = 8 from rfl, show (256 : UInt64).toNat = 256 from rfl, Nat.shiftLeft_eq]
  have e : v.toNat * 2 ^ 8 % 2 ^ 64 = (v.toNat % 2 ^ 56) <<< 8 := by rw [Nat.shiftLeft_eq]; omega
  rw [e, ← Nat.shiftLeft_add_eq_or_of_lt (by omega : c.toNat < 2 ^ 8), Nat.shiftLeft_eq]
  omega
end Go.Proofs.Ytafakjdolnigaaa
