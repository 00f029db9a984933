/- Numbers out of bytes, the highest first; in plain Lean. -/
import Derived.Test.YtafakjdolnigaaaHmac
namespace Go.Proofs.Ytafakjdolnigaaa

def natOf (p : List UInt8) : Nat := p.foldl (fun v c => v * 256 + c.toNat) 0
def numOf (p : List UInt8) : UInt64 := p.foldl (fun v c => v * 256 + c.toUInt64) 0
theorem natOf_snoc (p : List UInt8) (c : UInt8) : natOf (p ++ [c]) = natOf p * 256 + c.toNat := by simp [natOf]
theorem numOf_snoc (p : List UInt8) (c : UInt8) : numOf (p ++ [c]) = numOf p * 256 + c.toUInt64 := by simp [numOf]
theorem take_snoc8 (p : List UInt8) (k : Nat) (h : k < p.length) : p.take (k + 1) = p.take k ++ [p[k]?.getD 0] := by
  rw [List.take_succ_eq_append_getElem h, List.getElem?_eq_getElem h]; rfl
theorem numOf_take (p : List UInt8) (k : Nat) (h : k < p.length) : numOf (p.take (k + 1)) = numOf (p.take k) * 256 + (p[k]?.getD 0).toUInt64 := by
  rw [take_snoc8 p k h, numOf_snoc]
theorem natOf_lt (p : List UInt8) : natOf p < 256 ^ p.length := by
  suffices h : ∀ k, k ≤ p.length → natOf (p.take k) < 256 ^ k by
    have := h p.length (Nat.le_refl _)
    rwa [List.take_length] at this
  intro k
  induction k with
  | zero => intro _; simp [natOf]
  | succ k ih =>
    intro h
    have h1 := ih (by omega)
    have hc := (p[k]?.getD 0).toNat_lt
    rw [take_snoc8 p k (by omega), natOf_snoc, Nat.pow_succ]
    omega
theorem numOf_nat (p : List UInt8) (hp : p.length ≤ 8) : (numOf p).toNat = natOf p := by
  suffices h : ∀ k, k ≤ p.length → (numOf (p.take k)).toNat = natOf (p.take k) by
    have := h p.length (Nat.le_refl _)
    rwa [List.take_length] at this
  intro k
  induction k with
  | zero => intro _; rfl
  | succ k ih =>
    intro h
    have h1 := ih (by omega)
    have hl := natOf_lt (p.take (k + 1))
    have hle : 256 ^ (p.take (k + 1)).length ≤ 256 ^ 8 := Nat.pow_le_pow_right (by omega) (by simp; omega)
    rw [take_snoc8 p k (by omega), natOf_snoc] at hl
    rw [take_snoc8 p k (by omega), numOf_snoc, natOf_snoc, UInt64.toNat_add, UInt64.toNat_mul, h1, UInt8.toNat_toUInt64, show (256 : UInt64).toNat = 256 from rfl]
    have e : (256 : Nat) ^ 8 = 2 ^ 64 := by decide
    rw [take_snoc8 p k (by omega)] at hle
    rw [Nat.mod_add_mod]
    exact Nat.mod_eq_of_lt (by omega)
theorem natOf_div (p : List UInt8) (k : Nat) (h : k ≤ p.length) : natOf p / 256 ^ (p.length - k) = natOf (p.take k) := by
  obtain ⟨j, hj⟩ : ∃ j, j = p.length - k := ⟨_, rfl⟩
  rw [← hj]
  induction j generalizing k with
  | zero =>
    have : k = p.length := by omega
    subst this
    simp
  | succ j ih =>
    have h1 := ih (k + 1) (by omega) (by omega)
    have hc := (p[k]?.getD 0).toNat_lt
    rw [Nat.pow_succ, ← Nat.div_div_eq_div_mul, h1, take_snoc8 p k (by omega), natOf_snoc]
    omega
theorem beList_numOf (p : List UInt8) (n : Nat) (hn : p.length = n) (h8 : n ≤ 8) : beList n (numOf p) = p := by
  subst hn
  apply List.ext_getElem?
  intro i
  by_cases hi : i < p.length
  · have hd := natOf_div p (i + 1) (by omega)
    rw [show p.length - (i + 1) = p.length - 1 - i by omega] at hd
    have hc := (p[i]?.getD 0).toNat_lt
    rw [beList_at _ _ i hi, numOf_nat p h8, hd, take_snoc8 p i hi, natOf_snoc, List.getElem?_eq_getElem hi]
    congr 1
    apply UInt8.toNat_inj.1
    rw [UInt8.toNat_ofNat']
    simp only [Option.getD_some]
    have := p[i].toNat_lt
    omega
  · rw [List.getElem?_eq_none (by rw [beList_length]; omega), List.getElem?_eq_none (by omega)]
theorem numOf_beList (n : Nat) (v : UInt64) (h8 : n ≤ 8) (hv : v.toNat < 256 ^ n) : numOf (beList n v) = v := by
  apply UInt64.toNat_inj.1
  rw [numOf_nat _ (by rw [beList_length]; exact h8)]
  suffices h : ∀ k, k ≤ n → natOf ((beList n v).take k) = v.toNat / 256 ^ (n - k) by
    have := h n (Nat.le_refl _)
    rw [List.take_of_length_le (by rw [beList_length]; exact Nat.le_refl _), Nat.sub_self, Nat.pow_zero, Nat.div_one] at this
    exact this
  intro k
  induction k with
  | zero => intro _; rw [Nat.sub_zero, Nat.div_eq_of_lt hv]; simp [natOf]
  | succ k ih =>
    intro h
    have h1 := ih (by omega)
    rw [beList_take n v k (by omega), natOf_snoc, h1, UInt8.toNat_ofNat', show n - 1 - k = n - (k + 1) by omega]
    have e : 256 ^ (n - k) = 256 ^ (n - (k + 1)) * 256 := by rw [← Nat.pow_succ]; congr 1; omega
    rw [e, ← Nat.div_div_eq_div_mul]
    omega
theorem shl8_or (v : UInt64) (c : UInt8) : v <<< 8 ||| c.toUInt64 = v * 256 + c.toUInt64 := by
  apply UInt64.toNat_inj.1
  have hc := c.toNat_lt
  have hv := v.toNat_lt
  rw [UInt64.toNat_or, UInt64.toNat_shiftLeft, UInt64.toNat_add, UInt64.toNat_mul, UInt8.toNat_toUInt64, show ((8 : UInt64).toNat % 64) = 8 from rfl, show (256 : UInt64).toNat = 256 from rfl, Nat.shiftLeft_eq]
  have e : v.toNat * 2 ^ 8 % 2 ^ 64 = (v.toNat % 2 ^ 56) <<< 8 := by rw [Nat.shiftLeft_eq]; omega
  rw [e, ← Nat.shiftLeft_add_eq_or_of_lt (by omega : c.toNat < 2 ^ 8), Nat.shiftLeft_eq]
  omega
end Go.Proofs.Ytafakjdolnigaaa
