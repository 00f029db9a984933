/- The walks of cofferref2.Sum and Of: SHA-256 of a text laid out whole. -/
import Derived.Test.YtafakjdolnigaaaRefB
namespace Go.Proofs.Ytafakjdolnigaaa
open Go.RowKit
set_option linter.unusedVariables false

/-! ### The words of a block, one byte after another -/
/-- Word j when k bytes of the block have been laid. -/
def partWord (blk : List UInt8) (k j : Nat) : UInt64 := ((List.range (min (k - 4 * j) 4)).foldl (fun x i => x * 256 + (blk[4 * j + i]?.getD 0).toUInt64) 0)
def partRow (blk : List UInt8) (k : Nat) : List UInt64 := (List.range 64).map (partWord blk k)
theorem partRow_length (blk : List UInt8) (k : Nat) : (partRow blk k).length = 64 := by simp [partRow]
theorem partRow_zero (blk : List UInt8) : partRow blk 0 = List.replicate 64 0 := by
  simp [partRow]
  rfl
theorem partRow_at (blk : List UInt8) (k j : Nat) (h : j < 64) : (partRow blk k)[j]?.getD 0 = partWord blk k j := by simp [partRow, h]
theorem partRow_step (blk : List UInt8) (k : Nat) (h : k < 64) : (partRow blk k).set (k / 4) (partWord blk k (k / 4) * 256 + (blk[k]?.getD 0).toUInt64) = partRow blk (k + 1) := by
  apply List.ext_getElem?
  intro j
  by_cases hj : j < 64
  · by_cases he : k / 4 = j
    · subst he
      rw [List.getElem?_set_self (by rw [partRow_length]; omega)]
      simp only [partRow, List.getElem?_map, List.getElem?_range hj, Option.map_some, partWord]
      have e1 : min (k + 1 - 4 * (k / 4)) 4 = min (k - 4 * (k / 4)) 4 + 1 := by omega
      have e2 : 4 * (k / 4) + min (k - 4 * (k / 4)) 4 = k := by omega
      rw [e1, List.range_succ, List.foldl_append]
      simp only [List.foldl_cons, List.foldl_nil, e2]
    · rw [List.getElem?_set_ne he]
      simp only [partRow, List.getElem?_map, List.getElem?_range hj, Option.map_some, partWord]
      have : min (k + 1 - 4 * j) 4 = min (k - 4 * j) 4 := by omega
      rw [this]
  · rw [List.getElem?_eq_none (by rw [List.length_set, partRow_length]; omega), List.getElem?_eq_none (by rw [partRow_length]; omega)]

theorem word_bytes (a b c d : UInt8) : (((((0 : UInt64) * (256 : UInt64) + a.toUInt64 : UInt64) * (256 : UInt64) + b.toUInt64 : UInt64) * (256 : UInt64) + c.toUInt64 : UInt64) * (256 : UInt64) + d.toUInt64 : UInt64) = (a.toUInt32 <<< (24 : UInt32) ||| b.toUInt32 <<< (16 : UInt32) ||| c.toUInt32 <<< (8 : UInt32) ||| d.toUInt32 : UInt32).toUInt64 := by
  have ha := a.toNat_lt
  have hb := b.toNat_lt
  have hc := c.toNat_lt
  have hd := d.toNat_lt
  have h : (a.toUInt32 <<< (24 : UInt32) ||| b.toUInt32 <<< (16 : UInt32) ||| c.toUInt32 <<< (8 : UInt32) ||| d.toUInt32 : UInt32).toNat = ((a.toNat * 256 + b.toNat) * 256 + c.toNat) * 256 + d.toNat := by
    simp only [UInt32.toNat_or, UInt32.toNat_shiftLeft, UInt8.toNat_toUInt32]
    have e24 : (24 : UInt32).toNat % 32 = 24 := rfl
    have e16 : (16 : UInt32).toNat % 32 = 16 := rfl
    have e8 : (8 : UInt32).toNat % 32 = 8 := rfl
    rw [e24, e16, e8]
    have m1 : a.toNat <<< 24 % 2 ^ 32 = a.toNat <<< 24 := Nat.mod_eq_of_lt (by rw [Nat.shiftLeft_eq]; omega)
    have m2 : b.toNat <<< 16 % 2 ^ 32 = b.toNat <<< 16 := Nat.mod_eq_of_lt (by rw [Nat.shiftLeft_eq]; omega)
    have m3 : c.toNat <<< 8 % 2 ^ 32 = c.toNat <<< 8 := Nat.mod_eq_of_lt (by rw [Nat.shiftLeft_eq]; omega)
    rw [m1, m2, m3]
    have s1 : a.toNat <<< 24 ||| b.toNat <<< 16 = (a.toNat <<< 8 + b.toNat) <<< 16 := by
      rw [← Nat.shiftLeft_add_eq_or_of_lt (show b.toNat <<< 16 < 2 ^ 24 by rw [Nat.shiftLeft_eq]; omega)]
      simp only [Nat.shiftLeft_eq]; omega
    rw [s1]
    have s2 : (a.toNat <<< 8 + b.toNat) <<< 16 ||| c.toNat <<< 8 = ((a.toNat <<< 8 + b.toNat) <<< 8 + c.toNat) <<< 8 := by
      rw [← Nat.shiftLeft_add_eq_or_of_lt (show c.toNat <<< 8 < 2 ^ 16 by rw [Nat.shiftLeft_eq]; omega)]
      simp only [Nat.shiftLeft_eq]; omega
    rw [s2, ← Nat.shiftLeft_add_eq_or_of_lt (show d.toNat < 2 ^ 8 by omega)]
    simp only [Nat.shiftLeft_eq]
  rw [← UInt64.toNat_inj]
  simp only [UInt64.toNat_add, UInt64.toNat_mul, UInt32.toNat_toUInt64, UInt8.toNat_toUInt64, h]
  have e0 : (0 : UInt64).toNat = 0 := rfl
  have e256 : (256 : UInt64).toNat = 256 := rfl
  rw [e0, e256]
  omega

theorem fillTo_at (blk : List UInt8) (k j : Nat) (hk : k ≤ 64) (hj : j < 64) : (fillTo blk k)[j]? = some (if j < k then wordOf blk j else 0) := by
  induction k with
  | zero =>
    have h0 : ¬ j < 0 := by omega
    rw [fillTo, if_neg h0, List.getElem?_replicate, if_pos hj]
  | succ k ih =>
    rw [fillTo]
    by_cases he : k = j
    · subst he
      rw [List.getElem?_set_self (by rw [fillTo_length]; omega)]
      simp
    · rw [List.getElem?_set_ne he, ih (by omega)]
      congr 1
      by_cases h : j < k
      · rw [if_pos h, if_pos (by omega)]
      · rw [if_neg h, if_neg (by omega)]

theorem partRow_all (blk : List UInt8) : row64 (partRow blk 64) = rowL (fillTo blk 16) := by
  unfold rowL
  congr 1
  apply List.ext_getElem?
  intro j
  by_cases hj : j < 64
  · rw [List.getElem?_map, fillTo_at blk 16 j (by omega) hj]
    simp only [partRow, List.getElem?_map, List.getElem?_range hj, Option.map_some, partWord]
    congr 1
    by_cases h : j < 16
    · have e : min (64 - 4 * j) 4 = 4 := by omega
      rw [e, if_pos h]
      have := word_bytes (blk[4 * j]?.getD 0) (blk[4 * j + 1]?.getD 0) (blk[4 * j + 2]?.getD 0) (blk[4 * j + 3]?.getD 0)
      simpa [List.range_succ, wordOf] using this
    · have e : min (64 - 4 * j) 4 = 0 := by omega
      rw [e, if_neg h]
      rfl
  · rw [List.getElem?_eq_none (by rw [partRow_length]; omega), List.getElem?_eq_none (by rw [List.length_map, fillTo_length]; omega)]
end Go.Proofs.Ytafakjdolnigaaa
