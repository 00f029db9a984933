/- Laws for the walk: a Go number of kind u8, u32, u64 as Lean's UInt8, UInt32, UInt64 (W8, W32, W64), and what each operation makes of them; no condition beyond what each law states. -/
import Derived.WalkKit
import Derived.WalkSpells
import Derived.WalkLawsBesides
namespace Go.Proofs.Ytafakjdolnigaaa
open Go.RowKit
set_option linter.unusedVariables false

def W8 (x : UInt8) : Value := .int .u8 (x.toNat : Int)
def W32 (x : UInt32) : Value := .int .u32 (x.toNat : Int)
def W64 (x : UInt64) : Value := .int .u64 (x.toNat : Int)

theorem wrapN8 (n : Int) : IntKind.u8.wrap n = n % 256 := by simp [IntKind.wrap, IntKind.bits, IntKind.signed]
theorem wrapN32 (n : Int) : IntKind.u32.wrap n = n % 4294967296 := by simp [IntKind.wrap, IntKind.bits, IntKind.signed]
theorem wrapN64 (n : Int) : IntKind.u64.wrap n = n % 18446744073709551616 := by simp [IntKind.wrap, IntKind.bits, IntKind.signed]
section
variable {P : Program} (w : World) (t : TypeId)

theorem lit8 (n : Nat) (h : n < 256) : Value.int .u8 (n : Int) = W8 (UInt8.ofNat n) := by
  unfold W8; rw [UInt8.toNat_ofNat']; congr 1; rw [Nat.mod_eq_of_lt h]
theorem nat8 (n : Nat) : ((UInt8.ofNat n).toNat : Int) = ((n % 256 : Nat) : Int) := by rw [UInt8.toNat_ofNat']
@[go_sem ↓ high] theorem cells_W8 (x : UInt8) : (W8 x).cells = #[W8 x] := rfl
@[go_sem] theorem cellsm_W8 (x : UInt8) : Value.cells.match_1 (fun _ => Array Value) (W8 x) (fun cs => cs) (fun v => #[v]) = #[W8 x] := rfl
@[go_sem ↓ high] theorem one'_W8 (x : UInt8) : (W8 x).oneCell' = true := rfl
@[go_sem high] theorem eqGuardW8 (op : BinOp) (x y : Operand) (a : UInt8) (v : Value) : eqGuard op t x y (W8 a) v = pure () := by cases op <;> rfl
@[go_sem high] theorem run_store_W8 (P : Program) (a : Addr) (m : Mode) (x : UInt8) : (store a (W8 x) m).run P w = stored P w a (W8 x) m := run_store P w a _ m rfl
theorem add8 (x y : UInt8) : binOp .add t (W8 x) (W8 y) = pure (W8 (x + y)) := by
  simp only [W8, binOp_add, Op.intArith, wrapN8, UInt8.toNat_add]; rfl
theorem sub8 (x y : UInt8) : binOp .sub t (W8 x) (W8 y) = pure (W8 (x - y)) := by
  have hx := x.toNat_lt; have hy := y.toNat_lt
  simp only [W8, binOp_sub, Op.intArith, wrapN8, UInt8.toNat_sub]; congr 2; omega
theorem mul8 (x y : UInt8) : binOp .mul t (W8 x) (W8 y) = pure (W8 (x * y)) := by
  simp only [W8, binOp_mul, Op.intArith, wrapN8, UInt8.toNat_mul]; rfl
theorem and8 (x y : UInt8) : binOp .and t (W8 x) (W8 y) = pure (W8 (x &&& y)) := by
  have hx := x.toNat_lt; have hy := y.toNat_lt; have hz := (x &&& y).toNat_lt
  show pure (Value.int .u8 (IntKind.wrap .u8 ((BitVec.ofInt 8 (x.toNat : Int) &&& BitVec.ofInt 8 (y.toNat : Int)).toNat : Int))) = _
  rw [BitVec.ofInt_natCast, BitVec.ofInt_natCast, BitVec.toNat_and, BitVec.toNat_ofNat, BitVec.toNat_ofNat, Nat.mod_eq_of_lt hx, Nat.mod_eq_of_lt hy, ← UInt8.toNat_and, wrapN8]
  rw [Int.emod_eq_of_lt (by omega) (by omega)]; rfl
theorem or8 (x y : UInt8) : binOp .or t (W8 x) (W8 y) = pure (W8 (x ||| y)) := by
  have hx := x.toNat_lt; have hy := y.toNat_lt; have hz := (x ||| y).toNat_lt
  show pure (Value.int .u8 (IntKind.wrap .u8 ((BitVec.ofInt 8 (x.toNat : Int) ||| BitVec.ofInt 8 (y.toNat : Int)).toNat : Int))) = _
  rw [BitVec.ofInt_natCast, BitVec.ofInt_natCast, BitVec.toNat_or, BitVec.toNat_ofNat, BitVec.toNat_ofNat, Nat.mod_eq_of_lt hx, Nat.mod_eq_of_lt hy, ← UInt8.toNat_or, wrapN8]
  rw [Int.emod_eq_of_lt (by omega) (by omega)]; rfl
theorem xor8 (x y : UInt8) : binOp .xor t (W8 x) (W8 y) = pure (W8 (x ^^^ y)) := by
  have hx := x.toNat_lt; have hy := y.toNat_lt; have hz := (x ^^^ y).toNat_lt
  show pure (Value.int .u8 (IntKind.wrap .u8 ((BitVec.ofInt 8 (x.toNat : Int) ^^^ BitVec.ofInt 8 (y.toNat : Int)).toNat : Int))) = _
  rw [BitVec.ofInt_natCast, BitVec.ofInt_natCast, BitVec.toNat_xor, BitVec.toNat_ofNat, BitVec.toNat_ofNat, Nat.mod_eq_of_lt hx, Nat.mod_eq_of_lt hy, ← UInt8.toNat_xor, wrapN8]
  rw [Int.emod_eq_of_lt (by omega) (by omega)]; rfl
theorem quo8 (x y : UInt8) (hy : y ≠ 0) : binOp .quo t (W8 x) (W8 y) = pure (W8 (x / y)) := by
  have hx := x.toNat_lt
  have h0 : ¬ ((y.toNat : Int) = 0) := fun h => hy (by rw [← UInt8.toNat_inj]; simpa using h)
  have hd : x.toNat / y.toNat < 256 := Nat.lt_of_le_of_lt (Nat.div_le_self _ _) hx
  simp only [W8, binOp_quo, Op.intDiv, UInt8.toNat_div]; rw [if_neg h0, wrapN8]
  rw [Int.tdiv_eq_ediv_of_nonneg (by omega), ← Int.natCast_ediv]; congr 2; exact Int.emod_eq_of_lt (Int.natCast_nonneg _) (Int.ofNat_lt.2 hd)
theorem rem8 (x y : UInt8) (hy : y ≠ 0) : binOp .rem t (W8 x) (W8 y) = pure (W8 (x % y)) := by
  have hx := x.toNat_lt
  have h0 : ¬ ((y.toNat : Int) = 0) := fun h => hy (by rw [← UInt8.toNat_inj]; simpa using h)
  simp only [W8, binOp_rem, Op.intDiv, UInt8.toNat_mod]; rw [if_neg h0]
  congr 2
theorem eql8 (x y : UInt8) : binOp .eql t (W8 x) (W8 y) = pure (.bool (x == y)) := by
  simp only [W8, binOp_eql]; congr 2; rw [Bool.eq_iff_iff]; simp [← UInt8.toNat_inj]; try omega
theorem neq8 (x y : UInt8) : binOp .neq t (W8 x) (W8 y) = pure (.bool (x != y)) := by
  simp only [W8, binOp_neq]; congr 2; rw [Bool.eq_iff_iff]; simp [← UInt8.toNat_inj]; try omega
theorem lss8 (x y : UInt8) : binOp .lss t (W8 x) (W8 y) = pure (.bool (decide (x < y))) := by
  simp only [W8, binOp_lss]; congr 2; rw [Bool.eq_iff_iff]; simp [UInt8.lt_iff_toNat_lt]
theorem leq8 (x y : UInt8) : binOp .leq t (W8 x) (W8 y) = pure (.bool (decide (x ≤ y))) := by
  simp only [W8, binOp_leq]; congr 2; rw [Bool.eq_iff_iff]; simp [UInt8.le_iff_toNat_le]
theorem gtr8 (x y : UInt8) : binOp .gtr t (W8 x) (W8 y) = pure (.bool (decide (y < x))) := by
  simp only [W8, binOp_gtr]; congr 2; rw [Bool.eq_iff_iff]; simp [UInt8.lt_iff_toNat_lt]
theorem geq8 (x y : UInt8) : binOp .geq t (W8 x) (W8 y) = pure (.bool (decide (y ≤ x))) := by
  simp only [W8, binOp_geq]; congr 2; rw [Bool.eq_iff_iff]; simp [UInt8.le_iff_toNat_le]
theorem not8 (x : UInt8) : Op.unary .xor (W8 x) = pure (W8 (~~~x)) := by
  have hx := x.toNat_lt
  show pure (Value.int .u8 (IntKind.wrap .u8 ((BitVec.ofInt 8 (IntKind.max .u8) ^^^ BitVec.ofInt 8 (x.toNat : Int)).toNat : Int))) = _
  have hm : (IntKind.max .u8 : Int) = ((256 - 1 : Nat) : Int) := by decide
  rw [hm, BitVec.ofInt_natCast, BitVec.ofInt_natCast, wrapN8]
  have e : (BitVec.ofNat 8 (256 - 1) ^^^ BitVec.ofNat 8 x.toNat) = (~~~x).toBitVec := by
    rw [UInt8.toBitVec_not]
    have : BitVec.ofNat 8 x.toNat = x.toBitVec := by rw [← UInt8.toNat_toBitVec, BitVec.ofNat_toNat, BitVec.setWidth_eq]
    rw [this]; have : BitVec.ofNat 8 (256 - 1) = BitVec.allOnes 8 := by decide
    rw [this]; exact BitVec.allOnes_xor
  rw [e, UInt8.toNat_toBitVec]; have := (~~~x).toNat_lt; rw [Int.emod_eq_of_lt (by omega) (by omega)]; rfl
@[go_sem high] theorem radd8 (x y : UInt8) : (binOp .add t (W8 x) (W8 y)).run P w = .ok (W8 (x + y)) w := by rw [add8]; rfl
@[go_sem high] theorem radd8c (x : UInt8) (n : Nat) (h : n < 256) : (binOp .add t (W8 x) (.int .u8 (no_index (OfNat.ofNat n)))).run P w = .ok (W8 (x + OfNat.ofNat n)) w := by
  rw [show Value.int .u8 (OfNat.ofNat n) = W8 (UInt8.ofNat n) from lit8 n h, add8]; rfl
@[go_sem high] theorem radd8d (x : UInt8) (n : Nat) (h : n < 256) : (binOp .add t (.int .u8 (no_index (OfNat.ofNat n))) (W8 x)).run P w = .ok (W8 (OfNat.ofNat n + x)) w := by
  rw [show Value.int .u8 (OfNat.ofNat n) = W8 (UInt8.ofNat n) from lit8 n h, add8]; rfl
@[go_sem high] theorem rsub8 (x y : UInt8) : (binOp .sub t (W8 x) (W8 y)).run P w = .ok (W8 (x - y)) w := by rw [sub8]; rfl
@[go_sem high] theorem rsub8c (x : UInt8) (n : Nat) (h : n < 256) : (binOp .sub t (W8 x) (.int .u8 (no_index (OfNat.ofNat n)))).run P w = .ok (W8 (x - OfNat.ofNat n)) w := by
  rw [show Value.int .u8 (OfNat.ofNat n) = W8 (UInt8.ofNat n) from lit8 n h, sub8]; rfl
@[go_sem high] theorem rsub8d (x : UInt8) (n : Nat) (h : n < 256) : (binOp .sub t (.int .u8 (no_index (OfNat.ofNat n))) (W8 x)).run P w = .ok (W8 (OfNat.ofNat n - x)) w := by
  rw [show Value.int .u8 (OfNat.ofNat n) = W8 (UInt8.ofNat n) from lit8 n h, sub8]; rfl
@[go_sem high] theorem rmul8 (x y : UInt8) : (binOp .mul t (W8 x) (W8 y)).run P w = .ok (W8 (x * y)) w := by rw [mul8]; rfl
@[go_sem high] theorem rmul8c (x : UInt8) (n : Nat) (h : n < 256) : (binOp .mul t (W8 x) (.int .u8 (no_index (OfNat.ofNat n)))).run P w = .ok (W8 (x * OfNat.ofNat n)) w := by
  rw [show Value.int .u8 (OfNat.ofNat n) = W8 (UInt8.ofNat n) from lit8 n h, mul8]; rfl
@[go_sem high] theorem rmul8d (x : UInt8) (n : Nat) (h : n < 256) : (binOp .mul t (.int .u8 (no_index (OfNat.ofNat n))) (W8 x)).run P w = .ok (W8 (OfNat.ofNat n * x)) w := by
  rw [show Value.int .u8 (OfNat.ofNat n) = W8 (UInt8.ofNat n) from lit8 n h, mul8]; rfl
@[go_sem high] theorem rand8 (x y : UInt8) : (binOp .and t (W8 x) (W8 y)).run P w = .ok (W8 (x &&& y)) w := by rw [and8]; rfl
@[go_sem high] theorem rand8c (x : UInt8) (n : Nat) (h : n < 256) : (binOp .and t (W8 x) (.int .u8 (no_index (OfNat.ofNat n)))).run P w = .ok (W8 (x &&& OfNat.ofNat n)) w := by
  rw [show Value.int .u8 (OfNat.ofNat n) = W8 (UInt8.ofNat n) from lit8 n h, and8]; rfl
@[go_sem high] theorem rand8d (x : UInt8) (n : Nat) (h : n < 256) : (binOp .and t (.int .u8 (no_index (OfNat.ofNat n))) (W8 x)).run P w = .ok (W8 (OfNat.ofNat n &&& x)) w := by
  rw [show Value.int .u8 (OfNat.ofNat n) = W8 (UInt8.ofNat n) from lit8 n h, and8]; rfl
@[go_sem high] theorem ror8 (x y : UInt8) : (binOp .or t (W8 x) (W8 y)).run P w = .ok (W8 (x ||| y)) w := by rw [or8]; rfl
@[go_sem high] theorem ror8c (x : UInt8) (n : Nat) (h : n < 256) : (binOp .or t (W8 x) (.int .u8 (no_index (OfNat.ofNat n)))).run P w = .ok (W8 (x ||| OfNat.ofNat n)) w := by
  rw [show Value.int .u8 (OfNat.ofNat n) = W8 (UInt8.ofNat n) from lit8 n h, or8]; rfl
@[go_sem high] theorem ror8d (x : UInt8) (n : Nat) (h : n < 256) : (binOp .or t (.int .u8 (no_index (OfNat.ofNat n))) (W8 x)).run P w = .ok (W8 (OfNat.ofNat n ||| x)) w := by
  rw [show Value.int .u8 (OfNat.ofNat n) = W8 (UInt8.ofNat n) from lit8 n h, or8]; rfl
@[go_sem high] theorem rxor8 (x y : UInt8) : (binOp .xor t (W8 x) (W8 y)).run P w = .ok (W8 (x ^^^ y)) w := by rw [xor8]; rfl
@[go_sem high] theorem rxor8c (x : UInt8) (n : Nat) (h : n < 256) : (binOp .xor t (W8 x) (.int .u8 (no_index (OfNat.ofNat n)))).run P w = .ok (W8 (x ^^^ OfNat.ofNat n)) w := by
  rw [show Value.int .u8 (OfNat.ofNat n) = W8 (UInt8.ofNat n) from lit8 n h, xor8]; rfl
@[go_sem high] theorem rxor8d (x : UInt8) (n : Nat) (h : n < 256) : (binOp .xor t (.int .u8 (no_index (OfNat.ofNat n))) (W8 x)).run P w = .ok (W8 (OfNat.ofNat n ^^^ x)) w := by
  rw [show Value.int .u8 (OfNat.ofNat n) = W8 (UInt8.ofNat n) from lit8 n h, xor8]; rfl
@[go_sem high] theorem rquo8c (x : UInt8) (n : Nat) (h : n < 256) (h0 : n ≠ 0) : (binOp .quo t (W8 x) (.int .u8 (no_index (OfNat.ofNat n)))).run P w = .ok (W8 (x / OfNat.ofNat n)) w := by
  rw [show Value.int .u8 (OfNat.ofNat n) = W8 (UInt8.ofNat n) from lit8 n h, quo8 t x _ (fun e => h0 (by have := congrArg UInt8.toNat e; rw [UInt8.toNat_ofNat'] at this; simp at this; omega))]; rfl
@[go_sem high] theorem rrem8c (x : UInt8) (n : Nat) (h : n < 256) (h0 : n ≠ 0) : (binOp .rem t (W8 x) (.int .u8 (no_index (OfNat.ofNat n)))).run P w = .ok (W8 (x % OfNat.ofNat n)) w := by
  rw [show Value.int .u8 (OfNat.ofNat n) = W8 (UInt8.ofNat n) from lit8 n h, rem8 t x _ (fun e => h0 (by have := congrArg UInt8.toNat e; rw [UInt8.toNat_ofNat'] at this; simp at this; omega))]; rfl
@[go_sem high] theorem reql8 (x y : UInt8) : (binOp .eql t (W8 x) (W8 y)).run P w = .ok (.bool (x == y)) w := by rw [eql8]; rfl
@[go_sem high] theorem reql8c (x : UInt8) (n : Nat) (h : n < 256) : (binOp .eql t (W8 x) (.int .u8 (no_index (OfNat.ofNat n)))).run P w = .ok (.bool (x == OfNat.ofNat n)) w := by
  rw [show Value.int .u8 (OfNat.ofNat n) = W8 (UInt8.ofNat n) from lit8 n h, eql8]; rfl
@[go_sem high] theorem rneq8 (x y : UInt8) : (binOp .neq t (W8 x) (W8 y)).run P w = .ok (.bool (x != y)) w := by rw [neq8]; rfl
@[go_sem high] theorem rneq8c (x : UInt8) (n : Nat) (h : n < 256) : (binOp .neq t (W8 x) (.int .u8 (no_index (OfNat.ofNat n)))).run P w = .ok (.bool (x != OfNat.ofNat n)) w := by
  rw [show Value.int .u8 (OfNat.ofNat n) = W8 (UInt8.ofNat n) from lit8 n h, neq8]; rfl
@[go_sem high] theorem rlss8 (x y : UInt8) : (binOp .lss t (W8 x) (W8 y)).run P w = .ok (.bool (decide (x < y))) w := by rw [lss8]; rfl
@[go_sem high] theorem rlss8c (x : UInt8) (n : Nat) (h : n < 256) : (binOp .lss t (W8 x) (.int .u8 (no_index (OfNat.ofNat n)))).run P w = .ok (.bool (decide (x < OfNat.ofNat n))) w := by
  rw [show Value.int .u8 (OfNat.ofNat n) = W8 (UInt8.ofNat n) from lit8 n h, lss8]; rfl
@[go_sem high] theorem rleq8 (x y : UInt8) : (binOp .leq t (W8 x) (W8 y)).run P w = .ok (.bool (decide (x ≤ y))) w := by rw [leq8]; rfl
@[go_sem high] theorem rleq8c (x : UInt8) (n : Nat) (h : n < 256) : (binOp .leq t (W8 x) (.int .u8 (no_index (OfNat.ofNat n)))).run P w = .ok (.bool (decide (x ≤ OfNat.ofNat n))) w := by
  rw [show Value.int .u8 (OfNat.ofNat n) = W8 (UInt8.ofNat n) from lit8 n h, leq8]; rfl
@[go_sem high] theorem rgtr8 (x y : UInt8) : (binOp .gtr t (W8 x) (W8 y)).run P w = .ok (.bool (decide (y < x))) w := by rw [gtr8]; rfl
@[go_sem high] theorem rgtr8c (x : UInt8) (n : Nat) (h : n < 256) : (binOp .gtr t (W8 x) (.int .u8 (no_index (OfNat.ofNat n)))).run P w = .ok (.bool (decide (OfNat.ofNat n < x))) w := by
  rw [show Value.int .u8 (OfNat.ofNat n) = W8 (UInt8.ofNat n) from lit8 n h, gtr8]; rfl
@[go_sem high] theorem rgeq8 (x y : UInt8) : (binOp .geq t (W8 x) (W8 y)).run P w = .ok (.bool (decide (y ≤ x))) w := by rw [geq8]; rfl
@[go_sem high] theorem rgeq8c (x : UInt8) (n : Nat) (h : n < 256) : (binOp .geq t (W8 x) (.int .u8 (no_index (OfNat.ofNat n)))).run P w = .ok (.bool (decide (OfNat.ofNat n ≤ x))) w := by
  rw [show Value.int .u8 (OfNat.ofNat n) = W8 (UInt8.ofNat n) from lit8 n h, geq8]; rfl
@[go_sem high] theorem rnot8 (x : UInt8) : (Op.unary .xor (W8 x)).run P w = .ok (W8 (~~~x)) w := by rw [not8]; rfl
theorem shl8 (x : UInt8) (yk : IntKind) (n : Nat) (h : n < 8) : binOp .shl t (W8 x) (.int yk (n : Int)) = pure (W8 (x <<< UInt8.ofNat n)) := by
  have hx := x.toNat_lt
  simp only [W8, binOp_shl, Op.shift]; rw [if_neg (by omega)]
  have hm : min (n : Int).toNat (IntKind.bits .u8) = n := by simp [IntKind.bits]; omega
  simp only [hm, wrapN8]; congr 2
  rw [UInt8.toNat_shiftLeft, UInt8.toNat_ofNat', Nat.mod_eq_of_lt (a := n) (by omega), Nat.mod_eq_of_lt (a := n) (by omega), Nat.shiftLeft_eq, Int.natCast_emod, Int.natCast_mul, Int.natCast_pow]; rfl
theorem shr8 (x : UInt8) (yk : IntKind) (n : Nat) (h : n < 8) : binOp .shr t (W8 x) (.int yk (n : Int)) = pure (W8 (x >>> UInt8.ofNat n)) := by
  have hx := x.toNat_lt
  simp only [W8, binOp_shr, Op.shift]; rw [if_neg (by omega)]
  have hm : min (n : Int).toNat (IntKind.bits .u8) = n := by simp [IntKind.bits]; omega
  simp only [hm]; congr 2
  rw [UInt8.toNat_shiftRight, UInt8.toNat_ofNat', Nat.mod_eq_of_lt (a := n) (by omega), Nat.mod_eq_of_lt (a := n) (by omega), Nat.shiftRight_eq_div_pow, Int.fdiv_eq_ediv_of_nonneg _ (Int.pow_nonneg (by decide)), Int.natCast_ediv, Int.natCast_pow]; rfl
@[go_sem high] theorem rshl8c (x : UInt8) (yk : IntKind) (n : Nat) (h : n < 8) : (binOp .shl t (W8 x) (.int yk (no_index (OfNat.ofNat n)))).run P w = .ok (W8 (x <<< OfNat.ofNat n)) w := by
  rw [show Value.int yk (OfNat.ofNat n) = Value.int yk (n : Int) from rfl, shl8 t x yk n h]; rfl
@[go_sem high] theorem rshl8n (x : UInt8) (yk : IntKind) (n : Nat) (h : n < 8) : (binOp .shl t (W8 x) (.int yk (n : Int))).run P w = .ok (W8 (x <<< UInt8.ofNat n)) w := by
  rw [shl8 t x yk n h]; rfl
theorem rshl8i (x : UInt8) (yk : IntKind) (c : Int) (n : Nat) (hc : c = (n : Int)) (h : n < 8) : (binOp .shl t (W8 x) (.int yk c)).run P w = .ok (W8 (x <<< UInt8.ofNat n)) w := by
  rw [hc, shl8 t x yk n h]; rfl
@[go_sem high] theorem rshr8c (x : UInt8) (yk : IntKind) (n : Nat) (h : n < 8) : (binOp .shr t (W8 x) (.int yk (no_index (OfNat.ofNat n)))).run P w = .ok (W8 (x >>> OfNat.ofNat n)) w := by
  rw [show Value.int yk (OfNat.ofNat n) = Value.int yk (n : Int) from rfl, shr8 t x yk n h]; rfl
@[go_sem high] theorem rshr8n (x : UInt8) (yk : IntKind) (n : Nat) (h : n < 8) : (binOp .shr t (W8 x) (.int yk (n : Int))).run P w = .ok (W8 (x >>> UInt8.ofNat n)) w := by
  rw [shr8 t x yk n h]; rfl
theorem rshr8i (x : UInt8) (yk : IntKind) (c : Int) (n : Nat) (hc : c = (n : Int)) (h : n < 8) : (binOp .shr t (W8 x) (.int yk c)).run P w = .ok (W8 (x >>> UInt8.ofNat n)) w := by
  rw [hc, shr8 t x yk n h]; rfl
theorem lit32 (n : Nat) (h : n < 4294967296) : Value.int .u32 (n : Int) = W32 (UInt32.ofNat n) := by
  unfold W32; rw [UInt32.toNat_ofNat']; congr 1; rw [Nat.mod_eq_of_lt h]
theorem nat32 (n : Nat) : ((UInt32.ofNat n).toNat : Int) = ((n % 4294967296 : Nat) : Int) := by rw [UInt32.toNat_ofNat']
@[go_sem ↓ high] theorem cells_W32 (x : UInt32) : (W32 x).cells = #[W32 x] := rfl
@[go_sem] theorem cellsm_W32 (x : UInt32) : Value.cells.match_1 (fun _ => Array Value) (W32 x) (fun cs => cs) (fun v => #[v]) = #[W32 x] := rfl
@[go_sem ↓ high] theorem one'_W32 (x : UInt32) : (W32 x).oneCell' = true := rfl
@[go_sem high] theorem eqGuardW32 (op : BinOp) (x y : Operand) (a : UInt32) (v : Value) : eqGuard op t x y (W32 a) v = pure () := by cases op <;> rfl
@[go_sem high] theorem run_store_W32 (P : Program) (a : Addr) (m : Mode) (x : UInt32) : (store a (W32 x) m).run P w = stored P w a (W32 x) m := run_store P w a _ m rfl
theorem add32 (x y : UInt32) : binOp .add t (W32 x) (W32 y) = pure (W32 (x + y)) := by
  simp only [W32, binOp_add, Op.intArith, wrapN32, UInt32.toNat_add]; rfl
theorem sub32 (x y : UInt32) : binOp .sub t (W32 x) (W32 y) = pure (W32 (x - y)) := by
  have hx := x.toNat_lt; have hy := y.toNat_lt
  simp only [W32, binOp_sub, Op.intArith, wrapN32, UInt32.toNat_sub]; congr 2; omega
theorem mul32 (x y : UInt32) : binOp .mul t (W32 x) (W32 y) = pure (W32 (x * y)) := by
  simp only [W32, binOp_mul, Op.intArith, wrapN32, UInt32.toNat_mul]; rfl
theorem and32 (x y : UInt32) : binOp .and t (W32 x) (W32 y) = pure (W32 (x &&& y)) := by
  have hx := x.toNat_lt; have hy := y.toNat_lt; have hz := (x &&& y).toNat_lt
  show pure (Value.int .u32 (IntKind.wrap .u32 ((BitVec.ofInt 32 (x.toNat : Int) &&& BitVec.ofInt 32 (y.toNat : Int)).toNat : Int))) = _
  rw [BitVec.ofInt_natCast, BitVec.ofInt_natCast, BitVec.toNat_and, BitVec.toNat_ofNat, BitVec.toNat_ofNat, Nat.mod_eq_of_lt hx, Nat.mod_eq_of_lt hy, ← UInt32.toNat_and, wrapN32]
  rw [Int.emod_eq_of_lt (by omega) (by omega)]; rfl
theorem or32 (x y : UInt32) : binOp .or t (W32 x) (W32 y) = pure (W32 (x ||| y)) := by
  have hx := x.toNat_lt; have hy := y.toNat_lt; have hz := (x ||| y).toNat_lt
  show pure (Value.int .u32 (IntKind.wrap .u32 ((BitVec.ofInt 32 (x.toNat : Int) ||| BitVec.ofInt 32 (y.toNat : Int)).toNat : Int))) = _
  rw [BitVec.ofInt_natCast, BitVec.ofInt_natCast, BitVec.toNat_or, BitVec.toNat_ofNat, BitVec.toNat_ofNat, Nat.mod_eq_of_lt hx, Nat.mod_eq_of_lt hy, ← UInt32.toNat_or, wrapN32]
  rw [Int.emod_eq_of_lt (by omega) (by omega)]; rfl
theorem xor32 (x y : UInt32) : binOp .xor t (W32 x) (W32 y) = pure (W32 (x ^^^ y)) := by
  have hx := x.toNat_lt; have hy := y.toNat_lt; have hz := (x ^^^ y).toNat_lt
  show pure (Value.int .u32 (IntKind.wrap .u32 ((BitVec.ofInt 32 (x.toNat : Int) ^^^ BitVec.ofInt 32 (y.toNat : Int)).toNat : Int))) = _
  rw [BitVec.ofInt_natCast, BitVec.ofInt_natCast, BitVec.toNat_xor, BitVec.toNat_ofNat, BitVec.toNat_ofNat, Nat.mod_eq_of_lt hx, Nat.mod_eq_of_lt hy, ← UInt32.toNat_xor, wrapN32]
  rw [Int.emod_eq_of_lt (by omega) (by omega)]; rfl
theorem quo32 (x y : UInt32) (hy : y ≠ 0) : binOp .quo t (W32 x) (W32 y) = pure (W32 (x / y)) := by
  have hx := x.toNat_lt
  have h0 : ¬ ((y.toNat : Int) = 0) := fun h => hy (by rw [← UInt32.toNat_inj]; simpa using h)
  have hd : x.toNat / y.toNat < 4294967296 := Nat.lt_of_le_of_lt (Nat.div_le_self _ _) hx
  simp only [W32, binOp_quo, Op.intDiv, UInt32.toNat_div]; rw [if_neg h0, wrapN32]
  rw [Int.tdiv_eq_ediv_of_nonneg (by omega), ← Int.natCast_ediv]; congr 2; exact Int.emod_eq_of_lt (Int.natCast_nonneg _) (Int.ofNat_lt.2 hd)
theorem rem32 (x y : UInt32) (hy : y ≠ 0) : binOp .rem t (W32 x) (W32 y) = pure (W32 (x % y)) := by
  have hx := x.toNat_lt
  have h0 : ¬ ((y.toNat : Int) = 0) := fun h => hy (by rw [← UInt32.toNat_inj]; simpa using h)
  simp only [W32, binOp_rem, Op.intDiv, UInt32.toNat_mod]; rw [if_neg h0]
  congr 2
theorem eql32 (x y : UInt32) : binOp .eql t (W32 x) (W32 y) = pure (.bool (x == y)) := by
  simp only [W32, binOp_eql]; congr 2; rw [Bool.eq_iff_iff]; simp [← UInt32.toNat_inj]; try omega
theorem neq32 (x y : UInt32) : binOp .neq t (W32 x) (W32 y) = pure (.bool (x != y)) := by
  simp only [W32, binOp_neq]; congr 2; rw [Bool.eq_iff_iff]; simp [← UInt32.toNat_inj]; try omega
theorem lss32 (x y : UInt32) : binOp .lss t (W32 x) (W32 y) = pure (.bool (decide (x < y))) := by
  simp only [W32, binOp_lss]; congr 2; rw [Bool.eq_iff_iff]; simp [UInt32.lt_iff_toNat_lt]
theorem leq32 (x y : UInt32) : binOp .leq t (W32 x) (W32 y) = pure (.bool (decide (x ≤ y))) := by
  simp only [W32, binOp_leq]; congr 2; rw [Bool.eq_iff_iff]; simp [UInt32.le_iff_toNat_le]
theorem gtr32 (x y : UInt32) : binOp .gtr t (W32 x) (W32 y) = pure (.bool (decide (y < x))) := by
  simp only [W32, binOp_gtr]; congr 2; rw [Bool.eq_iff_iff]; simp [UInt32.lt_iff_toNat_lt]
theorem geq32 (x y : UInt32) : binOp .geq t (W32 x) (W32 y) = pure (.bool (decide (y ≤ x))) := by
  simp only [W32, binOp_geq]; congr 2; rw [Bool.eq_iff_iff]; simp [UInt32.le_iff_toNat_le]
theorem not32 (x : UInt32) : Op.unary .xor (W32 x) = pure (W32 (~~~x)) := by
  have hx := x.toNat_lt
  show pure (Value.int .u32 (IntKind.wrap .u32 ((BitVec.ofInt 32 (IntKind.max .u32) ^^^ BitVec.ofInt 32 (x.toNat : Int)).toNat : Int))) = _
  have hm : (IntKind.max .u32 : Int) = ((4294967296 - 1 : Nat) : Int) := by decide
  rw [hm, BitVec.ofInt_natCast, BitVec.ofInt_natCast, wrapN32]
  have e : (BitVec.ofNat 32 (4294967296 - 1) ^^^ BitVec.ofNat 32 x.toNat) = (~~~x).toBitVec := by
    rw [UInt32.toBitVec_not]
    have : BitVec.ofNat 32 x.toNat = x.toBitVec := by rw [← UInt32.toNat_toBitVec, BitVec.ofNat_toNat, BitVec.setWidth_eq]
    rw [this]; have : BitVec.ofNat 32 (4294967296 - 1) = BitVec.allOnes 32 := by decide
    rw [this]; exact BitVec.allOnes_xor
  rw [e, UInt32.toNat_toBitVec]; have := (~~~x).toNat_lt; rw [Int.emod_eq_of_lt (by omega) (by omega)]; rfl
@[go_sem high] theorem radd32 (x y : UInt32) : (binOp .add t (W32 x) (W32 y)).run P w = .ok (W32 (x + y)) w := by rw [add32]; rfl
@[go_sem high] theorem radd32c (x : UInt32) (n : Nat) (h : n < 4294967296) : (binOp .add t (W32 x) (.int .u32 (no_index (OfNat.ofNat n)))).run P w = .ok (W32 (x + OfNat.ofNat n)) w := by
  rw [show Value.int .u32 (OfNat.ofNat n) = W32 (UInt32.ofNat n) from lit32 n h, add32]; rfl
@[go_sem high] theorem radd32d (x : UInt32) (n : Nat) (h : n < 4294967296) : (binOp .add t (.int .u32 (no_index (OfNat.ofNat n))) (W32 x)).run P w = .ok (W32 (OfNat.ofNat n + x)) w := by
  rw [show Value.int .u32 (OfNat.ofNat n) = W32 (UInt32.ofNat n) from lit32 n h, add32]; rfl
@[go_sem high] theorem rsub32 (x y : UInt32) : (binOp .sub t (W32 x) (W32 y)).run P w = .ok (W32 (x - y)) w := by rw [sub32]; rfl
@[go_sem high] theorem rsub32c (x : UInt32) (n : Nat) (h : n < 4294967296) : (binOp .sub t (W32 x) (.int .u32 (no_index (OfNat.ofNat n)))).run P w = .ok (W32 (x - OfNat.ofNat n)) w := by
  rw [show Value.int .u32 (OfNat.ofNat n) = W32 (UInt32.ofNat n) from lit32 n h, sub32]; rfl
@[go_sem high] theorem rsub32d (x : UInt32) (n : Nat) (h : n < 4294967296) : (binOp .sub t (.int .u32 (no_index (OfNat.ofNat n))) (W32 x)).run P w = .ok (W32 (OfNat.ofNat n - x)) w := by
  rw [show Value.int .u32 (OfNat.ofNat n) = W32 (UInt32.ofNat n) from lit32 n h, sub32]; rfl
@[go_sem high] theorem rmul32 (x y : UInt32) : (binOp .mul t (W32 x) (W32 y)).run P w = .ok (W32 (x * y)) w := by rw [mul32]; rfl
@[go_sem high] theorem rmul32c (x : UInt32) (n : Nat) (h : n < 4294967296) : (binOp .mul t (W32 x) (.int .u32 (no_index (OfNat.ofNat n)))).run P w = .ok (W32 (x * OfNat.ofNat n)) w := by
  rw [show Value.int .u32 (OfNat.ofNat n) = W32 (UInt32.ofNat n) from lit32 n h, mul32]; rfl
@[go_sem high] theorem rmul32d (x : UInt32) (n : Nat) (h : n < 4294967296) : (binOp .mul t (.int .u32 (no_index (OfNat.ofNat n))) (W32 x)).run P w = .ok (W32 (OfNat.ofNat n * x)) w := by
  rw [show Value.int .u32 (OfNat.ofNat n) = W32 (UInt32.ofNat n) from lit32 n h, mul32]; rfl
@[go_sem high] theorem rand32 (x y : UInt32) : (binOp .and t (W32 x) (W32 y)).run P w = .ok (W32 (x &&& y)) w := by rw [and32]; rfl
@[go_sem high] theorem rand32c (x : UInt32) (n : Nat) (h : n < 4294967296) : (binOp .and t (W32 x) (.int .u32 (no_index (OfNat.ofNat n)))).run P w = .ok (W32 (x &&& OfNat.ofNat n)) w := by
  rw [show Value.int .u32 (OfNat.ofNat n) = W32 (UInt32.ofNat n) from lit32 n h, and32]; rfl
@[go_sem high] theorem rand32d (x : UInt32) (n : Nat) (h : n < 4294967296) : (binOp .and t (.int .u32 (no_index (OfNat.ofNat n))) (W32 x)).run P w = .ok (W32 (OfNat.ofNat n &&& x)) w := by
  rw [show Value.int .u32 (OfNat.ofNat n) = W32 (UInt32.ofNat n) from lit32 n h, and32]; rfl
@[go_sem high] theorem ror32 (x y : UInt32) : (binOp .or t (W32 x) (W32 y)).run P w = .ok (W32 (x ||| y)) w := by rw [or32]; rfl
@[go_sem high] theorem ror32c (x : UInt32) (n : Nat) (h : n < 4294967296) : (binOp .or t (W32 x) (.int .u32 (no_index (OfNat.ofNat n)))).run P w = .ok (W32 (x ||| OfNat.ofNat n)) w := by
  rw [show Value.int .u32 (OfNat.ofNat n) = W32 (UInt32.ofNat n) from lit32 n h, or32]; rfl
@[go_sem high] theorem ror32d (x : UInt32) (n : Nat) (h : n < 4294967296) : (binOp .or t (.int .u32 (no_index (OfNat.ofNat n))) (W32 x)).run P w = .ok (W32 (OfNat.ofNat n ||| x)) w := by
  rw [show Value.int .u32 (OfNat.ofNat n) = W32 (UInt32.ofNat n) from lit32 n h, or32]; rfl
@[go_sem high] theorem rxor32 (x y : UInt32) : (binOp .xor t (W32 x) (W32 y)).run P w = .ok (W32 (x ^^^ y)) w := by rw [xor32]; rfl
@[go_sem high] theorem rxor32c (x : UInt32) (n : Nat) (h : n < 4294967296) : (binOp .xor t (W32 x) (.int .u32 (no_index (OfNat.ofNat n)))).run P w = .ok (W32 (x ^^^ OfNat.ofNat n)) w := by
  rw [show Value.int .u32 (OfNat.ofNat n) = W32 (UInt32.ofNat n) from lit32 n h, xor32]; rfl
@[go_sem high] theorem rxor32d (x : UInt32) (n : Nat) (h : n < 4294967296) : (binOp .xor t (.int .u32 (no_index (OfNat.ofNat n))) (W32 x)).run P w = .ok (W32 (OfNat.ofNat n ^^^ x)) w := by
  rw [show Value.int .u32 (OfNat.ofNat n) = W32 (UInt32.ofNat n) from lit32 n h, xor32]; rfl
@[go_sem high] theorem rquo32c (x : UInt32) (n : Nat) (h : n < 4294967296) (h0 : n ≠ 0) : (binOp .quo t (W32 x) (.int .u32 (no_index (OfNat.ofNat n)))).run P w = .ok (W32 (x / OfNat.ofNat n)) w := by
  rw [show Value.int .u32 (OfNat.ofNat n) = W32 (UInt32.ofNat n) from lit32 n h, quo32 t x _ (fun e => h0 (by have := congrArg UInt32.toNat e; rw [UInt32.toNat_ofNat'] at this; simp at this; omega))]; rfl
@[go_sem high] theorem rrem32c (x : UInt32) (n : Nat) (h : n < 4294967296) (h0 : n ≠ 0) : (binOp .rem t (W32 x) (.int .u32 (no_index (OfNat.ofNat n)))).run P w = .ok (W32 (x % OfNat.ofNat n)) w := by
  rw [show Value.int .u32 (OfNat.ofNat n) = W32 (UInt32.ofNat n) from lit32 n h, rem32 t x _ (fun e => h0 (by have := congrArg UInt32.toNat e; rw [UInt32.toNat_ofNat'] at this; simp at this; omega))]; rfl
@[go_sem high] theorem reql32 (x y : UInt32) : (binOp .eql t (W32 x) (W32 y)).run P w = .ok (.bool (x == y)) w := by rw [eql32]; rfl
@[go_sem high] theorem reql32c (x : UInt32) (n : Nat) (h : n < 4294967296) : (binOp .eql t (W32 x) (.int .u32 (no_index (OfNat.ofNat n)))).run P w = .ok (.bool (x == OfNat.ofNat n)) w := by
  rw [show Value.int .u32 (OfNat.ofNat n) = W32 (UInt32.ofNat n) from lit32 n h, eql32]; rfl
@[go_sem high] theorem rneq32 (x y : UInt32) : (binOp .neq t (W32 x) (W32 y)).run P w = .ok (.bool (x != y)) w := by rw [neq32]; rfl
@[go_sem high] theorem rneq32c (x : UInt32) (n : Nat) (h : n < 4294967296) : (binOp .neq t (W32 x) (.int .u32 (no_index (OfNat.ofNat n)))).run P w = .ok (.bool (x != OfNat.ofNat n)) w := by
  rw [show Value.int .u32 (OfNat.ofNat n) = W32 (UInt32.ofNat n) from lit32 n h, neq32]; rfl
@[go_sem high] theorem rlss32 (x y : UInt32) : (binOp .lss t (W32 x) (W32 y)).run P w = .ok (.bool (decide (x < y))) w := by rw [lss32]; rfl
@[go_sem high] theorem rlss32c (x : UInt32) (n : Nat) (h : n < 4294967296) : (binOp .lss t (W32 x) (.int .u32 (no_index (OfNat.ofNat n)))).run P w = .ok (.bool (decide (x < OfNat.ofNat n))) w := by
  rw [show Value.int .u32 (OfNat.ofNat n) = W32 (UInt32.ofNat n) from lit32 n h, lss32]; rfl
@[go_sem high] theorem rleq32 (x y : UInt32) : (binOp .leq t (W32 x) (W32 y)).run P w = .ok (.bool (decide (x ≤ y))) w := by rw [leq32]; rfl
@[go_sem high] theorem rleq32c (x : UInt32) (n : Nat) (h : n < 4294967296) : (binOp .leq t (W32 x) (.int .u32 (no_index (OfNat.ofNat n)))).run P w = .ok (.bool (decide (x ≤ OfNat.ofNat n))) w := by
  rw [show Value.int .u32 (OfNat.ofNat n) = W32 (UInt32.ofNat n) from lit32 n h, leq32]; rfl
@[go_sem high] theorem rgtr32 (x y : UInt32) : (binOp .gtr t (W32 x) (W32 y)).run P w = .ok (.bool (decide (y < x))) w := by rw [gtr32]; rfl
@[go_sem high] theorem rgtr32c (x : UInt32) (n : Nat) (h : n < 4294967296) : (binOp .gtr t (W32 x) (.int .u32 (no_index (OfNat.ofNat n)))).run P w = .ok (.bool (decide (OfNat.ofNat n < x))) w := by
  rw [show Value.int .u32 (OfNat.ofNat n) = W32 (UInt32.ofNat n) from lit32 n h, gtr32]; rfl
@[go_sem high] theorem rgeq32 (x y : UInt32) : (binOp .geq t (W32 x) (W32 y)).run P w = .ok (.bool (decide (y ≤ x))) w := by rw [geq32]; rfl
@[go_sem high] theorem rgeq32c (x : UInt32) (n : Nat) (h : n < 4294967296) : (binOp .geq t (W32 x) (.int .u32 (no_index (OfNat.ofNat n)))).run P w = .ok (.bool (decide (OfNat.ofNat n ≤ x))) w := by
  rw [show Value.int .u32 (OfNat.ofNat n) = W32 (UInt32.ofNat n) from lit32 n h, geq32]; rfl
@[go_sem high] theorem rnot32 (x : UInt32) : (Op.unary .xor (W32 x)).run P w = .ok (W32 (~~~x)) w := by rw [not32]; rfl
theorem shl32 (x : UInt32) (yk : IntKind) (n : Nat) (h : n < 32) : binOp .shl t (W32 x) (.int yk (n : Int)) = pure (W32 (x <<< UInt32.ofNat n)) := by
  have hx := x.toNat_lt
  simp only [W32, binOp_shl, Op.shift]; rw [if_neg (by omega)]
  have hm : min (n : Int).toNat (IntKind.bits .u32) = n := by simp [IntKind.bits]; omega
  simp only [hm, wrapN32]; congr 2
  rw [UInt32.toNat_shiftLeft, UInt32.toNat_ofNat', Nat.mod_eq_of_lt (a := n) (by omega), Nat.mod_eq_of_lt (a := n) (by omega), Nat.shiftLeft_eq, Int.natCast_emod, Int.natCast_mul, Int.natCast_pow]; rfl
theorem shr32 (x : UInt32) (yk : IntKind) (n : Nat) (h : n < 32) : binOp .shr t (W32 x) (.int yk (n : Int)) = pure (W32 (x >>> UInt32.ofNat n)) := by
  have hx := x.toNat_lt
  simp only [W32, binOp_shr, Op.shift]; rw [if_neg (by omega)]
  have hm : min (n : Int).toNat (IntKind.bits .u32) = n := by simp [IntKind.bits]; omega
  simp only [hm]; congr 2
  rw [UInt32.toNat_shiftRight, UInt32.toNat_ofNat', Nat.mod_eq_of_lt (a := n) (by omega), Nat.mod_eq_of_lt (a := n) (by omega), Nat.shiftRight_eq_div_pow, Int.fdiv_eq_ediv_of_nonneg _ (Int.pow_nonneg (by decide)), Int.natCast_ediv, Int.natCast_pow]; rfl
@[go_sem high] theorem rshl32c (x : UInt32) (yk : IntKind) (n : Nat) (h : n < 32) : (binOp .shl t (W32 x) (.int yk (no_index (OfNat.ofNat n)))).run P w = .ok (W32 (x <<< OfNat.ofNat n)) w := by
  rw [show Value.int yk (OfNat.ofNat n) = Value.int yk (n : Int) from rfl, shl32 t x yk n h]; rfl
@[go_sem high] theorem rshl32n (x : UInt32) (yk : IntKind) (n : Nat) (h : n < 32) : (binOp .shl t (W32 x) (.int yk (n : Int))).run P w = .ok (W32 (x <<< UInt32.ofNat n)) w := by
  rw [shl32 t x yk n h]; rfl
theorem rshl32i (x : UInt32) (yk : IntKind) (c : Int) (n : Nat) (hc : c = (n : Int)) (h : n < 32) : (binOp .shl t (W32 x) (.int yk c)).run P w = .ok (W32 (x <<< UInt32.ofNat n)) w := by
  rw [hc, shl32 t x yk n h]; rfl
@[go_sem high] theorem rshr32c (x : UInt32) (yk : IntKind) (n : Nat) (h : n < 32) : (binOp .shr t (W32 x) (.int yk (no_index (OfNat.ofNat n)))).run P w = .ok (W32 (x >>> OfNat.ofNat n)) w := by
  rw [show Value.int yk (OfNat.ofNat n) = Value.int yk (n : Int) from rfl, shr32 t x yk n h]; rfl
@[go_sem high] theorem rshr32n (x : UInt32) (yk : IntKind) (n : Nat) (h : n < 32) : (binOp .shr t (W32 x) (.int yk (n : Int))).run P w = .ok (W32 (x >>> UInt32.ofNat n)) w := by
  rw [shr32 t x yk n h]; rfl
theorem rshr32i (x : UInt32) (yk : IntKind) (c : Int) (n : Nat) (hc : c = (n : Int)) (h : n < 32) : (binOp .shr t (W32 x) (.int yk c)).run P w = .ok (W32 (x >>> UInt32.ofNat n)) w := by
  rw [hc, shr32 t x yk n h]; rfl
theorem lit64 (n : Nat) (h : n < 18446744073709551616) : Value.int .u64 (n : Int) = W64 (UInt64.ofNat n) := by
  unfold W64; rw [UInt64.toNat_ofNat']; congr 1; rw [Nat.mod_eq_of_lt h]
theorem nat64 (n : Nat) : ((UInt64.ofNat n).toNat : Int) = ((n % 18446744073709551616 : Nat) : Int) := by rw [UInt64.toNat_ofNat']
@[go_sem ↓ high] theorem cells_W64 (x : UInt64) : (W64 x).cells = #[W64 x] := rfl
@[go_sem] theorem cellsm_W64 (x : UInt64) : Value.cells.match_1 (fun _ => Array Value) (W64 x) (fun cs => cs) (fun v => #[v]) = #[W64 x] := rfl
@[go_sem ↓ high] theorem one'_W64 (x : UInt64) : (W64 x).oneCell' = true := rfl
@[go_sem high] theorem eqGuardW64 (op : BinOp) (x y : Operand) (a : UInt64) (v : Value) : eqGuard op t x y (W64 a) v = pure () := by cases op <;> rfl
@[go_sem high] theorem run_store_W64 (P : Program) (a : Addr) (m : Mode) (x : UInt64) : (store a (W64 x) m).run P w = stored P w a (W64 x) m := run_store P w a _ m rfl
theorem add64 (x y : UInt64) : binOp .add t (W64 x) (W64 y) = pure (W64 (x + y)) := by
  simp only [W64, binOp_add, Op.intArith, wrapN64, UInt64.toNat_add]; rfl
theorem sub64 (x y : UInt64) : binOp .sub t (W64 x) (W64 y) = pure (W64 (x - y)) := by
  have hx := x.toNat_lt; have hy := y.toNat_lt
  simp only [W64, binOp_sub, Op.intArith, wrapN64, UInt64.toNat_sub]; congr 2; omega
theorem mul64 (x y : UInt64) : binOp .mul t (W64 x) (W64 y) = pure (W64 (x * y)) := by
  simp only [W64, binOp_mul, Op.intArith, wrapN64, UInt64.toNat_mul]; rfl
theorem and64 (x y : UInt64) : binOp .and t (W64 x) (W64 y) = pure (W64 (x &&& y)) := by
  have hx := x.toNat_lt; have hy := y.toNat_lt; have hz := (x &&& y).toNat_lt
  show pure (Value.int .u64 (IntKind.wrap .u64 ((BitVec.ofInt 64 (x.toNat : Int) &&& BitVec.ofInt 64 (y.toNat : Int)).toNat : Int))) = _
  rw [BitVec.ofInt_natCast, BitVec.ofInt_natCast, BitVec.toNat_and, BitVec.toNat_ofNat, BitVec.toNat_ofNat, Nat.mod_eq_of_lt hx, Nat.mod_eq_of_lt hy, ← UInt64.toNat_and, wrapN64]
  rw [Int.emod_eq_of_lt (by omega) (by omega)]; rfl
theorem or64 (x y : UInt64) : binOp .or t (W64 x) (W64 y) = pure (W64 (x ||| y)) := by
  have hx := x.toNat_lt; have hy := y.toNat_lt; have hz := (x ||| y).toNat_lt
  show pure (Value.int .u64 (IntKind.wrap .u64 ((BitVec.ofInt 64 (x.toNat : Int) ||| BitVec.ofInt 64 (y.toNat : Int)).toNat : Int))) = _
  rw [BitVec.ofInt_natCast, BitVec.ofInt_natCast, BitVec.toNat_or, BitVec.toNat_ofNat, BitVec.toNat_ofNat, Nat.mod_eq_of_lt hx, Nat.mod_eq_of_lt hy, ← UInt64.toNat_or, wrapN64]
  rw [Int.emod_eq_of_lt (by omega) (by omega)]; rfl
theorem xor64 (x y : UInt64) : binOp .xor t (W64 x) (W64 y) = pure (W64 (x ^^^ y)) := by
  have hx := x.toNat_lt; have hy := y.toNat_lt; have hz := (x ^^^ y).toNat_lt
  show pure (Value.int .u64 (IntKind.wrap .u64 ((BitVec.ofInt 64 (x.toNat : Int) ^^^ BitVec.ofInt 64 (y.toNat : Int)).toNat : Int))) = _
  rw [BitVec.ofInt_natCast, BitVec.ofInt_natCast, BitVec.toNat_xor, BitVec.toNat_ofNat, BitVec.toNat_ofNat, Nat.mod_eq_of_lt hx, Nat.mod_eq_of_lt hy, ← UInt64.toNat_xor, wrapN64]
  rw [Int.emod_eq_of_lt (by omega) (by omega)]; rfl
theorem quo64 (x y : UInt64) (hy : y ≠ 0) : binOp .quo t (W64 x) (W64 y) = pure (W64 (x / y)) := by
  have hx := x.toNat_lt
  have h0 : ¬ ((y.toNat : Int) = 0) := fun h => hy (by rw [← UInt64.toNat_inj]; simpa using h)
  have hd : x.toNat / y.toNat < 18446744073709551616 := Nat.lt_of_le_of_lt (Nat.div_le_self _ _) hx
  simp only [W64, binOp_quo, Op.intDiv, UInt64.toNat_div]; rw [if_neg h0, wrapN64]
  rw [Int.tdiv_eq_ediv_of_nonneg (by omega), ← Int.natCast_ediv]; congr 2; exact Int.emod_eq_of_lt (Int.natCast_nonneg _) (Int.ofNat_lt.2 hd)
theorem rem64 (x y : UInt64) (hy : y ≠ 0) : binOp .rem t (W64 x) (W64 y) = pure (W64 (x % y)) := by
  have hx := x.toNat_lt
  have h0 : ¬ ((y.toNat : Int) = 0) := fun h => hy (by rw [← UInt64.toNat_inj]; simpa using h)
  simp only [W64, binOp_rem, Op.intDiv, UInt64.toNat_mod]; rw [if_neg h0]
  congr 2
theorem eql64 (x y : UInt64) : binOp .eql t (W64 x) (W64 y) = pure (.bool (x == y)) := by
  simp only [W64, binOp_eql]; congr 2; rw [Bool.eq_iff_iff]; simp [← UInt64.toNat_inj]; try omega
theorem neq64 (x y : UInt64) : binOp .neq t (W64 x) (W64 y) = pure (.bool (x != y)) := by
  simp only [W64, binOp_neq]; congr 2; rw [Bool.eq_iff_iff]; simp [← UInt64.toNat_inj]; try omega
theorem lss64 (x y : UInt64) : binOp .lss t (W64 x) (W64 y) = pure (.bool (decide (x < y))) := by
  simp only [W64, binOp_lss]; congr 2; rw [Bool.eq_iff_iff]; simp [UInt64.lt_iff_toNat_lt]
theorem leq64 (x y : UInt64) : binOp .leq t (W64 x) (W64 y) = pure (.bool (decide (x ≤ y))) := by
  simp only [W64, binOp_leq]; congr 2; rw [Bool.eq_iff_iff]; simp [UInt64.le_iff_toNat_le]
theorem gtr64 (x y : UInt64) : binOp .gtr t (W64 x) (W64 y) = pure (.bool (decide (y < x))) := by
  simp only [W64, binOp_gtr]; congr 2; rw [Bool.eq_iff_iff]; simp [UInt64.lt_iff_toNat_lt]
theorem geq64 (x y : UInt64) : binOp .geq t (W64 x) (W64 y) = pure (.bool (decide (y ≤ x))) := by
  simp only [W64, binOp_geq]; congr 2; rw [Bool.eq_iff_iff]; simp [UInt64.le_iff_toNat_le]
theorem not64 (x : UInt64) : Op.unary .xor (W64 x) = pure (W64 (~~~x)) := by
  have hx := x.toNat_lt
  show pure (Value.int .u64 (IntKind.wrap .u64 ((BitVec.ofInt 64 (IntKind.max .u64) ^^^ BitVec.ofInt 64 (x.toNat : Int)).toNat : Int))) = _
  have hm : (IntKind.max .u64 : Int) = ((18446744073709551616 - 1 : Nat) : Int) := by decide
  rw [hm, BitVec.ofInt_natCast, BitVec.ofInt_natCast, wrapN64]
  have e : (BitVec.ofNat 64 (18446744073709551616 - 1) ^^^ BitVec.ofNat 64 x.toNat) = (~~~x).toBitVec := by
    rw [UInt64.toBitVec_not]
    have : BitVec.ofNat 64 x.toNat = x.toBitVec := by rw [← UInt64.toNat_toBitVec, BitVec.ofNat_toNat, BitVec.setWidth_eq]
    rw [this]; have : BitVec.ofNat 64 (18446744073709551616 - 1) = BitVec.allOnes 64 := by decide
    rw [this]; exact BitVec.allOnes_xor
  rw [e, UInt64.toNat_toBitVec]; have := (~~~x).toNat_lt; rw [Int.emod_eq_of_lt (by omega) (by omega)]; rfl
@[go_sem high] theorem radd64 (x y : UInt64) : (binOp .add t (W64 x) (W64 y)).run P w = .ok (W64 (x + y)) w := by rw [add64]; rfl
@[go_sem high] theorem radd64c (x : UInt64) (n : Nat) (h : n < 18446744073709551616) : (binOp .add t (W64 x) (.int .u64 (no_index (OfNat.ofNat n)))).run P w = .ok (W64 (x + OfNat.ofNat n)) w := by
  rw [show Value.int .u64 (OfNat.ofNat n) = W64 (UInt64.ofNat n) from lit64 n h, add64]; rfl
@[go_sem high] theorem radd64d (x : UInt64) (n : Nat) (h : n < 18446744073709551616) : (binOp .add t (.int .u64 (no_index (OfNat.ofNat n))) (W64 x)).run P w = .ok (W64 (OfNat.ofNat n + x)) w := by
  rw [show Value.int .u64 (OfNat.ofNat n) = W64 (UInt64.ofNat n) from lit64 n h, add64]; rfl
@[go_sem high] theorem rsub64 (x y : UInt64) : (binOp .sub t (W64 x) (W64 y)).run P w = .ok (W64 (x - y)) w := by rw [sub64]; rfl
@[go_sem high] theorem rsub64c (x : UInt64) (n : Nat) (h : n < 18446744073709551616) : (binOp .sub t (W64 x) (.int .u64 (no_index (OfNat.ofNat n)))).run P w = .ok (W64 (x - OfNat.ofNat n)) w := by
  rw [show Value.int .u64 (OfNat.ofNat n) = W64 (UInt64.ofNat n) from lit64 n h, sub64]; rfl
@[go_sem high] theorem rsub64d (x : UInt64) (n : Nat) (h : n < 18446744073709551616) : (binOp .sub t (.int .u64 (no_index (OfNat.ofNat n))) (W64 x)).run P w = .ok (W64 (OfNat.ofNat n - x)) w := by
  rw [show Value.int .u64 (OfNat.ofNat n) = W64 (UInt64.ofNat n) from lit64 n h, sub64]; rfl
@[go_sem high] theorem rmul64 (x y : UInt64) : (binOp .mul t (W64 x) (W64 y)).run P w = .ok (W64 (x * y)) w := by rw [mul64]; rfl
@[go_sem high] theorem rmul64c (x : UInt64) (n : Nat) (h : n < 18446744073709551616) : (binOp .mul t (W64 x) (.int .u64 (no_index (OfNat.ofNat n)))).run P w = .ok (W64 (x * OfNat.ofNat n)) w := by
  rw [show Value.int .u64 (OfNat.ofNat n) = W64 (UInt64.ofNat n) from lit64 n h, mul64]; rfl
@[go_sem high] theorem rmul64d (x : UInt64) (n : Nat) (h : n < 18446744073709551616) : (binOp .mul t (.int .u64 (no_index (OfNat.ofNat n))) (W64 x)).run P w = .ok (W64 (OfNat.ofNat n * x)) w := by
  rw [show Value.int .u64 (OfNat.ofNat n) = W64 (UInt64.ofNat n) from lit64 n h, mul64]; rfl
@[go_sem high] theorem rand64 (x y : UInt64) : (binOp .and t (W64 x) (W64 y)).run P w = .ok (W64 (x &&& y)) w := by rw [and64]; rfl
@[go_sem high] theorem rand64c (x : UInt64) (n : Nat) (h : n < 18446744073709551616) : (binOp .and t (W64 x) (.int .u64 (no_index (OfNat.ofNat n)))).run P w = .ok (W64 (x &&& OfNat.ofNat n)) w := by
  rw [show Value.int .u64 (OfNat.ofNat n) = W64 (UInt64.ofNat n) from lit64 n h, and64]; rfl
@[go_sem high] theorem rand64d (x : UInt64) (n : Nat) (h : n < 18446744073709551616) : (binOp .and t (.int .u64 (no_index (OfNat.ofNat n))) (W64 x)).run P w = .ok (W64 (OfNat.ofNat n &&& x)) w := by
  rw [show Value.int .u64 (OfNat.ofNat n) = W64 (UInt64.ofNat n) from lit64 n h, and64]; rfl
@[go_sem high] theorem ror64 (x y : UInt64) : (binOp .or t (W64 x) (W64 y)).run P w = .ok (W64 (x ||| y)) w := by rw [or64]; rfl
@[go_sem high] theorem ror64c (x : UInt64) (n : Nat) (h : n < 18446744073709551616) : (binOp .or t (W64 x) (.int .u64 (no_index (OfNat.ofNat n)))).run P w = .ok (W64 (x ||| OfNat.ofNat n)) w := by
  rw [show Value.int .u64 (OfNat.ofNat n) = W64 (UInt64.ofNat n) from lit64 n h, or64]; rfl
@[go_sem high] theorem ror64d (x : UInt64) (n : Nat) (h : n < 18446744073709551616) : (binOp .or t (.int .u64 (no_index (OfNat.ofNat n))) (W64 x)).run P w = .ok (W64 (OfNat.ofNat n ||| x)) w := by
  rw [show Value.int .u64 (OfNat.ofNat n) = W64 (UInt64.ofNat n) from lit64 n h, or64]; rfl
@[go_sem high] theorem rxor64 (x y : UInt64) : (binOp .xor t (W64 x) (W64 y)).run P w = .ok (W64 (x ^^^ y)) w := by rw [xor64]; rfl
@[go_sem high] theorem rxor64c (x : UInt64) (n : Nat) (h : n < 18446744073709551616) : (binOp .xor t (W64 x) (.int .u64 (no_index (OfNat.ofNat n)))).run P w = .ok (W64 (x ^^^ OfNat.ofNat n)) w := by
  rw [show Value.int .u64 (OfNat.ofNat n) = W64 (UInt64.ofNat n) from lit64 n h, xor64]; rfl
@[go_sem high] theorem rxor64d (x : UInt64) (n : Nat) (h : n < 18446744073709551616) : (binOp .xor t (.int .u64 (no_index (OfNat.ofNat n))) (W64 x)).run P w = .ok (W64 (OfNat.ofNat n ^^^ x)) w := by
  rw [show Value.int .u64 (OfNat.ofNat n) = W64 (UInt64.ofNat n) from lit64 n h, xor64]; rfl
@[go_sem high] theorem rquo64c (x : UInt64) (n : Nat) (h : n < 18446744073709551616) (h0 : n ≠ 0) : (binOp .quo t (W64 x) (.int .u64 (no_index (OfNat.ofNat n)))).run P w = .ok (W64 (x / OfNat.ofNat n)) w := by
  rw [show Value.int .u64 (OfNat.ofNat n) = W64 (UInt64.ofNat n) from lit64 n h, quo64 t x _ (fun e => h0 (by have := congrArg UInt64.toNat e; rw [UInt64.toNat_ofNat'] at this; simp at this; omega))]; rfl
@[go_sem high] theorem rrem64c (x : UInt64) (n : Nat) (h : n < 18446744073709551616) (h0 : n ≠ 0) : (binOp .rem t (W64 x) (.int .u64 (no_index (OfNat.ofNat n)))).run P w = .ok (W64 (x % OfNat.ofNat n)) w := by
  rw [show Value.int .u64 (OfNat.ofNat n) = W64 (UInt64.ofNat n) from lit64 n h, rem64 t x _ (fun e => h0 (by have := congrArg UInt64.toNat e; rw [UInt64.toNat_ofNat'] at this; simp at this; omega))]; rfl
@[go_sem high] theorem reql64 (x y : UInt64) : (binOp .eql t (W64 x) (W64 y)).run P w = .ok (.bool (x == y)) w := by rw [eql64]; rfl
@[go_sem high] theorem reql64c (x : UInt64) (n : Nat) (h : n < 18446744073709551616) : (binOp .eql t (W64 x) (.int .u64 (no_index (OfNat.ofNat n)))).run P w = .ok (.bool (x == OfNat.ofNat n)) w := by
  rw [show Value.int .u64 (OfNat.ofNat n) = W64 (UInt64.ofNat n) from lit64 n h, eql64]; rfl
@[go_sem high] theorem rneq64 (x y : UInt64) : (binOp .neq t (W64 x) (W64 y)).run P w = .ok (.bool (x != y)) w := by rw [neq64]; rfl
@[go_sem high] theorem rneq64c (x : UInt64) (n : Nat) (h : n < 18446744073709551616) : (binOp .neq t (W64 x) (.int .u64 (no_index (OfNat.ofNat n)))).run P w = .ok (.bool (x != OfNat.ofNat n)) w := by
  rw [show Value.int .u64 (OfNat.ofNat n) = W64 (UInt64.ofNat n) from lit64 n h, neq64]; rfl
@[go_sem high] theorem rlss64 (x y : UInt64) : (binOp .lss t (W64 x) (W64 y)).run P w = .ok (.bool (decide (x < y))) w := by rw [lss64]; rfl
@[go_sem high] theorem rlss64c (x : UInt64) (n : Nat) (h : n < 18446744073709551616) : (binOp .lss t (W64 x) (.int .u64 (no_index (OfNat.ofNat n)))).run P w = .ok (.bool (decide (x < OfNat.ofNat n))) w := by
  rw [show Value.int .u64 (OfNat.ofNat n) = W64 (UInt64.ofNat n) from lit64 n h, lss64]; rfl
@[go_sem high] theorem rleq64 (x y : UInt64) : (binOp .leq t (W64 x) (W64 y)).run P w = .ok (.bool (decide (x ≤ y))) w := by rw [leq64]; rfl
@[go_sem high] theorem rleq64c (x : UInt64) (n : Nat) (h : n < 18446744073709551616) : (binOp .leq t (W64 x) (.int .u64 (no_index (OfNat.ofNat n)))).run P w = .ok (.bool (decide (x ≤ OfNat.ofNat n))) w := by
  rw [show Value.int .u64 (OfNat.ofNat n) = W64 (UInt64.ofNat n) from lit64 n h, leq64]; rfl
@[go_sem high] theorem rgtr64 (x y : UInt64) : (binOp .gtr t (W64 x) (W64 y)).run P w = .ok (.bool (decide (y < x))) w := by rw [gtr64]; rfl
@[go_sem high] theorem rgtr64c (x : UInt64) (n : Nat) (h : n < 18446744073709551616) : (binOp .gtr t (W64 x) (.int .u64 (no_index (OfNat.ofNat n)))).run P w = .ok (.bool (decide (OfNat.ofNat n < x))) w := by
  rw [show Value.int .u64 (OfNat.ofNat n) = W64 (UInt64.ofNat n) from lit64 n h, gtr64]; rfl
@[go_sem high] theorem rgeq64 (x y : UInt64) : (binOp .geq t (W64 x) (W64 y)).run P w = .ok (.bool (decide (y ≤ x))) w := by rw [geq64]; rfl
@[go_sem high] theorem rgeq64c (x : UInt64) (n : Nat) (h : n < 18446744073709551616) : (binOp .geq t (W64 x) (.int .u64 (no_index (OfNat.ofNat n)))).run P w = .ok (.bool (decide (OfNat.ofNat n ≤ x))) w := by
  rw [show Value.int .u64 (OfNat.ofNat n) = W64 (UInt64.ofNat n) from lit64 n h, geq64]; rfl
@[go_sem high] theorem rnot64 (x : UInt64) : (Op.unary .xor (W64 x)).run P w = .ok (W64 (~~~x)) w := by rw [not64]; rfl
theorem shl64 (x : UInt64) (yk : IntKind) (n : Nat) (h : n < 64) : binOp .shl t (W64 x) (.int yk (n : Int)) = pure (W64 (x <<< UInt64.ofNat n)) := by
  have hx := x.toNat_lt
  simp only [W64, binOp_shl, Op.shift]; rw [if_neg (by omega)]
  have hm : min (n : Int).toNat (IntKind.bits .u64) = n := by simp [IntKind.bits]; omega
  simp only [hm, wrapN64]; congr 2
  rw [UInt64.toNat_shiftLeft, UInt64.toNat_ofNat', Nat.mod_eq_of_lt (a := n) (by omega), Nat.mod_eq_of_lt (a := n) (by omega), Nat.shiftLeft_eq, Int.natCast_emod, Int.natCast_mul, Int.natCast_pow]; rfl
theorem shr64 (x : UInt64) (yk : IntKind) (n : Nat) (h : n < 64) : binOp .shr t (W64 x) (.int yk (n : Int)) = pure (W64 (x >>> UInt64.ofNat n)) := by
  have hx := x.toNat_lt
  simp only [W64, binOp_shr, Op.shift]; rw [if_neg (by omega)]
  have hm : min (n : Int).toNat (IntKind.bits .u64) = n := by simp [IntKind.bits]; omega
  simp only [hm]; congr 2
  rw [UInt64.toNat_shiftRight, UInt64.toNat_ofNat', Nat.mod_eq_of_lt (a := n) (by omega), Nat.mod_eq_of_lt (a := n) (by omega), Nat.shiftRight_eq_div_pow, Int.fdiv_eq_ediv_of_nonneg _ (Int.pow_nonneg (by decide)), Int.natCast_ediv, Int.natCast_pow]; rfl
@[go_sem high] theorem rshl64c (x : UInt64) (yk : IntKind) (n : Nat) (h : n < 64) : (binOp .shl t (W64 x) (.int yk (no_index (OfNat.ofNat n)))).run P w = .ok (W64 (x <<< OfNat.ofNat n)) w := by
  rw [show Value.int yk (OfNat.ofNat n) = Value.int yk (n : Int) from rfl, shl64 t x yk n h]; rfl
@[go_sem high] theorem rshl64n (x : UInt64) (yk : IntKind) (n : Nat) (h : n < 64) : (binOp .shl t (W64 x) (.int yk (n : Int))).run P w = .ok (W64 (x <<< UInt64.ofNat n)) w := by
  rw [shl64 t x yk n h]; rfl
theorem rshl64i (x : UInt64) (yk : IntKind) (c : Int) (n : Nat) (hc : c = (n : Int)) (h : n < 64) : (binOp .shl t (W64 x) (.int yk c)).run P w = .ok (W64 (x <<< UInt64.ofNat n)) w := by
  rw [hc, shl64 t x yk n h]; rfl
@[go_sem high] theorem rshr64c (x : UInt64) (yk : IntKind) (n : Nat) (h : n < 64) : (binOp .shr t (W64 x) (.int yk (no_index (OfNat.ofNat n)))).run P w = .ok (W64 (x >>> OfNat.ofNat n)) w := by
  rw [show Value.int yk (OfNat.ofNat n) = Value.int yk (n : Int) from rfl, shr64 t x yk n h]; rfl
@[go_sem high] theorem rshr64n (x : UInt64) (yk : IntKind) (n : Nat) (h : n < 64) : (binOp .shr t (W64 x) (.int yk (n : Int))).run P w = .ok (W64 (x >>> UInt64.ofNat n)) w := by
  rw [shr64 t x yk n h]; rfl
theorem rshr64i (x : UInt64) (yk : IntKind) (c : Int) (n : Nat) (hc : c = (n : Int)) (h : n < 64) : (binOp .shr t (W64 x) (.int yk c)).run P w = .ok (W64 (x >>> UInt64.ofNat n)) w := by
  rw [hc, shr64 t x yk n h]; rfl
@[go_sem high] theorem rconv8_8 (src dst : TypeId) (x : UInt8) (hs : (P.underlying src).isSome = true) (hd : P.underlying dst = some (.int .u8)) : (convert src dst (W8 x)).run P w = .ok (W8 (x)) w := by
  obtain ⟨d, hd2⟩ := Option.isSome_iff_exists.mp hs
  have hx := x.toNat_lt
  unfold W8; simp only [convert, Sem.run_bind, run_underlying hd2, run_underlying hd, Conv.intToInt, Result.andThen, wrapN8]
  simp []; omega
@[go_sem high] theorem rconv8_32 (src dst : TypeId) (x : UInt8) (hs : (P.underlying src).isSome = true) (hd : P.underlying dst = some (.int .u32)) : (convert src dst (W8 x)).run P w = .ok (W32 (x.toUInt32)) w := by
  obtain ⟨d, hd2⟩ := Option.isSome_iff_exists.mp hs
  have hx := x.toNat_lt
  unfold W8 W32; simp only [convert, Sem.run_bind, run_underlying hd2, run_underlying hd, Conv.intToInt, Result.andThen, wrapN32]
  simp [UInt8.toNat_toUInt32]; omega
@[go_sem high] theorem rconv8_64 (src dst : TypeId) (x : UInt8) (hs : (P.underlying src).isSome = true) (hd : P.underlying dst = some (.int .u64)) : (convert src dst (W8 x)).run P w = .ok (W64 (x.toUInt64)) w := by
  obtain ⟨d, hd2⟩ := Option.isSome_iff_exists.mp hs
  have hx := x.toNat_lt
  unfold W8 W64; simp only [convert, Sem.run_bind, run_underlying hd2, run_underlying hd, Conv.intToInt, Result.andThen, wrapN64]
  simp [UInt8.toNat_toUInt64]; omega
@[go_sem high] theorem rconv8_i (src dst : TypeId) (x : UInt8) (hs : (P.underlying src).isSome = true) (hd : P.underlying dst = some (.int .i64)) : (convert src dst (W8 x)).run P w = .ok (.int .i64 (IntKind.i64.wrap (x.toNat : Int))) w := by
  obtain ⟨d, hd2⟩ := Option.isSome_iff_exists.mp hs
  unfold W8; simp [convert, run_underlying hd2, run_underlying hd, Conv.intToInt]
@[go_sem high] theorem rconv32_8 (src dst : TypeId) (x : UInt32) (hs : (P.underlying src).isSome = true) (hd : P.underlying dst = some (.int .u8)) : (convert src dst (W32 x)).run P w = .ok (W8 (x.toUInt8)) w := by
  obtain ⟨d, hd2⟩ := Option.isSome_iff_exists.mp hs
  have hx := x.toNat_lt
  unfold W32 W8; simp only [convert, Sem.run_bind, run_underlying hd2, run_underlying hd, Conv.intToInt, Result.andThen, wrapN8]
  simp [UInt32.toNat_toUInt8]
@[go_sem high] theorem rconv32_32 (src dst : TypeId) (x : UInt32) (hs : (P.underlying src).isSome = true) (hd : P.underlying dst = some (.int .u32)) : (convert src dst (W32 x)).run P w = .ok (W32 (x)) w := by
  obtain ⟨d, hd2⟩ := Option.isSome_iff_exists.mp hs
  have hx := x.toNat_lt
  unfold W32; simp only [convert, Sem.run_bind, run_underlying hd2, run_underlying hd, Conv.intToInt, Result.andThen, wrapN32]
  simp []; omega
@[go_sem high] theorem rconv32_64 (src dst : TypeId) (x : UInt32) (hs : (P.underlying src).isSome = true) (hd : P.underlying dst = some (.int .u64)) : (convert src dst (W32 x)).run P w = .ok (W64 (x.toUInt64)) w := by
  obtain ⟨d, hd2⟩ := Option.isSome_iff_exists.mp hs
  have hx := x.toNat_lt
  unfold W32 W64; simp only [convert, Sem.run_bind, run_underlying hd2, run_underlying hd, Conv.intToInt, Result.andThen, wrapN64]
  simp [UInt32.toNat_toUInt64]; omega
@[go_sem high] theorem rconv32_i (src dst : TypeId) (x : UInt32) (hs : (P.underlying src).isSome = true) (hd : P.underlying dst = some (.int .i64)) : (convert src dst (W32 x)).run P w = .ok (.int .i64 (IntKind.i64.wrap (x.toNat : Int))) w := by
  obtain ⟨d, hd2⟩ := Option.isSome_iff_exists.mp hs
  unfold W32; simp [convert, run_underlying hd2, run_underlying hd, Conv.intToInt]
@[go_sem high] theorem rconv64_8 (src dst : TypeId) (x : UInt64) (hs : (P.underlying src).isSome = true) (hd : P.underlying dst = some (.int .u8)) : (convert src dst (W64 x)).run P w = .ok (W8 (x.toUInt8)) w := by
  obtain ⟨d, hd2⟩ := Option.isSome_iff_exists.mp hs
  have hx := x.toNat_lt
  unfold W64 W8; simp only [convert, Sem.run_bind, run_underlying hd2, run_underlying hd, Conv.intToInt, Result.andThen, wrapN8]
  simp [UInt64.toNat_toUInt8]
@[go_sem high] theorem rconv64_32 (src dst : TypeId) (x : UInt64) (hs : (P.underlying src).isSome = true) (hd : P.underlying dst = some (.int .u32)) : (convert src dst (W64 x)).run P w = .ok (W32 (x.toUInt32)) w := by
  obtain ⟨d, hd2⟩ := Option.isSome_iff_exists.mp hs
  have hx := x.toNat_lt
  unfold W64 W32; simp only [convert, Sem.run_bind, run_underlying hd2, run_underlying hd, Conv.intToInt, Result.andThen, wrapN32]
  simp [UInt64.toNat_toUInt32]
@[go_sem high] theorem rconv64_64 (src dst : TypeId) (x : UInt64) (hs : (P.underlying src).isSome = true) (hd : P.underlying dst = some (.int .u64)) : (convert src dst (W64 x)).run P w = .ok (W64 (x)) w := by
  obtain ⟨d, hd2⟩ := Option.isSome_iff_exists.mp hs
  have hx := x.toNat_lt
  unfold W64; simp only [convert, Sem.run_bind, run_underlying hd2, run_underlying hd, Conv.intToInt, Result.andThen, wrapN64]
  simp []; omega
@[go_sem high] theorem rconv64_i (src dst : TypeId) (x : UInt64) (hs : (P.underlying src).isSome = true) (hd : P.underlying dst = some (.int .i64)) : (convert src dst (W64 x)).run P w = .ok (.int .i64 (IntKind.i64.wrap (x.toNat : Int))) w := by
  obtain ⟨d, hd2⟩ := Option.isSome_iff_exists.mp hs
  unfold W64; simp [convert, run_underlying hd2, run_underlying hd, Conv.intToInt]
end
end Go.Proofs.Ytafakjdolnigaaa
