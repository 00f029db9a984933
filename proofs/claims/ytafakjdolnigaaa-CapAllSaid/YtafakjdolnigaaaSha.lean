/- SHA-256 in plain Lean: the words of a block, the rounds, a text's blocks, its digest. No program in sight. -/
namespace Go.Proofs.Ytafakjdolnigaaa

/-- The state's eight words. -/
structure S8 where
  a : UInt32
  b : UInt32
  c : UInt32
  d : UInt32
  e : UInt32
  f : UInt32
  g : UInt32
  h : UInt32
deriving DecidableEq

def S8.list (s : S8) : List UInt32 := [s.a, s.b, s.c, s.d, s.e, s.f, s.g, s.h]

/-- A word turned right by k. -/
def rot (x k : UInt32) : UInt32 := x <<< (32 - k) ||| x >>> k

def primes : List UInt32 := [
  0x428a2f98, 0x71374491, 0xb5c0fbcf, 0xe9b5dba5, 0x3956c25b, 0x59f111f1, 0x923f82a4, 0xab1c5ed5,
  0xd807aa98, 0x12835b01, 0x243185be, 0x550c7dc3, 0x72be5d74, 0x80deb1fe, 0x9bdc06a7, 0xc19bf174,
  0xe49b69c1, 0xefbe4786, 0x0fc19dc6, 0x240ca1cc, 0x2de92c6f, 0x4a7484aa, 0x5cb0a9dc, 0x76f988da,
  0x983e5152, 0xa831c66d, 0xb00327c8, 0xbf597fc7, 0xc6e00bf3, 0xd5a79147, 0x06ca6351, 0x14292967,
  0x27b70a85, 0x2e1b2138, 0x4d2c6dfc, 0x53380d13, 0x650a7354, 0x766a0abb, 0x81c2c92e, 0x92722c85,
  0xa2bfe8a1, 0xa81a664b, 0xc24b8b70, 0xc76c51a3, 0xd192e819, 0xd6990624, 0xf40e3585, 0x106aa070,
  0x19a4c116, 0x1e376c08, 0x2748774c, 0x34b0bcb5, 0x391c0cb3, 0x4ed8aa4a, 0x5b9cca4f, 0x682e6ff3,
  0x748f82ee, 0x78a5636f, 0x84c87814, 0x8cc70208, 0x90befffa, 0xa4506ceb, 0xbef9a3f7, 0xc67178f2]

def init8 : S8 := ⟨0x6a09e667, 0xbb67ae85, 0x3c6ef372, 0xa54ff53a, 0x510e527f, 0x9b05688c, 0x1f83d9ab, 0x5be0cd19⟩

/-- Word i of a block. -/
def wordOf (blk : List UInt8) (i : Nat) : UInt32 :=
  (blk[4 * i]?.getD 0).toUInt32 <<< 24 ||| (blk[4 * i + 1]?.getD 0).toUInt32 <<< 16 ||| (blk[4 * i + 2]?.getD 0).toUInt32 <<< 8 ||| (blk[4 * i + 3]?.getD 0).toUInt32

/-- The words when k of the sixteen first ones have been laid. -/
def fillTo (blk : List UInt8) : Nat → List UInt32
  | 0 => List.replicate 64 0
  | k + 1 => (fillTo blk k).set k (wordOf blk k)

def sig0 (x : UInt32) : UInt32 := rot x 7 ^^^ rot x 18 ^^^ x >>> 3
def sig1 (x : UInt32) : UInt32 := rot x 17 ^^^ rot x 19 ^^^ x >>> 10

/-- Word i out of those before it. -/
def nextWord (ws : List UInt32) (i : Nat) : UInt32 :=
  ws[i - 16]?.getD 0 + sig0 (ws[i - 15]?.getD 0) + ws[i - 7]?.getD 0 + sig1 (ws[i - 2]?.getD 0)

/-- The words when k more than sixteen have been laid. -/
def spreadTo (ws : List UInt32) : Nat → List UInt32
  | 0 => ws
  | k + 1 => (spreadTo ws k).set (16 + k) (nextWord (spreadTo ws k) (16 + k))

def spread (blk : List UInt8) : List UInt32 := spreadTo (fillTo blk 16) 48

def upS (e : UInt32) : UInt32 := rot e 6 ^^^ rot e 11 ^^^ rot e 25
def downS (a : UInt32) : UInt32 := rot a 2 ^^^ rot a 13 ^^^ rot a 22
def tempX (s : S8) (k w : UInt32) : UInt32 := s.h + upS s.e + (s.e &&& s.f ^^^ ~~~s.e &&& s.g) + k + w
def tempY (s : S8) : UInt32 := downS s.a + (s.a &&& s.b ^^^ s.a &&& s.c ^^^ s.b &&& s.c)

/-- One round. -/
def rnd (s : S8) (k w : UInt32) : S8 := ⟨tempX s k w + tempY s, s.a, s.b, s.c, s.d + tempX s k w, s.e, s.f, s.g⟩

def roundsTo (ks ws : List UInt32) (s : S8) : Nat → S8
  | 0 => s
  | i + 1 => rnd (roundsTo ks ws s i) (ks[i]?.getD 0) (ws[i]?.getD 0)

def S8.add (s t : S8) : S8 := ⟨s.a + t.a, s.b + t.b, s.c + t.c, s.d + t.d, s.e + t.e, s.f + t.f, s.g + t.g, s.h + t.h⟩

/-- The state behind a block. -/
def mixed (s : S8) (blk : List UInt8) : S8 := s.add (roundsTo primes (spread blk) s 64)

/-- The state behind n blocks of a text. -/
def blocksTo : Nat → S8 → List UInt8 → S8
  | 0, s, _ => s
  | n + 1, s, bs => blocksTo n (mixed s (bs.take 64)) (bs.drop 64)

/-- The state behind all whole blocks of a text. -/
def stateOf (bs : List UInt8) : S8 := blocksTo (bs.length / 64) init8 bs

/-- How many zeros stand behind the 128. -/
def zeros (n : Nat) : Nat := (119 - n % 64) % 64

def be64 (x : UInt64) : List UInt8 := (List.range 8).map fun i => (x >>> UInt64.ofNat (56 - 8 * i)).toUInt8

def padding (n : Nat) : List UInt8 := (128 : UInt8) :: (List.replicate (zeros n) (0 : UInt8) ++ be64 (UInt64.ofNat n <<< 3))

def be32 (x : UInt32) : List UInt8 := [(x >>> 24).toUInt8, (x >>> 16).toUInt8, (x >>> 8).toUInt8, (x >>> 0).toUInt8]

def outOf (s : S8) : List UInt8 := s.list.flatMap be32

/-- SHA-256. -/
def digest (bs : List UInt8) : List UInt8 := outOf (stateOf (bs ++ padding bs.length))

/-! ### Lengths and blocks -/
theorem fillTo_length (blk : List UInt8) (k : Nat) : (fillTo blk k).length = 64 := by
  induction k with
  | zero => simp [fillTo]
  | succ k ih => simp [fillTo, ih]

theorem spreadTo_length (ws : List UInt32) (k : Nat) : (spreadTo ws k).length = ws.length := by
  induction k with
  | zero => rfl
  | succ k ih => simp [spreadTo, ih]

theorem spreadTo_next (ws : List UInt32) (i : Nat) (h : 16 ≤ i) : spreadTo ws (i + 1 - 16) = (spreadTo ws (i - 16)).set i (nextWord (spreadTo ws (i - 16)) i) := by
  have e : i + 1 - 16 = (i - 16) + 1 := by omega
  have e2 : 16 + (i - 16) = i := by omega
  rw [e, spreadTo, e2]

theorem spread_length (blk : List UInt8) : (spread blk).length = 64 := by rw [spread, spreadTo_length, fillTo_length]
theorem primes_length : primes.length = 64 := rfl
theorem outOf_length (s : S8) : (outOf s).length = 32 := rfl
theorem digest_length (bs : List UInt8) : (digest bs).length = 32 := of_eq_true (eq_self 32)
theorem be64_length (x : UInt64) : (be64 x).length = 8 := by simp [be64]

theorem blocksTo_append (n : Nat) : ∀ (s : S8) (bs cs : List UInt8), 64 * n ≤ bs.length → blocksTo n s (bs ++ cs) = blocksTo n s bs := by
  induction n with
  | zero => intros; rfl
  | succ n ih =>
    intro s bs cs h
    simp only [blocksTo]
    rw [List.take_append_of_le_length (by omega), List.drop_append_of_le_length (by omega), ih _ _ _ (by simp; omega)]

theorem blocksTo_succ (n : Nat) : ∀ (s : S8) (bs : List UInt8), blocksTo (n + 1) s bs = mixed (blocksTo n s bs) ((bs.drop (64 * n)).take 64) := by
  induction n with
  | zero => intros; simp [blocksTo]
  | succ n ih =>
    intro s bs
    rw [blocksTo, ih]
    rw [blocksTo, List.drop_drop]
    congr 3
    omega

/-- More bytes that do not fill a block. -/
theorem stateOf_small (bs cs : List UInt8) (h : (bs.length % 64) + cs.length < 64) : stateOf (bs ++ cs) = stateOf bs := by
  unfold stateOf
  have e : (bs ++ cs).length / 64 = bs.length / 64 := by rw [List.length_append]; omega
  rw [e, blocksTo_append _ _ _ _ (by omega)]

/-- More bytes that just fill it. -/
theorem stateOf_full (bs cs : List UInt8) (h : (bs.length % 64) + cs.length = 64) : stateOf (bs ++ cs) = mixed (stateOf bs) (bs.drop (64 * (bs.length / 64)) ++ cs) := by
  unfold stateOf
  have e : (bs ++ cs).length / 64 = bs.length / 64 + 1 := by rw [List.length_append]; omega
  rw [e, blocksTo_succ, blocksTo_append _ _ _ _ (by omega)]
  congr 1
  rw [List.drop_append_of_le_length (by omega), List.take_of_length_le (by simp; omega)]

theorem padding_length (n : Nat) : (n + (padding n).length) % 64 = 0 := by
  simp [padding, be64_length, zeros]; omega

/-! ### The two first bytes of the hash of "abc" -/
theorem digest_abc : (digest [97, 98, 99]).take 2 = [0xba, 0x78] := by decide +kernel

end Go.Proofs.Ytafakjdolnigaaa
