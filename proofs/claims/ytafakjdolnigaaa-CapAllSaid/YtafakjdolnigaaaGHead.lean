/- octet.Zig and its reference: numbers of both signs as such that are not below 0. cap.time, octet.Count and Text of short texts, and their references. A token's cells; its caveats' ; a caveat's bytes, by both. A token's head, by both. Names and rights that may be. -/
import Derived.Test.YtafakjdolnigaaaGFrames
import Derived.Test.YtafakjdolnigaaaGChain
namespace Go.Proofs.Ytafakjdolnigaaa
open Go.RowKit
set_option linter.unusedVariables false

theorem i64_range {v : Int} (hv : (Lit.int .i64 v).wf = true) : -9223372036854775808 ≤ v ∧ v ≤ 9223372036854775807 := by
  simp only [Lit.wf, IntKind.min, IntKind.max, IntKind.signed, IntKind.bits, Bool.and_eq_true] at hv
  simp at hv
  exact hv
theorem wrapI (n : Int) : IntKind.i64.wrap n = (n + 9223372036854775808) % 18446744073709551616 - 9223372036854775808 := by
  simp only [IntKind.wrap, IntKind.bits, IntKind.signed]
  simp
  omega
theorem wrapI_id (n : Int) (h : -9223372036854775808 ≤ n ∧ n ≤ 9223372036854775807) : IntKind.i64.wrap n = n := by rw [wrapI]; omega
theorem wrapU_id (n : Int) (h : 0 ≤ n ∧ n < 18446744073709551616) : IntKind.u64.wrap n = n := by rw [wrapN64]; omega

/-- P1.4. -/
def zig (v : Int) : UInt64 := if v < 0 then UInt64.ofNat (2 * (-(v + 1)).toNat + 1) else UInt64.ofNat (2 * v.toNat)

theorem word_of (n : Int) (m : Nat) (h : n = (m : Int)) (hm : m < 18446744073709551616) : Value.int .u64 n = W64 (UInt64.ofNat m) := by rw [h, lit64 m hm]

set_option maxRecDepth 100000 in
set_option maxHeartbeats 1000000 in
theorem refZig_any (w : World) (v : Int) (hv : (Lit.int .i64 v).wf = true) : Calls Try.prog 116 #[.int .i64 v] w fun e w' => e = .returned (W64 (zig v)) ∧ w = w' := by
  have hr := i64_range hv
  clear hv
  obtain ⟨Z, hZ⟩ : ∃ Z, Z = zig v := ⟨_, rfl⟩
  rw [← hZ]
  unfold zig at hZ
  by_cases h : v < 0
  · rw [if_pos h] at hZ
    have e1 : IntKind.i64.wrap (v + 1) = v + 1 := wrapI_id _ (by omega)
    obtain ⟨m, hm⟩ : ∃ m : Nat, -(v + 1) = (m : Int) := ⟨(-(v + 1)).toNat, by omega⟩
    have e2 : IntKind.i64.wrap (-(v + 1)) = (m : Int) := by rw [hm]; exact wrapI_id _ (by omega)
    have e3 : IntKind.u64.wrap (m : Int) = (m : Int) := wrapU_id _ (by omega)
    have e4 : IntKind.u64.wrap (2 * (m : Int)) = 2 * (m : Int) := wrapU_id _ (by omega)
    have e5 : IntKind.u64.wrap (2 * (m : Int) + 1) = 2 * (m : Int) + 1 := wrapU_id _ (by omega)
    have e6 : Value.int .u64 (2 * (m : Int) + 1) = W64 Z := by
      rw [hZ, word_of (2 * (m : Int) + 1) (2 * m + 1) (by omega) (by omega)]
      congr 4
      omega
    have E6 := Lib.hid e6
    clear hZ hr hm e6
    go_enter Try.func116, Try.ntmps116
    go_wp2
    go_ret
    exact ⟨congrArg Ending.returned E6.out, rfl⟩
  · rw [if_neg h] at hZ
    obtain ⟨m, hm⟩ : ∃ m : Nat, v = (m : Int) := ⟨v.toNat, by omega⟩
    subst hm
    have e3 : IntKind.u64.wrap (m : Int) = (m : Int) := wrapU_id _ (by omega)
    have e4 : IntKind.u64.wrap (2 * (m : Int)) = 2 * (m : Int) := wrapU_id _ (by omega)
    have e6 : Value.int .u64 (2 * (m : Int)) = W64 Z := by
      rw [hZ, word_of (2 * (m : Int)) (2 * m) (by omega) (by omega), Int.toNat_natCast]
    have E6 := Lib.hid e6
    clear hZ e6
    go_enter Try.func116, Try.ntmps116
    go_wp2
    go_ret
    exact ⟨congrArg Ending.returned E6.out, rfl⟩

theorem toU (v : Int) : Value.int .u64 (IntKind.u64.wrap v) = W64 (UInt64.ofNat (v % 18446744073709551616).toNat) := by
  rw [wrapN64]
  exact word_of _ _ (by omega) (by omega)
theorem run_toU (w : World) (v : Int) : (convert 2 35 (.int .i64 v)).run Try.prog w = .ok (W64 (UInt64.ofNat (v % 18446744073709551616).toNat)) w := by
  rw [← toU]
  simp [convert, run_underlying Try.underlying2, run_underlying Try.underlying35, Conv.intToInt]

theorem sar63 (v : Int) (hv : -9223372036854775808 ≤ v ∧ v ≤ 9223372036854775807) : v / 9223372036854775808 = if v < 0 then -1 else 0 := by
  split <;> omega

theorem zig_bits (v : Int) (hv : -9223372036854775808 ≤ v ∧ v ≤ 9223372036854775807) : (UInt64.ofNat (v % 18446744073709551616).toNat <<< 1) ^^^ UInt64.ofNat ((if v < 0 then -1 else 0 : Int) % 18446744073709551616).toNat = zig v := by
  unfold zig
  by_cases h : v < 0
  · rw [if_pos h, if_pos h]
    obtain ⟨m, hm⟩ : ∃ m : Nat, -(v + 1) = (m : Int) := ⟨(-(v + 1)).toNat, by omega⟩
    have e1 : (v % 18446744073709551616).toNat = 18446744073709551615 - m := by omega
    rw [e1, hm, Int.toNat_natCast, show ((-1 : Int) % 18446744073709551616).toNat = 18446744073709551615 from rfl]
    have hx : ∀ y : UInt64, y ^^^ UInt64.ofNat 18446744073709551615 = ~~~y := fun y => by
      apply UInt64.eq_of_toBitVec_eq
      exact BitVec.xor_allOnes
    rw [hx]
    apply UInt64.toNat_inj.1
    rw [UInt64.toNat_not, UInt64.toNat_shiftLeft, UInt64.toNat_ofNat', UInt64.toNat_ofNat', Nat.mod_eq_of_lt (a := 18446744073709551615 - m) (by omega)]
    show 2 ^ 64 - 1 - (18446744073709551615 - m) <<< 1 % 2 ^ 64 = _
    rw [Nat.shiftLeft_eq]
    omega
  · rw [if_neg h, if_neg h]
    obtain ⟨m, hm⟩ : ∃ m : Nat, v = (m : Int) := ⟨v.toNat, by omega⟩
    subst hm
    rw [show ((m : Int) % 18446744073709551616).toNat = m by omega, Int.toNat_natCast, show ((0 : Int) % 18446744073709551616).toNat = 0 from rfl]
    rw [show UInt64.ofNat 0 = 0 from rfl, UInt64.xor_zero]
    apply UInt64.toNat_inj.1
    rw [UInt64.toNat_shiftLeft, UInt64.toNat_ofNat', UInt64.toNat_ofNat', Nat.mod_eq_of_lt (a := m) (by omega)]
    show m <<< 1 % 2 ^ 64 = _
    rw [Nat.shiftLeft_eq]
    omega

set_option maxRecDepth 100000 in
set_option maxHeartbeats 1000000 in
theorem zig_any (w : World) (v : Int) (hv : (Lit.int .i64 v).wf = true) : Calls Try.prog 121 #[.int .i64 v] w fun e w' => e = .returned (W64 (zig v)) ∧ w = w' := by
  have hr := i64_range hv
  have e0 := zig_bits v hr
  have c1 := run_toU w v
  have s1 := sar63 v hr
  have c2 := run_toU w (if v < 0 then -1 else 0)
  generalize UInt64.ofNat (v % 18446744073709551616).toNat = a at *
  generalize UInt64.ofNat ((if v < 0 then -1 else 0 : Int) % 18446744073709551616).toNat = b at *
  generalize (if v < 0 then -1 else 0 : Int) = t at *
  have E0 := Lib.hid e0
  clear e0 hr hv
  go_enter Try.func121, Try.ntmps121
  go_wp2
  go_ret
  exact ⟨by rw [← E0.out]; rfl, rfl⟩
end Go.Proofs.Ytafakjdolnigaaa

namespace Go.Proofs.Ytafakjdolnigaaa
open Go.RowKit
set_option linter.unusedVariables false

set_option maxRecDepth 100000 in
set_option maxHeartbeats 1000000 in
theorem time_any {w : World} {r : Option Addr} {len cap : Nat} {bs : List UInt8} (h : BytesAt w r len cap bs) (hsz : len ≤ 1099511627776) (v : Int) (hv : (Lit.int .i64 v).wf = true) :
    Calls Try.prog 113 #[.slice r len cap, .int .i64 v] w fun e w' => ∃ v', e = .returned v' ∧ OwnB w' w.heap.size v' (bs ++ beList 8 (zig v)) ∧ Below w.heap.size w w' := by
  have Hv := Lib.hid hv
  have H := Lib.hid h
  clear hv h
  go_enter Try.func113, Try.ntmps113
  go_wp2_with (first
    | (go_at_call 121; refine (zig_any _ v Hv.out).mono ?_; rintro e w1 ⟨rfl, rfl⟩)
    | (go_at_call 95; refine (octPut8 H.out (zig v) hsz).mono ?_; rintro e w2 ⟨v2, rfl, ho, hb⟩; have Ho := Lib.hid ho; have Hb := Lib.hid hb; clear ho hb))
  go_ret
  exact ⟨_, rfl, Ho.out, Hb.out⟩

set_option maxRecDepth 100000 in
set_option maxHeartbeats 1000000 in
theorem count_small {w : World} {r : Option Addr} {len cap : Nat} {bs : List UInt8} (h : BytesAt w r len cap bs) (hsz : len ≤ 1048576) (n : Nat) (hn : n ≤ 127) :
    Calls Try.prog 120 #[.slice r len cap, .int .u64 (n : Int)] w fun e w' => ∃ v', e = .returned v' ∧ OwnB w' w.heap.size v' (bs ++ [UInt8.ofNat n]) ∧ Below w.heap.size w w' := by
  have H := Lib.hid h
  have hl := h.hlen
  have Hl := Lib.hid hl
  have cv : ∀ w, (convert 35 5 (.int .u64 (n : Int))).run Try.prog w = .ok (W8 (UInt8.ofNat n)) w := fun w => by
    rw [lit64 n (by omega), rconv64_8 w 35 5 _ (by kernel_rfl) Try.underlying5]
    congr 2
    apply UInt8.toNat_inj.1
    rw [UInt64.toNat_toUInt8, UInt64.toNat_ofNat', UInt8.toNat_ofNat']
    omega
  clear h hl
  go_enter Try.func120, Try.ntmps120
  go_upto_region 2 with (go_at_call 115; refine (octOwn_any H.out 10 (by omega) (by omega)).mono ?_; rintro e w1 ⟨v1, rfl, ho, hb⟩; have Ho := Lib.hid ho; have Hb := Lib.hid hb; clear ho hb)
  go_loopw [1, 5] (fun v0 v5 wr => v0 = .int .u64 (n : Int) ∧ v1 = v5 ∧ w1 = wr) (fun _ _ _ => 0)
  case atStart => exact ⟨rfl, rfl, rfl⟩
  case round =>
    obtain ⟨rfl, rfl, rfl⟩ := hrel
    have cv1 := cv w1
    clear cv
    go_wp2_with ((with_reducible refine wpList_append_bytes rfl (.tmp 18) (.tmp 21) rfl w.heap.size v1 bs [UInt8.ofNat n] (some ⟨w1.heap.size, 0, none⟩) 1 1 rfl rfl (Ho.out.keep (below_one _ _)) (bytes_one w1 (UInt8.ofNat n) _ rfl) (by rw [Hl.out]; simp; omega) (Nat.le_trans Hb.out.size (below_one _ _).size) ?_); intro v2 w2 ho2 hg2; have Ho2 := Lib.hid ho2; have Hb2 := Lib.hid ((Ho.out.keep (below_one _ _)).below (below_seq Hb.out (below_one _ _)) (Nat.le_trans Hb.out.size (below_one _ _).size) hg2); clear ho2 hg2)
    go_ret
    exact ⟨_, rfl, Ho2.out, Hb2.out⟩

theorem byte_small (w : World) (n : Nat) (hn : n ≤ 127) : (convert 35 5 (.int .u64 (n : Int))).run Try.prog w = .ok (W8 (UInt8.ofNat n)) w := by
  rw [lit64 n (by omega), rconv64_8 w 35 5 _ (by kernel_rfl) Try.underlying5]
  congr 2
  apply UInt8.toNat_inj.1
  rw [UInt64.toNat_toUInt8, UInt64.toNat_ofNat', UInt8.toNat_ofNat']
  omega

set_option maxRecDepth 100000 in
set_option maxHeartbeats 1000000 in
theorem refCount_small {w : World} {r : Option Addr} {len cap : Nat} {bs : List UInt8} (h : BytesAt w r len cap bs) (hsz : len ≤ 1048576) (n : Nat) (hn : n ≤ 127) :
    Calls Try.prog 123 #[.slice r len cap, .int .u64 (n : Int)] w fun e w' => ∃ v', e = .returned v' ∧ OwnB w' w.heap.size v' (bs ++ [UInt8.ofNat n]) ∧ Below w.heap.size w w' := by
  have H := Lib.hid h
  have hl := h.hlen
  have Hl := Lib.hid hl
  have cv := fun w => byte_small w n hn
  clear h hl
  go_enter Try.func123, Try.ntmps123
  go_upto_region 2 with ((with_reducible refine wpList_append_bytes rfl (.tmp 6) (.tmp 7) rfl w.heap.size (.slice (some ⟨w.heap.size, 0, none⟩) 0 0) [] bs r len cap rfl rfl (ownB_nil w w.heap.size (Nat.le_refl _)) (H.out.below (below_one _ _)) (by rw [Hl.out]; simp; omega) (below_one _ _).size ?_); intro v1 w1 ho hg; rw [List.nil_append] at ho; have Ho := Lib.hid ho; have Hb := Lib.hid ((ownB_nil w w.heap.size (Nat.le_refl _)).below (below_one _ _) (below_one _ _).size hg); clear ho hg)
  go_loopw [1, 5] (fun v0 v5 wr => v0 = .int .u64 (n : Int) ∧ v1 = v5 ∧ w1 = wr) (fun _ _ _ => 0)
  case atStart => exact ⟨rfl, rfl, rfl⟩
  case round =>
    obtain ⟨rfl, rfl, rfl⟩ := hrel
    have cv1 := cv w1
    clear cv
    go_wp2_with ((with_reducible refine wpList_append_bytes rfl (.tmp 20) (.tmp 23) rfl w.heap.size v1 bs [UInt8.ofNat n] (some ⟨w1.heap.size, 0, none⟩) 1 1 rfl rfl (Ho.out.keep (below_one _ _)) (bytes_one w1 (UInt8.ofNat n) _ rfl) (by rw [Hl.out]; simp; omega) (Nat.le_trans Hb.out.size (below_one _ _).size) ?_); intro v2 w2 ho2 hg2; have Ho2 := Lib.hid ho2; have Hb2 := Lib.hid ((Ho.out.keep (below_one _ _)).below (below_seq Hb.out (below_one _ _)) (Nat.le_trans Hb.out.size (below_one _ _).size) hg2); clear ho2 hg2)
    go_ret
    exact ⟨_, rfl, Ho2.out, Hb2.out⟩

set_option maxRecDepth 100000 in
set_option maxHeartbeats 1000000 in
theorem text_small {w : World} {r rs : Option Addr} {len cap ls cs : Nat} {bs s : List UInt8} (h : BytesAt w r len cap bs) (hsz : len ≤ 1000000) (hs : BytesAt w rs ls cs s) (hn : ls ≤ 127) :
    Calls Try.prog 112 #[.slice r len cap, .slice rs ls cs] w fun e w' => ∃ v', e = .returned (.tuple #[v', .int .i64 0]) ∧ OwnB w' w.heap.size v' (bs ++ [UInt8.ofNat ls] ++ s) ∧ Below w.heap.size w w' := by
  have H := Lib.hid h
  have HS := Lib.hid hs
  have hl := h.hlen
  have hls := hs.hlen
  have Hl := Lib.hid hl
  have Hls := Lib.hid hls
  have e3 : IntKind.u64.wrap (ls : Int) = (ls : Int) := wrapU_id _ (by omega)
  clear h hl hs hls
  go_enter Try.func112, Try.ntmps112
  go_wp2_with (first
    | (go_at_call 120; refine (count_small H.out (by omega) ls hn).mono ?_; rintro e w1 ⟨v1, rfl, ho, hb⟩; have Ho := Lib.hid ho; have Hb := Lib.hid hb; clear ho hb)
    | ((with_reducible refine wpList_append_bytes rfl (.tmp 13) (.tmp 14) rfl w.heap.size v1 (bs ++ [UInt8.ofNat ls]) s rs ls cs rfl rfl Ho.out (HS.out.below Hb.out) (by rw [List.length_append, Hl.out, Hls.out]; simp; omega) Hb.out.size ?_); intro v2 w2 ho2 hg2; have Ho2 := Lib.hid ho2; have Hb2 := Lib.hid (Ho.out.below Hb.out Hb.out.size hg2); clear ho2 hg2))
  go_ret2
  exact ⟨_, rfl, Ho2.out, Hb2.out⟩

set_option maxRecDepth 100000 in
set_option maxHeartbeats 1000000 in
theorem refText_small {w : World} {r rs : Option Addr} {len cap ls cs : Nat} {bs s : List UInt8} (h : BytesAt w r len cap bs) (hsz : len ≤ 1000000) (hs : BytesAt w rs ls cs s) (hn : ls ≤ 127) :
    Calls Try.prog 119 #[.slice r len cap, .slice rs ls cs] w fun e w' => ∃ v', e = .returned (.tuple #[v', .int .i64 0]) ∧ OwnB w' w.heap.size v' (bs ++ [UInt8.ofNat ls] ++ s) ∧ Below w.heap.size w w' := by
  have H := Lib.hid h
  have HS := Lib.hid hs
  have hl := h.hlen
  have hls := hs.hlen
  have Hl := Lib.hid hl
  have Hls := Lib.hid hls
  have e3 : IntKind.u64.wrap (ls : Int) = (ls : Int) := wrapU_id _ (by omega)
  clear h hl hs hls
  go_enter Try.func119, Try.ntmps119
  go_wp2_with (first
    | (go_at_call 123; refine (refCount_small H.out (by omega) ls hn).mono ?_; rintro e w1 ⟨v1, rfl, ho, hb⟩; have Ho := Lib.hid ho; have Hb := Lib.hid hb; clear ho hb)
    | ((with_reducible refine wpList_append_bytes rfl (.tmp 13) (.tmp 14) rfl w.heap.size v1 (bs ++ [UInt8.ofNat ls]) s rs ls cs rfl rfl Ho.out (HS.out.below Hb.out) (by rw [List.length_append, Hl.out, Hls.out]; simp; omega) Hb.out.size ?_); intro v2 w2 ho2 hg2; have Ho2 := Lib.hid ho2; have Hb2 := Lib.hid (Ho.out.below Hb.out Hb.out.size hg2); clear ho2 hg2))
  go_ret2
  exact ⟨_, rfl, Ho2.out, Hb2.out⟩
end Go.Proofs.Ytafakjdolnigaaa

namespace Go.Proofs.Ytafakjdolnigaaa
open Go.RowKit
set_option linter.unusedVariables false

/-- A token's own fields; its caveats lie elsewhere. -/
structure Tok where
  s : UInt64
  tn : ByteArray
  r : UInt8
  f : Int
  u : Int
  tag : List UInt8
structure Tok.Ok (t : Tok) : Prop where
  f : (Lit.int .i64 t.f).wf = true
  u : (Lit.int .i64 t.u).wf = true
  tag : t.tag.length = 32
  tn : t.tn.size ≤ maxLen
def tokL (t : Tok) (l : Value) : List Value := [W64 t.s, .string t.tn, W8 t.r, .int .i64 t.f, .int .i64 t.u, l] ++ t.tag.map W8
def tokRow (t : Tok) (l : Value) : Array Value := (tokL t l).toArray
theorem tokRow_size (t : Tok) (l : Value) (h : t.tag.length = 32) : (tokRow t l).size = 38 := by simp [tokRow, tokL, h]
theorem info51 (t : Tok) (l : Value) (h : t.tag.length = 32) : (Try.prog.info? 51).map (·.size) = some (tokRow t l).size := by rw [tokRow_size t l h]; kernel_rfl
theorem tokRow_tag (t : Tok) (l : Value) (j : Nat) (h : j < t.tag.length) : (tokRow t l)[6 + j]? = some (W8 (t.tag[j]?.getD 0)) := by
  have e : (tokRow t l)[6 + j]? = (t.tag.map W8)[j]? := by
    simp only [tokRow, tokL, List.getElem?_toArray]
    rw [List.getElem?_append_right (by simp)]
    congr 1
    simp
  rw [e, List.getElem?_map, List.getElem?_eq_getElem h]
  rfl
/-- The cells of a token in a box. -/
structure TokIn (w : World) (g : Nat) (t : Tok) (l : Value) : Prop where
  c0 : w.cell? ⟨g, 0, none⟩ = some (W64 t.s)
  c1 : w.cell? ⟨g, 1, none⟩ = some (.string t.tn)
  c2 : w.cell? ⟨g, 2, none⟩ = some (W8 t.r)
  c3 : w.cell? ⟨g, 3, none⟩ = some (.int .i64 t.f)
  c4 : w.cell? ⟨g, 4, none⟩ = some (.int .i64 t.u)
  c5 : w.cell? ⟨g, 5, none⟩ = some l
  tag : BytesAt w (some ⟨g, 6, none⟩) 32 32 t.tag
theorem tok_in {w : World} {g : Nat} {t : Tok} {l : Value} {ty : TypeId} {fr : Nat × Nat} (h : w.heap[g]? = some (.cells (tokRow t l) ty fr)) (ht : t.tag.length = 32) : TokIn w g t l :=
  ⟨cell_row h rfl, cell_row h rfl, cell_row h rfl, cell_row h rfl, cell_row h rfl, cell_row h rfl,
   ⟨ht, Nat.le_refl _, by unfold maxLen; omega, fun _ => ⟨g, 6, rfl, fun i hi => cell_row h (tokRow_tag t l i (by omega))⟩, fun h => by cases h⟩⟩

/-- A caveat's two cells. -/
def cavRow (r : UInt8) (u : Int) : Array Value := #[W8 r, .int .i64 u]
theorem info87 (r : UInt8) (u : Int) : (Try.prog.info? 87).map (·.size) = some (cavRow r u).size := by
  show _ = some 2
  kernel_rfl
theorem cavRow_one (r : UInt8) (u : Int) : (cavRow r u).all (·.oneCell') = true := by simp [cavRow, Value.oneCell', W8]
theorem alloc87 : ∀ w : World, (Instr.alloc 87 true (.tuple #[])).run Try.prog w = .ok (.pointer (some ⟨w.heap.size, 0, none⟩)) (w.alloc (.cells (cavRow 0 0) 87)) := by
  intro w; kernel_rfl
/-- A list of caveats. -/
structure CavsAt (w : World) (r : Option Addr) (len cap : Nat) (cs : List (UInt8 × Int)) : Prop where
  hlen : cs.length = len
  hle : len ≤ cap
  hmax : cap ≤ maxLen
  hcells : 0 < len → ∃ b o, r = some ⟨b, o, none⟩ ∧ ∀ i, i < len → w.cell? ⟨b, o + i * 2, none⟩ = some (W8 (cs[i]?.getD (0, 0)).1) ∧ w.cell? ⟨b, o + i * 2 + 1, none⟩ = some (.int .i64 (cs[i]?.getD (0, 0)).2)
  hnil : r = none → cap = 0
  hwf : ∀ c ∈ cs, (Lit.int .i64 c.2).wf = true

/-- A caveat's bytes. -/
def cavOf (r : UInt8) (u : Int) : List UInt8 := r :: be64 (zig u)
theorem cavOf_length (r : UInt8) (u : Int) : (cavOf r u).length = 9 := by simp [cavOf, be64_length]

set_option maxRecDepth 100000 in
set_option maxHeartbeats 1000000 in
theorem caveat_any (w : World) (r : UInt8) (u : Int) (hu : (Lit.int .i64 u).wf = true) :
    Calls Try.prog 86 #[.agg (cavRow r u)] w fun e w' => ∃ v, e = .returned v ∧ OwnB w' w.heap.size v (cavOf r u) ∧ Below w.heap.size w w' := by
  have Hu := Lib.hid hu
  clear hu
  go_enter Try.func86, Try.ntmps86
  go_upto_region 1 with (refine wpList_box rfl 87 _ rfl (cavRow r u) rfl ?_)
  have r0 := heap_alloc_new w (.cells (cavRow r u) 87)
  refine abstract_world (fun W => W.heap[w.heap.size]? = some (.cells (cavRow r u) 87 (0, 0)) ∧ Below w.heap.size w W) ⟨r0, below_one _ _⟩ ?_
  clear r0
  rintro w1 ⟨r0, r1⟩
  have c0 : w1.cell? ⟨w.heap.size, 0, none⟩ = some (W8 r) := cell_row r0 rfl
  have R0 := Lib.hid r0
  have R1 := Lib.hid r1
  clear r1 r0
  have c1 : (w1.alloc (.cells #[W8 r] 5)).cell? ⟨w.heap.size, 1, none⟩ = some (.int .i64 u) := cell_row (((below_one w1 (.cells #[W8 r] 5)).block _ (heap_lt R0.out)).trans R0.out) rfl
  go_wp2_with (go_at_call 113; refine (time_any (bytes_one w1 r _ rfl) (by omega) u Hu.out).mono ?_; rintro e w2 ⟨v2, rfl, ho, hb⟩; have Ho := Lib.hid ho; have Hb : Hid (Below w.heap.size w w2) := Lib.hid (below_seq R1.out (below_seq (below_one _ _) hb)); clear ho hb)
  go_ret
  refine ⟨_, rfl, ?_, Hb.out⟩
  have := ownB_base Ho.out (Nat.le_trans R1.out.size (below_one w1 (.cells #[W8 r] 5)).size)
  rw [beList_eight] at this
  exact this

set_option maxRecDepth 100000 in
set_option maxHeartbeats 4000000 in
theorem refCaveat_any (w : World) (r : UInt8) (u : Int) (hu : (Lit.int .i64 u).wf = true) :
    Calls Try.prog 102 #[.agg (cavRow r u)] w fun e w' => ∃ v, e = .returned v ∧ OwnB w' w.heap.size v (cavOf r u) ∧ Below w.heap.size w w' := by
  have Hu := Lib.hid hu
  clear hu
  go_enter Try.func102, Try.ntmps102
  go_upto_region 1 with (refine wpList_box rfl 87 _ rfl (cavRow r u) rfl ?_)
  have r0 := heap_alloc_new w (.cells (cavRow r u) 87)
  refine abstract_world (fun W => W.heap[w.heap.size]? = some (.cells (cavRow r u) 87 (0, 0)) ∧ Below w.heap.size w W) ⟨r0, below_one _ _⟩ ?_
  clear r0
  rintro w1 ⟨r0, r1⟩
  have R1 := Lib.hid r1
  have C0 : Hid (∀ w2, Below w1.heap.size w1 w2 → w2.cell? ⟨w.heap.size, 0, none⟩ = some (W8 r)) := Lib.hid fun w2 h2 => cell_row ((h2.block _ (heap_lt r0)).trans r0) rfl
  have C1 : Hid (∀ w2, Below w1.heap.size w1 w2 → w2.cell? ⟨w.heap.size, 1, none⟩ = some (.int .i64 u)) := Lib.hid fun w2 h2 => cell_row ((h2.block _ (heap_lt r0)).trans r0) rfl
  clear r1 r0
  refine region_k (fun w' => Below w1.heap.size w1 w') (by kernel_rfl) ((Below.refl _ _).drew) (fun Kr hKr => ?_)
  have hcd : Below w1.heap.size w1 w1.drew := (Below.refl _ _).drew
  refine g_quiet hcd 0 3 (.pointer (some ⟨w.heap.size, 0, none⟩)) (by kernel_rfl) (by kernel_rfl) (by kernel_rfl) (by kernel_rfl) (fun w2 hw2 => by go_simp) ?_
  refine g_quiet hcd 1 4 (W8 r) (by kernel_rfl) (by kernel_rfl) (by kernel_rfl) (by kernel_rfl) (fun w2 hw2 => by have c := C0.out w2 hw2; go_simp) ?_
  refine g_quiet hcd 3 6 (.pointer (some ⟨w.heap.size, 1, none⟩)) (by kernel_rfl) (by kernel_rfl) (by kernel_rfl) (by kernel_rfl) (fun w2 hw2 => by go_simp) ?_
  refine g_quiet hcd 4 7 (.int .i64 u) (by kernel_rfl) (by kernel_rfl) (by kernel_rfl) (by kernel_rfl) (fun w2 hw2 => by have c := C1.out w2 hw2; go_simp) ?_
  simp only [Act.put, List.setIfInBounds_toArray, List.set_cons_succ, List.set_cons_zero]
  refine m_pick2 2 5 (by kernel_rfl) ?_ ?_
  · skip
    refine (g_val (d := 5) (.slice (some ⟨w1.drew.heap.size, 0, none⟩) 1 1) (w1.drew.alloc (.cells #[W8 r] 5)) (by kernel_rfl) (by kernel_rfl) ?_)
    have ha := below_seq hcd (below_one w1.drew (.cells #[W8 r] 5))
    have hoA : OwnB (w1.drew.alloc (.cells #[W8 r] 5)) w1.heap.size (.slice (some ⟨w1.drew.heap.size, 0, none⟩) 1 1) [r] := ownB_row w1.drew [r] #[W8 r] rfl w1.heap.size 1 _ rfl rfl (maxLen_small _ (by omega)) hcd.size
    refine ⟨ha, ?_⟩
    refine m_pick 5 (by kernel_rfl) (g_call (d := 8) 116 #[.int .i64 u] (by kernel_rfl) (by kernel_rfl) ((refZig_any _ u Hu.out).mono ?_))
    rintro e wz ⟨rfl, rfl⟩
    refine ⟨_, rfl, ha, ?_⟩
    refine m_pick 6 (by kernel_rfl) (g_call (d := 9) 59 #[W64 (zig u)] (by kernel_rfl) (by kernel_rfl) ((eight_any _ (zig u)).mono ?_))
    rintro e w3 ⟨v3, rfl, ho, hb⟩
    obtain ⟨r3, c3, rfl, hB, _⟩ := ho.at_len 8 (be64_length _)
    have h3 := below_seq ha hb
    refine ⟨_, rfl, h3, ?_⟩
    refine m_pick 7 (by kernel_rfl) (g_app (d := 10) (.tmp 5) (.tmp 9) (by kernel_rfl) (by kernel_rfl) w1.heap.size (.slice (some ⟨w1.drew.heap.size, 0, none⟩) 1 1) [r] (be64 (zig u)) r3 8 c3 (by kernel_rfl) (by kernel_rfl) (hoA.keep hb) hB (by rw [be64_length]; simp) h3.size ?_)
    intro v4 w4 ho4 hg4
    have h4 := ((hoA.keep hb)).below h3 h3.size hg4
    refine ⟨h4, ?_⟩
    refine g_quiet h4 8 2 v4 (by kernel_rfl) (by kernel_rfl) (by kernel_rfl) (by kernel_rfl) (fun _ _ => by kernel_rfl) ?_
    refine m_end (by kernel_rfl) ?_
    simp only [Act.put, List.setIfInBounds_toArray, List.set_cons_succ, List.set_cons_zero]
    go_wp2
    go_ret
    exact ⟨_, rfl, ownB_base ho4 R1.out.size, below_seq R1.out h4⟩
  · skip
    refine (g_call (d := 8) 116 #[.int .i64 u] (by kernel_rfl) (by kernel_rfl) ((refZig_any _ u Hu.out).mono ?_))
    rintro e wz ⟨rfl, rfl⟩
    refine ⟨_, rfl, hcd, ?_⟩
    refine m_pick2 2 6 (by kernel_rfl) ?_ ?_
    · skip
      refine (g_val (d := 5) (.slice (some ⟨w1.drew.heap.size, 0, none⟩) 1 1) (w1.drew.alloc (.cells #[W8 r] 5)) (by kernel_rfl) (by kernel_rfl) ?_)
      have ha := below_seq hcd (below_one w1.drew (.cells #[W8 r] 5))
      have hoA : OwnB (w1.drew.alloc (.cells #[W8 r] 5)) w1.heap.size (.slice (some ⟨w1.drew.heap.size, 0, none⟩) 1 1) [r] := ownB_row w1.drew [r] #[W8 r] rfl w1.heap.size 1 _ rfl rfl (maxLen_small _ (by omega)) hcd.size
      refine ⟨ha, ?_⟩
      refine m_pick 6 (by kernel_rfl) (g_call (d := 9) 59 #[W64 (zig u)] (by kernel_rfl) (by kernel_rfl) ((eight_any _ (zig u)).mono ?_))
      rintro e w3 ⟨v3, rfl, ho, hb⟩
      obtain ⟨r3, c3, rfl, hB, _⟩ := ho.at_len 8 (be64_length _)
      have h3 := below_seq ha hb
      refine ⟨_, rfl, h3, ?_⟩
      refine m_pick 7 (by kernel_rfl) (g_app (d := 10) (.tmp 5) (.tmp 9) (by kernel_rfl) (by kernel_rfl) w1.heap.size (.slice (some ⟨w1.drew.heap.size, 0, none⟩) 1 1) [r] (be64 (zig u)) r3 8 c3 (by kernel_rfl) (by kernel_rfl) (hoA.keep hb) hB (by rw [be64_length]; simp) h3.size ?_)
      intro v4 w4 ho4 hg4
      have h4 := ((hoA.keep hb)).below h3 h3.size hg4
      refine ⟨h4, ?_⟩
      refine g_quiet h4 8 2 v4 (by kernel_rfl) (by kernel_rfl) (by kernel_rfl) (by kernel_rfl) (fun _ _ => by kernel_rfl) ?_
      refine m_end (by kernel_rfl) ?_
      simp only [Act.put, List.setIfInBounds_toArray, List.set_cons_succ, List.set_cons_zero]
      go_wp2
      go_ret
      exact ⟨_, rfl, ownB_base ho4 R1.out.size, below_seq R1.out h4⟩
    · skip
      refine (g_call (d := 9) 59 #[W64 (zig u)] (by kernel_rfl) (by kernel_rfl) ((eight_any _ (zig u)).mono ?_))
      rintro e w3 ⟨v3, rfl, ho, hb⟩
      obtain ⟨r3, c3, rfl, hB, _⟩ := ho.at_len 8 (be64_length _)
      have h3 := below_seq hcd hb
      refine ⟨_, rfl, h3, ?_⟩
      refine m_pick 2 (by kernel_rfl) (g_val (d := 5) (.slice (some ⟨w3.heap.size, 0, none⟩) 1 1) (w3.alloc (.cells #[W8 r] 5)) (by kernel_rfl) (by kernel_rfl) ?_)
      have ha := below_seq h3 (below_one w3 (.cells #[W8 r] 5))
      have hoA : OwnB (w3.alloc (.cells #[W8 r] 5)) w1.heap.size (.slice (some ⟨w3.heap.size, 0, none⟩) 1 1) [r] := ownB_row w3 [r] #[W8 r] rfl w1.heap.size 1 _ rfl rfl (maxLen_small _ (by omega)) h3.size
      refine ⟨ha, ?_⟩
      refine m_pick 7 (by kernel_rfl) (g_app (d := 10) (.tmp 5) (.tmp 9) (by kernel_rfl) (by kernel_rfl) w1.heap.size (.slice (some ⟨w3.heap.size, 0, none⟩) 1 1) [r] (be64 (zig u)) r3 8 c3 (by kernel_rfl) (by kernel_rfl) hoA (hB.below (below_one _ _)) (by rw [be64_length]; simp) ha.size ?_)
      intro v4 w4 ho4 hg4
      have h4 := (hoA).below ha ha.size hg4
      refine ⟨h4, ?_⟩
      refine g_quiet h4 8 2 v4 (by kernel_rfl) (by kernel_rfl) (by kernel_rfl) (by kernel_rfl) (fun _ _ => by kernel_rfl) ?_
      refine m_end (by kernel_rfl) ?_
      simp only [Act.put, List.setIfInBounds_toArray, List.set_cons_succ, List.set_cons_zero]
      go_wp2
      go_ret
      exact ⟨_, rfl, ownB_base ho4 R1.out.size, below_seq R1.out h4⟩
end Go.Proofs.Ytafakjdolnigaaa

namespace Go.Proofs.Ytafakjdolnigaaa
open Go.RowKit
set_option linter.unusedVariables false

/-- A head's bytes. -/
def headOf (t : Tok) : List UInt8 := be64 t.s ++ [UInt8.ofNat t.tn.size] ++ t.tn.data.toList ++ [t.r] ++ be64 (zig t.f) ++ be64 (zig t.u)
theorem headOf_length (t : Tok) : (headOf t).length = 26 + t.tn.size := by
  simp only [headOf, List.length_append, be64_length, List.length_cons, List.length_nil]
  show 8 + (0 + 1) + t.tn.size + (0 + 1) + 8 + 8 = _
  omega

set_option maxRecDepth 100000 in
set_option maxHeartbeats 4000000 in
theorem refHead_any (w : World) (t : Tok) (l : Value) (ht : t.Ok) (hn : t.tn.size ≤ 64) :
    Calls Try.prog 106 #[.agg (tokRow t l)] w fun e w' => ∃ v, e = .returned v ∧ OwnB w' w.heap.size v (headOf t) ∧ Below w.heap.size w w' := by
  obtain ⟨A0, hA0⟩ : ∃ A, A = be64 t.s := ⟨_, rfl⟩
  obtain ⟨A1, hA1⟩ : ∃ A, A = A0 ++ [UInt8.ofNat t.tn.size] ++ t.tn.data.toList := ⟨_, rfl⟩
  obtain ⟨A2, hA2⟩ : ∃ A, A = A1 ++ [t.r] := ⟨_, rfl⟩
  obtain ⟨ZF, hZF⟩ : ∃ Z, Z = zig t.f := ⟨_, rfl⟩
  obtain ⟨ZU, hZU⟩ : ∃ Z, Z = zig t.u := ⟨_, rfl⟩
  obtain ⟨A3, hA3⟩ : ∃ A, A = A2 ++ be64 ZF := ⟨_, rfl⟩
  obtain ⟨A4, hA4⟩ : ∃ A, A = A3 ++ be64 ZU := ⟨_, rfl⟩
  have hh : headOf t = A4 := by rw [hA4, hA3, hA2, hA1, hA0, hZF, hZU]; rfl
  have zf : ∀ w, Calls Try.prog 116 #[.int .i64 t.f] w fun e w' => e = .returned (W64 ZF) ∧ w = w' := fun w => by rw [hZF]; exact refZig_any w t.f ht.f
  have zu : ∀ w, Calls Try.prog 116 #[.int .i64 t.u] w fun e w' => e = .returned (W64 ZU) ∧ w = w' := fun w => by rw [hZU]; exact refZig_any w t.u ht.u
  have Zf := Lib.hid zf
  have Zu := Lib.hid zu
  rw [hh]
  have l0 : A0.length = 8 := by rw [hA0, be64_length]
  have l1 : A1.length ≤ 73 := by rw [hA1, List.length_append, List.length_append, l0]; show 8 + 1 + t.tn.size ≤ 73; omega
  have l2 : A2.length ≤ 74 := by rw [hA2, List.length_append]; simp; omega
  have l3 : A3.length ≤ 82 := by rw [hA3, List.length_append, be64_length]; omega
  have HA0 := Lib.hid hA0
  have HA1 := Lib.hid hA1
  have HA2 := Lib.hid hA2
  have HA3 := Lib.hid hA3
  have HA4 := Lib.hid hA4
  have L0 := Lib.hid l0
  have L1 := Lib.hid l1
  have L2 := Lib.hid l2
  have L3 := Lib.hid l3
  have Ht := Lib.hid ht
  clear zf zu hZF hZU hA0 hA1 hA2 hA3 hA4 l0 l1 l2 l3 hh ht
  go_enter Try.func106, Try.ntmps106
  go_upto_region 1 with (refine wpList_box rfl 51 _ rfl (tokRow t l) rfl ?_)
  have r0 := heap_alloc_new w (.cells (tokRow t l) 51)
  refine abstract_world (fun W => W.heap[w.heap.size]? = some (.cells (tokRow t l) 51 (0, 0)) ∧ Below w.heap.size w W) ⟨r0, below_one _ _⟩ ?_
  clear r0
  rintro w1 ⟨r0, r1⟩
  have R1 := Lib.hid r1
  have T : Hid (∀ w2, Below w1.heap.size w1 w2 → TokIn w2 w.heap.size t l) := Lib.hid fun w2 h2 => tok_in ((h2.block _ (heap_lt r0)).trans r0) Ht.out.tag
  clear r1 r0
  have c0 := (T.out w1 (Below.refl _ _)).c0
  go_wp2_with (first
    | (go_at_call 59; first
        | (with_reducible refine (eight_any _ t.s).mono ?_; rintro e w2 ⟨v2, rfl, ho, hb⟩
           clear c0
           have c1 := (T.out w2 hb).c1
           obtain ⟨r2, q2, rfl, hB, _⟩ := ho.at_len 8 (be64_length _)
           rw [← HA0.out] at hB
           have HB2 := Lib.hid hB
           have Hb2 := Lib.hid hb
           clear ho hb hB)
        | (with_reducible refine (eight_any _ ZF).mono ?_; rintro e w6 ⟨v6, rfl, ho, hb⟩
           have Hb6 : Hid (Below w1.heap.size w1 w6) := Lib.hid (below_seq Hb5.out hb)
           have Ho5' := Lib.hid (Ho5.out.keep hb)
           obtain ⟨r6, q6, rfl, hB, _⟩ := ho.at_len 8 (be64_length _)
           have HB6 := Lib.hid hB
           clear ho hb hB)
        | (with_reducible refine (eight_any _ ZU).mono ?_; rintro e w8 ⟨v8, rfl, ho, hb⟩
           have Hb8 : Hid (Below w1.heap.size w1 w8) := Lib.hid (below_seq Hb7.out hb)
           have Ho7' := Lib.hid (Ho7.out.keep hb)
           obtain ⟨r8, q8, rfl, hB, _⟩ := ho.at_len 8 (be64_length _)
           have HB8 := Lib.hid hB
           clear ho hb hB))
    | (refine wpList_strBytes rfl _ rfl t.tn rfl Ht.out.tn ?_; intro q3 w3 hs3 hb3
       clear c1
       have Hs3 := Lib.hid hs3
       have Hb3 : Hid (Below w1.heap.size w1 w3) := Lib.hid (below_seq Hb2.out hb3)
       have HB3 := Lib.hid (HB2.out.below hb3)
       clear hs3 hb3)
    | (go_at_call 119; refine (refText_small HB3.out (by omega) Hs3.out (by omega)).mono ?_; rintro e w4 ⟨v4, rfl, ho, hb⟩
       rw [← HA1.out] at ho
       have Ho4 : Hid (OwnB w4 w1.heap.size v4 A1) := Lib.hid (ownB_base ho Hb3.out.size)
       have Hb4 : Hid (Below w1.heap.size w1 w4) := Lib.hid (below_seq Hb3.out hb)
       have c2 := (T.out w4 Hb4.out).c2
       clear ho hb)
    | ((with_reducible refine wpList_append_bytes rfl (.tmp 15) (.tmp 18) rfl w1.heap.size v4 A1 [t.r] (some ⟨w4.heap.size, 0, none⟩) 1 1 rfl rfl (Ho4.out.keep (below_one _ _)) (bytes_one w4 t.r _ rfl) (by have := L1.out; simp; omega) (Nat.le_trans Hb4.out.size (below_one _ _).size) ?_); intro v5 w5 ho5 hg5
       rw [← HA2.out] at ho5
       clear c2
       have Ho5 := Lib.hid ho5
       have Hb5 := Lib.hid ((Ho4.out.keep (below_one _ _)).below (below_seq Hb4.out (below_one _ _)) (Nat.le_trans Hb4.out.size (below_one _ _).size) hg5)
       have c3 := (T.out w5 Hb5.out).c3
       clear ho5 hg5)
    | (go_at_call 116; first
        | (with_reducible refine (Zf.out _).mono ?_; rintro e wz ⟨rfl, rfl⟩)
        | (with_reducible refine (Zu.out _).mono ?_; rintro e wz ⟨rfl, rfl⟩))
    | ((with_reducible refine wpList_append_bytes rfl (.tmp 20) (.tmp 24) rfl w1.heap.size v5 A2 (be64 ZF) r6 8 q6 rfl rfl Ho5'.out HB6.out (by have := L2.out; rw [be64_length]; omega) Hb6.out.size ?_); intro v7 w7 ho7 hg7
       rw [← HA3.out] at ho7
       clear c3
       have Ho7 := Lib.hid ho7
       have Hb7 := Lib.hid (Ho5'.out.below Hb6.out Hb6.out.size hg7)
       have c4 := (T.out w7 Hb7.out).c4
       clear ho7 hg7)
    | ((with_reducible refine wpList_append_bytes rfl (.tmp 26) (.tmp 30) rfl w1.heap.size v7 A3 (be64 ZU) r8 8 q8 rfl rfl Ho7'.out HB8.out (by have := L3.out; rw [be64_length]; omega) Hb8.out.size ?_); intro v9 w9 ho9 hg9
       rw [← HA4.out] at ho9
       have Ho9 := Lib.hid ho9
       have Hb9 := Lib.hid (Ho7'.out.below Hb8.out Hb8.out.size hg9)
       clear ho9 hg9))
  go_ret
  exact ⟨_, rfl, ownB_base Ho9.out R1.out.size, below_seq R1.out Hb9.out⟩

set_option maxRecDepth 100000 in
set_option maxHeartbeats 4000000 in
theorem head_any (w : World) (t : Tok) (l : Value) (ht : t.Ok) (hn : t.tn.size ≤ 64) :
    Calls Try.prog 85 #[.agg (tokRow t l)] w fun e w' => ∃ v, e = .returned v ∧ OwnB w' w.heap.size v (headOf t) ∧ Below w.heap.size w w' := by
  obtain ⟨A0, hA0⟩ : ∃ A, A = be64 t.s := ⟨_, rfl⟩
  obtain ⟨A1, hA1⟩ : ∃ A, A = A0 ++ [UInt8.ofNat t.tn.size] ++ t.tn.data.toList := ⟨_, rfl⟩
  obtain ⟨A2, hA2⟩ : ∃ A, A = A1 ++ [t.r] := ⟨_, rfl⟩
  obtain ⟨A3, hA3⟩ : ∃ A, A = A2 ++ beList 8 (zig t.f) := ⟨_, rfl⟩
  obtain ⟨A4, hA4⟩ : ∃ A, A = A3 ++ beList 8 (zig t.u) := ⟨_, rfl⟩
  have hh : headOf t = A4 := by rw [hA4, hA3, hA2, hA1, hA0, beList_eight, beList_eight]; rfl
  rw [hh]
  have l0 : A0.length = 8 := by rw [hA0, be64_length]
  have l1 : A1.length ≤ 73 := by rw [hA1, List.length_append, List.length_append, l0]; show 8 + 1 + t.tn.size ≤ 73; omega
  have l2 : A2.length ≤ 74 := by rw [hA2, List.length_append]; simp; omega
  have l3 : A3.length ≤ 82 := by rw [hA3, List.length_append, beList_length]; omega
  have HA0 := Lib.hid hA0
  have HA1 := Lib.hid hA1
  have HA2 := Lib.hid hA2
  have HA3 := Lib.hid hA3
  have HA4 := Lib.hid hA4
  have L0 := Lib.hid l0
  have L1 := Lib.hid l1
  have L2 := Lib.hid l2
  have L3 := Lib.hid l3
  have Ht := Lib.hid ht
  clear hA0 hA1 hA2 hA3 hA4 l0 l1 l2 l3 hh ht
  go_enter Try.func85, Try.ntmps85
  go_upto_region 1 with (refine wpList_box rfl 51 _ rfl (tokRow t l) rfl ?_)
  have r0 := heap_alloc_new w (.cells (tokRow t l) 51)
  refine abstract_world (fun W => W.heap[w.heap.size]? = some (.cells (tokRow t l) 51 (0, 0)) ∧ Below w.heap.size w W) ⟨r0, below_one _ _⟩ ?_
  clear r0
  rintro w1 ⟨r0, r1⟩
  have R1 := Lib.hid r1
  have T : Hid (∀ w2, Below w1.heap.size w1 w2 → TokIn w2 w.heap.size t l) := Lib.hid fun w2 h2 => tok_in ((h2.block _ (heap_lt r0)).trans r0) Ht.out.tag
  clear r1 r0
  have c0 := (T.out w1 (Below.refl _ _)).c0
  go_upto_region 3 with (first
    | (go_at_call 95; with_reducible refine (octPut8 (emptyB w1) t.s (by omega)).mono ?_; rintro e w2 ⟨v2, rfl, ho, hb⟩
       clear c0
       have c1 := (T.out w2 hb).c1
       rw [List.nil_append, beList_eight, ← HA0.out] at ho
       obtain ⟨r2, q2, rfl, hB, _⟩ := ho.at_len 8 L0.out
       have HB2 := Lib.hid hB
       have Hb2 := Lib.hid hb
       clear ho hb hB)
    | (refine wpList_strBytes rfl _ rfl t.tn rfl Ht.out.tn ?_; intro q3 w3 hs3 hb3
       clear c1
       have Hs3 := Lib.hid hs3
       have Hb3 : Hid (Below w1.heap.size w1 w3) := Lib.hid (below_seq Hb2.out hb3)
       have HB3 := Lib.hid (HB2.out.below hb3)
       clear hs3 hb3)
    | (go_at_call 112; refine (text_small HB3.out (by omega) Hs3.out (by omega)).mono ?_; rintro e w4 ⟨v4, rfl, ho, hb⟩
       rw [← HA1.out] at ho
       have Ho4 : Hid (OwnB w4 w1.heap.size v4 A1) := Lib.hid (ownB_base ho Hb3.out.size)
       have Hb4 : Hid (Below w1.heap.size w1 w4) := Lib.hid (below_seq Hb3.out hb)
       clear ho hb))
  have h4 := Hb4.out
  have HB4 := L1
  refine region_k (fun w' => Below w1.heap.size w1 w') (by kernel_rfl) h4.drew (fun Kr hKr => ?_)
  have hcd : Below w1.heap.size w1 w4.drew := h4.drew
  have hdr : Below w4.heap.size w4 w4.drew := (Below.refl _ _).drew
  refine g_quiet hcd 0 19 v4 (by kernel_rfl) (by kernel_rfl) (by kernel_rfl) (by kernel_rfl) (fun _ _ => by kernel_rfl) ?_
  refine g_quiet hcd 1 20 (.pointer (some ⟨w.heap.size, 2, none⟩)) (by kernel_rfl) (by kernel_rfl) (by kernel_rfl) (by kernel_rfl) (fun w2 hw2 => by go_simp) ?_
  refine g_quiet hcd 2 21 (W8 t.r) (by kernel_rfl) (by kernel_rfl) (by kernel_rfl) (by kernel_rfl) (fun w2 hw2 => by have c := (T.out w2 hw2).c2; go_simp) ?_
  refine g_quiet hcd 5 24 (.pointer (some ⟨w.heap.size, 3, none⟩)) (by kernel_rfl) (by kernel_rfl) (by kernel_rfl) (by kernel_rfl) (fun w2 hw2 => by go_simp) ?_
  refine g_quiet hcd 6 25 (.int .i64 t.f) (by kernel_rfl) (by kernel_rfl) (by kernel_rfl) (by kernel_rfl) (fun w2 hw2 => by have c := (T.out w2 hw2).c3; go_simp) ?_
  refine g_quiet hcd 8 27 (.pointer (some ⟨w.heap.size, 4, none⟩)) (by kernel_rfl) (by kernel_rfl) (by kernel_rfl) (by kernel_rfl) (fun w2 hw2 => by go_simp) ?_
  refine g_quiet hcd 9 28 (.int .i64 t.u) (by kernel_rfl) (by kernel_rfl) (by kernel_rfl) (by kernel_rfl) (fun w2 hw2 => by have c := (T.out w2 hw2).c4; go_simp) ?_
  simp only [Act.put, List.setIfInBounds_toArray, List.set_cons_succ, List.set_cons_zero]
  refine m_pick 3 (by kernel_rfl) (g_val (d := 22) (.slice (some ⟨w4.drew.heap.size, 0, none⟩) 1 1) (w4.drew.alloc (.cells #[W8 t.r] 5)) (by kernel_rfl) (by kernel_rfl) ?_)
  have ha := below_seq hcd (below_one w4.drew (.cells #[W8 t.r] 5))
  refine ⟨ha, ?_⟩
  refine m_pick 4 (by kernel_rfl) (g_app (d := 23) (.tmp 19) (.tmp 22) (by kernel_rfl) (by kernel_rfl) w1.heap.size v4 A1 [t.r] (some ⟨w4.drew.heap.size, 0, none⟩) 1 1 (by kernel_rfl) (by kernel_rfl) ((Ho4.out.keep hdr).keep (below_one _ _)) (bytes_one w4.drew t.r _ rfl) (by have := L1.out; simp; omega) ha.size ?_)
  intro v5 w5 ho5 hg5
  have h5 := ((Ho4.out.keep hdr).keep (below_one _ _)).below ha ha.size hg5
  rw [← HA2.out] at ho5
  obtain ⟨n2, hn2⟩ : ∃ n, A2.length = n := ⟨_, rfl⟩
  have hn2' : n2 ≤ 74 := by have := L2.out; omega
  obtain ⟨r5, q5, rfl, hB5, _⟩ := ho5.at_len n2 hn2
  refine ⟨h5, ?_⟩
  refine m_pick 7 (by kernel_rfl) (g_call (d := 26) 113 #[.slice r5 n2 q5, .int .i64 t.f] (by kernel_rfl) (by kernel_rfl) ((time_any hB5 (by omega) t.f Ht.out.f).mono ?_))
  rintro e w6 ⟨v6, rfl, ho6, hb6⟩
  have h6 := below_seq h5 hb6
  rw [← HA3.out] at ho6
  obtain ⟨n3, hn3⟩ : ∃ n, A3.length = n := ⟨_, rfl⟩
  have hn3' : n3 ≤ 82 := by have := L3.out; omega
  obtain ⟨r6, q6, rfl, hB6, _⟩ := ho6.at_len n3 hn3
  refine ⟨_, rfl, h6, ?_⟩
  refine m_pick 10 (by kernel_rfl) (g_call (d := 29) 113 #[.slice r6 n3 q6, .int .i64 t.u] (by kernel_rfl) (by kernel_rfl) ((time_any hB6 (by omega) t.u Ht.out.u).mono ?_))
  rintro e w7 ⟨v7, rfl, ho7, hb7⟩
  have h7 := below_seq h6 hb7
  rw [← HA4.out] at ho7
  refine ⟨_, rfl, h7, ?_⟩
  refine g_quiet h7 11 2 v7 (by kernel_rfl) (by kernel_rfl) (by kernel_rfl) (by kernel_rfl) (fun _ _ => by kernel_rfl) ?_
  refine m_end (by kernel_rfl) ?_
  simp only [Act.put, List.setIfInBounds_toArray, List.set_cons_succ, List.set_cons_zero]
  go_wp2
  go_ret
  exact ⟨_, rfl, ownB_base ho7 (Nat.le_trans R1.out.size h6.size), below_seq R1.out h7⟩
end Go.Proofs.Ytafakjdolnigaaa

namespace Go.Proofs.Ytafakjdolnigaaa
open Go.RowKit
set_option linter.unusedVariables false

theorem andNot8 (t : TypeId) (x y : UInt8) : binOp .andNot t (W8 x) (W8 y) = pure (W8 (x &&& ~~~y)) := by
  have hx := x.toNat_lt; have hy := y.toNat_lt; have hz := (x &&& ~~~y).toNat_lt
  show pure (Value.int .u8 (IntKind.wrap .u8 ((BitVec.ofInt 8 (x.toNat : Int) &&& ~~~(BitVec.ofInt 8 (y.toNat : Int))).toNat : Int))) = _
  rw [BitVec.ofInt_natCast, BitVec.ofInt_natCast, BitVec.toNat_and, BitVec.toNat_not, BitVec.toNat_ofNat, BitVec.toNat_ofNat, Nat.mod_eq_of_lt hx, Nat.mod_eq_of_lt hy]
  have e : x.toNat &&& (2 ^ 8 - 1 - y.toNat) = (x &&& ~~~y).toNat := by rw [UInt8.toNat_and, UInt8.toNat_not]
  rw [e, wrapN8, Int.emod_eq_of_lt (by omega) (by omega)]
  rfl
@[go_sem high] theorem randNot8 {P : Program} {w : World} (t : TypeId) (x y : UInt8) : (binOp .andNot t (W8 x) (W8 y)).run P w = .ok (W8 (x &&& ~~~y)) w := by rw [andNot8]; rfl
@[go_sem high] theorem randNot8c {P : Program} {w : World} (t : TypeId) (x : UInt8) (n : Nat) (h : n < 256) : (binOp .andNot t (W8 x) (.int .u8 (no_index (OfNat.ofNat n)))).run P w = .ok (W8 (x &&& ~~~(OfNat.ofNat n))) w := by
  have e : Value.int .u8 (OfNat.ofNat n) = W8 (OfNat.ofNat n) := by
    show Value.int .u8 ((n : Nat) : Int) = Value.int .u8 (((UInt8.ofNat n).toNat : Nat) : Int)
    rw [UInt8.toNat_ofNat', Nat.mod_eq_of_lt h]
  rw [e, andNot8]; rfl

set_option maxRecDepth 100000 in
theorem rights16 (r : UInt8) : ((r &&& ~~~15) == 0) = decide (r < 16) := by
  have h : ∀ n : Fin 256, ((UInt8.ofNat n.val &&& ~~~15) == 0) = decide (UInt8.ofNat n.val < 16) := by decide
  have := h ⟨r.toNat, r.toNat_lt⟩
  simpa using this

set_option maxRecDepth 100000 in
set_option maxHeartbeats 1000000 in
theorem rightsMay_any (w : World) (r : UInt8) : Calls Try.prog 84 #[W8 r] w fun e w' => e = .returned (.bool (decide (r < 16))) ∧ w = w' := by
  rw [← rights16]
  go_enter Try.func84, Try.ntmps84
  go_wp2
  go_ret
  exact ⟨rfl, rfl⟩

def ChP (n : Nat) : Prop := (97 ≤ n ∧ n ≤ 122) ∨ (48 ≤ n ∧ n ≤ 57) ∨ n = 45
/-- P4.1. -/
def NameP (s : ByteArray) : Prop := 1 ≤ s.size ∧ s.size ≤ 16 ∧ (∀ h : 0 < s.size, 97 ≤ s[0].toNat ∧ s[0].toNat ≤ 122) ∧ ∀ i, ∀ h : i < s.size, ChP s[i].toNat
noncomputable def nameOk (s : ByteArray) : Bool := @decide (NameP s) (Classical.propDecidable _)
theorem nameOk_true {s : ByteArray} (h : NameP s) : nameOk s = true := by unfold nameOk; simpa using h
theorem nameOk_false {s : ByteArray} (h : ¬NameP s) : nameOk s = false := by unfold nameOk; simpa using h
theorem nameOk_size {s : ByteArray} (h : nameOk s = true) : s.size ≤ 16 := by unfold nameOk at h; simp at h; exact h.2.1

set_option maxRecDepth 100000 in
set_option maxHeartbeats 2000000 in
theorem namesMay_any (w : World) (s : ByteArray) : Calls Try.prog 83 #[.string s] w fun e w' => e = .returned (.bool (nameOk s)) ∧ w = w' := by
  obtain ⟨B, hB⟩ : ∃ B, B = nameOk s := ⟨_, rfl⟩
  rw [← hB]
  by_cases h1 : s.size < 1
  · rw [nameOk_false (fun h => by have := h.1; omega)] at hB
    subst hB
    go_enter Try.func83, Try.ntmps83
    go_wp2
    go_ret
    exact ⟨rfl, rfl⟩
  by_cases h2 : 16 < s.size
  · rw [nameOk_false (fun h => by have := h.2.1; omega)] at hB
    subst hB
    go_enter Try.func83, Try.ntmps83
    go_wp2
    go_ret
    exact ⟨rfl, rfl⟩
  have h0 : 0 < s.size := by omega
  by_cases h3 : s[0].toNat < 97
  · rw [nameOk_false (fun h => by have := h.2.2.1 h0; omega)] at hB
    subst hB
    go_enter Try.func83, Try.ntmps83
    go_wp2
    go_ret
    exact ⟨rfl, rfl⟩
  by_cases h4 : 122 < s[0].toNat
  · rw [nameOk_false (fun h => by have := h.2.2.1 h0; omega)] at hB
    subst hB
    go_enter Try.func83, Try.ntmps83
    go_wp2
    go_ret
    exact ⟨rfl, rfl⟩
  have HB := Lib.hid hB
  clear hB
  go_enter Try.func83, Try.ntmps83
  go_wp2
  have H3 := Lib.hid h3
  have H4 := Lib.hid h4
  clear h3 h4
  go_loopw [25] (fun v wr => ∃ k : Nat, k ≤ s.size ∧ v = .int .i64 (k : Int) ∧ (∀ i, i < k → ∀ h : i < s.size, ChP s[i].toNat) ∧ w = wr) (fun v _ => s.size - (intOf v).toNat)
  case atStart => exact ⟨0, by omega, rfl, fun i hi => by omega, rfl⟩
  case round =>
    obtain ⟨k, hk, rfl, hall, rfl⟩ := hrel
    have Hall := Lib.hid hall
    clear hall
    by_cases hlt : k < s.size
    · by_cases hc : ChP s[k].toNat
      · have Hc := Lib.hid hc
        unfold ChP at hc
        go_wp2
        all_goals exact ⟨⟨k + 1, by omega, by go_num, fun i hi h => (by rcases Nat.lt_succ_iff_lt_or_eq.1 hi with h1 | h1; exact Hall.out i h1 h; subst h1; exact Hc.out), trivial⟩, by simp [intOf]; omega⟩
      · have hF : B = false := by rw [HB.out]; exact nameOk_false (fun h => hc (h.2.2.2 k hlt))
        subst hF
        unfold ChP at hc
        go_wp2
        all_goals first
          | (exfalso; omega)
          | (go_ret; exact ⟨rfl, rfl⟩)
    · obtain rfl : k = s.size := by omega
      have hT : B = true := by rw [HB.out]; exact nameOk_true ⟨by omega, by omega, fun _ => ⟨by have := H3.out; omega, by have := H4.out; omega⟩, fun i h => Hall.out i h h⟩
      subst hT
      go_wp2
      go_ret
      exact ⟨rfl, rfl⟩

set_option maxRecDepth 100000 in
set_option maxHeartbeats 2000000 in
theorem refNamesMay_any (w : World) (s : ByteArray) : Calls Try.prog 105 #[.string s] w fun e w' => e = .returned (.bool (nameOk s)) ∧ w = w' := by
  obtain ⟨B, hB⟩ : ∃ B, B = nameOk s := ⟨_, rfl⟩
  rw [← hB]
  by_cases h1 : s.size < 1
  · rw [nameOk_false (fun h => by have := h.1; omega)] at hB
    subst hB
    go_enter Try.func105, Try.ntmps105
    go_wp2
    go_ret
    exact ⟨rfl, rfl⟩
  by_cases h2 : 16 < s.size
  · rw [nameOk_false (fun h => by have := h.2.1; omega)] at hB
    subst hB
    go_enter Try.func105, Try.ntmps105
    go_wp2
    go_ret
    exact ⟨rfl, rfl⟩
  have h0 : 0 < s.size := by omega
  by_cases h3 : s[0].toNat < 97
  · rw [nameOk_false (fun h => by have := h.2.2.1 h0; omega)] at hB
    subst hB
    go_enter Try.func105, Try.ntmps105
    go_wp2
    go_ret
    exact ⟨rfl, rfl⟩
  by_cases h4 : 122 < s[0].toNat
  · rw [nameOk_false (fun h => by have := h.2.2.1 h0; omega)] at hB
    subst hB
    go_enter Try.func105, Try.ntmps105
    go_wp2
    go_ret
    exact ⟨rfl, rfl⟩
  have HB := Lib.hid hB
  clear hB
  go_enter Try.func105, Try.ntmps105
  go_wp2
  have H3 := Lib.hid h3
  have H4 := Lib.hid h4
  clear h3 h4
  go_loopw [3] (fun v wr => ∃ k : Nat, k ≤ s.size ∧ v = .int .i64 (k : Int) ∧ (∀ i, i < k → ∀ h : i < s.size, ChP s[i].toNat) ∧ w = wr) (fun v _ => s.size - (intOf v).toNat)
  case atStart => exact ⟨0, by omega, rfl, fun i hi => by omega, rfl⟩
  case round =>
    obtain ⟨k, hk, rfl, hall, rfl⟩ := hrel
    have Hall := Lib.hid hall
    clear hall
    by_cases hlt : k < s.size
    · by_cases hc : ChP s[k].toNat
      · have Hc := Lib.hid hc
        unfold ChP at hc
        go_wp2
        all_goals first
          | exact ⟨⟨k + 1, by omega, by go_num, fun i hi h => (by rcases Nat.lt_succ_iff_lt_or_eq.1 hi with h1 | h1; exact Hall.out i h1 h; subst h1; exact Hc.out), trivial⟩, by simp [intOf]; omega⟩
          | (exfalso; omega)
          | (exfalso; rename_i hz; simp at hz; omega)
          | (exfalso; rename_i hz hy hx; simp at hz; omega)
          | trace_state
      · have hF : B = false := by rw [HB.out]; exact nameOk_false (fun h => hc (h.2.2.2 k hlt))
        subst hF
        unfold ChP at hc
        go_wp2
        all_goals first
          | (go_ret; exact ⟨rfl, rfl⟩)
          | (exfalso; omega)
          | (exfalso; rename_i hz; simp at hz; omega)
          | (exfalso; rename_i hz hy hx; simp at hz; omega)
          | trace_state
    · obtain rfl : k = s.size := by omega
      have hT : B = true := by rw [HB.out]; exact nameOk_true ⟨by omega, by omega, fun _ => ⟨by have := H3.out; omega, by have := H4.out; omega⟩, fun i h => Hall.out i h h⟩
      subst hT
      go_wp2
      go_ret
      exact ⟨rfl, rfl⟩
end Go.Proofs.Ytafakjdolnigaaa
