/- The walks of mac.Of, mac.Equal, mac.Derive. The walks of mac.Equal and mac.Derive. The walk of mac.Derive. -/
import Derived.Test.YtafakjdolnigaaaGMac
import Derived.Test.YtafakjdolnigaaaGLib
import Derived.Test.YtafakjdolnigaaaGChain
namespace Go.Proofs.Ytafakjdolnigaaa
open Go.RowKit
set_option linter.unusedVariables false

theorem emptyB (w : World) : BytesAt w none 0 0 [] := .empty w none 0 (by unfold maxLen; omega) (fun _ => rfl)

/-- A new box for a hash, and nothing else. -/
theorem box31 (w : World) : (w.alloc (.cells (row8 zero32) 31)).heap[w.heap.size]? = some (.cells (row8 zero32) 31 (0, 0)) ∧ Below w.heap.size w (w.alloc (.cells (row8 zero32) 31)) ∧ (w.alloc (.cells (row8 zero32) 31)).heap.size = w.heap.size + 1 :=
  ⟨heap_alloc_new _ _, below_one _ _, by simp⟩

theorem lenText_le (ps : List (List UInt8)) (i : Nat) : (lenText (ps.take i)).length ≤ 8 * ps.length + ps.flatten.length := by
  rw [lenText_length]
  have h1 : ps.flatten = (ps.take i).flatten ++ (ps.drop i).flatten := by rw [← List.flatten_append, List.take_append_drop]
  have h2 := congrArg List.length h1
  rw [List.length_append] at h2
  simp only [List.length_take]
  omega

set_option maxRecDepth 100000 in
set_option maxHeartbeats 2000000 in
theorem macOf_any {w : World} {rk r : Option Addr} {lk ck len cap : Nat} {key : List UInt8} {ps : List (List UInt8)} (hk : BytesAt w rk lk ck key) (hp : PartsAt w r len cap ps) (hlk : lk ≤ 1048576) (hlen : len ≤ 1048576) (hsz : ps.flatten.length ≤ 1099511627776) :
    Calls Try.prog 56 #[.slice rk lk ck, .slice r len cap] w fun e w' => e = .returned (.agg (row8 (macOf key ps))) ∧ Below w.heap.size w w' := by
  have hmax : cap ≤ 9223372036854775807 := hp.hmax
  have hle := hp.hle
  have hll := Lib.hid hp.hlen
  have Hsz := Lib.hid hsz
  have Hk := Lib.hid hk
  obtain ⟨D, hD⟩ : ∃ D, D = macOf key ps := ⟨_, rfl⟩
  have hDl : D.length = 32 := by rw [hD]; exact macOf_length _ _
  rw [← hD]
  have HD := Lib.hid hD
  have HDl := Lib.hid hDl
  clear hsz hk hD hDl
  go_enter Try.func56, Try.ntmps56
  go_wp2_with (refine wpList_allocRow 31 _ alloc31 rfl rfl ?_)
  refine abstract_world (fun W => W.heap[w.heap.size]? = some (.cells (row8 zero32) 31 (0, 0)) ∧ Below w.heap.size w W ∧ W.heap.size = w.heap.size + 1) (box31 w) ?_
  rintro w1 ⟨r0, r1, r2⟩
  have R0 := Lib.hid r0
  have R1 := Lib.hid r1
  have R2 := Lib.hid r2
  clear r0 r1 r2
  go_loopw [5, 12] (fun v3 v4 wr => ∃ (i : Nat) (M : List UInt8), i ≤ len ∧ v4 = .int .i64 (i : Int) ∧ M = lenText (ps.take i) ∧ OwnB wr (w.heap.size + 1) v3 M ∧ Below (w.heap.size + 1) w1 wr ∧ w.heap.size + 1 ≤ wr.heap.size) (fun _ v _ => len - (intOf v).toNat)
  case atStart => exact ⟨0, [], by omega, rfl, rfl, ownB_none w1 _, Below.refl _ _, by rw [R2.out]; exact Nat.le_refl _⟩
  case round =>
    obtain ⟨i, M, hi, rfl, hM, ho, hbel, hsz1⟩ := hrel
    obtain ⟨rv, capv, rfl, hbv, _⟩ := ho.at
    have hbw : Below w.heap.size w wr := R1.out.trans (hbel.mono (by omega))
    have HM := Lib.hid hM
    have Hbw := Lib.hid hbw
    have Ho := Lib.hid ho
    have Hbv := Lib.hid hbv
    have Hbel := Lib.hid hbel
    clear ho hbv hbel hM
    by_cases hlt : i < len
    · obtain ⟨b, o, rfl, hc⟩ := hp.hcells (by omega)
      obtain ⟨ri, li, ci, hcell, hbi⟩ := hc i hlt
      have hcw : wr.cell? ⟨b, o + i, none⟩ = some (.slice ri li ci) := by rw [hbw.cell (p := ⟨b, o + i, none⟩) (block_lt_of_cell hcell)]; exact hcell
      have Hbi := Lib.hid hbi
      have hil : i < ps.length := by have := hll.out; omega
      have hap := lenText_take ps i hil
      have hpl := part_le ps i
      have hMl := lenText_le ps i
      rw [← HM.out] at hap hMl
      have Hpl : Hid ((ps[i]?.getD []).length ≤ 1099511627776) := Lib.hid (Nat.le_trans hpl Hsz.out)
      have HMl : Hid (M.length ≤ 1099520016384) := Lib.hid (by have := Hsz.out; have := hll.out; omega)
      have Hap := Lib.hid hap
      clear hbw hc hcell hap hpl hMl
      generalize ps[i]?.getD [] = p at *
      obtain rfl := hbi.hlen
      have hp64 : p.length < 18446744073709551616 := by have := Hpl.out; omega
      have Hp64 := Lib.hid hp64
      clear hbi hp64
      have hplen : (p.length : Int) ≤ 1099511627776 := by have := Hpl.out; omega
      go_wp2_with (first
        | (go_at_call 95; rw [lit64 p.length Hp64.out]; with_reducible refine (octPut8 (emptyB wr) (UInt64.ofNat p.length) (by omega)).mono ?_; rintro e w2 ⟨v2, rfl, ho2, hb2⟩
           rw [List.nil_append, beList_eight] at ho2
           obtain ⟨r2, c2, rfl, hb2', _⟩ := ho2.at
           have Hb2 := Lib.hid hb2
           have Hn2 := Lib.hid hb2'
           rw [be64_length] at Hn2
           clear hb2 hb2' ho2)
        | (with_reducible refine wpList_append_bytes rfl (.tmp 23) (.tmp 24) rfl (w.heap.size + 1) (.slice rv M.length capv) M (be64 (UInt64.ofNat p.length)) r2 8 c2 rfl rfl (Ho.out.keep Hb2.out) Hn2.out (by have := HMl.out; rw [be64_length]; omega) (Nat.le_trans hsz1 Hb2.out.size) ?_
           intro v5 w5 ho5 hg5
           have hb5 : Below (w.heap.size + 1) w1 w5 := (Ho.out.keep Hb2.out).below (Hbel.out.trans (Hb2.out.mono hsz1)) (Nat.le_trans hsz1 Hb2.out.size) hg5
           have Ho5 := Lib.hid ho5
           have Hb5 := Lib.hid hb5
           have Hg5 := Lib.hid hg5
           clear ho5 hb5 hg5)
        | (with_reducible refine wpList_append_bytes rfl (.tmp 25) (.tmp 26) rfl (w.heap.size + 1) v5 (M ++ be64 (UInt64.ofNat p.length)) p ri p.length ci rfl rfl Ho5.out (Hbi.out.below (R1.out.trans (Hb5.out.mono (by omega)))) (by have := HMl.out; have := Hpl.out; rw [List.length_append, be64_length]; omega) (Nat.le_trans (Nat.le_trans hsz1 Hb2.out.size) Hg5.out.size) ?_
           intro v6 w6 ho6 hg6))
      rw [List.append_assoc] at ho6
      refine ⟨⟨i + 1, _, by omega, by go_num, Hap.out.symm, ho6, Ho5.out.below Hb5.out (Nat.le_trans (Nat.le_trans hsz1 Hb2.out.size) Hg5.out.size) hg6, Nat.le_trans (Nat.le_trans (Nat.le_trans hsz1 Hb2.out.size) Hg5.out.size) hg6.size⟩, by simp [intOf]; omega⟩
    · have hall : ps.take i = ps := List.take_of_length_le (by have := hll.out; omega)
      rw [hall] at HM
      have hMl := lenText_length ps
      rw [← HM.out] at hMl
      have hMl2 : M.length ≤ 1099520016384 := by have := Hsz.out; have := hll.out; omega
      have h0 : wr.heap[w.heap.size]? = some (.cells (row8 zero32) 31 (0, 0)) := (Hbel.out.block _ (by omega)).trans R0.out
      have H0 := Lib.hid h0
      have hdd : D = hmac key M := by rw [HD.out, HM.out]; rfl
      have Hdd := Lib.hid hdd
      clear hbw h0 hall hMl hdd
      go_wp2_with (first
        | (go_at_call 53; with_reducible refine (raw_any (Hk.out.below Hbw.out) Hbv.out hlk hMl2).mono ?_; rintro e w4 ⟨rfl, h4⟩; rw [← Hdd.out])
        | (refine wpList_store_row rfl 31 _ _ rfl _ _ rfl rfl 31 _ ((h4.block _ (heap_lt H0.out)).trans H0.out) (info31 _ HDl.out) (by rw [row8_size, row8_size, HDl.out]; rfl) (row8_one _) ?_))
      refine bodyPost_ret (results_cell_row rfl _ _ _ 31 _ _ _ rfl (setRow_heap _ _ _ _ _ _ ((h4.block _ (heap_lt H0.out)).trans H0.out)) Try.underlying31 rfl (info31 _ HDl.out)) rfl ⟨rfl, below_row (below_seq Hbw.out h4) (Nat.le_refl _) _⟩
end Go.Proofs.Ytafakjdolnigaaa

namespace Go.Proofs.Ytafakjdolnigaaa
open Go.RowKit
set_option linter.unusedVariables false

/-- What the loop of Equal knows. -/
def EqTo (a b : List UInt8) (k : Nat) (x : UInt8) : Prop := x = 0 ↔ a.take k = b.take k
theorem or_xor_zero (x p q : UInt8) : x ||| (p ^^^ q) = 0 ↔ x = 0 ∧ p = q := by
  constructor
  · intro h
    have h1 := congrArg UInt8.toBitVec h
    simp only [UInt8.toBitVec_or, UInt8.toBitVec_xor] at h1
    have h2 : x.toBitVec = 0 ∧ p.toBitVec ^^^ q.toBitVec = 0 := BitVec.or_eq_zero_iff.1 h1
    exact ⟨UInt8.toBitVec_inj.1 h2.1, UInt8.toBitVec_inj.1 (BitVec.xor_eq_zero_iff.1 h2.2)⟩
  · rintro ⟨rfl, rfl⟩
    simp
theorem eqTo_step {a b : List UInt8} {k : Nat} {x : UInt8} (h : EqTo a b k x) (ha : k < a.length) (hb : k < b.length) : EqTo a b (k + 1) (x ||| (a[k]?.getD 0 ^^^ b[k]?.getD 0)) := by
  unfold EqTo at *
  rw [or_xor_zero, h, List.take_succ_eq_append_getElem ha, List.take_succ_eq_append_getElem hb, List.getElem?_eq_getElem ha, List.getElem?_eq_getElem hb]
  simp only [Option.getD_some]
  constructor
  · rintro ⟨h1, h2⟩; rw [h1, h2]
  · intro h
    have := List.append_inj' h rfl
    exact ⟨this.1, by simpa using this.2⟩
theorem eqTo_end {a b : List UInt8} {k : Nat} {x : UInt8} (h : EqTo a b k x) (ha : a.length = k) (hb : b.length = k) : (x == 0) = (a == b) := by
  unfold EqTo at h
  rw [List.take_of_length_le (by omega), List.take_of_length_le (by omega)] at h
  rw [Bool.eq_iff_iff]
  simpa using h

set_option maxRecDepth 100000 in
set_option maxHeartbeats 2000000 in
theorem equal_any {w : World} {ra rb : Option Addr} {la ca lb cb : Nat} {a b : List UInt8} (A : BytesAt w ra la ca a) (B : BytesAt w rb lb cb b) :
    Calls Try.prog 52 #[.slice ra la ca, .slice rb lb cb] w fun e w' => e = .returned (.bool (a == b)) ∧ Below w.heap.size w w' := by
  have hla := Lib.hid A.hlen
  have hlb := Lib.hid B.hlen
  have hmax : ca ≤ 9223372036854775807 := A.hmax
  have hle := A.hle
  by_cases hl : la = lb
  · subst hl
    obtain ⟨Rb, hR⟩ : ∃ Rb, Rb = (a == b) := ⟨_, rfl⟩
    rw [← hR]
    have HR := Lib.hid hR
    clear hR
    go_enter Try.func52, Try.ntmps52
    go_wp2
    go_loopw [5, 14] (fun v5 v14 wr => ∃ (k : Nat) (x : UInt8), k ≤ la ∧ v14 = .int .i64 (k : Int) ∧ v5 = W8 x ∧ EqTo a b k x ∧ Below w.heap.size w wr) (fun _ v _ => la - (intOf v).toNat)
    case atStart => exact ⟨0, 0, by omega, rfl, rfl, by unfold EqTo; simp, Below.refl _ _⟩
    case round =>
      obtain ⟨k, x, hk, rfl, rfl, hx, hbel⟩ := hrel
      have Hx := Lib.hid hx
      have Hbel := Lib.hid hbel
      clear hx
      by_cases hlt : k < la
      · obtain ⟨ba, oa, rfl, hca⟩ := A.hcells (by omega)
        obtain ⟨bb, ob, rfl, hcb⟩ := B.hcells (by omega)
        have cA : ∀ y : Ext wr, y.w.cell? ⟨ba, oa + k, none⟩ = some (W8 (a[k]?.getD 0)) := fun y => y.cell (by rw [hbel.cell (p := ⟨ba, oa + k, none⟩) (block_lt_of_cell (hca k hlt))]; exact hca k hlt)
        have cB : ∀ y : Ext wr, y.w.cell? ⟨bb, ob + k, none⟩ = some (W8 (b[k]?.getD 0)) := fun y => y.cell (by rw [hbel.cell (p := ⟨bb, ob + k, none⟩) (block_lt_of_cell (hcb k hlt))]; exact hcb k hlt)
        have Hst := Lib.hid (eqTo_step Hx.out (by have := hla.out; omega) (by have := hlb.out; omega))
        clear hbel hca hcb
        generalize a[k]?.getD 0 = p at *
        generalize b[k]?.getD 0 = q at *
        go_wp2
        refine region_q (fun w' => ∃ x : Ext wr, w' = x.w) (by kernel_rfl) (by kernel_rfl) (ext_draw wr) ?_
        repeat (refine wpQuiet_step (fun K hK => ?_); go_simp; (try go_bits); refine hK _ ?_; clear hK K)
        refine wpQuiet_nil ?_
        rintro _ ⟨y, rfl⟩
        go_wp2
        refine ⟨⟨k + 1, _, by omega, by go_num, rfl, Hst.out, Hbel.out.trans (y.h.mono Hbel.out.size)⟩, by simp [intOf]; omega⟩
      · obtain rfl : k = la := by omega
        clear hbel
        go_wp2
        go_ret
        exact ⟨by rw [HR.out, ← eqTo_end Hx.out hla.out hlb.out]; rfl, Hbel.out⟩
  · have hne : (a == b) = false := by
      rw [beq_eq_false_iff_ne]
      intro h
      exact hl (by rw [← hla.out, ← hlb.out, h])
    rw [hne]
    clear hne
    have hd : (((la : Int) != (lb : Int)) = true) := by simp; omega
    go_enter Try.func52, Try.ntmps52
    go_wp2
    go_ret
    exact ⟨rfl, Below.refl _ _⟩
end Go.Proofs.Ytafakjdolnigaaa

namespace Go.Proofs.Ytafakjdolnigaaa
open Go.RowKit
set_option linter.unusedVariables false

/-- A boxed hash and a box for another. -/
theorem box2 (w : World) (K : List UInt8) : ((w.alloc (.cells (row8 K) 31)).alloc (.cells (row8 zero32) 31)).heap[w.heap.size]? = some (.cells (row8 K) 31 (0, 0)) ∧ ((w.alloc (.cells (row8 K) 31)).alloc (.cells (row8 zero32) 31)).heap[w.heap.size + 1]? = some (.cells (row8 zero32) 31 (0, 0)) ∧ Below w.heap.size w ((w.alloc (.cells (row8 K) 31)).alloc (.cells (row8 zero32) 31)) :=
  ⟨heap_alloc2_old _ _ _, heap_alloc2_new _ _ _, below_seq (below_one _ _) (below_one _ _)⟩

set_option maxRecDepth 100000 in
set_option maxHeartbeats 2000000 in
theorem derive_any (w : World) (key : List UInt8) (hk : key.length = 32) (label : ByteArray) (hl : label.size ≤ 1048576) (n : UInt64) :
    Calls Try.prog 60 #[.agg (row8 key), .string label, W64 n] w fun e w' => e = .returned (.agg (row8 (macOf key [label.data.toList, be64 n]))) ∧ Below w.heap.size w w' := by
  obtain ⟨D, hD⟩ : ∃ D, D = macOf key [label.data.toList, be64 n] := ⟨_, rfl⟩
  have hDl : D.length = 32 := by rw [hD]; exact macOf_length _ _
  rw [← hD]
  have HD := Lib.hid hD
  have HDl := Lib.hid hDl
  have Hk := Lib.hid hk
  clear hD hDl hk
  go_enter Try.func60, Try.ntmps60
  go_upto_region 1 with (first
    | (refine wpList_box rfl 31 _ rfl _ rfl ?_)
    | (refine wpList_allocRow 31 _ alloc31 rfl rfl ?_))
  refine abstract_world (fun W => W.heap[w.heap.size]? = some (.cells (row8 key) 31 (0, 0)) ∧ W.heap[w.heap.size + 1]? = some (.cells (row8 zero32) 31 (0, 0)) ∧ Below w.heap.size w W) (box2 w key) ?_
  rintro w1 ⟨r0, r1, r2⟩
  have HK := Lib.hid (bytes_of_row r0 Hk.out (by unfold maxLen; omega))
  have R1 := Lib.hid r1
  have R2 := Lib.hid r2
  clear r0 r1 r2
  go_wp2_with (first
    | (go_at_call 95; with_reducible refine (octPut8 (emptyB w1) n (by omega)).mono ?_; rintro e w2 ⟨v2, rfl, ho2, hb2⟩
       rw [List.nil_append, beList_eight] at ho2
       obtain ⟨r2, c2, rfl, hb2', _⟩ := ho2.at_len 8 (be64_length n)
       have Hb2 := Lib.hid hb2
       have Hn2 := Lib.hid hb2'
       clear hb2 hb2' ho2)
    | (refine wpList_strBytes rfl _ rfl label rfl (by unfold maxLen; omega) ?_; intro c3 w3 hs3 hb3
       have Hs3 := Lib.hid hs3
       have Hb3 := Lib.hid hb3
       clear hs3 hb3)
    | (go_at_call 56; with_reducible refine (macOf_any (ps := [label.data.toList, be64 n]) (((HK.out.below Hb2.out).below Hb3.out).below (below_one _ _)) (parts_two Hs3.out (Hn2.out.below Hb3.out) _ rfl) (by omega) (by omega) (by simp [be64_length]; omega)).mono ?_
       rintro e w4 ⟨rfl, hb4⟩
       rw [← HD.out]
       have Hb4 : Hid (Below w1.heap.size w1 w4) := Lib.hid (below_seq (below_seq (below_seq Hb2.out Hb3.out) (below_one _ _)) hb4)
       clear hb4)
    | (refine wpList_store_row rfl 31 _ _ rfl _ _ rfl rfl 31 _ ((Hb4.out.block _ (heap_lt R1.out)).trans R1.out) (info31 _ HDl.out) (by rw [row8_size, row8_size, HDl.out]; rfl) (row8_one _) ?_))
  refine bodyPost_ret (results_cell_row rfl _ _ _ 31 _ _ _ rfl (setRow_heap _ _ _ _ _ _ ((Hb4.out.block _ (heap_lt R1.out)).trans R1.out)) Try.underlying31 rfl (info31 _ HDl.out)) rfl ⟨rfl, below_row (below_seq R2.out Hb4.out) (by omega) _⟩
end Go.Proofs.Ytafakjdolnigaaa
