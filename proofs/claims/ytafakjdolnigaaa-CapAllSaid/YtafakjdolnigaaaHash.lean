/- The hash object: its cells stand for the bytes written so far; (*sha.Hash).none, Write. -/
import Derived.Test.YtafakjdolnigaaaMix
import Derived.Test.YtafakjdolnigaaaBytes
namespace Go.Proofs.Ytafakjdolnigaaa
open Go.RowKit
set_option linter.unusedVariables false

/-- What waits in a hash to which bs has been written. -/
structure Waits (bs wait : List UInt8) : Prop where
  full : wait.length = 64
  head : wait.take (bs.length % 64) = bs.drop (64 * (bs.length / 64))

/-- Block b is a hash to which bs has been written. -/
def HashAt (w : World) (b : Nat) (bs : List UInt8) : Prop := ∃ wait, Waits bs wait ∧ w.heap[b]? = some (.cells (hashRow true (stateOf bs) wait bs.length) 64 (0, 0))

theorem waits_small {bs wait cs : List UInt8} (h : Waits bs wait) (hc : bs.length % 64 + cs.length < 64) : Waits (bs ++ cs) (wait.take (bs.length % 64) ++ cs ++ wait.drop (bs.length % 64 + cs.length)) := by
  obtain ⟨hf, hh⟩ := h
  have e1 : (bs ++ cs).length % 64 = bs.length % 64 + cs.length := by rw [List.length_append]; omega
  have e2 : (bs ++ cs).length / 64 = bs.length / 64 := by rw [List.length_append]; omega
  refine ⟨by simp; omega, ?_⟩
  rw [e1, e2, List.drop_append_of_le_length (by omega), ← hh]
  rw [List.take_append_of_le_length (by simp; omega), List.take_of_length_le (by simp; omega)]

theorem waits_full {bs wait cs : List UInt8} (h : Waits bs wait) (hc : bs.length % 64 + cs.length = 64) : Waits (bs ++ cs) (wait.take (bs.length % 64) ++ cs ++ wait.drop (bs.length % 64 + cs.length)) ∧
    stateOf (bs ++ cs) = mixed (stateOf bs) (wait.take (bs.length % 64) ++ cs ++ wait.drop (bs.length % 64 + cs.length)) := by
  obtain ⟨hf, hh⟩ := h
  have e1 : (bs ++ cs).length % 64 = 0 := by rw [List.length_append]; omega
  have e3 : wait.drop (bs.length % 64 + cs.length) = [] := List.drop_eq_nil_of_le (by omega)
  refine ⟨⟨by simp; omega, ?_⟩, ?_⟩
  · rw [e1, List.take_zero, List.drop_eq_nil_of_le (by rw [List.length_append]; omega)]
  · rw [stateOf_full _ _ hc, ← hh, e3, List.append_nil]

theorem step_full {m wait wait' piece : List UInt8} {at_ k nm : Nat} (hw : Waits m wait) (hat : m.length % 64 = at_) (hk : piece.length = k) (hwx : wait.take at_ ++ piece ++ wait.drop (at_ + k) = wait') (hnm : m.length = nm) (h : at_ + k = 64) {w : World} {b : Nat}
    (hb : w.heap[b]? = some (.cells (hashRow true (mixed (stateOf m) wait') wait' (nm + k)) 64 (0, 0))) : HashAt w b (m ++ piece) := by
  subst hat hk hnm
  obtain ⟨h1, h2⟩ := waits_full hw h
  rw [hwx] at h1 h2
  exact ⟨wait', h1, by rw [h2, List.length_append]; exact hb⟩
theorem step_small {m wait wait' piece : List UInt8} {at_ k nm : Nat} (hw : Waits m wait) (hat : m.length % 64 = at_) (hk : piece.length = k) (hwx : wait.take at_ ++ piece ++ wait.drop (at_ + k) = wait') (hnm : m.length = nm) (h : at_ + k < 64) {w : World} {b : Nat}
    (hb : w.heap[b]? = some (.cells (hashRow true (stateOf m) wait' (nm + k)) 64 (0, 0))) : HashAt w b (m ++ piece) := by
  subst hat hk hnm
  have h1 := waits_small hw h
  rw [hwx] at h1
  exact ⟨wait', h1, by rw [stateOf_small _ _ h, List.length_append]; exact hb⟩

def hashHead (on : Bool) (s : S8) (wait : List UInt8) : List Value := .bool on :: (s.list.map W32 ++ wait.map W8)
theorem hashRow_eq (on : Bool) (s : S8) (wait : List UInt8) (n : Nat) : hashRow on s wait n = (hashHead on s wait ++ [Value.int .u64 (n : Int)]).toArray := by simp [hashRow, hashHead]
theorem hashHead_length (on : Bool) (s : S8) (wait : List UInt8) (h : wait.length = 64) : (hashHead on s wait).length = 73 := by
  have hl : s.list.length = 8 := rfl
  simp [hashHead, hl, h]
theorem hashRow_setN (on : Bool) (s : S8) (wait : List UInt8) (n m : Nat) (h : wait.length = 64) : (hashRow on s wait n).setIfInBounds 73 (.int .u64 (m : Int)) = hashRow on s wait m := by
  have hh := hashHead_length on s wait h
  rw [hashRow_eq, hashRow_eq, List.setIfInBounds_toArray, List.set_append_right _ _ (by omega), hh]
  rfl
theorem hashRow_putN {w : World} {b : Nat} {on : Bool} {s : S8} {wait : List UInt8} {n : Nat} (m : Nat) (x : Int) (hx : x = (m : Int)) (h : wait.length = 64) (hb : w.heap[b]? = some (.cells (hashRow on s wait n) 64 (0, 0))) :
    (w.setCell ⟨b, 73, none⟩ (.int .u64 x)).heap[b]? = some (.cells (hashRow on s wait m) 64 (0, 0)) := by
  rw [heap_setCell_same _ _ _ _ _ _ hb, hx, hashRow_setN _ _ _ _ _ h]
/-- Bytes copied into what waits. -/
theorem hashRow_splice (on : Bool) (s : S8) (wait cs : List UInt8) (n at_ : Nat) (h : wait.length = 64) (hc : at_ + cs.length ≤ 64) :
    ((hashRow on s wait n).toList.take (9 + at_) ++ cs.map W8 ++ (hashRow on s wait n).toList.drop (9 + at_ + cs.length)).toArray = hashRow on s (wait.take at_ ++ cs ++ wait.drop (at_ + cs.length)) n := by
  have hl : (s.list.map W32).length = 8 := rfl
  have e : (hashRow on s wait n).toList = (.bool on :: s.list.map W32) ++ (wait.map W8 ++ [.int .u64 (n : Int)]) := by simp [hashRow]
  have hp : (Value.bool on :: s.list.map W32).length = 9 := by simp [hl]
  generalize hpp : (Value.bool on :: s.list.map W32) = pre at *
  rw [e, List.take_append, List.drop_append, hp, List.take_of_length_le (by omega), (show pre.drop (9 + at_ + cs.length) = [] from List.drop_eq_nil_of_le (by omega)), show 9 + at_ - 9 = at_ by omega, show 9 + at_ + cs.length - 9 = at_ + cs.length by omega,
    List.take_append_of_le_length (by simp; omega), List.drop_append_of_le_length (by simp; omega)]
  have : hashRow on s (wait.take at_ ++ cs ++ wait.drop (at_ + cs.length)) n = (pre ++ ((wait.take at_ ++ cs ++ wait.drop (at_ + cs.length)).map W8 ++ [Value.int .u64 (n : Int)])).toArray := by simp [hashRow, ← hpp]
  rw [this]
  simp [List.map_take, List.map_drop]


/-! ### none -/
set_option maxHeartbeats 400000 in
theorem none_nil (w : World) : Calls Try.prog 79 #[.pointer none] w fun e w' => e = .returned (.bool true) ∧ w = w' := by
  go_enter Try.func79, Try.ntmps79
  go_wp2
  go_ret
  exact ⟨rfl, rfl⟩
set_option maxHeartbeats 400000 in
theorem none_on (b : Nat) (on : Bool) (w : World) (h : w.cell? ⟨b, 0, none⟩ = some (.bool on)) : Calls Try.prog 79 #[.pointer (some ⟨b, 0, none⟩)] w fun e w' => e = .returned (.bool !on) ∧ w = w' := by
  go_enter Try.func79, Try.ntmps79
  go_wp2
  go_ret
  exact ⟨rfl, rfl⟩
theorem none_at {w : World} {b : Nat} {bs : List UInt8} (h : HashAt w b bs) : Calls Try.prog 79 #[.pointer (some ⟨b, 0, none⟩)] w fun e w' => e = .returned (.bool false) ∧ w = w' := by
  obtain ⟨wait, _, hb⟩ := h
  exact none_on b true w (cell_row hb (hashRow_on _ _ _ _))

/-! ### Write -/
def sliceLen : Value → Nat
  | .slice _ n _ => n
  | _ => 0

theorem info5 : (Try.prog.info? 5).map (·.size) = some 1 := by kernel_rfl

set_option maxRecDepth 100000 in
set_option maxHeartbeats 4000000 in
theorem write_any (b : Nat) (bs c : List UInt8) (r : Option Addr) (len cap : Nat) (w : World) (hh : HashAt w b bs) (hc : BytesAt w r len cap c) (hne : ∀ a, r = some a → 0 < len → a.block ≠ b) (hsz : bs.length + c.length ≤ 1152921504606846976) :
    Calls Try.prog 29 #[.pointer (some ⟨b, 0, none⟩), .slice r len cap] w fun e w' => e = .returned (.tuple #[]) ∧ HashAt w' b (bs ++ c) ∧ w.grownBy w' (some b) := by
  go_enter Try.func29, Try.ntmps29
  go_wp2_with (go_at_call 79; refine (none_at hh).mono ?_; rintro e w' ⟨rfl, rfl⟩)
  go_loopw [1] (fun v wr => ∃ (d : Nat) (r' : Option Addr) (len' cap' : Nat), v = .slice r' len' cap' ∧ BytesAt w r' len' cap' (c.drop d) ∧ d + len' = c.length ∧ (∀ a, r' = some a → 0 < len' → a.block ≠ b) ∧ HashAt wr b (bs ++ c.take d) ∧ w.grownBy wr (some b))
    (fun v _ => sliceLen v)
  case atStart => exact ⟨0, r, len, cap, rfl, by simpa using hc, by rw [hc.hlen]; omega, hne, by simpa using hh, World.grownBy.refl _ _⟩
  case round =>
    obtain ⟨d, r', len', cap', rfl, hcd, hdl, hne', hhr, hgr⟩ := hrel
    by_cases h0 : len' = 0
    · subst h0
      go_wp2
      go_end0
      rw [List.take_of_length_le (by omega)] at hhr
      exact ⟨rfl, hhr, hgr⟩
    · obtain ⟨wait, hw, hb⟩ := hhr
      have hf := hw.full
      have hm : (bs ++ c.take d).length = bs.length + d := by simp; omega
      have hcr := hcd.grown hgr (fun a ha h => by simpa using hne' a ha h)
      obtain ⟨at_, hat⟩ : ∃ at_, (bs ++ c.take d).length % 64 = at_ := ⟨_, rfl⟩
      obtain ⟨nm, hnm⟩ : ∃ nm, (bs ++ c.take d).length = nm := ⟨_, rfl⟩
      have hat64 : at_ < 64 := by omega
      rw [hnm] at hb
      obtain ⟨k, hk⟩ : ∃ k, min len' (64 - at_) = k := ⟨_, rfl⟩
      have hk1 : k ≤ len' := by omega
      have hk2 : at_ + k ≤ 64 := by omega
      have hk0 : 0 < k := by omega
      have hcl : ((c.drop d).take k).length = k := by have := hcd.hlen; simp only [List.length_take]; omega
      have hc2 : bs ++ c.take (d + k) = (bs ++ c.take d) ++ (c.drop d).take k := by rw [List.append_assoc, ← List.take_add]
      have hdd : (c.drop d).drop k = c.drop (d + k) := by rw [List.drop_drop]
      have hspl := hashRow_splice true (stateOf (bs ++ c.take d)) wait ((c.drop d).take k) nm at_ hf (by omega)
      rw [hcl] at hspl
      have cn := cell_row hb (hashRow_n true (stateOf (bs ++ c.take d)) wait nm hf)
      have rat : (nm : Int) % 64 = (at_ : Int) := by omega
      have hnm60 : (nm : Int) ≤ 1152921504606846976 := by omega
      have hl0 : (0 : Int) < (len' : Int) := by omega
      have a64 : (at_ : Int) ≤ 64 := by omega
      have a64' : ¬ (64 = at_) := by omega
      have hlw : (wait.take at_ ++ (c.drop d).take k ++ wait.drop (at_ + k)).length = 64 := by simp only [List.length_append, hcl, List.length_take, List.length_drop]; omega
      generalize hwx : wait.take at_ ++ (c.drop d).take k ++ wait.drop (at_ + k) = wait' at *
      generalize hpc : (c.drop d).take k = piece at *
      have Hb := Lib.hid hb
      have Hgr := Lib.hid hgr
      have Hm := Lib.hid hm
      have Hat := Lib.hid hat
      have Hnm := Lib.hid hnm
      have Hdl := Lib.hid hdl
      have Hf := Lib.hid hf
      have Hk := Lib.hid hk
      have Hcl := Lib.hid hcl
      have Hc2 := Lib.hid hc2
      have Hdd := Lib.hid hdd
      have Hspl := Lib.hid hspl
      have Hlw := Lib.hid hlw
      have Hwx := Lib.hid hwx
      have Hpc := Lib.hid hpc
      clear hb hgr hm hat hnm hdl hf hh hc hne hk hcl hc2 hdd hspl hlw hwx hpc
      have ht : (c.drop d).take len' = c.drop d := List.take_of_length_le (by rw [hcd.hlen]; exact Nat.le_refl _)
      have Ht := Lib.hid ht
      clear ht
      by_cases he : at_ + k = 64
      · have heb : ((at_ : Int) + (k : Int) == 64) = true := by simp; omega
        have He := Lib.hid he
        clear he
        go_wp2_with (first
          | (refine wpList_copy_bytes rfl _ _ 29 29 rfl 5 Try.underlying29 info5 b _ _ _ r' len' cap' k _ rfl rfl hcr Hk.out _ 64 Hb.out (by rw [hashRow_size _ _ _ _ Hf.out]; omega) ?_; intro w1 hw1
             have hb1 : w1.heap[b]? = some (.cells (hashRow true (stateOf (bs ++ c.take d)) wait' nm) 64 (0, 0)) := by rw [hw1, setRow_heap _ _ _ _ _ _ Hb.out, Hpc.out, Hspl.out]
             have hg1 : w.grownBy w1 (some b) := by rw [hw1]; exact grown_trans' Hgr.out ⟨rfl, rfl, rfl, by simp, fun q hq hne => setRow_other _ _ _ _ (fun e => hne (by rw [e]))⟩
             have cn1 := cell_row hb1 (hashRow_n true (stateOf (bs ++ c.take d)) wait' nm Hlw.out)
             have fn1 := frozen_of_row w1 b 73 _ _ hb1
             have Hb1 := Lib.hid hb1
             have Hg1 := Lib.hid hg1
             clear hw1 hb1 hg1)
          | (refine wpList_slice rfl 29 5 _ (some _) none none rfl Try.underlying29 info5 r' len' cap' rfl k len' cap' ⟨_, rfl⟩ rfl rfl hk1 (Nat.le_refl _) hcd.hle (Nat.le_refl _) (by simp) hcd ?_; intro r2 hr2 hblk)
          | (go_at_call 80; refine (mix_any b (stateOf (bs ++ c.take d)) wait' (nm + k) _ Hlw.out (hashRow_putN (nm + k) _ (by omega) Hlw.out Hb1.out)).mono ?_; rintro e w2 ⟨rfl, hb2, hg2⟩))
        rw [Ht.out, Hdd.out] at hr2
        have hr3 := hr2
        clear hr2
        refine ⟨⟨d + k, r2, len' - k, cap' - k, rfl, hr3, ?_, ?_, ?_, ?_⟩, ?_⟩
        · have := Hdl.out; omega
        · intro a ha h
          obtain ⟨a', ha', hblk'⟩ := hblk a ha h
          rw [← hblk']
          exact hne' a' ha' (by omega)
        · rw [Hc2.out]
          exact step_full hw Hat.out Hcl.out Hwx.out Hnm.out He.out hb2
        · exact grown_trans' (grown_setCell Hg1.out _ _) hg2
        · simp only [sliceLen]; omega
      · have heb : ((at_ : Int) + (k : Int) == 64) = false := by simp; omega
        have He := Lib.hid he
        clear he
        go_wp2_with (first
          | (refine wpList_copy_bytes rfl _ _ 29 29 rfl 5 Try.underlying29 info5 b _ _ _ r' len' cap' k _ rfl rfl hcr Hk.out _ 64 Hb.out (by rw [hashRow_size _ _ _ _ Hf.out]; omega) ?_; intro w1 hw1
             have hb1 : w1.heap[b]? = some (.cells (hashRow true (stateOf (bs ++ c.take d)) wait' nm) 64 (0, 0)) := by rw [hw1, setRow_heap _ _ _ _ _ _ Hb.out, Hpc.out, Hspl.out]
             have hg1 : w.grownBy w1 (some b) := by rw [hw1]; exact grown_trans' Hgr.out ⟨rfl, rfl, rfl, by simp, fun q hq hne => setRow_other _ _ _ _ (fun e => hne (by rw [e]))⟩
             have cn1 := cell_row hb1 (hashRow_n true (stateOf (bs ++ c.take d)) wait' nm Hlw.out)
             have fn1 := frozen_of_row w1 b 73 _ _ hb1
             have Hb1 := Lib.hid hb1
             have Hg1 := Lib.hid hg1
             clear hw1 hb1 hg1)
          | (refine wpList_slice rfl 29 5 _ (some _) none none rfl Try.underlying29 info5 r' len' cap' rfl k len' cap' ⟨_, rfl⟩ rfl rfl hk1 (Nat.le_refl _) hcd.hle (Nat.le_refl _) (by simp) hcd ?_; intro r2 hr2 hblk))
        rw [Ht.out, Hdd.out] at hr2
        have hr3 := hr2
        clear hr2
        refine ⟨⟨d + k, r2, len' - k, cap' - k, rfl, hr3, ?_, ?_, ?_, ?_⟩, ?_⟩
        · have := Hdl.out; omega
        · intro a ha h
          obtain ⟨a', ha', hblk'⟩ := hblk a ha h
          rw [← hblk']
          exact hne' a' ha' (by omega)
        · rw [Hc2.out]
          exact step_small hw Hat.out Hcl.out Hwx.out Hnm.out (by have := He.out; omega) (hashRow_putN (nm + k) _ (by omega) Hlw.out Hb1.out)
        · exact grown_setCell Hg1.out _ _
        · simp only [sliceLen]; omega

end Go.Proofs.Ytafakjdolnigaaa
