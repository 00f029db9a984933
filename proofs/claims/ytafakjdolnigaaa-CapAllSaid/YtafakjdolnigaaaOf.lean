/- Slices of slices of bytes; the walk of sha.Of. -/
import Derived.Test.YtafakjdolnigaaaSum
namespace Go.Proofs.Ytafakjdolnigaaa
open Go.RowKit
set_option linter.unusedVariables false

/-- A slice of slices of bytes that reads as ps. -/
structure PartsAt (w : World) (r : Option Addr) (len cap : Nat) (ps : List (List UInt8)) : Prop where
  hlen : ps.length = len
  hle : len ≤ cap
  hmax : cap ≤ maxLen
  hcells : 0 < len → ∃ b o, r = some ⟨b, o, none⟩ ∧ ∀ i, i < len → ∃ ri li ci, w.cell? ⟨b, o + i, none⟩ = some (.slice ri li ci) ∧ BytesAt w ri li ci (ps[i]?.getD [])

theorem PartsAt.below {w w' : World} {r : Option Addr} {len cap : Nat} {ps : List (List UInt8)} (h : PartsAt w r len cap ps) (hb : Below w.heap.size w w') : PartsAt w' r len cap ps :=
  ⟨h.hlen, h.hle, h.hmax, fun h0 => by
    obtain ⟨b, o, hr, hc⟩ := h.hcells h0
    refine ⟨b, o, hr, fun i hi => ?_⟩
    obtain ⟨ri, li, ci, h1, h2⟩ := hc i hi
    exact ⟨ri, li, ci, by rw [hb.cell (p := ⟨b, o + i, none⟩) (block_lt_of_cell h1)]; exact h1, h2.below hb⟩⟩

theorem flatten_take (l : List (List UInt8)) (i : Nat) (h : i < l.length) : (l.take (i + 1)).flatten = (l.take i).flatten ++ l[i]?.getD [] := by
  rw [List.take_succ_eq_append_getElem h, List.flatten_append]
  congr 1
  simp only [List.flatten_cons, List.flatten_nil, List.append_nil, List.getElem?_eq_getElem h, Option.getD_some]

/-- A call that leaves the old memory alone behind another. -/
theorem below_seq {w0 w w' : World} (h : Below w0.heap.size w0 w) (k : Below w.heap.size w w') : Below w0.heap.size w0 w' := h.trans (k.mono h.size)

theorem below_of_grown {w0 w w' : World} {b : Nat} (h : Below w0.heap.size w0 w) (k : w.grownBy w' (some b)) (hb : w0.heap.size ≤ b) : Below w0.heap.size w0 w' :=
  h.grown k h.size (fun q hq => by obtain rfl := Option.some.inj hq; exact hb)

set_option maxRecDepth 100000 in
set_option maxHeartbeats 1000000 in
theorem of_any {w : World} {r : Option Addr} {len cap : Nat} {ps : List (List UInt8)} (hp : PartsAt w r len cap ps) (hsz : ps.flatten.length ≤ 1000000000000000000) :
    Calls Try.prog 31 #[.slice r len cap] w fun e w' => e = .returned (.agg (row8 (digest ps.flatten))) ∧ Below w.heap.size w w' := by
  have hmax : cap ≤ 9223372036854775807 := hp.hmax
  have hle := hp.hle
  have hlen := hp.hlen
  go_enter Try.func31, Try.ntmps31
  go_wp2_with (first
    | (refine wpList_allocRow 31 _ alloc31 rfl rfl ?_)
    | (go_at_call 28; refine (new_any _).mono ?_; rintro e w1 ⟨h, rfl, hh, hlt, hbel⟩))
  have hb1 : Below w.heap.size w w1 := ((Below.refl _ _).alloc (Nat.le_refl _) _).trans (hbel.mono (by simp))
  have hlt' : w.heap.size < h := by simp at hlt; omega
  have ho1 : w1.heap[w.heap.size]? = some (.cells (row8 zero32) 31 (0, 0)) := (hbel.block _ (by simp)).trans (heap_alloc_new _ _)
  clear hbel hlt
  go_loopw [9] (fun v wr => ∃ i : Nat, i ≤ len ∧ v = .int .i64 i ∧ HashAt wr h (ps.take i).flatten ∧ wr.heap[w.heap.size]? = some (.cells (row8 zero32) 31 (0, 0)) ∧ Below w.heap.size w wr) (fun v _ => len - (intOf v).toNat)
  case atStart => exact ⟨0, Nat.zero_le _, rfl, by simpa using hh, ho1, hb1⟩
  case round =>
    clear hh ho1 hb1
    obtain ⟨i, hi, rfl, hh, ho, hb⟩ := hrel
    by_cases hlt : i < len
    · obtain ⟨b, o, rfl, hc⟩ := hp.hcells (by omega)
      obtain ⟨ri, li, ci, hcell, hbi⟩ := hc i hlt
      have hcw : wr.cell? ⟨b, o + i, none⟩ = some (.slice ri li ci) := by rw [hb.cell (p := ⟨b, o + i, none⟩) (block_lt_of_cell hcell)]; exact hcell
      have hbw := hbi.below hb
      have hap := flatten_take ps i (by omega)
      have hsum : ((ps.take i).flatten).length + (ps[i]?.getD []).length ≤ 1000000000000000000 := by
        rw [← List.length_append, ← hap]
        have : ps.flatten = (ps.take (i + 1)).flatten ++ (ps.drop (i + 1)).flatten := by rw [← List.flatten_append, List.take_append_drop]
        rw [this, List.length_append] at hsz
        omega
      have hne : ∀ a, ri = some a → 0 < li → a.block ≠ h := fun a ha h0 => by have := hbi.lt ha h0; omega
      have Hap := Lib.hid hap
      have Hsum := Lib.hid hsum
      have Ho := Lib.hid ho
      have Hb := Lib.hid hb
      have Hlen := Lib.hid hlen
      clear hap hsum ho hb hlen hc hcell hbi
      generalize (ps.take i).flatten = m at *
      generalize ps[i]?.getD [] = x at *
      go_wp2_with (go_at_call 29; refine (write_any h m x ri li ci _ hh hbw hne (by have := Hsum.out; omega)).mono ?_; rintro e w2 ⟨rfl, hh2, hg2⟩)
      go_roundw
      case rel =>
        refine ⟨i + 1, by omega, by go_num, by rw [Hap.out]; exact hh2, ?_, below_of_grown Hb.out hg2 (by omega)⟩
        exact (hg2.block _ (heap_lt Ho.out) (by simp; omega)).trans Ho.out
      case measure => simp [intOf]; omega
    · have hall : ps.take i = ps := List.take_of_length_le (by omega)
      rw [hall] at hh
      have Ho := Lib.hid ho
      have Hb := Lib.hid hb
      have Hlen := Lib.hid hlen
      clear hall ho hb hlen
      go_wp2_with (first
        | (go_at_call 32; refine (sum_at hh hsz).mono ?_; rintro e w2 ⟨rfl, hb2⟩)
        | (refine wpList_store_row rfl 31 _ _ rfl _ _ rfl rfl 31 _ ((hb2.block _ (heap_lt Ho.out)).trans Ho.out) (info31 _ rfl) rfl (row8_one _) ?_))
      refine bodyPost_ret (results_cell_row rfl _ _ _ 31 _ _ _ rfl (setRow_heap _ _ _ _ _ _ ((hb2.block _ (heap_lt Ho.out)).trans Ho.out)) Try.underlying31 rfl (info31 _ rfl)) rfl ⟨rfl, below_row (below_seq Hb.out hb2) (Nat.le_refl _) _⟩

/-! ### Rows that were just laid -/
theorem bytes_row (w : World) (l : List UInt8) (vs : Array Value) (fr : Nat × Nat) (hv : vs = row8 l) (n : Nat) (hn : l.length = n) (hm : n ≤ maxLen) (k : Nat) (hk : k = w.heap.size) : BytesAt (w.alloc (.cells vs 5 fr)) (some ⟨k, 0, none⟩) n n l := by
  subst hv hn hk
  refine ⟨rfl, Nat.le_refl _, hm, fun _ => ⟨_, _, rfl, fun i hi => ?_⟩, fun h => by cases h⟩
  rw [Nat.zero_add, cell_of_row _ _ i _ _ fr (heap_alloc_new w _), row8_at l i hi]

theorem parts_one {w : World} {r1 : Option Addr} {l1 c1 : Nat} {a : List UInt8} (h1 : BytesAt w r1 l1 c1 a) (k : Nat) (hk : k = w.heap.size) : PartsAt (w.alloc (.cells #[.slice r1 l1 c1] 29)) (some ⟨k, 0, none⟩) 1 1 [a] := by
  subst hk
  have hb : ∀ o, Below w.heap.size w (w.alloc o) := fun o => (Below.refl _ _).alloc (Nat.le_refl _) o
  refine ⟨rfl, Nat.le_refl _, by unfold maxLen; omega, fun _ => ⟨_, _, rfl, fun i hi => ?_⟩⟩
  obtain rfl : i = 0 := by omega
  exact ⟨r1, l1, c1, by rw [Nat.zero_add, cell_of_row _ _ 0 _ _ (0, 0) (heap_alloc_new w _)]; rfl, h1.below (hb _)⟩

theorem parts_two {w : World} {r1 r2 : Option Addr} {l1 c1 l2 c2 : Nat} {a b : List UInt8} (h1 : BytesAt w r1 l1 c1 a) (h2 : BytesAt w r2 l2 c2 b) (k : Nat) (hk : k = w.heap.size) :
    PartsAt (w.alloc (.cells #[.slice r1 l1 c1, .slice r2 l2 c2] 29)) (some ⟨k, 0, none⟩) 2 2 [a, b] := by
  subst hk
  have hb : ∀ o, Below w.heap.size w (w.alloc o) := fun o => (Below.refl _ _).alloc (Nat.le_refl _) o
  refine ⟨rfl, Nat.le_refl _, by unfold maxLen; omega, fun _ => ⟨_, _, rfl, fun i hi => ?_⟩⟩
  have : i = 0 ∨ i = 1 := by omega
  rcases this with rfl | rfl
  · exact ⟨r1, l1, c1, by rw [Nat.zero_add, cell_of_row _ _ 0 _ _ (0, 0) (heap_alloc_new w _)]; rfl, h1.below (hb _)⟩
  · exact ⟨r2, l2, c2, by rw [Nat.zero_add, cell_of_row _ _ 1 _ _ (0, 0) (heap_alloc_new w _)]; rfl, h2.below (hb _)⟩

theorem below_one (w : World) (o : Obj) : Below w.heap.size w (w.alloc o) := (Below.refl _ _).alloc (Nat.le_refl _) o
end Go.Proofs.Ytafakjdolnigaaa
