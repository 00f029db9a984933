/- The walks of cofferlaw0's helpers: Twin, Spoil, Place, Joined, Cut, Sum, Kept, AllKept, Twins. The walks of cofferlaw0's Sum, Kept, Twins, AllKept, Joined, and of Spoil over a slice of one's own. -/
import Derived.Test.YtafakjdolnigaaaOwn
namespace Go.Proofs.Ytafakjdolnigaaa
open Go.RowKit
set_option linter.unusedVariables false

theorem zeros_set (l : List UInt8) (n : Nat) (h : l.length + 3 = n) : (([] : List Value) ++ (l.take l.length).map W8 ++ (row8 (List.replicate n 0)).toList.drop l.length).toArray = row8 (l ++ List.replicate 3 0) := by
  subst h
  simp [row8, List.map_append]
theorem twin_set (l : List UInt8) (k : Nat) (hk : k < 3) : (row8 (l ++ (tail3.take k ++ List.replicate (3 - k) 0))).setIfInBounds (l.length + k) (W8 229) = row8 (l ++ (tail3.take (k + 1) ++ List.replicate (3 - (k + 1)) 0)) := by
  rw [row8_set]
  congr 1
  rw [List.set_append_right _ _ (by omega)]
  congr 1
  have : k = 0 ∨ k = 1 ∨ k = 2 := by omega
  rcases this with rfl | rfl | rfl <;> simp [tail3]

set_option maxRecDepth 100000 in
set_option maxHeartbeats 1000000 in
theorem twin_any {w : World} {r : Option Addr} {len cap : Nat} {bs : List UInt8} (h : BytesAt w r len cap bs) (hsz : len ≤ 1099511627776) :
    Calls Try.prog 36 #[.slice r len cap] w fun e w' => ∃ g, e = .returned (.slice (some ⟨g, 0, none⟩) len (len + 3)) ∧ TwinAt w' g bs ∧ w.heap.size ≤ g ∧ Below w.heap.size w w' := by
  have hlen := h.hlen
  have e3 : len + 3 < 9223372036854775808 := by omega
  go_enter Try.func36, Try.ntmps36
  go_wp2_with (first
    | (refine wpList_make_bytes rfl _ _ rfl (len + 3) (by go_num) (by go_num) (by omega) ?_)
    | (refine wpList_copy_bytes rfl _ _ 29 29 rfl 5 Try.underlying29 info5 w.heap.size 0 (len + 3) (len + 3) r len cap len bs rfl rfl (h.below (below_one _ _)) (by omega) _ 5 (heap_alloc_new _ _) (by rw [row8_size, List.length_replicate]; omega) ?_; intro w1 hw1; have Hw1 := Lib.hid hw1; clear hw1))
  have hw1 := Hw1.out
  clear Hw1
  rw [List.take_of_length_le (by omega : bs.length ≤ len)] at hw1
  have hrow : w1.heap[w.heap.size]? = some (.cells (row8 (bs ++ (tail3.take 0 ++ List.replicate (3 - 0) 0))) 5 (0, 0)) := by
    subst hw1
    rw [setRow_heap _ _ _ _ _ _ (heap_alloc_new _ _)]
    have := zeros_set bs (len + 3) (by omega)
    subst hlen
    simpa using this
  have hb1 : Below w.heap.size w w1 := by
    subst hw1
    exact below_row (below_one _ _) (Nat.le_refl _) _
  clear hw1
  generalize hg : w.heap.size = g at *
  go_loopw [4] (fun v wr => ∃ k : Nat, k ≤ 3 ∧ v = .int .i64 ((len + k : Nat) : Int) ∧ wr.heap[g]? = some (.cells (row8 (bs ++ (tail3.take k ++ List.replicate (3 - k) 0))) 5 (0, 0)) ∧ Below g w wr) (fun v _ => len + 3 - (intOf v).toNat)
  case atStart => exact ⟨0, by omega, by simp, hrow, hb1⟩
  case round =>
    clear hrow hb1
    obtain ⟨k, hk, rfl, hrow, hb⟩ := hrel
    by_cases hlt : k < 3
    · have hc : wr.cell? ⟨g, len + k, none⟩ = some (W8 ((bs ++ (tail3.take k ++ List.replicate (3 - k) 0))[len + k]?.getD 0)) := cell_row hrow (row8_at _ _ (by simp [tail3]; omega))
      have hf := frozen_of_row wr g (len + k) _ _ hrow
      have Hrow := Lib.hid hrow
      have Hb := Lib.hid hb
      have Hlen := Lib.hid hlen
      clear hrow hb hlen
      go_wp2
      refine ⟨⟨k + 1, by omega, by go_num, ?_, Hb.out.setCell (Nat.le_refl _) _⟩, by simp [intOf]; omega⟩
      have ht := twin_set bs k hlt
      rw [Hlen.out] at ht
      rw [← ht]
      exact heap_setCell_same _ _ _ _ _ _ Hrow.out
    · obtain rfl : k = 3 := by omega
      have Hrow := Lib.hid hrow
      have Hb := Lib.hid hb
      have Hlen := Lib.hid hlen
      have Hh := Lib.hid h
      clear hrow hb hlen h
      go_wp2
      go_ret
      refine ⟨g, rfl, ⟨by simpa [tail3] using Hrow.out, by unfold maxLen; rw [Hlen.out]; omega⟩, by omega, by rw [hg]; exact Hb.out⟩

set_option maxRecDepth 100000 in
set_option maxHeartbeats 1000000 in
theorem spoil_any {w : World} {g len : Nat} {bs : List UInt8} (h : TwinAt w g bs) (hlen : bs.length = len) (hsz : len ≤ 1099511627776) :
    Calls Try.prog 37 #[.slice (some ⟨g, 0, none⟩) len (len + 3)] w fun e w' => e = .returned (.tuple #[]) ∧ w.grownBy w' (some g) := by
  have hrow := h.row
  have e3 : len + 3 < 9223372036854775808 := by omega
  have hrow' : ∃ l : List UInt8, l.length = len + 3 ∧ w.heap[g]? = some (.cells (row8 l) 5 (0, 0)) := ⟨_, by simp [tail3, hlen], hrow⟩
  clear hrow h
  go_enter Try.func37, Try.ntmps37
  go_wp2
  go_loopw [3] (fun v wr => ∃ k : Nat, k ≤ len + 3 ∧ v = .int .i64 (k : Int) ∧ (∃ l : List UInt8, l.length = len + 3 ∧ wr.heap[g]? = some (.cells (row8 l) 5 (0, 0))) ∧ w.grownBy wr (some g)) (fun v _ => len + 3 - (intOf v).toNat)
  case atStart => exact ⟨0, by omega, by simp, hrow', ⟨rfl, rfl, rfl, Nat.le_refl _, fun _ _ _ => rfl⟩⟩
  case round =>
    clear hrow'
    obtain ⟨k, hk, rfl, ⟨l, hl, hrow⟩, hb⟩ := hrel
    by_cases hlt : k < len + 3
    · have hc : wr.cell? ⟨g, k, none⟩ = some (W8 (l[k]?.getD 0)) := cell_row hrow (row8_at _ _ (by omega))
      have hf := frozen_of_row wr g k _ _ hrow
      have Hrow := Lib.hid hrow
      have Hb := Lib.hid hb
      have Hl := Lib.hid hl
      clear hrow hb hl
      go_wp2
      refine ⟨⟨k + 1, by omega, by go_num, ⟨l.set k 90, by rw [List.length_set, Hl.out], ?_⟩, grown_setCell Hb.out _ _⟩, by simp [intOf]; omega⟩
      rw [← row8_set]
      exact heap_setCell_same _ _ _ _ _ _ Hrow.out
    · have Hb := Lib.hid hb
      clear hrow hb hl
      go_wp2
      go_end0
      exact ⟨rfl, Hb.out⟩

/-- A place from 0 to n - 1. -/
def placeOf (k n : Int) : Int := if n < 1 then 0 else if k.tmod n < 0 then k.tmod n + n else k.tmod n
theorem placeOf_range (k n : Int) (hn : 1 ≤ n) : 0 ≤ placeOf k n ∧ placeOf k n < n := by
  unfold placeOf
  rw [if_neg (by omega)]
  have h1 := Int.tmod_lt_of_pos k (by omega : 0 < n)
  have h2 : -n < k.tmod n := by
    have := Int.tmod_lt_of_pos (-k) (by omega : 0 < n)
    rw [Int.neg_tmod] at this
    omega
  split <;> omega
set_option maxRecDepth 100000 in
set_option maxHeartbeats 1000000 in
theorem place_any (w : World) (k n : Int) (hk : (Lit.int .i64 k).wf = true) (hn : 1 ≤ n) (hn2 : n ≤ 1099511627776) : Calls Try.prog 38 #[.int .i64 k, .int .i64 n] w fun e w' => e = .returned (.int .i64 (placeOf k n)) ∧ w = w' := by
  have hr := placeOf_range k n hn
  have h1 := Int.tmod_lt_of_pos k (by omega : 0 < n)
  have h2 : -n < k.tmod n := by
    have := Int.tmod_lt_of_pos (-k) (by omega : 0 < n)
    rw [Int.neg_tmod] at this
    omega
  unfold placeOf at *
  rw [if_neg (by omega)] at *
  go_enter Try.func38, Try.ntmps38
  go_wp2
  all_goals (go_ret; exact ⟨rfl, rfl⟩)
end Go.Proofs.Ytafakjdolnigaaa

namespace Go.Proofs.Ytafakjdolnigaaa
open Go.RowKit
set_option linter.unusedVariables false

/-! ### Sum -/
def sumTo (most : Nat) : List (List UInt8) → Nat → Nat
  | [], n => n
  | p :: ps, n => if n ≤ most then (if most < p.length then most + 1 else sumTo most ps (n + p.length)) else n
theorem sumTo_flat (most : Nat) : ∀ (ps : List (List UInt8)) (n : Nat), sumTo most ps n ≤ most → sumTo most ps n = n + ps.flatten.length := by
  intro ps
  induction ps with
  | nil => intro n _; simp [sumTo]
  | cons p ps ih =>
    intro n h
    rw [sumTo] at h ⊢
    by_cases h1 : n ≤ most
    · rw [if_pos h1] at h ⊢
      by_cases h2 : most < p.length
      · rw [if_pos h2] at h; omega
      · rw [if_neg h2] at h ⊢
        rw [ih _ h]; simp; omega
    · rw [if_neg h1] at h; omega
theorem drop_cons (ps : List (List UInt8)) (i : Nat) (h : i < ps.length) : ps.drop i = (ps[i]?.getD []) :: ps.drop (i + 1) := by
  rw [List.drop_eq_getElem_cons h, List.getElem?_eq_getElem h]; rfl
theorem sumTo_step {most : Nat} {ps : List (List UInt8)} {i n : Nat} (h : i < ps.length) (hn : n ≤ most) (hb : (ps[i]?.getD []).length ≤ most) : sumTo most (ps.drop i) n = sumTo most (ps.drop (i + 1)) (n + (ps[i]?.getD []).length) := by
  rw [drop_cons ps i h, sumTo, if_pos hn, if_neg (by omega)]
theorem sumTo_long {most : Nat} {ps : List (List UInt8)} {i n : Nat} (h : i < ps.length) (hn : n ≤ most) (hb : most < (ps[i]?.getD []).length) : sumTo most (ps.drop i) n = most + 1 := by
  rw [drop_cons ps i h, sumTo, if_pos hn, if_pos hb]
theorem sumTo_much {most : Nat} {ps : List (List UInt8)} {i n : Nat} (h : i < ps.length) (hn : ¬ n ≤ most) : sumTo most (ps.drop i) n = n := by
  rw [drop_cons ps i h, sumTo, if_neg hn]
theorem sumTo_all {most : Nat} {ps : List (List UInt8)} {i n : Nat} (h : ¬ i < ps.length) : sumTo most (ps.drop i) n = n := by
  rw [List.drop_eq_nil_of_le (by omega), sumTo]

theorem part_le (ps : List (List UInt8)) (i : Nat) : (ps[i]?.getD []).length ≤ ps.flatten.length := by
  by_cases h : i < ps.length
  · have h1 : ps.flatten = (ps.take (i + 1)).flatten ++ (ps.drop (i + 1)).flatten := by rw [← List.flatten_append, List.take_append_drop]
    rw [h1, flatten_take ps i h]
    simp
    omega
  · simp [List.getElem?_eq_none (Nat.le_of_not_lt h)]

set_option maxRecDepth 100000 in
set_option maxHeartbeats 1000000 in
theorem libSum_any {w : World} {r : Option Addr} {len cap : Nat} {ps : List (List UInt8)} (hp : PartsAt w r len cap ps) (most : Nat) (hm : most ≤ 1099511627776) :
    Calls Try.prog 26 #[.slice r len cap, .int .i64 (most : Int)] w fun e w' => e = .returned (.int .i64 (sumTo most ps 0 : Nat)) ∧ w = w' := by
  have hmax : cap ≤ 9223372036854775807 := hp.hmax
  have hle := hp.hle
  have hlen := Lib.hid hp.hlen
  go_enter Try.func26, Try.ntmps26
  go_wp2
  go_loop [5, 6] (fun v5 v6 => ∃ n i : Nat, i ≤ len ∧ n ≤ 2 * most ∧ v5 = .int .i64 (n : Int) ∧ v6 = .int .i64 (i : Int) ∧ sumTo most (ps.drop i) n = sumTo most ps 0) (fun _ v => len - (intOf v).toNat)
  case atStart => exact ⟨0, 0, by omega, by omega, rfl, rfl, by simp⟩
  case round =>
    obtain ⟨n, i, hi, hn, rfl, rfl, hs⟩ := hrel
    have Hs := Lib.hid hs
    clear hs
    by_cases hlt : i < len
    · by_cases hnm : n ≤ most
      · obtain ⟨b, o, rfl, hc⟩ := hp.hcells (by omega)
        obtain ⟨ri, li, ci, hcell, hbi⟩ := hc i hlt
        have Hbl := Lib.hid hbi.hlen
        have hil : i < ps.length := by have := hlen.out; omega
        clear hc
        by_cases hb : most < li
        · go_wp2
          go_ret
          rw [← Hs.out, sumTo_long hil hnm (by rw [Hbl.out]; exact hb)]
          exact ⟨rfl, rfl⟩
        · go_wp2
          go_round
          case rel => exact ⟨n + li, i + 1, by omega, by omega, by go_num, by go_num, by rw [← Hs.out, sumTo_step hil hnm (by rw [Hbl.out]; omega), Hbl.out]⟩
          case measure => simp [intOf]; omega
      · go_wp2
        go_ret
        rw [← Hs.out, sumTo_much (by have := hlen.out; omega) hnm]
        exact ⟨rfl, rfl⟩
    · go_wp2
      go_ret
      rw [← Hs.out, sumTo_all (by have := hlen.out; omega)]
      exact ⟨rfl, rfl⟩

/-! ### Kept -/
theorem tail_at (bs : List UInt8) (k : Nat) (h : k < 3) : (bs ++ tail3)[bs.length + k]?.getD 0 = 229 := by
  rw [List.getElem?_append_right (by omega), Nat.add_sub_cancel_left]
  have : k = 0 ∨ k = 1 ∨ k = 2 := by omega
  rcases this with rfl | rfl | rfl <;> rfl

set_option maxRecDepth 100000 in
set_option maxHeartbeats 1000000 in
theorem kept_any {w : World} {g len cap : Nat} {r : Option Addr} {bs : List UInt8} (h : TwinAt w g bs) (hb : BytesAt w r len cap bs) (hsz : len ≤ 1099511627776) :
    Calls Try.prog 58 #[.slice (some ⟨g, 0, none⟩) len (len + 3), .slice r len cap] w fun e w' => e = .returned (.bool true) ∧ w = w' := by
  have hlen := hb.hlen
  have hx := h.at
  rw [hlen] at hx
  have c1 := conv_str hx
  have c2 := conv_str hb
  have Hlen := Lib.hid hlen
  have e3 : len + 3 < 9223372036854775808 := by omega
  clear hlen hx
  go_enter Try.func58, Try.ntmps58
  go_wp2
  go_loop [6] (fun v => ∃ k : Nat, k ≤ 3 ∧ v = .int .i64 ((len + k : Nat) : Int)) (fun v => len + 3 - (intOf v).toNat)
  case atStart => exact ⟨0, by omega, by simp⟩
  case round =>
    obtain ⟨k, hk, rfl⟩ := hrel
    by_cases hlt : k < 3
    · have hc : w.cell? ⟨g, len + k, none⟩ = some (W8 229) := by
        rw [← Hlen.out, cell_row h.row (row8_at _ _ (by simp [tail3]; omega)), tail_at _ _ hlt]
      clear c1 c2
      go_wp2
      go_round
      case rel => exact ⟨k + 1, by omega, by go_num⟩
      case measure => simp [intOf]; omega
    · obtain rfl : k = 3 := by omega
      clear c1 c2
      go_wp2
      go_ret
      exact ⟨rfl, rfl⟩

/-! ### Twins -/
/-- A list of one's own, of twins of one's own. -/
structure TwinsAt (w : World) (base : Nat) (v : Value) (ps : List (List UInt8)) : Prop where
  own : ∃ vs, w.ownsRow base 29 1 v ps.length vs ∧ ∀ j, j < ps.length → ∃ g, vs[j]? = some (.slice (some ⟨g, 0, none⟩) (ps[j]?.getD []).length ((ps[j]?.getD []).length + 3)) ∧ TwinAt w g (ps[j]?.getD []) ∧ base ≤ g
theorem TwinsAt.below {w w' : World} {base : Nat} {v : Value} {ps : List (List UInt8)} (h : TwinsAt w base v ps) (hb : Below w.heap.size w w') : TwinsAt w' base v ps := by
  obtain ⟨vs, ho, hi⟩ := h.own
  exact ⟨vs, ownsRow_below ho hb, fun j hj => by obtain ⟨g, h1, h2, h3⟩ := hi j hj; exact ⟨g, h1, h2.below hb, h3⟩⟩
theorem TwinsAt.parts {w : World} {base : Nat} {v : Value} {ps : List (List UInt8)} (h : TwinsAt w base v ps) : ∃ r c, v = .slice r ps.length c ∧ PartsAt w r ps.length c ps := by
  obtain ⟨vs, ho, hi⟩ := h.own
  obtain ⟨r, cap, hv, hle, hm, hl, hc⟩ := ownsRow_shape ho
  refine ⟨r, cap, hv, rfl, hle, hm, fun h0 => ?_⟩
  obtain ⟨b, hr, hbb, _, hcell⟩ := hc h0
  refine ⟨b, 0, hr, fun i hi2 => ?_⟩
  obtain ⟨g, h1, h2, _⟩ := hi i hi2
  exact ⟨_, _, _, by rw [hcell i hi2, h1], h2.at⟩
/-- What a row of slices is, no twin is. -/
theorem twin_apart {w : World} {base : Nat} {v : Value} {n : Nat} {vs : List Value} {g : Nat} {bs : List UInt8} (h : w.ownsRow base 29 1 v n vs) (ht : TwinAt w g bs) : some g ≠ v.ownBlock := by
  obtain ⟨hl, ⟨rfl, h0⟩ | ⟨k, cap, cur, rfl, hb', hg, hr⟩⟩ := h
  · intro e; cases e
  · intro e
    have e2 : g = k := Option.some.inj e
    subst e2
    rw [ht.row] at hg
    simp at hg

theorem twins_snoc {w w' : World} {base : Nat} {ps : List (List UInt8)} {i : Nat} {vs : List Value} {v : Value} {g : Nat} (hi : i < ps.length) (ho : w.ownsRow base 29 1 v i vs)
    (ht : ∀ j, j < i → ∃ g, vs[j]? = some (.slice (some ⟨g, 0, none⟩) (ps[j]?.getD []).length ((ps[j]?.getD []).length + 3)) ∧ TwinAt w g (ps[j]?.getD []) ∧ base ≤ g)
    (hg : TwinAt w g (ps[i]?.getD [])) (hgb : base ≤ g) (x : Value) (hx : x = .slice (some ⟨g, 0, none⟩) (ps[i]?.getD []).length ((ps[i]?.getD []).length + 3)) (hgr : w.grownBy w' v.ownBlock) :
    ∀ j, j < i + 1 → ∃ g, (vs ++ [x])[j]? = some (.slice (some ⟨g, 0, none⟩) (ps[j]?.getD []).length ((ps[j]?.getD []).length + 3)) ∧ TwinAt w' g (ps[j]?.getD []) ∧ base ≤ g := by
  have hl : vs.length = i := by obtain ⟨r, c, _, _, _, h, _⟩ := ownsRow_shape ho; exact h
  have keep : ∀ (g : Nat) (bs : List UInt8), TwinAt w g bs → TwinAt w' g bs := fun g bs h => h.keep (hgr.block _ h.lt (twin_apart ho h))
  intro j hj
  by_cases h1 : j < i
  · obtain ⟨g', h2, h3, h4⟩ := ht j h1
    exact ⟨g', by rw [List.getElem?_append_left (by omega)]; exact h2, keep _ _ h3, h4⟩
  · have : j = i := by omega
    subst this
    subst hx
    exact ⟨g, by rw [List.getElem?_append_right (by omega), hl, Nat.sub_self]; rfl, keep _ _ hg, hgb⟩

set_option maxRecDepth 100000 in
set_option maxHeartbeats 2000000 in
theorem twins_any {w : World} {r : Option Addr} {len cap : Nat} {ps : List (List UInt8)} (hp : PartsAt w r len cap ps) (hsz : ∀ i, i < len → (ps[i]?.getD []).length ≤ 1099511627776) (hl : len ≤ 1048576) :
    Calls Try.prog 27 #[.slice r len cap] w fun e w' => ∃ v, e = .returned v ∧ TwinsAt w' w.heap.size v ps ∧ Below w.heap.size w w' := by
  have hmax : cap ≤ 9223372036854775807 := hp.hmax
  have hle := hp.hle
  have hlen := Lib.hid hp.hlen
  have Hsz := Lib.hid hsz
  clear hsz
  go_enter Try.func27, Try.ntmps27
  go_wp2
  go_loopw [3, 4] (fun v3 v4 wr => ∃ (i : Nat) (vs : List Value), i ≤ len ∧ v4 = .int .i64 (i : Int) ∧ wr.ownsRow w.heap.size 29 1 v3 i vs ∧ (∀ j, j < i → ∃ g, vs[j]? = some (.slice (some ⟨g, 0, none⟩) (ps[j]?.getD []).length ((ps[j]?.getD []).length + 3)) ∧ TwinAt wr g (ps[j]?.getD []) ∧ w.heap.size ≤ g) ∧ Below w.heap.size w wr) (fun _ v _ => len - (intOf v).toNat)
  case atStart => exact ⟨0, [], by omega, rfl, ⟨rfl, .inl ⟨rfl, rfl⟩⟩, fun j hj => by omega, Below.refl _ _⟩
  case round =>
    obtain ⟨i, vs, hi, rfl, ho, ht, hbel⟩ := hrel
    obtain ⟨rv, capv, rfl, _, _, hvl, _⟩ := ownsRow_shape ho
    have Ho := Lib.hid ho
    have Ht := Lib.hid ht
    have Hbel := Lib.hid hbel
    clear ho ht hvl
    by_cases hlt : i < len
    · obtain ⟨b, o, rfl, hc⟩ := hp.hcells (by omega)
      obtain ⟨ri, li, ci, hcell, hbi⟩ := hc i hlt
      have hcw : wr.cell? ⟨b, o + i, none⟩ = some (.slice ri li ci) := by rw [hbel.cell (p := ⟨b, o + i, none⟩) (block_lt_of_cell hcell)]; exact hcell
      have Hbw := Lib.hid (hbi.below hbel)
      have Hbl := Lib.hid hbi.hlen
      have hls : li ≤ 1099511627776 := by have := Hsz.out i hlt; rw [Hbl.out] at this; exact this
      clear hbel hc hcell hbi
      go_wp2_with (first
        | (go_at_call 36; refine (twin_any Hbw.out hls).mono ?_; rintro e w1 ⟨g, rfl, ht1, hg1, hb1⟩; have Ht1 := Lib.hid ht1; have Hb1 := Lib.hid hb1; clear ht1 hb1)
        | (refine wpList_append_part rfl _ _ rfl w.heap.size (.slice rv i capv) i vs (.slice (some ⟨g, 0, none⟩) li (li + 3)) _ rfl rfl rfl (ownsRow_below (ownsRow_below Ho.out Hb1.out) (below_one _ _)) (cell_row (heap_alloc_new _ _) rfl) (by omega) (by have := Hbel.out.size; have := Hb1.out.size; simp; omega) ?_; intro v5 w5 ho5 hg5))
      have hw1 : Below wr.heap.size wr (w1.alloc (.cells #[.slice (some ⟨g, 0, none⟩) li (li + 3)] 29)) := below_seq Hb1.out (below_one _ _)
      refine ⟨⟨i + 1, _, by omega, by go_num, ho5, twins_snoc (g := g) (by have := hlen.out; omega) (ownsRow_below Ho.out hw1) (fun j hj => ?_) (Ht1.out.below (below_one _ _)) ?_ _ (by rw [Hbl.out]) hg5, ?_⟩, by simp [intOf]; omega⟩
      · obtain ⟨g', h1, h2, h3⟩ := Ht.out j hj
        exact ⟨g', h1, h2.below hw1, h3⟩
      · have := Hbel.out.size; omega
      · exact ownsRow_grown (ownsRow_below Ho.out hw1) (Hbel.out.trans (hw1.mono Hbel.out.size)) (by have := Hbel.out.size; have := Hb1.out.size; simp; omega) hg5
    · obtain rfl : i = len := by omega
      clear hbel
      go_wp2
      go_ret
      exact ⟨_, rfl, ⟨vs, by rw [hlen.out]; exact Ho.out, by rw [hlen.out]; exact Ht.out⟩, Hbel.out⟩

/-! ### Joined -/
set_option maxRecDepth 100000 in
set_option maxHeartbeats 2000000 in
theorem joined_any {w : World} {r : Option Addr} {len cap : Nat} {ps : List (List UInt8)} (hp : PartsAt w r len cap ps) (hsz : ps.flatten.length ≤ 1099511627776) :
    Calls Try.prog 55 #[.slice r len cap] w fun e w' => ∃ v, e = .returned v ∧ OwnB w' w.heap.size v ps.flatten ∧ Below w.heap.size w w' := by
  have hmax : cap ≤ 9223372036854775807 := hp.hmax
  have hle := hp.hle
  have hlen := Lib.hid hp.hlen
  go_enter Try.func55, Try.ntmps55
  go_wp2
  go_loopw [3, 4] (fun v3 v4 wr => ∃ (i : Nat), i ≤ len ∧ v4 = .int .i64 (i : Int) ∧ OwnB wr w.heap.size v3 (ps.take i).flatten ∧ Below w.heap.size w wr) (fun _ v _ => len - (intOf v).toNat)
  case atStart => exact ⟨0, by omega, rfl, by simpa using ownB_none w w.heap.size, Below.refl _ _⟩
  case round =>
    obtain ⟨i, hi, rfl, ho, hbel⟩ := hrel
    obtain ⟨rv, capv, rfl, hbv, _⟩ := ho.at
    have Ho := Lib.hid ho
    have Hbel := Lib.hid hbel
    clear ho hbv
    by_cases hlt : i < len
    · obtain ⟨b, o, rfl, hc⟩ := hp.hcells (by omega)
      obtain ⟨ri, li, ci, hcell, hbi⟩ := hc i hlt
      have hcw : wr.cell? ⟨b, o + i, none⟩ = some (.slice ri li ci) := by rw [hbel.cell (p := ⟨b, o + i, none⟩) (block_lt_of_cell hcell)]; exact hcell
      have Hbw := Lib.hid (hbi.below hbel)
      have hil : i < ps.length := by have := hlen.out; omega
      have hap := flatten_take ps i hil
      have hsum : ((ps.take i).flatten).length + (ps[i]?.getD []).length ≤ 70368744177664 := by
        rw [← List.length_append, ← hap]
        have : ps.flatten = (ps.take (i + 1)).flatten ++ (ps.drop (i + 1)).flatten := by rw [← List.flatten_append, List.take_append_drop]
        rw [this, List.length_append] at hsz
        omega
      have Hap := Lib.hid hap
      have Hsum := Lib.hid hsum
      clear hbel hc hcell hbi hap hsum
      go_wp2_with (refine wpList_append_bytes rfl _ _ rfl w.heap.size _ _ _ ri li ci rfl rfl Ho.out Hbw.out Hsum.out Hbel.out.size ?_; intro v5 w5 ho5 hg5)
      refine ⟨⟨i + 1, by omega, by go_num, by rw [Hap.out]; exact ho5, Ho.out.below Hbel.out Hbel.out.size hg5⟩, by simp [intOf]; omega⟩
    · have hall : ps.take i = ps := List.take_of_length_le (by have := hlen.out; omega)
      have ho : OwnB wr w.heap.size (.slice rv (ps.take i).flatten.length capv) ps.flatten := by have := Ho.out; rw [hall] at this ⊢; exact this
      have Ho' := Lib.hid ho
      clear hbel ho hall Ho
      go_wp2
      go_ret
      exact ⟨_, rfl, Ho'.out, Hbel.out⟩
end Go.Proofs.Ytafakjdolnigaaa
