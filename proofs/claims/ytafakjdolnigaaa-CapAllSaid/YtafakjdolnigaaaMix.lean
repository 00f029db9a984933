/- The walk of (*sha.Hash).mix: the state becomes what the plain text says, the rest of the memory stays. -/
import Derived.Test.YtafakjdolnigaaaProg
import Derived.Test.YtafakjdolnigaaaSpread
import Derived.Test.YtafakjdolnigaaaMixA
namespace Go.Proofs.Ytafakjdolnigaaa
open Go.RowKit
set_option linter.unusedVariables false

/-- The cells of a hash. -/
def hashRow (on : Bool) (s : S8) (wait : List UInt8) (n : Nat) : Array Value := (Value.bool on :: (s.list.map W32 ++ (wait.map W8 ++ [.int .u64 (n : Int)]))).toArray

theorem hashRow_state (on : Bool) (s : S8) (wait : List UInt8) (n i : Nat) (h : i < 8) : (hashRow on s wait n)[1 + i]? = some (W32 (s.list[i]?.getD 0)) := by
  have hl : s.list.length = 8 := rfl
  simp [hashRow, List.getElem?_append, Nat.add_comm 1 i, hl, h]
theorem hashRow_wait (on : Bool) (s : S8) (wait : List UInt8) (n i : Nat) (h : i < wait.length) : (hashRow on s wait n)[9 + i]? = some (W8 (wait[i]?.getD 0)) := by
  have hl : s.list.length = 8 := rfl
  have e : 9 + i = (8 + i) + 1 := by omega
  simp [hashRow, e, List.getElem?_append, hl, h]
theorem hashRow_on (on : Bool) (s : S8) (wait : List UInt8) (n : Nat) : (hashRow on s wait n)[0]? = some (.bool on) := by simp [hashRow]
theorem hashRow_n (on : Bool) (s : S8) (wait : List UInt8) (n : Nat) (h : wait.length = 64) : (hashRow on s wait n)[73]? = some (.int .u64 (n : Int)) := by
  have hl : s.list.length = 8 := rfl
  simp [hashRow, hl, h]
theorem hashRow_size (on : Bool) (s : S8) (wait : List UInt8) (n : Nat) (h : wait.length = 64) : (hashRow on s wait n).size = 74 := by
  have hl : s.list.length = 8 := rfl
  simp [hashRow, hl, h]

def S8.set (s : S8) (i : Nat) (x : UInt32) : S8 :=
  match i with
  | 0 => { s with a := x } | 1 => { s with b := x } | 2 => { s with c := x } | 3 => { s with d := x }
  | 4 => { s with e := x } | 5 => { s with f := x } | 6 => { s with g := x } | 7 => { s with h := x } | _ => s

/-- The first j words of t added to s's. -/
def addTo (s t : S8) : Nat → S8
  | 0 => s
  | j + 1 => (addTo s t j).set j ((addTo s t j).list[j]?.getD 0 + t.list[j]?.getD 0)
theorem addTo_all (s t : S8) : addTo s t 8 = s.add t := rfl

theorem hashRow_setState (on : Bool) (s : S8) (wait : List UInt8) (n i : Nat) (x : UInt32) (h : i < 8) : (hashRow on s wait n).setIfInBounds (1 + i) (W32 x) = hashRow on (s.set i x) wait n := by
  have : i = 0 ∨ i = 1 ∨ i = 2 ∨ i = 3 ∨ i = 4 ∨ i = 5 ∨ i = 6 ∨ i = 7 := by omega
  rcases this with rfl | rfl | rfl | rfl | rfl | rfl | rfl | rfl <;> simp [hashRow, S8.set, S8.list]

set_option maxRecDepth 100000 in
set_option maxHeartbeats 4000000 in
theorem mix_any (b : Nat) (s : S8) (wait : List UInt8) (n : Nat) (w : World) (hl : wait.length = 64) (hb : w.heap[b]? = some (.cells (hashRow true s wait n) 64 (0, 0))) :
    Calls Try.prog 80 #[.pointer (some ⟨b, 0, none⟩)] w fun e w' => e = .returned (.tuple #[]) ∧ w'.heap[b]? = some (.cells (hashRow true (mixed s wait) wait n) 64 (0, 0)) ∧ w.grownBy w' (some b) := by
  have hblt := heap_lt hb
  go_enter Try.func80, Try.ntmps80
  go_wp2_with fail
  refine region_m (fun w' => Below w.heap.size w w') (by kernel_rfl) drawn_below ?_
  have hb' : ∀ w', Below w.heap.size w w' → w'.heap[b]? = some (.cells (hashRow true s wait n) 64 (0, 0)) := fun w' h => (h.block b hblt).trans hb
  change mAny Try.prog .any ops80 _ _ 15 (Array.replicate 15 false) _ _
  refine m_quiet 1 _ (.pointer (some ⟨b, 0, none⟩)) rfl (by kernel_rfl) (by kernel_rfl) (by kernel_rfl) drawn_below rfl (fun _ _ => rfl) ?_
  refine m_quiet 2 _ (.pointer (some ⟨b, 0, none⟩)) rfl (by kernel_rfl) (by kernel_rfl) (by kernel_rfl) drawn_below rfl (fun _ _ => rfl) ?_
  refine m_quiet 3 _ (.pointer (some ⟨b, 9, none⟩)) rfl (by kernel_rfl) (by kernel_rfl) (by kernel_rfl) drawn_below rfl (fun _ _ => by kernel_rfl) ?_
  refine m_quiet 5 _ (.pointer (some ⟨b, 0, none⟩)) rfl (by kernel_rfl) (by kernel_rfl) (by kernel_rfl) drawn_below rfl (fun _ _ => rfl) ?_
  refine m_quiet 6 _ (.pointer (some ⟨b, 0, none⟩)) rfl (by kernel_rfl) (by kernel_rfl) (by kernel_rfl) drawn_below rfl (fun _ _ => rfl) ?_
  refine m_quiet 7 _ (.pointer (some ⟨b, 1, none⟩)) rfl (by kernel_rfl) (by kernel_rfl) (by kernel_rfl) drawn_below rfl (fun _ _ => by kernel_rfl) ?_
  refine m_quiet 8 _ (.agg (row32 s.list)) rfl (by kernel_rfl) (by kernel_rfl) (by kernel_rfl) drawn_below rfl (fun w' hw' => exec_load_sub b 1 61 (row32 s.list) _ rfl rfl ?_ Try.underlying61 rfl (info61 s)) ?_
  · intro j hj
    have hj8 : j < 8 := hj
    rw [row32_at _ _ hj8]
    exact cell_row (hb' w' hw') (hashRow_state true s wait n j hj8)
  refine run80 w b s wait hl hblt ?_ _ ?_ 8 0 false false false undef undef undef undef undef _ (by omega) (by omega) (by omega) (by omega) rfl ⟨drawn_below, by omega, by omega, (fun h => nomatch h), (fun h => nomatch h), (fun h => nomatch h), (fun h => nomatch h), (fun h => nomatch h), (fun h => nomatch h)⟩
  · exact fun i hi => cell_row hb (hashRow_wait true s wait n i (by omega))
  · intro v2 v3 v4 w1 jj _
    obtain ⟨hbel, _, _, b2, b3, b4, n23, n24, n34⟩ := jj
    obtain ⟨p2, rfl, hp2, h2⟩ := b2 rfl
    obtain ⟨p3, rfl, hp3, h3⟩ := b3 rfl
    obtain ⟨p4, rfl, hp4, h4⟩ := b4 rfl
    have e23 : p2 ≠ p3 := fun e => n23 rfl rfl (by rw [e])
    have e24 : p2 ≠ p4 := fun e => n24 rfl rfl (by rw [e])
    have e34 : p3 ≠ p4 := fun e => n34 rfl rfl (by rw [e])
    replace h2 : w1.heap[p2]? = some (.cells (row32 primes) 122 (0, 0)) := h2
    replace h3 : w1.heap[p3]? = some (.cells (row32 (spread wait)) 122 (0, 0)) := h3
    replace h4 : w1.heap[p4]? = some (.cells (row32 s.list) 61 (0, 0)) := h4
    clear n23 n24 n34 b2 b3 b4
    have hb1 := hb' w1 hbel
    clear hb'
    simp only [fr80]
    go_wp2_with fail
    go_loopw [20] (fun i wr => ∃ k : Nat, k ≤ 64 ∧ i = .int .i64 k ∧ wr.heap[p2]? = some (.cells (row32 primes) 122 (0, 0)) ∧ wr.heap[p3]? = some (.cells (row32 (spread wait)) 122 (0, 0)) ∧
        wr.heap[p4]? = some (.cells (row32 (roundsTo primes (spread wait) s k).list) 61 (0, 0)) ∧ wr.heap[b]? = some (.cells (hashRow true s wait n) 64 (0, 0)) ∧ Below w.heap.size w wr)
      (fun i _ => 64 - (intOf i).toNat)
    case atStart => exact ⟨0, by omega, rfl, h2, h3, h4, hb1, hbel⟩
    case round =>
      clear h2 h3 h4 hb1 hbel
      obtain ⟨k, hk, rfl, h2, h3, h4, hb1, hbel⟩ := hrel
      by_cases hlt : k < 64
      · have hspl := spread_length wait
        have hr := Lib.hid (show roundsTo primes (spread wait) s (k + 1) = rnd (roundsTo primes (spread wait) s k) (primes[k]?.getD 0) ((spread wait)[k]?.getD 0) from rfl)
        have cp := cell_row h2 (row32_at primes k hlt)
        have cs := cell_row h3 (row32_at (spread wait) k (by omega))
        generalize roundsTo primes (spread wait) s k = st at *
        generalize primes[k]?.getD 0 = pk at *
        generalize (spread wait)[k]?.getD 0 = wk at *
        have c0 : wr.cell? ⟨p4, 0, none⟩ = some (W32 st.a) := cell_row h4 rfl
        have c1 : wr.cell? ⟨p4, 1, none⟩ = some (W32 st.b) := cell_row h4 rfl
        have c2 : wr.cell? ⟨p4, 2, none⟩ = some (W32 st.c) := cell_row h4 rfl
        have c3 : wr.cell? ⟨p4, 3, none⟩ = some (W32 st.d) := cell_row h4 rfl
        have c4 : wr.cell? ⟨p4, 4, none⟩ = some (W32 st.e) := cell_row h4 rfl
        have c5 : wr.cell? ⟨p4, 5, none⟩ = some (W32 st.f) := cell_row h4 rfl
        have c6 : wr.cell? ⟨p4, 6, none⟩ = some (W32 st.g) := cell_row h4 rfl
        have c7 : wr.cell? ⟨p4, 7, none⟩ = some (W32 st.h) := cell_row h4 rfl
        have k0 : (k : Int) < 64 := by omega
        have H2 := Lib.hid h2
        have H3 := Lib.hid h3
        have H4 := Lib.hid h4
        have Hb1 := Lib.hid hb1
        have Hbel := Lib.hid hbel
        have Hspl := Lib.hid hspl
        clear h2 h3 h4 hb1 hbel hspl
        go_wp2_with fail
        refine region_q (fun w' => w' = wr.drew) (by kernel_rfl) (by kernel_rfl) rfl ?_
        repeat (refine wpQuiet_step (fun K hK => ?_); go_simp; (try go_bits); first | (refine hK _ ?_; clear hK K) | (refine ⟨_, (rot_n _ _ (by omega) _).mono (fun e w' h => ⟨h.1, h.2.symm⟩), hK _ ?_⟩; clear hK K))
        refine wpQuiet_nil ?_
        rintro _ rfl
        go_wp2_with fail
        refine region_q (fun w' => w' = wr.drew.drew) (by kernel_rfl) (by kernel_rfl) rfl ?_
        repeat (refine wpQuiet_step (fun K hK => ?_); go_simp; (try go_bits); first | (refine hK _ ?_; clear hK K))
        refine wpQuiet_nil ?_
        rintro _ rfl
        go_wp2_with fail
        refine region_q (fun w' => w' = wr.drew.drew.drew) (by kernel_rfl) (by kernel_rfl) rfl ?_
        repeat (refine wpQuiet_step (fun K hK => ?_); go_simp; (try go_bits); first | (refine hK _ ?_; clear hK K) | (refine ⟨_, (rot_n _ _ (by omega) _).mono (fun e w' h => ⟨h.1, h.2.symm⟩), hK _ ?_⟩; clear hK K))
        refine wpQuiet_nil ?_
        rintro _ rfl
        go_wp2_with (first | (refine wpList_store_row rfl 61 _ _ rfl p4 (row32 (rnd st pk wk).list) rfl rfl 61 _ H4.out (info61 _) rfl (row32_one _) ?_))
        go_roundw
        case rel =>
          exact ⟨k + 1, by omega, by go_num, (setRow_other _ _ _ _ e24).trans H2.out, (setRow_other _ _ _ _ e34).trans H3.out, by rw [hr.out]; exact setRow_heap _ _ _ _ _ _ H4.out, (setRow_other _ _ _ _ (by omega)).trans Hb1.out, (below_row Hbel.out hp4 _).drew.drew.drew⟩
        case measure => simp [intOf]; omega
      · have hk64 : k = 64 := by omega
        rw [hk64] at h4
        clear hk64
        have hm := Lib.hid (show mixed s wait = s.add (roundsTo primes (spread wait) s 64) from rfl)
        generalize roundsTo primes (spread wait) s 64 = st at *
        go_wp2_with fail
        go_loopw [110] (fun i wr => ∃ j : Nat, j ≤ 8 ∧ i = .int .i64 j ∧ wr.heap[p4]? = some (.cells (row32 st.list) 61 (0, 0)) ∧ wr.heap[b]? = some (.cells (hashRow true (addTo s st j) wait n) 64 (0, 0)) ∧ w.grownBy wr (some b))
          (fun i _ => 8 - (intOf i).toNat)
        case atStart => exact ⟨0, by omega, rfl, h4, hb1, below_grown hbel _⟩
        case round =>
          clear h4 hb1 hbel h2 h3
          obtain ⟨j, hj, rfl, h4, hb1, hgr⟩ := hrel
          have hpb : p4 ≠ b := by omega
          by_cases hlt : j < 8
          · have ha := Lib.hid (show addTo s st (j + 1) = (addTo s st j).set j ((addTo s st j).list[j]?.getD 0 + st.list[j]?.getD 0) from rfl)
            generalize addTo s st j = sj at *
            have cb := cell_row hb1 (hashRow_state true sj wait n j hlt)
            have c4 := cell_row h4 (row32_at st.list j hlt)
            have fb := frozen_of_row wr b (1 + j) _ _ hb1
            have j0 : (j : Int) < 8 := by omega
            have Hb1 := Lib.hid hb1
            have H4 := Lib.hid h4
            have Hgr := Lib.hid hgr
            clear hb1 h4 hgr
            generalize sj.list[j]?.getD 0 = xj at *
            generalize st.list[j]?.getD 0 = yj at *
            go_wp2_with fail
            refine region_ht (fun w' => w' = wr.drew) 13 (by kernel_rfl) (by kernel_rfl) rfl ?_
            simp only [List.take_succ_cons, List.take_zero, List.drop_succ_cons, List.drop_zero]
            repeat (refine wpQuiet_step (fun K hK => ?_); go_simp; (try go_bits); refine hK _ ?_; clear hK K)
            refine wpQuiet_nil ?_
            rintro _ rfl
            go_wp2
            go_roundw
            case rel =>
              exact ⟨j + 1, by omega, by go_num, (heap_setCell_other _ _ _ _ hpb).trans H4.out, by rw [ha.out, ← hashRow_setState _ _ _ _ _ _ hlt]; exact heap_setCell_same _ _ _ _ _ _ Hb1.out, grown_drew (grown_setCell Hgr.out _ _)⟩
            case measure => simp [intOf]; omega
          · obtain rfl : j = 8 := by omega
            go_wp2
            go_end0
            exact ⟨rfl, by rw [hm.out, ← addTo_all]; exact hb1, hgr⟩
end Go.Proofs.Ytafakjdolnigaaa
