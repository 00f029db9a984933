/- cap.May and its reference. The reference's May. -/
import Derived.Test.YtafakjdolnigaaaGHead
import Derived.Test.YtafakjdolnigaaaFrameBack
namespace Go.Proofs.Ytafakjdolnigaaa
open Go.RowKit
set_option linter.unusedVariables false

theorem CavsAt.below {w w' : World} {r : Option Addr} {len cap : Nat} {cs : List (UInt8 × Int)} (h : CavsAt w r len cap cs) (hb : Below w.heap.size w w') : CavsAt w' r len cap cs :=
  ⟨h.hlen, h.hle, h.hmax, fun h0 => by
    obtain ⟨b, o, hr, hc⟩ := h.hcells h0
    refine ⟨b, o, hr, fun i hi => ?_⟩
    have e : ∀ (x : Nat) (v : Value), w.cell? ⟨b, x, none⟩ = some v → w'.cell? ⟨b, x, none⟩ = some v := fun x v hv => by
      have hlt : b < w.heap.size := by
        rcases Nat.lt_or_ge b w.heap.size with h1 | h1
        · exact h1
        · simp [World.cell?, Array.getElem?_eq_none h1] at hv
      rw [World.cell?] at hv ⊢
      rw [hb.block b hlt]
      exact hv
    exact ⟨e _ _ (hc i hi).1, e _ _ (hc i hi).2⟩, h.hnil, h.hwf⟩

/-- P14.1. -/
noncomputable def mayOk (t : Tok) (cs : List (UInt8 × Int)) : Bool := (t.tn.toList.isEmpty || nameOk t.tn) && decide (t.r < 16) && decide (cs.length ≤ 8) && cs.all (fun c => decide (c.1 < 16))

set_option maxRecDepth 100000 in
set_option maxHeartbeats 2000000 in
theorem may_any {w : World} {t : Tok} {r : Option Addr} {len cap : Nat} {cs : List (UInt8 × Int)} (ht : t.Ok) (h : CavsAt w r len cap cs) :
    Calls Try.prog 43 #[.agg (tokRow t (.slice r len cap))] w fun e w' => e = .returned (.bool (mayOk t cs)) ∧ Below w.heap.size w w' := by
  have hcl := h.hlen
  subst hcl
  obtain ⟨B, hB⟩ : ∃ B, B = mayOk t cs := ⟨_, rfl⟩
  rw [← hB]
  have Ht := Lib.hid ht.tag
  have H := Lib.hid h
  clear ht h
  obtain ⟨s, tn, rr, f, u, tag⟩ := t
  obtain ⟨N, hN⟩ : ∃ N, N = nameOk tn := ⟨_, rfl⟩
  have hB' : B = ((tn.toList.isEmpty || N) && decide (rr < 16) && decide (cs.length ≤ 8) && cs.all (fun c => decide (c.1 < 16))) := by rw [hB, hN]; rfl
  clear hB
  have n83 : ∀ w, Calls Try.prog 83 #[.string tn] w fun e w' => e = .returned (.bool N) ∧ w = w' := fun w => by rw [hN]; exact namesMay_any w tn
  have HB := Lib.hid hB'
  have N83 := Lib.hid n83
  clear hN n83 hB'
  go_enter Try.func43, Try.ntmps43
  go_upto_region 1 with (refine wpList_box rfl 51 _ rfl (tokRow _ _) rfl ?_)
  have r0 := heap_alloc_new w (.cells (tokRow ⟨s, tn, rr, f, u, tag⟩ (.slice r cs.length cap)) 51)
  refine abstract_world (fun W => W.heap[w.heap.size]? = some (.cells (tokRow ⟨s, tn, rr, f, u, tag⟩ (.slice r cs.length cap)) 51 (0, 0)) ∧ Below w.heap.size w W) ⟨r0, below_one _ _⟩ ?_
  clear r0
  rintro w1 ⟨r0, r1⟩
  have T := tok_in r0 Ht.out
  have c1 := T.c1
  have c2 := T.c2
  have c5 := T.c5
  simp only at c1 c2 c5
  have R0 := Lib.hid r0
  have R1 := Lib.hid r1
  clear T r0 r1
  by_cases hEN : tn.toList.isEmpty = false ∧ N = false
  · obtain ⟨hE, rfl⟩ := hEN
    have hb : B = false := by rw [HB.out, hE]; rfl
    subst hb
    go_wp2_with (go_at_call 83; refine (N83.out _).mono ?_; rintro e w2 ⟨rfl, rfl⟩)
    go_ret
    exact ⟨rfl, R1.out⟩
  have hEN2 : tn.toList.isEmpty = true ∨ (tn.toList.isEmpty = false ∧ N = true) := by
    cases hE : tn.toList.isEmpty <;> cases N <;> simp_all
  have HB2 : Hid (B = (decide (rr < 16) && decide (cs.length ≤ 8) && cs.all (fun c => decide (c.1 < 16)))) := Lib.hid (by
    rw [HB.out]
    rcases hEN2 with h | ⟨h, h2⟩
    · rw [h]; simp
    · rw [h, h2]; simp)
  clear hEN HB
  rcases hEN2 with hE | ⟨hE, rfl⟩
  all_goals
    by_cases hr : rr < 16
    · by_cases hl : cs.length ≤ 8
      · have HB3 : Hid (B = cs.all (fun c => decide (c.1 < 16))) := Lib.hid (by rw [HB2.out, decide_eq_true hr, decide_eq_true hl]; rfl)
        go_upto_region 3 with (first
          | (go_at_call 83; refine (N83.out _).mono ?_; rintro e w2 ⟨rfl, rfl⟩)
          | (go_at_call 84; refine (rightsMay_any _ rr).mono ?_; rintro e w2 ⟨rfl, rfl⟩))
        clear c1 c2
        go_upto_region 4 with (fail)
        clear c5
        go_loopw [29] (fun v wr => ∃ k : Nat, k ≤ cs.length ∧ v = .int .i64 (k : Int) ∧ (∀ i, i < k → (cs[i]?.getD (0, 0)).1 < 16) ∧ Below w1.heap.size w1 wr) (fun v _ => cs.length - (intOf v).toNat)
        case atStart => exact ⟨0, by omega, rfl, fun i hi => by omega, Below.refl _ _⟩
        case round =>
          obtain ⟨k, hk, rfl, hall, hb⟩ := hrel
          have Hall := Lib.hid hall
          have Hb := Lib.hid hb
          clear hall hb
          by_cases hlt : k < cs.length
          · obtain ⟨b, o, rfl, hc⟩ := ((H.out.below R1.out).below Hb.out).hcells (by omega)
            obtain ⟨hc1, hc2⟩ := hc k hlt
            obtain ⟨⟨x, z⟩, hxz⟩ : ∃ c, c = cs[k]?.getD (0, 0) := ⟨_, rfl⟩
            rw [← hxz] at hc1 hc2
            have Hxz := Lib.hid hxz
            have hcap := H.out.hmax
            have hle := H.out.hle
            unfold maxLen at hcap
            clear hc hxz
            go_upto_region 6 with (first
              | (refine wpList_allocRow 87 _ alloc87 rfl rfl ?_)
              | (refine wpList_store_row rfl 87 _ _ rfl _ (cavRow x z) rfl rfl 87 _ (heap_alloc_new _ _) (info87 x z) rfl (cavRow_one x z) ?_))
            have r0 : ((wr.alloc (.cells (cavRow 0 0) 87)).setRow wr.heap.size (cavRow x z)).heap[wr.heap.size]? = some (.cells (cavRow x z) 87 (0, 0)) := setRow_heap _ _ _ _ _ _ (heap_alloc_new _ _)
            have r1 : Below w1.heap.size w1 ((wr.alloc (.cells (cavRow 0 0) 87)).setRow wr.heap.size (cavRow x z)) := below_row (below_seq Hb.out (below_one _ _)) Hb.out.size _
            refine abstract_world (fun W => W.heap[wr.heap.size]? = some (.cells (cavRow x z) 87 (0, 0)) ∧ Below w1.heap.size w1 W) ⟨r0, r1⟩ ?_
            clear r0 r1 hc1 hc2
            generalize wr.heap.size = g4 at *
            rintro w4 ⟨r0, r1⟩
            have c0 : w4.cell? ⟨g4, 0, none⟩ = some (W8 x) := cell_row r0 rfl
            have Hb4 := Lib.hid r1
            clear r0 r1
            by_cases hx : x < 16
            · go_wp2_with (go_at_call 84; refine (rightsMay_any _ x).mono ?_; rintro e w5 ⟨rfl, rfl⟩)
              exact ⟨⟨k + 1, by omega, by go_num, fun i hi => (by rcases Nat.lt_succ_iff_lt_or_eq.1 hi with h1 | h1; exact Hall.out i h1; subst h1; rw [← Hxz.out]; exact hx), Hb4.out⟩, by simp [intOf]; omega⟩
            · have hb : B = false := by
                rw [HB3.out, ← Bool.not_eq_true, List.all_eq_true]
                intro hh
                have h1 := hh cs[k] (List.getElem_mem hlt)
                have h2 := Hxz.out
                rw [List.getElem?_eq_getElem hlt] at h2
                have h3 : x = cs[k].1 := congrArg Prod.fst h2
                rw [← h3] at h1
                exact hx (by simpa using h1)
              subst hb
              go_wp2_with (go_at_call 84; refine (rightsMay_any _ x).mono ?_; rintro e w5 ⟨rfl, rfl⟩)
              go_ret
              exact ⟨rfl, below_seq R1.out Hb4.out⟩
          · obtain rfl : k = cs.length := by omega
            have hb : B = true := by
              rw [HB3.out, List.all_eq_true]
              intro c hc
              obtain ⟨i, hi, rfl⟩ := List.getElem_of_mem hc
              have := Hall.out i hi
              rw [List.getElem?_eq_getElem hi] at this
              simpa using this
            subst hb
            go_wp2
            go_ret
            exact ⟨rfl, below_seq R1.out Hb.out⟩
      · have hb : B = false := by rw [HB2.out, decide_eq_false hl]; simp
        subst hb
        go_wp2_with (first
          | (go_at_call 83; refine (N83.out _).mono ?_; rintro e w2 ⟨rfl, rfl⟩)
          | (go_at_call 84; refine (rightsMay_any _ rr).mono ?_; rintro e w2 ⟨rfl, rfl⟩))
        go_ret
        exact ⟨rfl, R1.out⟩
    · have hb : B = false := by rw [HB2.out, decide_eq_false hr]; simp
      subst hb
      go_wp2_with (first
        | (go_at_call 83; refine (N83.out _).mono ?_; rintro e w2 ⟨rfl, rfl⟩)
        | (go_at_call 84; refine (rightsMay_any _ rr).mono ?_; rintro e w2 ⟨rfl, rfl⟩))
      go_ret
      exact ⟨rfl, R1.out⟩
end Go.Proofs.Ytafakjdolnigaaa

namespace Go.Proofs.Ytafakjdolnigaaa
open Go.RowKit
set_option linter.unusedVariables false

theorem lt16 {r : UInt8} (h : r < 16) : ¬15 < r := by
  have h1 : r.toNat < 16 := h
  intro h2
  have h3 : 15 < r.toNat := h2
  omega
theorem nlt16 {r : UInt8} (h : ¬r < 16) : 15 < r := by
  have h1 : ¬r.toNat < 16 := h
  show 15 < r.toNat
  omega

set_option maxRecDepth 100000 in
set_option maxHeartbeats 2000000 in
theorem refMay_any {w : World} {t : Tok} {r : Option Addr} {len cap : Nat} {cs : List (UInt8 × Int)} (ht : t.Ok) (h : CavsAt w r len cap cs) :
    Calls Try.prog 75 #[.agg (tokRow t (.slice r len cap))] w fun e w' => e = .returned (.bool (mayOk t cs)) ∧ Below w.heap.size w w' := by
  have hcl := h.hlen
  subst hcl
  obtain ⟨B, hB⟩ : ∃ B, B = mayOk t cs := ⟨_, rfl⟩
  rw [← hB]
  have Ht := Lib.hid ht.tag
  have H := Lib.hid h
  clear ht h
  obtain ⟨s, tn, rr, f, u, tag⟩ := t
  obtain ⟨N, hN⟩ : ∃ N, N = nameOk tn := ⟨_, rfl⟩
  have hB' : B = ((tn.toList.isEmpty || N) && decide (rr < 16) && decide (cs.length ≤ 8) && cs.all (fun c => decide (c.1 < 16))) := by rw [hB, hN]; rfl
  clear hB
  have n83 : ∀ w, Calls Try.prog 105 #[.string tn] w fun e w' => e = .returned (.bool N) ∧ w = w' := fun w => by rw [hN]; exact refNamesMay_any w tn
  have HB := Lib.hid hB'
  have N83 := Lib.hid n83
  clear hN n83 hB'
  go_enter Try.func75, Try.ntmps75
  go_upto_region 1 with (refine wpList_box rfl 51 _ rfl (tokRow _ _) rfl ?_)
  have r0 := heap_alloc_new w (.cells (tokRow ⟨s, tn, rr, f, u, tag⟩ (.slice r cs.length cap)) 51)
  refine abstract_world (fun W => W.heap[w.heap.size]? = some (.cells (tokRow ⟨s, tn, rr, f, u, tag⟩ (.slice r cs.length cap)) 51 (0, 0)) ∧ Below w.heap.size w W) ⟨r0, below_one _ _⟩ ?_
  clear r0
  rintro w1 ⟨r0, r1⟩
  have T := tok_in r0 Ht.out
  have c1 := T.c1
  have c2 := T.c2
  have c5 := T.c5
  simp only at c1 c2 c5
  have R0 := Lib.hid r0
  have R1 := Lib.hid r1
  clear T r0 r1
  by_cases hEN : tn.toList.isEmpty = false ∧ N = false
  · obtain ⟨hE, rfl⟩ := hEN
    have hb : B = false := by rw [HB.out, hE]; rfl
    subst hb
    go_wp2_with (go_at_call 105; refine (N83.out _).mono ?_; rintro e w2 ⟨rfl, rfl⟩)
    go_ret
    exact ⟨rfl, R1.out⟩
  have hEN2 : tn.toList.isEmpty = true ∨ (tn.toList.isEmpty = false ∧ N = true) := by
    cases hE : tn.toList.isEmpty <;> cases N <;> simp_all
  have HB2 : Hid (B = (decide (rr < 16) && decide (cs.length ≤ 8) && cs.all (fun c => decide (c.1 < 16)))) := Lib.hid (by
    rw [HB.out]
    rcases hEN2 with h | ⟨h, h2⟩
    · rw [h]; simp
    · rw [h, h2]; simp)
  clear hEN HB
  rcases hEN2 with hE | ⟨hE, rfl⟩
  all_goals
    by_cases hr : rr < 16
    · have hr15 : (15 < rr) = False := by simpa using lt16 hr
      by_cases hl : cs.length ≤ 8
      · have HB3 : Hid (B = cs.all (fun c => decide (c.1 < 16))) := Lib.hid (by rw [HB2.out, decide_eq_true hr, decide_eq_true hl]; rfl)
        go_upto_region 3 with (first
          | (go_at_call 105; refine (N83.out _).mono ?_; rintro e w2 ⟨rfl, rfl⟩))
        clear c1 c2
        go_upto_region 4 with (fail)
        go_loopw [3] (fun v wr => ∃ k : Nat, k ≤ cs.length ∧ v = .int .i64 (k : Int) ∧ (∀ i, i < k → (cs[i]?.getD (0, 0)).1 < 16) ∧ w1 = wr) (fun v _ => cs.length - (intOf v).toNat)
        case atStart => exact ⟨0, by omega, rfl, fun i hi => by omega, rfl⟩
        case round =>
          obtain ⟨k, hk, rfl, hall, rfl⟩ := hrel
          have Hall := Lib.hid hall
          clear hall
          by_cases hlt : k < cs.length
          · obtain ⟨b, o, rfl, hc⟩ := (H.out.below R1.out).hcells (by omega)
            obtain ⟨hc1, hc2⟩ := hc k hlt
            obtain ⟨⟨x, z⟩, hxz⟩ : ∃ c, c = cs[k]?.getD (0, 0) := ⟨_, rfl⟩
            rw [← hxz] at hc1 hc2
            have Hxz := Lib.hid hxz
            have hcap := H.out.hmax
            have hle := H.out.hle
            unfold maxLen at hcap
            clear hc hxz
            by_cases hx : x < 16
            · have hx15 : (15 < x) = False := by simpa using lt16 hx
              go_wp2
              exact ⟨⟨k + 1, by omega, by go_num, fun i hi => (by rcases Nat.lt_succ_iff_lt_or_eq.1 hi with h1 | h1; exact Hall.out i h1; subst h1; rw [← Hxz.out]; exact hx), trivial⟩, by simp [intOf]; omega⟩
            · have hx15 : (15 < x) = True := by simpa using nlt16 hx
              have hb : B = false := by
                rw [HB3.out, ← Bool.not_eq_true, List.all_eq_true]
                intro hh
                have h1 := hh cs[k] (List.getElem_mem hlt)
                have h2 := Hxz.out
                rw [List.getElem?_eq_getElem hlt] at h2
                have h3 : x = cs[k].1 := congrArg Prod.fst h2
                rw [← h3] at h1
                exact hx (by simpa using h1)
              subst hb
              go_wp2
              go_ret
              exact ⟨rfl, R1.out⟩
          · obtain rfl : k = cs.length := by omega
            have hb : B = true := by
              rw [HB3.out, List.all_eq_true]
              intro c hc
              obtain ⟨i, hi, rfl⟩ := List.getElem_of_mem hc
              have := Hall.out i hi
              rw [List.getElem?_eq_getElem hi] at this
              simpa using this
            subst hb
            go_wp2
            go_ret
            exact ⟨rfl, R1.out⟩
      · have hb : B = false := by rw [HB2.out, decide_eq_false hl]; simp
        subst hb
        go_wp2_with (first
          | (go_at_call 105; refine (N83.out _).mono ?_; rintro e w2 ⟨rfl, rfl⟩))
        go_ret
        exact ⟨rfl, R1.out⟩
    · have hr15 : (15 < rr) = True := by simpa using nlt16 hr
      have hb : B = false := by rw [HB2.out, decide_eq_false hr]; simp
      subst hb
      go_wp2_with (first
        | (go_at_call 105; refine (N83.out _).mono ?_; rintro e w2 ⟨rfl, rfl⟩))
      go_ret
      exact ⟨rfl, R1.out⟩
end Go.Proofs.Ytafakjdolnigaaa
