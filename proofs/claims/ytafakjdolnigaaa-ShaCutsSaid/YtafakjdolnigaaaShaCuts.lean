/- The walks of cofferlaw0.Cut and cofferlaw2.ShaCuts. -/
import Derived.Test.YtafakjdolnigaaaLib0
import Derived.Test.YtafakjdolnigaaaShaCopies
namespace Go.Proofs.Ytafakjdolnigaaa
open Go.RowKit
set_option linter.unusedVariables false

/-- Pieces of what came in (into the world wA), in a list of one's own. -/
structure Pieces (wA : World) (base : Nat) (w : World) (v : Value) (ps : List (List UInt8)) : Prop where
  own : ∃ vs, w.ownsRow base 29 1 v ps.length vs ∧ ∀ i, i < ps.length → ∃ r l c, vs[i]? = some (.slice r l c) ∧ BytesAt wA r l c (ps[i]?.getD [])
theorem pieces_none (wA w : World) (base : Nat) : Pieces wA base w (.slice none 0 0) [] := ⟨[], ⟨rfl, .inl ⟨rfl, rfl⟩⟩, fun i hi => by simp at hi⟩

theorem pieces_snoc {wA w' : World} {base : Nat} {ps : List (List UInt8)} {p : List UInt8} {vs : List Value} {v : Value} {r : Option Addr} {l c : Nat} (hl : vs.length = ps.length) (hi : ∀ i, i < ps.length → ∃ r l c, vs[i]? = some (.slice r l c) ∧ BytesAt wA r l c (ps[i]?.getD []))
    (hp : BytesAt wA r l c p) (ho : w'.ownsRow base 29 1 v (ps.length + 1) (vs ++ [.slice r l c])) : Pieces wA base w' v (ps ++ [p]) := by
  refine ⟨_, by rw [List.length_append]; exact ho, fun i h => ?_⟩
  rw [List.length_append] at h
  by_cases h1 : i < ps.length
  · obtain ⟨r', l', c', h2, h3⟩ := hi i h1
    exact ⟨r', l', c', by rw [List.getElem?_append_left (by omega)]; exact h2, by rw [List.getElem?_append_left h1]; exact h3⟩
  · have : i = ps.length := by simp at h; omega
    subst this
    exact ⟨r, l, c, by rw [← hl]; simp, by simpa using hp⟩

/-- A list of parts of which no block is bad (one of a hash that is written to). -/
structure PartsX (w : World) (bad : Nat → Prop) (r : Option Addr) (len cap : Nat) (ps : List (List UInt8)) : Prop where
  hlen : ps.length = len
  hle : len ≤ cap
  hmax : cap ≤ maxLen
  hcells : 0 < len → ∃ b o, r = some ⟨b, o, none⟩ ∧ ¬ bad b ∧ ∀ i, i < len → ∃ ri li ci, w.cell? ⟨b, o + i, none⟩ = some (.slice ri li ci) ∧ BytesAt w ri li ci (ps[i]?.getD []) ∧ ∀ q, ri = some q → 0 < li → ¬ bad q.block
theorem PartsX.at {w : World} {bad : Nat → Prop} {r : Option Addr} {len cap : Nat} {ps : List (List UInt8)} (h : PartsX w bad r len cap ps) : PartsAt w r len cap ps :=
  ⟨h.hlen, h.hle, h.hmax, fun h0 => by
    obtain ⟨b, o, hr, _, hc⟩ := h.hcells h0
    refine ⟨b, o, hr, fun i hi => ?_⟩
    obtain ⟨ri, li, ci, h1, h2, _⟩ := hc i hi
    exact ⟨ri, li, ci, h1, h2⟩⟩
theorem PartsX.below {w w' : World} {bad : Nat → Prop} {r : Option Addr} {len cap : Nat} {ps : List (List UInt8)} (h : PartsX w bad r len cap ps) (hb : Below w.heap.size w w') : PartsX w' bad r len cap ps :=
  ⟨h.hlen, h.hle, h.hmax, fun h0 => by
    obtain ⟨b, o, hr, hnb, hc⟩ := h.hcells h0
    refine ⟨b, o, hr, hnb, fun i hi => ?_⟩
    obtain ⟨ri, li, ci, h1, h2, h3⟩ := hc i hi
    exact ⟨ri, li, ci, by rw [hb.cell (p := ⟨b, o + i, none⟩) (block_lt_of_cell h1)]; exact h1, h2.below hb, h3⟩⟩
theorem PartsX.grown {w w' : World} {bad : Nat → Prop} {r : Option Addr} {len cap x : Nat} {ps : List (List UInt8)} (h : PartsX w bad r len cap ps) (hg : w.grownBy w' (some x)) (hx : bad x) : PartsX w' bad r len cap ps :=
  ⟨h.hlen, h.hle, h.hmax, fun h0 => by
    obtain ⟨b, o, hr, hnb, hc⟩ := h.hcells h0
    refine ⟨b, o, hr, hnb, fun i hi => ?_⟩
    obtain ⟨ri, li, ci, h1, h2, h3⟩ := hc i hi
    refine ⟨ri, li, ci, hg.cell h1 (fun e => hnb (by have := Option.some.inj e; simp at this; rw [this]; exact hx)), h2.grown hg (fun q hq h0 e => h3 q hq h0 (by rw [Option.some.inj e]; exact hx)), h3⟩⟩

theorem Pieces.parts {wA w : World} {base : Nat} {v : Value} {ps : List (List UInt8)} (h : Pieces wA base w v ps) (hb : Below wA.heap.size wA w) (bad : Nat → Prop) (h1 : ∀ k, bad k → wA.heap.size ≤ k ∧ k < base) : ∃ r c, v = .slice r ps.length c ∧ PartsX w bad r ps.length c ps := by
  obtain ⟨vs, ho, hi⟩ := h.own
  obtain ⟨r, cap, hv, hle, hm, hl, hc⟩ := ownsRow_shape ho
  refine ⟨r, cap, hv, rfl, hle, hm, fun h0 => ?_⟩
  obtain ⟨b, hr, hbb, _, hcell⟩ := hc h0
  refine ⟨b, 0, hr, fun hbad => by have := (h1 b hbad).2; omega, fun i hi2 => ?_⟩
  obtain ⟨ri, li, ci, h2, h3⟩ := hi i hi2
  exact ⟨ri, li, ci, by rw [hcell i hi2, h2], h3.below hb, fun q hq h0 hbad => by have := h3.lt hq h0; have := (h1 _ hbad).1; omega⟩

set_option maxRecDepth 100000 in
set_option maxHeartbeats 2000000 in
theorem cut_any {wA w : World} {r rs : Option Addr} {len cap ls cs : Nat} {bs : List UInt8} {zs : List Int} (h : BytesAt wA r len cap bs) (hz : IntsAt w rs ls cs zs) (hsz : len ≤ 16384) (hls : ls ≤ 1024) :
    Calls Try.prog 35 #[.slice r len cap, .slice rs ls cs] w fun e w' => ∃ ps v, e = .returned v ∧ Pieces wA w.heap.size w' v ps ∧ ps.flatten = bs ∧ Below w.heap.size w w' := by
  go_enter Try.func35, Try.ntmps35
  go_wp2
  go_loopw [0, 5, 6] (fun v0 v5 v6 wr => ∃ (i : Nat) (ps : List (List UInt8)) (r0 : Option Addr) (len0 cap0 : Nat) (rest : List UInt8), v0 = .slice r0 len0 cap0 ∧ v6 = .int .i64 (i : Int) ∧ i ≤ ls ∧ ps.length ≤ i ∧ len0 ≤ 16384 ∧ BytesAt wA r0 len0 cap0 rest ∧ Pieces wA w.heap.size wr v5 ps ∧ ps.flatten ++ rest = bs ∧ Below w.heap.size w wr) (fun _ _ v _ => ls - (intOf v).toNat)
  case atStart => exact ⟨0, [], r, len, cap, bs, rfl, rfl, by omega, by simp, hsz, h, pieces_none wA w _, rfl, Below.refl _ _⟩
  case round =>
    obtain ⟨i, ps, r0, len0, cap0, rest, rfl, rfl, hi, hpi, hl0, hb0, hp, hfl, hbel⟩ := hrel
    obtain ⟨vs, ho, hvs⟩ := hp.own
    obtain ⟨rv, capv, rfl, _, _, hvl, _⟩ := ownsRow_shape ho
    clear hp
    by_cases hlt : i < ls
    · by_cases h0 : 0 < len0
      · obtain ⟨bz, oz, rfl, hcz⟩ := hz.hcells (by omega)
        have hcell : wr.cell? ⟨bz, oz + i, none⟩ = some (.int .i64 (zs[i]?.getD 0)) := by rw [hbel.cell (p := ⟨bz, oz + i, none⟩) (block_lt_of_cell (hcz i hlt))]; exact hcz i hlt
        have hwf : (Lit.int .i64 (zs[i]?.getD 0)).wf = true := by
          refine hz.hwf _ ?_
          rw [List.getElem?_eq_getElem (by have := hz.hlen; omega)]
          exact List.getElem_mem _
        obtain ⟨hp0, hp1⟩ := placeOf_range (zs[i]?.getD 0) (len0 : Int) (by omega)
        obtain ⟨m, hm⟩ : ∃ m : Nat, placeOf (zs[i]?.getD 0) (len0 : Int) = (m : Int) := ⟨(placeOf (zs[i]?.getD 0) (len0 : Int)).toNat, by omega⟩
        have hplace := place_any wr (zs[i]?.getD 0) (len0 : Int) hwf (by omega) (by omega)
        rw [hm] at hplace hp1
        have hml : m + 1 ≤ len0 := by omega
        have Hplace := Lib.hid hplace
        have Hbel := Lib.hid hbel
        have Hfl := Lib.hid hfl
        have Ho := Lib.hid ho
        have Hvs := Lib.hid hvs
        have Hvl := Lib.hid hvl
        have Hb0 := Lib.hid hb0
        generalize zs[i]?.getD 0 = z at *
        clear hplace hbel hfl ho hvs hvl hp0 hp1 hm hwf hcz hz h hb0
        go_wp2_with (first
          | (go_at_call 38; refine Hplace.out.mono ?_; rintro e w1 ⟨rfl, rfl⟩)
          | (refine wpList_slice rfl 29 5 _ none (some _) none rfl Try.underlying29 info5 r0 len0 cap0 rfl 0 (m + 1) cap0 rfl ⟨_, by go_num⟩ rfl (Nat.zero_le _) hml (Nat.le_trans hml Hb0.out.hle) (Nat.le_refl _) (by simp) Hb0.out ?_; intro r1 hr1 hblk1)
          | (refine wpList_slice rfl 29 5 _ (some _) none none rfl Try.underlying29 info5 r0 len0 cap0 rfl (m + 1) len0 cap0 ⟨_, by go_num⟩ rfl rfl hml (Nat.le_refl _) Hb0.out.hle (Nat.le_refl _) (by simp) Hb0.out ?_; intro r2 hr2 hblk2)
          | (refine wpList_append_part rfl _ _ rfl w.heap.size (.slice rv ps.length capv) ps.length vs (.slice r1 (m + 1) cap0) _ rfl rfl rfl (ownsRow_below Ho.out (below_one _ _)) (cell_row (heap_alloc_new _ _) rfl) (by omega) (by have := Hbel.out.size; simp; omega) ?_; intro v5 w5 ho5 hg5))
        simp only [Nat.sub_zero, List.drop_zero] at hr1
        rw [List.take_of_length_le (by have := Hb0.out.hlen; omega : rest.length ≤ len0)] at hr2
        refine ⟨⟨i + 1, ps ++ [rest.take (m + 1)], r2, len0 - (m + 1), cap0 - (m + 1), rest.drop (m + 1), rfl, by go_num, by omega, by simp; omega, by omega, hr2, pieces_snoc Hvl.out Hvs.out hr1 ho5, ?_, ?_⟩, by simp [intOf]; omega⟩
        · rw [List.flatten_append]
          simp only [List.flatten_cons, List.flatten_nil, List.append_nil, List.append_assoc, List.take_append_drop]
          exact Hfl.out
        · exact ownsRow_grown (ownsRow_below Ho.out (below_one _ _)) (Hbel.out.trans ((below_one wr _).mono Hbel.out.size)) (by have := Hbel.out.size; simp; omega) hg5
      · have hrest : rest = [] := List.eq_nil_of_length_eq_zero (by have := hb0.hlen; omega)
        subst hrest
        rw [List.append_nil] at hfl
        have Hp := Lib.hid (⟨vs, ho, hvs⟩ : Pieces wA w.heap.size wr (.slice rv ps.length capv) ps)
        have Hbel := Lib.hid hbel
        have Hfl := Lib.hid hfl
        obtain rfl : len0 = 0 := by omega
        clear hbel hfl ho hvs hvl hb0 hz h
        go_wp2
        go_ret
        exact ⟨ps, _, rfl, Hp.out, Hfl.out, Hbel.out⟩
    · obtain rfl : i = ls := by omega
      by_cases h0 : 0 < len0
      · have Hbel := Lib.hid hbel
        have Hfl := Lib.hid hfl
        have Ho := Lib.hid ho
        have Hvs := Lib.hid hvs
        have Hvl := Lib.hid hvl
        have Hb0 := Lib.hid hb0
        clear hbel hfl ho hvs hvl hz h hb0
        go_wp2_with (refine wpList_append_part rfl _ _ rfl w.heap.size (.slice rv ps.length capv) ps.length vs (.slice r0 len0 cap0) _ rfl rfl rfl (ownsRow_below Ho.out (below_one _ _)) (cell_row (heap_alloc_new _ _) rfl) (by omega) (by have := Hbel.out.size; simp; omega) ?_; intro v5 w5 ho5 hg5)
        go_ret
        refine ⟨ps ++ [rest], _, rfl, pieces_snoc Hvl.out Hvs.out Hb0.out ho5, ?_, ?_⟩
        · rw [List.flatten_append]
          simpa using Hfl.out
        · exact ownsRow_grown (ownsRow_below Ho.out (below_one _ _)) (Hbel.out.trans ((below_one wr _).mono Hbel.out.size)) (by have := Hbel.out.size; simp; omega) hg5
      · have hrest : rest = [] := List.eq_nil_of_length_eq_zero (by have := hb0.hlen; omega)
        subst hrest
        rw [List.append_nil] at hfl
        have Hp := Lib.hid (⟨vs, ho, hvs⟩ : Pieces wA w.heap.size wr (.slice rv ps.length capv) ps)
        have Hbel := Lib.hid hbel
        have Hfl := Lib.hid hfl
        obtain rfl : len0 = 0 := by omega
        clear hbel hfl ho hvs hvl hb0 hz h
        go_wp2
        go_ret
        exact ⟨ps, _, rfl, Hp.out, Hfl.out, Hbel.out⟩

set_option maxRecDepth 100000 in
set_option maxHeartbeats 4000000 in
theorem shaCuts_walk {w : World} {ra rs rm : Option Addr} {la ca ls cs lm cm : Nat} {a : List UInt8} {zs zm : List Int} (A : BytesAt w ra la ca a) (S : IntsAt w rs ls cs zs) (M : IntsAt w rm lm cm zm) :
    Calls Try.prog 4 #[.slice ra la ca, .slice rs ls cs, .slice rm lm cm] w fun e w' => e = .returned (.bool true) ∧ Below w.heap.size w w' := by
  by_cases ha : 16384 < la
  · go_enter Try.func4, Try.ntmps4
    go_wp2_with (go_at_call 25; refine (begun2 _).mono ?_; rintro e w1 ⟨rfl, h1⟩)
    go_ret
    exact ⟨rfl, h1⟩
  by_cases hb : 1024 < ls
  · go_enter Try.func4, Try.ntmps4
    go_wp2_with (go_at_call 25; refine (begun2 _).mono ?_; rintro e w1 ⟨rfl, h1⟩)
    go_ret
    exact ⟨rfl, h1⟩
  by_cases hc : 1024 < lm
  · go_enter Try.func4, Try.ntmps4
    go_wp2_with (go_at_call 25; refine (begun2 _).mono ?_; rintro e w1 ⟨rfl, h1⟩)
    go_ret
    exact ⟨rfl, h1⟩
  have hla := Lib.hid A.hlen
  go_enter Try.func4, Try.ntmps4
  go_upto_region 7 with (first
    | (go_at_call 25; refine (begun2 _).mono ?_; rintro e w1 ⟨rfl, h1⟩)
    | (go_at_call 28; refine (new_any w1).mono ?_; rintro e w2 ⟨x, rfl, hx2, hxl, h2⟩; have k2 := below_seq h1 h2; have hxw : w.heap.size ≤ x := Nat.le_trans h1.size hxl)
    | (go_at_call 28; refine (new_any w2).mono ?_; rintro e w3 ⟨y, rfl, hy3, hyl, h3⟩; have k3 := below_seq k2 h3; have hyw : w.heap.size ≤ y := Nat.le_trans k2.size hyl; have hx3 := hx2.below h3; have hxy : x < y := Nat.lt_of_lt_of_le hx2.lt hyl; clear h1 h2 h3 hxl hyl k2 hx2)
    | (go_at_call 35; with_reducible refine (cut_any A (S.below k3) (by omega) (by omega)).mono ?_; rintro e w4 ⟨ps, v9, rfl, hp4, hf4, h4⟩; have k4 := below_seq k3 h4; have hx4 := hx3.below h4; have hy4 := hy3.below h4; obtain ⟨rp, cp, rfl, P4⟩ := hp4.parts k4 (fun k => k = x ∨ k = y) (by have := hx3.lt; have := hy3.lt; rintro k (rfl | rfl) <;> constructor <;> omega); clear k3 hx3 hy3 hp4 h4)
    | (go_at_call 35; with_reducible refine (cut_any A (M.below k4) (by omega) (by omega)).mono ?_; rintro e w5 ⟨qs, v10, rfl, hq5, hf5, h5⟩; have k5 := below_seq k4 h5; have hx5 := hx4.below h5; have hy5 := hy4.below h5; have P5 := P4.below h5; obtain ⟨rq, cq, rfl, Q5⟩ := hq5.parts k5 (fun k => k = x ∨ k = y) (by have := hx4.lt; have := hy4.lt; rintro k (rfl | rfl) <;> constructor <;> omega); clear k4 hx4 hy4 hq5 h5 P4))
  have Q := Lib.hid Q5
  have P := Lib.hid P5
  have Fp := Lib.hid hf4
  have Fq := Lib.hid hf5
  have Hx := Lib.hid hx5
  have Hy := Lib.hid hy5
  have K5 := Lib.hid k5
  have L : ∀ (qs : List (List UInt8)) (i : Nat), qs.flatten = a → i < qs.length → ((qs.take i).flatten).length + (qs[i]?.getD []).length ≤ 1000000000000000000 := fun qs i hq hi => by
    rw [← List.length_append, ← flatten_take qs i hi]
    have : qs.flatten = (qs.take (i + 1)).flatten ++ (qs.drop (i + 1)).flatten := by rw [← List.flatten_append, List.take_append_drop]
    have h2 : a.length ≤ 1000000000000000000 := by have := hla.out; omega
    rw [← hq, this, List.length_append] at h2
    omega
  have HL := Lib.hid L
  clear hf4 hf5 hx5 hy5 k5 L P5 Q5
  go_wp2
  go_loopw [11] (fun v wr => ∃ i : Nat, i ≤ ps.length ∧ v = .int .i64 (i : Int) ∧ HashAt wr x (ps.take i).flatten ∧ HashAt wr y [] ∧ PartsX wr (fun k => k = x ∨ k = y) rp ps.length cp ps ∧ PartsX wr (fun k => k = x ∨ k = y) rq qs.length cq qs ∧ Below w.heap.size w wr) (fun v _ => ps.length - (intOf v).toNat)
  case atStart => exact ⟨0, Nat.zero_le _, rfl, by simpa using Hx.out, Hy.out, P.out, Q.out, K5.out⟩
  case round =>
    clear P Q Hx Hy K5
    obtain ⟨i, hi, rfl, hx, hy, P, Q, hb⟩ := hrel
    have Hy := Lib.hid hy
    have HQ := Lib.hid Q
    have Hb := Lib.hid hb
    clear hy Q hb
    have hpm := P.hmax
    have hple := P.hle
    have hpm' : cp ≤ 9223372036854775807 := hpm
    by_cases hlt : i < ps.length
    · obtain ⟨b, o, rfl, hnb, hc⟩ := P.hcells (by omega)
      obtain ⟨ri, li, ci, hcell, hbi, hni⟩ := hc i hlt
      have hap := flatten_take ps i hlt
      have hsum := HL.out ps i Fp.out hlt
      have HP := Lib.hid P
      have Hap := Lib.hid hap
      have Hsum := Lib.hid hsum
      have Hbi := Lib.hid hbi
      have Hx := Lib.hid hx
      clear hap hsum hc P hbi hx
      go_wp2_with (go_at_call 29; refine (write_any x _ _ ri li ci _ Hx.out Hbi.out (fun q hq h0 e => hni q hq h0 (.inl e)) (by have := Hsum.out; omega)).mono ?_; rintro e w2 ⟨rfl, hx2, hg2⟩)
      refine ⟨⟨i + 1, by omega, by go_num, by rw [Hap.out]; exact hx2, Hy.out.other hg2 (by omega), HP.out.grown hg2 (.inl rfl), HQ.out.grown hg2 (.inl rfl), below_of_grown Hb.out hg2 hxw⟩, by simp [intOf]; omega⟩
    · obtain rfl : i = ps.length := by omega
      rw [List.take_length, Fp.out] at hx
      have Hx := Lib.hid hx
      clear hx P hpm hple hpm' Fp
      go_wp2
      go_loopw [12] (fun v wr => ∃ i : Nat, i ≤ qs.length ∧ v = .int .i64 (i : Int) ∧ HashAt wr y (qs.take i).flatten ∧ HashAt wr x a ∧ PartsX wr (fun k => k = x ∨ k = y) rq qs.length cq qs ∧ Below w.heap.size w wr) (fun v _ => qs.length - (intOf v).toNat)
      case atStart => exact ⟨0, Nat.zero_le _, rfl, by simpa using Hy.out, Hx.out, HQ.out, Hb.out⟩
      case round =>
        clear Hx Hy HQ Hb
        obtain ⟨i, hi, rfl, hy, hx, Q, hb⟩ := hrel
        have Hx := Lib.hid hx
        have Hb := Lib.hid hb
        clear hx hb
        have hpm := Q.hmax
        have hple := Q.hle
        have hpm' : cq ≤ 9223372036854775807 := hpm
        by_cases hlt : i < qs.length
        · obtain ⟨b, o, rfl, hnb, hc⟩ := Q.hcells (by omega)
          obtain ⟨ri, li, ci, hcell, hbi, hni⟩ := hc i hlt
          have hap := flatten_take qs i hlt
          have hsum := HL.out qs i Fq.out hlt
          have HP := Lib.hid Q
          have Hap := Lib.hid hap
          have Hsum := Lib.hid hsum
          have Hbi := Lib.hid hbi
          have Hy := Lib.hid hy
          clear hap hsum hc Q hbi hy
          go_wp2_with (first
            | (go_at_call 29; refine (write_any y _ _ ri li ci _ Hy.out Hbi.out (fun q hq h0 e => hni q hq h0 (.inr e)) (by have := Hsum.out; omega)).mono ?_; rintro e w2 ⟨rfl, hy2, hg2⟩; have Hy2 := Lib.hid hy2; have Hg2 := Lib.hid hg2; clear hy2 hg2)
            | (go_at_call 32; refine (sum_at Hy2.out (by rw [List.length_append]; exact Hsum.out)).mono ?_; rintro e w3 ⟨rfl, hb3⟩; have Hb3 := Lib.hid hb3; clear hb3))
          refine ⟨⟨i + 1, by omega, by go_num, by rw [Hap.out]; exact Hy2.out.below Hb3.out, (Hx.out.other Hg2.out (by omega)).below Hb3.out, (HP.out.grown Hg2.out (.inr rfl)).below Hb3.out, ?_⟩, by simp [intOf]; omega⟩
          exact below_seq (below_of_grown Hb.out Hg2.out hyw) Hb3.out
        · obtain rfl : i = qs.length := by omega
          rw [List.take_length, Fq.out] at hy
          have Hy := Lib.hid hy
          have Hsz := Lib.hid (show a.length ≤ 1000000000000000000 by have := hla.out; omega)
          clear hy Q hpm hple hpm' Fq
          go_wp2_with (first
            | (go_at_call 32; with_reducible refine (sum_at Hx.out Hsz.out).mono ?_; rintro e w7 ⟨rfl, h7⟩; have k7 := below_seq Hb.out h7; have Hx7 := Lib.hid (Hx.out.below h7); have Hy7 := Lib.hid (Hy.out.below h7); clear Hx Hy h7)
            | (go_at_call 32; with_reducible refine (sum_at Hy7.out Hsz.out).mono ?_; rintro e w8 ⟨rfl, h8⟩; have k8 := below_seq k7 h8; have Hx8 := Lib.hid (Hx7.out.below h8); have Hy8 := Lib.hid (Hy7.out.below h8); clear Hy7 Hx7 h8)
            | (go_at_call 33; with_reducible refine (len_at Hx8.out).mono ?_; rintro e w9 ⟨rfl, rfl⟩)
            | (go_at_call 33; with_reducible refine (len_at Hy8.out).mono ?_; rintro e w10 ⟨rfl, rfl⟩; clear Hy8)
            | (go_at_call 32; with_reducible refine (sum_at Hx8.out Hsz.out).mono ?_; rintro e w11 ⟨rfl, h11⟩; have k11 := below_seq k8 h11)
            | (go_at_call 31; with_reducible refine (of_one (A.below k11) Hsz.out _ rfl).mono ?_; rintro e w12 ⟨rfl, h12⟩; have k12 := below_seq k11 h12))
          go_ret
          exact ⟨rfl, k12⟩
end Go.Proofs.Ytafakjdolnigaaa
