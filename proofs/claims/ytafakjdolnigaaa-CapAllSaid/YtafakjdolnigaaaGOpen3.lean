/- What a law's arguments of types api.Token, api.Caveat and []api.Caveat read as when they came in. -/
import Derived.Test.YtafakjdolnigaaaGOpen
import Derived.Test.YtafakjdolnigaaaGTok
namespace Go.Proofs.Ytafakjdolnigaaa
open Go.ChangeShapes Go.WideShapes Go.ChangeAt Go.RowKit Go.Deep
set_option linter.unusedVariables false

section
variable {H : Type} {enc : TypeId × Value → H} {w : World} {base : Nat} {spare : Nat → Bool} {held : Bool}

theorem trod_right {n : Nat} {cs : List Value} {x : DataW H × List MemPlace} (h : DataW.trod enc Try.prog w base spare held n 48 cs = some x) : ∃ b : UInt8, cs = [W8 b] := by
  obtain ⟨m, hcs, _, hw⟩ := DataW.trod_int Try.underlying48 h
  exact ⟨_, by rw [hcs, byte_of hw]⟩
theorem trod_time {n : Nat} {cs : List Value} {x : DataW H × List MemPlace} (h : DataW.trod enc Try.prog w base spare held n 2 cs = some x) : ∃ z : Int, cs = [.int .i64 z] ∧ (Lit.int .i64 z).wf = true := by
  obtain ⟨m, hcs, _, hw⟩ := DataW.trod_int Try.underlying2 h
  exact ⟨m, hcs, hw⟩
theorem trod_word {n : Nat} {cs : List Value} {x : DataW H × List MemPlace} (h : DataW.trod enc Try.prog w base spare held n 35 cs = some x) : ∃ z : UInt64, cs = [W64 z] := by
  obtain ⟨m, hcs, _, hw⟩ := DataW.trod_int Try.underlying35 h
  have hr : 0 ≤ m ∧ m < 18446744073709551616 := by
    simp only [Lit.wf, IntKind.min, IntKind.max, IntKind.signed, IntKind.bits, Bool.and_eq_true] at hw
    simp at hw
    omega
  exact ⟨UInt64.ofNat m.toNat, by rw [hcs, word_of m m.toNat (by omega) (by omega)]⟩

theorem open_caveat {n : Nat} {cs : List Value} {x : DataW H × List MemPlace} (h : DataW.trod enc Try.prog w base spare held n 87 cs = some x) : ∃ (r : UInt8) (z : Int), cs = [W8 r, .int .i64 z] ∧ (Lit.int .i64 z).wf = true := by
  have hc87 : Try.prog.cellsOf 87 = 2 := by kernel_rfl
  have hc48 : Try.prog.cellsOf 48 = 1 := by kernel_rfl
  have hc2 : Try.prog.cellsOf 2 = 1 := by kernel_rfl
  obtain ⟨y0, y1, m, _, hl, h0, h1⟩ := trod_struct2 Try.underlying87 h
  rw [hc87] at hl
  simp only [hc48, hc2] at h0 h1
  match cs, hl with
  | [c0, c1], _ =>
    obtain ⟨r, hr⟩ := trod_right h0
    obtain ⟨z, hz, hw⟩ := trod_time h1
    simp at hr hz
    exact ⟨r, z, by rw [hr, hz], hw⟩

theorem open_cavs {fuel : Nat} {a : Option Addr} {len cap : Nat} {x : DataW H × List MemPlace} (h : DataW.trod enc Try.prog w base spare held fuel 49 [.slice a len cap] = some x) : ∃ cs, CavsAt w a len cap cs := by
  have hc87 : Try.prog.cellsOf 87 = 2 := by kernel_rfl
  rcases open_slice Try.underlying49 h with ⟨hcs, _⟩ | ⟨x, l, c, m, n, D, Pl, hcs, _, hl, hm, hmm, _, hi⟩
  · simp at hcs
    obtain ⟨rfl, rfl, rfl⟩ := hcs
    exact ⟨[], rfl, Nat.le_refl _, by unfold maxLen; omega, fun h => by omega, fun _ => rfl, fun c hc => by cases hc⟩
  · simp at hcs
    obtain ⟨rfl, rfl, rfl⟩ := hcs
    have hlm : len ≤ m := by rw [hmm]; split <;> omega
    rw [hc87] at hi
    have each : ∀ i, i < len → ∃ c : UInt8 × Int, (w.cell? ((x.add (i * 2)).add 0) = some (W8 c.1) ∧ w.cell? ((x.add (i * 2)).add 1) = some (.int .i64 c.2)) ∧ (Lit.int .i64 c.2).wf = true := fun i hi2 => by
      obtain ⟨cs', h1, h2⟩ := hi i (by omega)
      obtain ⟨r, z, rfl, hw⟩ := open_caveat h2
      obtain ⟨_, _, hcell⟩ := World.cells?_some h1
      exact ⟨(r, z), ⟨hcell 0 (by omega), hcell 1 (by omega)⟩, hw⟩
    obtain ⟨F, hF⟩ := choose_lt (α := UInt8 × Int) (p := fun i c => (w.cell? ((x.add (i * 2)).add 0) = some (W8 c.1) ∧ w.cell? ((x.add (i * 2)).add 1) = some (.int .i64 c.2)) ∧ (Lit.int .i64 c.2).wf = true) each
    refine ⟨(List.range len).map F, by simp, hl, hm, fun h0 => ?_, (fun h => by cases h), fun c hc => ?_⟩
    · obtain ⟨b, o, spot⟩ := x
      have hspot : spot = none := by
        have h1 := (hF 0 h0).1.1
        simpa [Addr.add] using World.cell?_spot h1
      subst hspot
      refine ⟨b, o, rfl, fun i hi2 => ?_⟩
      obtain ⟨⟨h1, h2⟩, _⟩ := hF i hi2
      rw [Addr.add_lit, Addr.add_lit] at h1 h2
      simp [hi2]
      exact ⟨h1, h2⟩
    · obtain ⟨i, hi2, rfl⟩ := List.mem_map.1 hc
      exact (hF i (by simpa using hi2)).2

theorem open_tok {n : Nat} {cs : List Value} {x : DataW H × List MemPlace} (h : DataW.trod enc Try.prog w base spare held n 51 cs = some x) :
    ∃ (t : Tok) (r : Option Addr) (len cap : Nat) (l : List (UInt8 × Int)), cs = tokL t (.slice r len cap) ∧ t.Ok ∧ CavsAt w r len cap l := by
  have hc51 : Try.prog.cellsOf 51 = 38 := by kernel_rfl
  have hc35 : Try.prog.cellsOf 35 = 1 := by kernel_rfl
  have hc9 : Try.prog.cellsOf 9 = 1 := by kernel_rfl
  have hc48 : Try.prog.cellsOf 48 = 1 := by kernel_rfl
  have hc2 : Try.prog.cellsOf 2 = 1 := by kernel_rfl
  have hc49 : Try.prog.cellsOf 49 = 1 := by kernel_rfl
  have hc31 : Try.prog.cellsOf 31 = 32 := by kernel_rfl
  obtain ⟨xs, m, _, _, hl, hxl, hf⟩ := DataW.trod_struct Try.underlying51 h
  rw [hc51] at hl
  have some_at : ∀ i, i < 7 → ∃ y, xs[i]? = some y := fun i hi => ⟨_, List.getElem?_eq_getElem (by rw [hxl]; exact hi)⟩
  obtain ⟨y0, e0⟩ := some_at 0 (by omega)
  obtain ⟨y1, e1⟩ := some_at 1 (by omega)
  obtain ⟨y2, e2⟩ := some_at 2 (by omega)
  obtain ⟨y3, e3⟩ := some_at 3 (by omega)
  obtain ⟨y4, e4⟩ := some_at 4 (by omega)
  obtain ⟨y5, e5⟩ := some_at 5 (by omega)
  obtain ⟨y6, e6⟩ := some_at 6 (by omega)
  have h0 : DataW.trod enc Try.prog w base spare held m 35 ((cs.drop 0).take (Try.prog.cellsOf 35)) = some y0 := (hf 0 _ rfl).trans e0
  have h1 : DataW.trod enc Try.prog w base spare held m 9 ((cs.drop 1).take (Try.prog.cellsOf 9)) = some y1 := (hf 1 _ rfl).trans e1
  have h2 : DataW.trod enc Try.prog w base spare held m 48 ((cs.drop 2).take (Try.prog.cellsOf 48)) = some y2 := (hf 2 _ rfl).trans e2
  have h3 : DataW.trod enc Try.prog w base spare held m 2 ((cs.drop 3).take (Try.prog.cellsOf 2)) = some y3 := (hf 3 _ rfl).trans e3
  have h4 : DataW.trod enc Try.prog w base spare held m 2 ((cs.drop 4).take (Try.prog.cellsOf 2)) = some y4 := (hf 4 _ rfl).trans e4
  have h5 : DataW.trod enc Try.prog w base spare held m 49 ((cs.drop 5).take (Try.prog.cellsOf 49)) = some y5 := (hf 5 _ rfl).trans e5
  have h6 : DataW.trod enc Try.prog w base spare held m 31 ((cs.drop 6).take (Try.prog.cellsOf 31)) = some y6 := (hf 6 _ rfl).trans e6
  rw [hc35] at h0
  rw [hc9] at h1
  rw [hc48] at h2
  rw [hc2] at h3 h4
  rw [hc49] at h5
  rw [hc31] at h6
  clear hf
  match cs, hl with
  | c0 :: c1 :: c2 :: c3 :: c4 :: c5 :: rest, hl =>
    have hrl : rest.length = 32 := by simpa using hl
    obtain ⟨s, hs⟩ := trod_word h0
    obtain ⟨tn, ht, _, htm⟩ := DataW.trod_string Try.underlying9 h1
    obtain ⟨r, hr⟩ := trod_right h2
    obtain ⟨f, hfz, hfw⟩ := trod_time h3
    obtain ⟨u, huz, huw⟩ := trod_time h4
    obtain ⟨tag, htl, htag⟩ := open_id h6
    simp at hs ht hr hfz huz
    simp at htag
    rw [List.take_of_length_le (by omega)] at htag
    have h5' : ∃ a len cap, c5 = .slice a len cap := by
      rcases open_slice Try.underlying49 h5 with ⟨hcs, _⟩ | ⟨x, l, c, m, n, D, Pl, hcs, _⟩
      · simp at hcs; exact ⟨_, _, _, hcs⟩
      · simp at hcs; exact ⟨_, _, _, hcs⟩
    obtain ⟨a, len, cap, rfl⟩ := h5'
    obtain ⟨l, hcav⟩ := open_cavs (by simpa using h5)
    refine ⟨⟨s, tn, r, f, u, tag⟩, a, len, cap, l, ?_, ⟨hfw, huw, htl, htm⟩, hcav⟩
    rw [hs, ht, hr, hfz, huz, htag]
    rfl

set_option maxRecDepth 100000 in
theorem openArg_tok {r : Reach} {b0 : Nat} {v : Value} {d : DataW H} {ps : List MemPlace} (hval : Value.okWide Try.prog w r b0 51 v) (hd : DataW.Trod enc Try.prog w base spare held 51 v d ps) :
    ∃ (t : Tok) (r : Option Addr) (len cap : Nat) (l : List (UInt8 × Int)), v = .agg (tokRow t (.slice r len cap)) ∧ t.Ok ∧ CavsAt w r len cap l := by
  simp only [Value.okWide, Try.underlying51] at hval
  obtain ⟨cs, rfl, _, _⟩ := hval
  obtain ⟨fuel, hf⟩ := hd
  obtain ⟨t, r, len, cap, l, hc, ht, hcav⟩ := open_tok hf
  refine ⟨t, r, len, cap, l, ?_, ht, hcav⟩
  have h2 : cs.toList = tokL t (.slice r len cap) := hc
  rw [tokRow, ← h2]
set_option maxRecDepth 100000 in
theorem openArg_cav {r : Reach} {b0 : Nat} {v : Value} {d : DataW H} {ps : List MemPlace} (hval : Value.okWide Try.prog w r b0 87 v) (hd : DataW.Trod enc Try.prog w base spare held 87 v d ps) :
    ∃ (x : UInt8) (z : Int), v = .agg (cavRow x z) ∧ (Lit.int .i64 z).wf = true := by
  simp only [Value.okWide, Try.underlying87] at hval
  obtain ⟨cs, rfl, _, _⟩ := hval
  obtain ⟨fuel, hf⟩ := hd
  obtain ⟨x, z, hc, hw⟩ := open_caveat hf
  refine ⟨x, z, ?_, hw⟩
  have h2 : cs.toList = [W8 x, .int .i64 z] := hc
  show Value.agg cs = Value.agg #[W8 x, .int .i64 z]
  congr 1
  apply Array.toList_inj.1
  rw [h2]
end
end Go.Proofs.Ytafakjdolnigaaa
