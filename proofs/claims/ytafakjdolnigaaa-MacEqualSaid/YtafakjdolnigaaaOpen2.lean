/- What a law's argument of type api.ID reads as when it came in. -/
import Derived.Test.YtafakjdolnigaaaOpen
import Derived.WideShapes
import Derived.Lib.SmallJoins
namespace Go.Proofs.Ytafakjdolnigaaa
open Go.ChangeShapes Go.WideShapes Go.ChangeAt Go.RowKit Go.Deep
set_option linter.unusedVariables false

section
variable {H : Type} {enc : TypeId × Value → H} {w : World} {base : Nat} {spare : Nat → Bool} {held : Bool}

theorem trod_byte {n : Nat} {cs : List Value} {x : DataW H × List MemPlace} (h : DataW.trod enc Try.prog w base spare held n 5 cs = some x) : ∃ b : UInt8, cs = [W8 b] := by
  obtain ⟨m, hcs, _, hw⟩ := DataW.trod_int Try.underlying5 h
  exact ⟨_, by rw [hcs, byte_of hw]⟩

theorem open_id {n : Nat} {cs : List Value} {x : DataW H × List MemPlace} (h : DataW.trod enc Try.prog w base spare held n 31 cs = some x) : ∃ l : List UInt8, l.length = 32 ∧ cs = l.map W8 := by
  have hc31 : Try.prog.cellsOf 31 = 32 := by kernel_rfl
  have hc5 : Try.prog.cellsOf 5 = 1 := by kernel_rfl
  obtain ⟨xs, m, _, _, hl, hxl, hx⟩ := DataW.trod_array Try.underlying31 h
  rw [hc31] at hl
  simp only [hc5, Nat.mul_one] at hx
  have hb : ∀ i, i < 32 → ∃ b : UInt8, (cs.drop i).take 1 = [W8 b] := fun i hi => by
    have h1 := hx i hi
    rw [List.getElem?_eq_getElem (by omega)] at h1
    exact trod_byte h1
  obtain ⟨F, hF⟩ := choose_lt (α := UInt8) (p := fun i b => (cs.drop i).take 1 = [W8 b]) hb
  refine ⟨(List.range 32).map F, by simp, ?_⟩
  apply List.ext_getElem?
  intro i
  by_cases hi : i < 32
  · have h1 := congrArg (fun l => l[0]?) (hF i hi)
    simp only [List.getElem?_take, List.getElem?_drop, Nat.add_zero] at h1
    simpa [hi] using h1
  · rw [List.getElem?_eq_none (by omega), List.getElem?_eq_none (by simp; omega)]

set_option maxRecDepth 100000 in
theorem openArg_id {r : Reach} {b0 : Nat} {v : Value} {d : DataW H} {ps : List MemPlace} (hval : Value.okWide Try.prog w r b0 31 v) (hd : DataW.Trod enc Try.prog w base spare held 31 v d ps) : ∃ l : List UInt8, l.length = 32 ∧ v = .agg (row8 l) := by
  simp only [Value.okWide, Try.underlying31] at hval
  obtain ⟨cs, rfl, _, _⟩ := hval
  obtain ⟨fuel, hf⟩ := hd
  obtain ⟨l, hl, hc⟩ := open_id hf
  refine ⟨l, hl, ?_⟩
  have h2 : cs.toList = l.map W8 := hc
  rw [row8, ← h2]

set_option maxRecDepth 100000 in
theorem openArg_string {r : Reach} {b0 : Nat} {v : Value} {d : DataW H} {ps : List MemPlace} (hval : Value.okWide Try.prog w r b0 9 v) (hd : DataW.Trod enc Try.prog w base spare held 9 v d ps) : ∃ s : ByteArray, v = .string s ∧ s.size ≤ maxLen := by
  obtain ⟨s, rfl⟩ := okWide_string Try.underlying9 hval
  obtain ⟨fuel, hf⟩ := hd
  obtain ⟨s', hs, _, hm⟩ := DataW.trod_string Try.underlying9 hf
  simp [Value.cells] at hs
  exact ⟨s, rfl, by rw [hs]; exact hm⟩
end
end Go.Proofs.Ytafakjdolnigaaa
