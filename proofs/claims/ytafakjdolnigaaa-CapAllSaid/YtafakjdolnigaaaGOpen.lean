/- What a law's arguments read as when they came in: bytes, lists of bytes, lists of ints; and how they are handed back. What a law's argument of type api.ID reads as when it came in. -/
import Derived.Deep.Slices
import Derived.ChangeAt
import Derived.ChangeSlices
import Derived.WalkKit
import Derived.ProofKit
import Derived.OpenShut
import Derived.ShutString
import Derived.ChangeOld
import Derived.Below
import Derived.WideShapes
import Derived.Lib.SmallJoins
import Derived.Test.YtafakjdolnigaaaOwn
namespace Go.Proofs.Ytafakjdolnigaaa
open Go.ChangeShapes Go.WideShapes Go.ChangeAt Go.RowKit Go.Deep
set_option linter.unusedVariables false

section
variable {H : Type} {enc : TypeId × Value → H} {w : World} {base : Nat} {spare : Nat → Bool} {held : Bool}

/-- A number of a byte's range, as a byte. -/
theorem byte_of {n : Int} (h : (Lit.int .u8 n).wf = true) : Value.int .u8 n = W8 (UInt8.ofNat n.toNat) := by
  have hn : 0 ≤ n ∧ n < 256 := by
    simp only [Lit.wf, IntKind.min, IntKind.max, IntKind.signed, IntKind.bits, Bool.and_eq_true] at h
    simp at h
    omega
  unfold W8
  congr 1
  have : n.toNat < 256 := by omega
  simp [UInt8.toNat_ofNat', Nat.mod_eq_of_lt this]
  omega

theorem open_bytes {fuel : Nat} {a : Option Addr} {len cap : Nat} {x : DataW H × List MemPlace} (h : DataW.trod enc Try.prog w base spare held fuel 29 [.slice a len cap] = some x) : ∃ bs, BytesAt w a len cap bs := by
  rcases open_ints Try.underlying29 Try.underlying5 (by kernel_rfl) h with ⟨hcs, _⟩ | ⟨x, l, c, zs, hcs, _, hl, hm, hz, _, hcell, hwz⟩
  · simp at hcs
    obtain ⟨rfl, rfl, rfl⟩ := hcs
    exact ⟨[], .empty w none 0 (by unfold maxLen; omega) (fun _ => rfl)⟩
  · simp at hcs
    obtain ⟨rfl, rfl, rfl⟩ := hcs
    have hlz : len ≤ zs.length := by rw [hz]; split <;> omega
    refine ⟨(zs.take len).map fun n => UInt8.ofNat n.toNat, by simp; omega, hl, hm, fun h0 => ?_, fun h => by cases h⟩
    obtain ⟨b, o, spot⟩ := x
    have hspot : spot = none := by simpa [Addr.add] using World.cell?_spot (hcell 0 (by omega))
    subst hspot
    refine ⟨b, o, rfl, fun i hi => ?_⟩
    have h1 := hcell i (by omega)
    rw [Addr.add_lit] at h1
    rw [h1]
    have hg : zs.getD i 0 ∈ zs := by
      rw [List.getD_eq_getElem?_getD, List.getElem?_eq_getElem (by omega)]
      exact List.getElem_mem _
    rw [byte_of (hwz _ hg)]
    congr 2
    simp [List.getD_eq_getElem?_getD, hi, List.getElem?_eq_getElem (show i < zs.length by omega)]

theorem open_parts {fuel : Nat} {a : Option Addr} {len cap : Nat} {x : DataW H × List MemPlace} (h : DataW.trod enc Try.prog w base spare held fuel 22 [.slice a len cap] = some x) : ∃ ps, PartsAt w a len cap ps := by
  rcases open_slice1 Try.underlying22 (by kernel_rfl) h with ⟨hcs, _⟩ | ⟨x, l, c, m, n, V, D, Pl, hcs, _, hl, hm, hmm, _, hi⟩
  · simp at hcs
    obtain ⟨rfl, rfl, rfl⟩ := hcs
    exact ⟨[], rfl, Nat.le_refl _, by unfold maxLen; omega, fun h => by omega⟩
  · simp at hcs
    obtain ⟨rfl, rfl, rfl⟩ := hcs
    have hlm : len ≤ m := by rw [hmm]; split <;> omega
    have each : ∀ i, i < len → ∃ bs : List UInt8, ∃ ri li ci, w.cell? (x.add i) = some (.slice ri li ci) ∧ BytesAt w ri li ci bs := fun i hi2 => by
      obtain ⟨h1, h2⟩ := hi i (by omega)
      have h3 : ∃ ri li ci, V i = .slice ri li ci := by
        rcases open_ints Try.underlying29 Try.underlying5 (by kernel_rfl) h2 with ⟨hcs, _⟩ | ⟨x, l, c, zs, hcs, _⟩
        · simp at hcs; exact ⟨_, _, _, hcs⟩
        · simp at hcs; exact ⟨_, _, _, hcs⟩
      obtain ⟨ri, li, ci, hV⟩ := h3
      rw [hV] at h1 h2
      obtain ⟨bs, hb⟩ := open_bytes h2
      exact ⟨bs, ri, li, ci, h1, hb⟩
    obtain ⟨F, hF⟩ := choose_lt (α := List UInt8) (p := fun i bs => ∃ ri li ci, w.cell? (x.add i) = some (.slice ri li ci) ∧ BytesAt w ri li ci bs) each
    refine ⟨(List.range len).map F, by simp, hl, hm, fun h0 => ?_⟩
    obtain ⟨b, o, spot⟩ := x
    have hspot : spot = none := by
      obtain ⟨ri, li, ci, h1, _⟩ := hF 0 h0
      simpa [Addr.add] using World.cell?_spot h1
    subst hspot
    refine ⟨b, o, rfl, fun i hi2 => ?_⟩
    obtain ⟨ri, li, ci, h1, h2⟩ := hF i hi2
    rw [Addr.add_lit] at h1
    refine ⟨ri, li, ci, h1, ?_⟩
    simpa [hi2] using h2

theorem open_ints39 {fuel : Nat} {a : Option Addr} {len cap : Nat} {x : DataW H × List MemPlace} (h : DataW.trod enc Try.prog w base spare held fuel 39 [.slice a len cap] = some x) : ∃ zs, IntsAt w a len cap zs := by
  rcases open_ints Try.underlying39 Try.underlying3 (by kernel_rfl) h with ⟨hcs, _⟩ | ⟨x, l, c, zs, hcs, _, hl, hm, hz, _, hcell, hwz⟩
  · simp at hcs
    obtain ⟨rfl, rfl, rfl⟩ := hcs
    exact ⟨[], rfl, Nat.le_refl _, by unfold maxLen; omega, fun h => by omega, by simp⟩
  · simp at hcs
    obtain ⟨rfl, rfl, rfl⟩ := hcs
    have hlz : len ≤ zs.length := by rw [hz]; split <;> omega
    refine ⟨zs.take len, by simp; omega, hl, hm, fun h0 => ?_, fun z hz' => hwz z (List.mem_of_mem_take hz')⟩
    obtain ⟨b, o, spot⟩ := x
    have hspot : spot = none := by simpa [Addr.add] using World.cell?_spot (hcell 0 (by omega))
    subst hspot
    refine ⟨b, o, rfl, fun i hi => ?_⟩
    have h1 := hcell i (by omega)
    rw [Addr.add_lit] at h1
    rw [h1]
    simp [List.getD_eq_getElem?_getD, hi]
end
end Go.Proofs.Ytafakjdolnigaaa

namespace Go.Proofs.Ytafakjdolnigaaa
open Go.ChangeShapes Go.WideShapes Go.ChangeAt Go.RowKit Go.Deep
set_option linter.unusedVariables false

section
variable {H : Type} {enc : TypeId × Value → H} {w : World} {base : Nat} {spare : Nat → Bool} {held : Bool}

theorem trod_byte {n : Nat} {cs : List Value} {x : DataW H × List MemPlace} (h : DataW.trod enc Try.prog w base spare held n 5 cs = some x) : ∃ b : UInt8, cs = [W8 b] := by
  obtain ⟨m, hcs, _, hw⟩ := DataW.trod_int Try.underlying5 h
  exact ⟨_, by rw [hcs, byte_of hw]⟩

theorem open_id {n : Nat} {cs : List Value} {x : DataW H × List MemPlace} (h : DataW.trod enc Try.prog w base spare held n 31 cs = some x) : ∃ l : List UInt8, l.length = 32 ∧ cs = l.map W8 := by
  have hc31 : Try.prog.cellsOf 31 = 32 := by kernel_rfl
  have hc5 : Try.prog.cellsOf 5 = 1 := by kernel_rfl
  obtain ⟨xs, m, _, _, hl, hxl, hx⟩ := DataW.trod_array Try.underlying31 h
  rw [hc31] at hl
  simp only [hc5, Nat.mul_one] at hx
  have hb : ∀ i, i < 32 → ∃ b : UInt8, (cs.drop i).take 1 = [W8 b] := fun i hi => by
    have h1 := hx i hi
    rw [List.getElem?_eq_getElem (by omega)] at h1
    exact trod_byte h1
  obtain ⟨F, hF⟩ := choose_lt (α := UInt8) (p := fun i b => (cs.drop i).take 1 = [W8 b]) hb
  refine ⟨(List.range 32).map F, by simp, ?_⟩
  apply List.ext_getElem?
  intro i
  by_cases hi : i < 32
  · have h1 := congrArg (fun l => l[0]?) (hF i hi)
    simp only [List.getElem?_take, List.getElem?_drop, Nat.add_zero] at h1
    simpa [hi] using h1
  · rw [List.getElem?_eq_none (by omega), List.getElem?_eq_none (by simp; omega)]

set_option maxRecDepth 100000 in
theorem openArg_id {r : Reach} {b0 : Nat} {v : Value} {d : DataW H} {ps : List MemPlace} (hval : Value.okWide Try.prog w r b0 31 v) (hd : DataW.Trod enc Try.prog w base spare held 31 v d ps) : ∃ l : List UInt8, l.length = 32 ∧ v = .agg (row8 l) := by
  simp only [Value.okWide, Try.underlying31] at hval
  obtain ⟨cs, rfl, _, _⟩ := hval
  obtain ⟨fuel, hf⟩ := hd
  obtain ⟨l, hl, hc⟩ := open_id hf
  refine ⟨l, hl, ?_⟩
  have h2 : cs.toList = l.map W8 := hc
  rw [row8, ← h2]

set_option maxRecDepth 100000 in
theorem openArg_string {r : Reach} {b0 : Nat} {v : Value} {d : DataW H} {ps : List MemPlace} (hval : Value.okWide Try.prog w r b0 9 v) (hd : DataW.Trod enc Try.prog w base spare held 9 v d ps) : ∃ s : ByteArray, v = .string s ∧ s.size ≤ maxLen := by
  obtain ⟨s, rfl⟩ := okWide_string Try.underlying9 hval
  obtain ⟨fuel, hf⟩ := hd
  obtain ⟨s', hs, _, hm⟩ := DataW.trod_string Try.underlying9 hf
  simp [Value.cells] at hs
  exact ⟨s, rfl, by rw [hs]; exact hm⟩
end
end Go.Proofs.Ytafakjdolnigaaa
