/- Issue, Less and Check and their references, whatever the token: one answer for both. -/
import Derived.Test.YtafakjdolnigaaaCapRefL
import Derived.Test.YtafakjdolnigaaaGAll
import Derived.Test.YtafakjdolnigaaaGCheck
namespace Go.Proofs.Ytafakjdolnigaaa
open Go.RowKit
set_option linter.unusedVariables false

theorem check_all {w : World} {key : List UInt8} {t : Tok} {r : Option Addr} {len cap : Nat} {cs : List (UInt8 × Int)} {now : Int} (hk : key.length = 32) (ht : t.Ok) (h : CavsAt w r len cap cs) :
    Calls Try.prog 49 #[.agg (row8 key), .agg (tokRow t (.slice r len cap)), .int .i64 now] w fun e w' => e = .returned (.int .i64 (checkOf key t cs now)) ∧ Below w.heap.size w w' := by
  by_cases hm : mayOk t cs = true
  · exact check_good hk ht h hm
  · have hm' : mayOk t cs = false := by simpa using hm
    have e : checkOf key t cs now = 1 := by unfold checkOf; rw [if_pos hm']
    rw [e]
    exact check_bad ht h hm'
theorem refCheck_all {w : World} {key : List UInt8} {t : Tok} {r : Option Addr} {len cap : Nat} {cs : List (UInt8 × Int)} {now : Int} (hk : key.length = 32) (ht : t.Ok) (h : CavsAt w r len cap cs) :
    Calls Try.prog 50 #[.agg (row8 key), .agg (tokRow t (.slice r len cap)), .int .i64 now] w fun e w' => e = .returned (.int .i64 (checkOf key t cs now)) ∧ Below w.heap.size w w' := by
  by_cases hm : mayOk t cs = true
  · exact refCheck_good hk ht h hm
  · have hm' : mayOk t cs = false := by simpa using hm
    have e : checkOf key t cs now = 1 := by unfold checkOf; rw [if_pos hm']
    rw [e]
    exact refCheck_bad ht h hm'

/-- What Issue answers. -/
noncomputable def issOk (t : Tok) (cs : List (UInt8 × Int)) : Bool := mayOk t cs && cs.isEmpty
noncomputable def issT (key : List UInt8) (t : Tok) (cs : List (UInt8 × Int)) : Tok := if issOk t cs = true then issued key t else zeroTok
noncomputable def issE (t : Tok) (cs : List (UInt8 × Int)) : Int := if issOk t cs = true then 0 else 1
theorem issT_ok {key : List UInt8} {t : Tok} {cs : List (UInt8 × Int)} (ht : t.Ok) : (issT key t cs).Ok := by
  unfold issT; split
  · exact issued_ok ht
  · exact zeroTok_ok
theorem cavs_none' (w : World) : CavsAt w none 0 0 [] := cavs_none w
theorem issue_all {w : World} {key : List UInt8} {t : Tok} {r : Option Addr} {len cap : Nat} {cs : List (UInt8 × Int)} (hk : key.length = 32) (ht : t.Ok) (h : CavsAt w r len cap cs) :
    Calls Try.prog 47 #[.agg (row8 key), .agg (tokRow t (.slice r len cap))] w fun e w' => ∃ r' c', e = .returned (.tuple #[.agg (tokRow (issT key t cs) (.slice r' 0 c')), .int .i64 (issE t cs)]) ∧ CavsAt w' r' 0 c' [] ∧ Below w.heap.size w w' := by
  by_cases hm : issOk t cs = true
  · have h2 := hm
    unfold issOk at h2
    rw [Bool.and_eq_true, List.isEmpty_iff] at h2
    obtain ⟨h1, rfl⟩ := h2
    obtain rfl := h.hlen
    refine (issue_good hk ht h h1).mono ?_
    rintro e w' ⟨rfl, hb⟩
    exact ⟨none, 0, by rw [issT, issE, if_pos hm, if_pos hm], cavs_none _, hb⟩
  · refine (issue_bad (cs := cs) hk ht h ?_).mono ?_
    · by_cases h1 : mayOk t cs = true
      · right
        rcases Nat.eq_zero_or_pos len with h0 | h0
        · exfalso
          apply hm
          unfold issOk
          have : cs = [] := List.eq_nil_of_length_eq_zero (by rw [h.hlen, h0])
          rw [h1, this]; rfl
        · exact h0
      · left; simpa using h1
    · rintro e w' ⟨rfl, hb⟩
      exact ⟨none, 0, by rw [issT, issE, if_neg hm, if_neg hm], cavs_none _, hb⟩
theorem refIssue_all {w : World} {key : List UInt8} {t : Tok} {r : Option Addr} {len cap : Nat} {cs : List (UInt8 × Int)} (hk : key.length = 32) (ht : t.Ok) (h : CavsAt w r len cap cs) :
    Calls Try.prog 70 #[.agg (row8 key), .agg (tokRow t (.slice r len cap))] w fun e w' => ∃ r' c', e = .returned (.tuple #[.agg (tokRow (issT key t cs) (.slice r' 0 c')), .int .i64 (issE t cs)]) ∧ CavsAt w' r' 0 c' [] ∧ Below w.heap.size w w' := by
  by_cases hm : issOk t cs = true
  · have h2 := hm
    unfold issOk at h2
    rw [Bool.and_eq_true, List.isEmpty_iff] at h2
    obtain ⟨h1, rfl⟩ := h2
    obtain rfl := h.hlen
    refine (refIssue_good hk ht h h1).mono ?_
    rintro e w' ⟨rfl, hb⟩
    exact ⟨r, cap, by rw [issT, issE, if_pos hm, if_pos hm], h.below hb, hb⟩
  · refine (refIssue_bad (cs := cs) hk ht h ?_).mono ?_
    · by_cases h1 : mayOk t cs = true
      · right
        rcases Nat.eq_zero_or_pos len with h0 | h0
        · exfalso
          apply hm
          unfold issOk
          have : cs = [] := List.eq_nil_of_length_eq_zero (by rw [h.hlen, h0])
          rw [h1, this]; rfl
        · exact h0
      · left; simpa using h1
    · rintro e w' ⟨rfl, hb⟩
      exact ⟨none, 0, by rw [issT, issE, if_neg hm, if_neg hm], cavs_none _, hb⟩

/-- What Less answers. -/
noncomputable def lesOk (t : Tok) (cs : List (UInt8 × Int)) (c : UInt8 × Int) : Bool := mayOk t cs && decide (c.1 < 16) && decide (cs.length < 8)
noncomputable def lesT (t : Tok) (cs : List (UInt8 × Int)) (c : UInt8 × Int) : Tok := if lesOk t cs c = true then lessTok t c else zeroTok
noncomputable def lesC (t : Tok) (cs : List (UInt8 × Int)) (c : UInt8 × Int) : List (UInt8 × Int) := if lesOk t cs c = true then cs ++ [c] else []
noncomputable def lesE (t : Tok) (cs : List (UInt8 × Int)) (c : UInt8 × Int) : Int := if mayOk t cs = false ∨ ¬c.1 < 16 then 1 else if cs.length < 8 then 0 else 2
theorem lesT_ok {t : Tok} {cs : List (UInt8 × Int)} {c : UInt8 × Int} (ht : t.Ok) : (lesT t cs c).Ok := by
  unfold lesT; split
  · exact lessTok_ok ht
  · exact zeroTok_ok
theorem lesC_len (t : Tok) (cs : List (UInt8 × Int)) (c : UInt8 × Int) : (lesC t cs c).length ≤ 8 := by
  unfold lesC; split
  · rename_i h
    unfold lesOk at h
    simp at h
    simp; omega
  · simp
def LessAns (t : Tok) (cs : List (UInt8 × Int)) (c : UInt8 × Int) (w : World) (e : Ending) (w' : World) : Prop :=
  ∃ v, e = .returned (.tuple #[.agg (tokRow (lesT t cs c) v), .int .i64 (lesE t cs c)]) ∧ OwnC w' w.heap.size v (lesC t cs c) ∧ Below w.heap.size w w'
theorem lessAns_no {t : Tok} {cs : List (UInt8 × Int)} {c : UInt8 × Int} {w w' : World} (ho : lesOk t cs c = false) (E : Int) (hE : lesE t cs c = E) (hb : Below w.heap.size w w') : LessAns t cs c w (.returned (.tuple #[.agg (tokRow zeroTok (.slice none 0 0)), .int .i64 E])) w' := by
  refine ⟨.slice none 0 0, ?_, ?_, hb⟩
  · rw [hE, lesT, if_neg (by rw [ho]; decide)]
  · rw [lesC, if_neg (by rw [ho]; decide)]
    exact OwnC.nil _ _
theorem lessAns_yes {t : Tok} {cs : List (UInt8 × Int)} {c : UInt8 × Int} {w w' : World} {v : Value} (ho : lesOk t cs c = true) (hE : lesE t cs c = 0) (hv : OwnC w' w.heap.size v (cs ++ [c])) (hb : Below w.heap.size w w') : LessAns t cs c w (.returned (.tuple #[.agg (tokRow (lessTok t c) v), .int .i64 0])) w' := by
  refine ⟨v, ?_, ?_, hb⟩
  · rw [hE, lesT, if_pos ho]
  · rw [lesC, if_pos ho]
    exact hv
theorem less_cases (t : Tok) (cs : List (UInt8 × Int)) (c : UInt8 × Int) :
    ((mayOk t cs = false ∨ ¬c.1 < 16) ∧ lesOk t cs c = false ∧ lesE t cs c = 1) ∨ (mayOk t cs = true ∧ c.1 < 16 ∧ cs.length = 8 ∧ lesOk t cs c = false ∧ lesE t cs c = 2) ∨ (mayOk t cs = true ∧ c.1 < 16 ∧ cs.length < 8 ∧ lesOk t cs c = true ∧ lesE t cs c = 0) := by
  by_cases h1 : mayOk t cs = false ∨ ¬c.1 < 16
  · left
    refine ⟨h1, ?_, by rw [lesE, if_pos h1]⟩
    unfold lesOk
    rcases h1 with h | h <;> simp [h]
  · have hm : mayOk t cs = true := by
      cases h : mayOk t cs
      · exact absurd (Or.inl h) h1
      · rfl
    have hx : c.1 < 16 := Classical.byContradiction fun h => h1 (Or.inr h)
    have h8 := (mayOk_iff hm).2.2.1
    by_cases h2 : cs.length < 8
    · right; right
      exact ⟨hm, hx, h2, by unfold lesOk; simp [hm, hx, h2], by rw [lesE, if_neg h1, if_pos h2]⟩
    · right; left
      exact ⟨hm, hx, by omega, by unfold lesOk; simp [h2], by rw [lesE, if_neg h1, if_neg h2]⟩
theorem less_all {w : World} {t : Tok} {r : Option Addr} {len cap : Nat} {cs : List (UInt8 × Int)} {x : UInt8} {z : Int} (ht : t.Ok) (h : CavsAt w r len cap cs) (hz : (Lit.int .i64 z).wf = true) :
    Calls Try.prog 71 #[.agg (tokRow t (.slice r len cap)), .agg (cavRow x z)] w (LessAns t cs (x, z) w) := by
  have hl := h.hlen
  rcases less_cases t cs (x, z) with ⟨h1, h2, h3⟩ | ⟨h1, h2, h3, h4, h5⟩ | ⟨h1, h2, h3, h4, h5⟩
  · exact (less_bad ht h h1).mono fun e w' ⟨he, hb⟩ => by subst he; exact lessAns_no h2 1 h3 hb
  · obtain rfl : len = 8 := by omega
    exact (less_long ht h h1 h2).mono fun e w' ⟨he, hb⟩ => by subst he; exact lessAns_no h4 2 h5 hb
  · exact (less_good ht h h1 h2 (by omega) hz).mono fun e w' ⟨v, he, ho, hb⟩ => by subst he; exact lessAns_yes h4 h5 ho hb
theorem refLess_all {w : World} {t : Tok} {r : Option Addr} {len cap : Nat} {cs : List (UInt8 × Int)} {x : UInt8} {z : Int} (ht : t.Ok) (h : CavsAt w r len cap cs) (hz : (Lit.int .i64 z).wf = true) :
    Calls Try.prog 72 #[.agg (tokRow t (.slice r len cap)), .agg (cavRow x z)] w (LessAns t cs (x, z) w) := by
  have hl := h.hlen
  rcases less_cases t cs (x, z) with ⟨h1, h2, h3⟩ | ⟨h1, h2, h3, h4, h5⟩ | ⟨h1, h2, h3, h4, h5⟩
  · exact (refLess_bad ht h h1).mono fun e w' ⟨he, hb⟩ => by subst he; exact lessAns_no h2 1 h3 hb
  · obtain rfl : len = 8 := by omega
    exact (refLess_long ht h h1 h2).mono fun e w' ⟨he, hb⟩ => by subst he; exact lessAns_no h4 2 h5 hb
  · exact (refLess_good ht h h1 h2 (by omega) hz).mono fun e w' ⟨v, he, ho, hb⟩ => by subst he; exact lessAns_yes h4 h5 ho hb
end Go.Proofs.Ytafakjdolnigaaa
