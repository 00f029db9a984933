/- Laws for the walk of cofferlaw3.MacEqual. -/
import Derived.Test.YtafakjdolnigaaaBegun3
import Derived.Test.YtafakjdolnigaaaMacKeys
import Derived.Test.YtafakjdolnigaaaChain3
namespace Go.Proofs.Ytafakjdolnigaaa
open Go.RowKit
set_option linter.unusedVariables false

theorem Below.mono' {B B' : Nat} {w w' : World} (h : Below B w w') (hb : B' ≤ B) : Below B' w w' := h.mono hb

/-- append behind a guard that says yes. -/
theorem wpList_append_G {ops : Array Oper} {rest : List Oper} {o : Oper} {a : Act} {w : World} {Q : Exit → Act → World → Prop} (hgd : Region.wanted o (yielded ops a.tmps) = true) (s x : Operand) (ho : o.op = .call { callee := .builtin .append, args := #[s, x], argTypes := #[29, 29] }) (base : Nat) (v : Value) (bs cs : List UInt8) (r : Option Addr) (len cap : Nat) (hs : a.eval s = v) (hx : a.eval x = .slice r len cap)
    (hv : OwnB w base v bs) (hc : BytesAt w r len cap cs) (hsz : bs.length + cs.length ≤ 70368744177664) (hbase : base ≤ w.heap.size)
    (h : ∀ v' w', OwnB w' base v' (bs ++ cs) → w.grownBy w' v.ownBlock → wpList Try.prog ops Q rest (a.put o.dst v') w') : wpList Try.prog ops Q (o :: rest) a w := by
  obtain ⟨v', w', hr, h1, h2⟩ := exec_append_bytes (o := o) s x ho base v bs cs r len cap hs hx hv hc hsz hbase
  exact BigFrame.wpList_want hgd fun K hK => by
    unfold Oper.wp
    rw [hr]
    exact hK _ _ (h v' w' h1 h2)

/-- A byte of what one owns, written. -/
theorem OwnB.set {w : World} {base g n cap : Nat} {bs : List UInt8} (h : OwnB w base (.slice (some ⟨g, 0, none⟩) n cap) bs) (j : Nat) (x : UInt8) : OwnB (w.setCell ⟨g, j, none⟩ (W8 x)) base (.slice (some ⟨g, 0, none⟩) n cap) (bs.set j x) := by
  have hn : bs.length = n := by
    obtain ⟨hl, ⟨h0, _⟩ | ⟨k, c, cur, hv, _⟩⟩ := h
    · cases h0
    · simp only [Value.slice.injEq] at hv; exact hv.2.1.symm
  have h' : w.ownsRow base 5 1 (.slice (some ⟨g, 0, none⟩) bs.length cap) bs.length (bs.map W8) := by
    have h1 : w.ownsRow base 5 1 (.slice (some ⟨g, 0, none⟩) n cap) bs.length (bs.map W8) := h
    rw [hn] at h1 ⊢
    exact h1
  have := (h'.stored j (W8 x)).1
  unfold OwnB
  rw [List.length_set, List.map_set, ← hn]
  exact this
end Go.Proofs.Ytafakjdolnigaaa
