/- Two slices of one's own side by side: where a row lies behind an append. -/
import Derived.Test.YtafakjdolnigaaaGChain
namespace Go.Proofs.Ytafakjdolnigaaa
open Go.RowKit
set_option linter.unusedVariables false

/-- Behind an append: the old row, or a new one. -/
theorem append_fresh {w : World} {base : Nat} {ty : TypeId} {v : Value} {bs cs : List UInt8} {r : Option Addr} {len cap : Nat} (hv : OwnB w base v bs) (hc : BytesAt w r len cap cs)
    (hsz : bs.length + cs.length ≤ 70368744177664) {v' : Value} {w' : World} (hr : (Builtin.append_ #[29, 29] ty #[v, .slice r len cap]).run Try.prog w = .ok v' w') :
    ∀ k, v'.ownBlock = some k → v.ownBlock = some k ∨ w.heap.size ≤ k := by
  obtain ⟨i, hi, hz, hs, hby⟩ := infoU8
  have hlen := hc.hlen
  have fin : ∀ {u : Value} {w1 : World}, (Builtin.append_ #[29, 29] ty #[v, .slice r len cap]).run Try.prog w = .ok u w1 → (∀ k, u.ownBlock = some k → v.ownBlock = some k ∨ w.heap.size ≤ k) → ∀ k, v'.ownBlock = some k → v.ownBlock = some k ∨ w.heap.size ≤ k := by
    intro u w1 h1 h2
    rw [h1] at hr
    simp only [Result.ok.injEq] at hr
    rw [← hr.1]
    exact h2
  cases r with
  | none =>
    have hcap := hc.hnil rfl
    have hle := hc.hle
    have h0 : len = 0 := by omega
    subst h0 hcap
    obtain ⟨r0, cap0, rfl, hb0, _⟩ := hv.at
    exact fin (run_append_nothing w 29 29 ty 5 i Try.underlying29 hi r0 bs.length cap0 hb0.hle _ (Src.ofNil w Try.underlying29 0)) (fun k hk => .inl hk)
  | some a =>
    have hnews : ∀ j u, (cs.map W8)[j]? = some u → w.cell? (a.add j) = some u := fun j u hj => by
      have hj' : j < cs.length := by simpa using (List.getElem?_eq_some_iff.1 hj).1
      obtain ⟨b, o, hr, hcell⟩ := hc.hcells (by omega)
      obtain rfl := Option.some.inj hr
      rw [Addr.add_lit, hcell j (by omega)]
      simpa [List.getElem?_map, List.getElem?_eq_getElem hj'] using hj
    have h1 : ∀ u ∈ cs.map W8, u.oneCell' = true := fun u hu => by
      obtain ⟨x, _, rfl⟩ := List.mem_map.1 hu
      rfl
    have hl : (cs.map W8).length = len * i.size := by rw [List.length_map, hs, hlen, Nat.mul_one]
    obtain ⟨hvl, ⟨rfl, h0⟩ | ⟨g, cap0, cur, rfl, hbg, hg, hnc, hcm, hcs, htake⟩⟩ := hv
    · by_cases hm : len = 0
      · subst hm
        refine fin (u := .slice none 0 0) (w1 := w) ?_ (fun k hk => by cases hk)
        simp [Builtin.append_, run_underlying Try.underlying29, sizeOf, typeInfo, hi, Builtin.lenOf, Builtin.firstCells, loadCells, loadCellsFrom]
      · exact fin (run_append_nil (P := Try.prog) w 29 ty 5 i _ Try.underlying29 hi hz a len cap (cs.map W8) hl hnews (by omega) (by omega) (by rw [hby]; omega)) (fun k hk => .inr (by obtain rfl := Option.some.inj hk; exact Nat.le_refl _))
    · by_cases hroom : bs.length + len ≤ cap0
      · have hfit : bs.length * i.size + (cs.map W8).length ≤ cur.size := by rw [hl, hcs, hs, ← Nat.add_mul]; exact Nat.mul_le_mul_right _ hroom
        exact fin (run_append_room (P := Try.prog) w 29 ty 5 i Try.underlying29 hi g bs.length cap0 cur hg a len cap (cs.map W8) hl hnews h1 hroom hfit) (fun k hk => .inl hk)
      · have holds : ∀ j u, (bs.map W8)[j]? = some u → w.cell? ((⟨g, 0, none⟩ : Addr).add j) = some u := fun j u hj => by
          have hown : w.ownsRow base 5 1 (.slice (some ⟨g, 0, none⟩) bs.length cap0) bs.length (bs.map W8) := ⟨hvl, .inr ⟨g, cap0, cur, rfl, hbg, hg, hnc, hcm, hcs, htake⟩⟩
          exact hown.cells (g := g) rfl j u hj
        exact fin (run_append_grow (P := Try.prog) w 29 ty 5 i _ Try.underlying29 hi hz ⟨g, 0, none⟩ bs.length cap0 (bs.map W8) (by rw [List.length_map, hs, Nat.mul_one]) holds a len cap (cs.map W8) hl hnews (by omega) (by omega) (growslice_fits_wide (by omega) (by rw [hby]; omega))) (fun k hk => .inr (by obtain rfl := Option.some.inj hk; exact Nat.le_refl _))

theorem wpList_append_sep {ops : Array Oper} {rest : List Oper} {o : Oper} {a : Act} {w : World} {Q : Exit → Act → World → Prop} (hgd : o.guard = none) (s x : Operand) (ho : o.op = .call { callee := .builtin .append, args := #[s, x], argTypes := #[29, 29] }) (base : Nat) (v : Value) (bs cs : List UInt8) (r : Option Addr) (len cap : Nat) (hs : a.eval s = v) (hx : a.eval x = .slice r len cap)
    (hv : OwnB w base v bs) (hc : BytesAt w r len cap cs) (hsz : bs.length + cs.length ≤ 70368744177664) (hbase : base ≤ w.heap.size)
    (h : ∀ v' w', OwnB w' base v' (bs ++ cs) → w.grownBy w' v.ownBlock → (∀ k, v'.ownBlock = some k → v.ownBlock = some k ∨ w.heap.size ≤ k) → wpList Try.prog ops Q rest (a.put o.dst v') w') : wpList Try.prog ops Q (o :: rest) a w := by
  obtain ⟨v', w', hr, h1, h2⟩ := run_append_bytes w base o.type v bs cs r len cap hv hc hsz hbase
  refine wpList_val hgd v' w' ?_ (h v' w' h1 h2 (append_fresh hv hc hsz hr))
  unfold execOp
  simp only [ho, resolve, invoke, builtin, Sem.run_bind, Sem.run_pure, Result.andThen_ok, List.map_toArray, List.map_cons, List.map_nil, hs, hx, hr]

/-- No block of the one is the other's. -/
def Apart (u v : Value) : Prop := ∀ k, u.ownBlock = some k → v.ownBlock ≠ some k
theorem OwnB.block {w : World} {base : Nat} {v : Value} {bs : List UInt8} (h : OwnB w base v bs) : ∀ k, v.ownBlock = some k → k < w.heap.size := fun k hk => (ownsRow_block h k hk).2
/-- The other one, behind an append to the first. -/
theorem OwnB.beside {w w' : World} {base : Nat} {v u : Value} {bs : List UInt8} (h : OwnB w base v bs) (hg : w.grownBy w' u.ownBlock) (ha : Apart u v) : OwnB w' base v bs := by
  obtain ⟨hl, h0 | ⟨g, cap, cur, hv, hb', hgr, hr⟩⟩ := h
  · exact ⟨hl, .inl h0⟩
  · refine ⟨hl, .inr ⟨g, cap, cur, hv, hb', (hg.block _ (heap_lt hgr) (fun e => ha g e.symm (by rw [hv]; rfl))).trans hgr, hr⟩⟩
theorem apart_grown {w : World} {base : Nat} {u u' v : Value} {bs : List UInt8} (h : OwnB w base v bs) (ha : Apart u v) (hf : ∀ k, u'.ownBlock = some k → u.ownBlock = some k ∨ w.heap.size ≤ k) : Apart u' v := by
  intro k hk he
  rcases hf k hk with h1 | h1
  · exact ha k h1 he
  · have := h.block k he
    omega
theorem Apart.symm {u v : Value} (h : Apart u v) : Apart v u := fun k hk he => h k he hk
theorem apart_none (v : Value) : Apart (.slice none 0 0) v := fun k hk => by cases hk
end Go.Proofs.Ytafakjdolnigaaa
