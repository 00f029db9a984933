/- Slices of bytes in memory that read as a list; what slicing, copying, appending make of them. -/
import Derived.Test.YtafakjdolnigaaaMem
import Derived.Test.YtafakjdolnigaaaRegion
namespace Go.Proofs.Ytafakjdolnigaaa
open Go.RowKit
set_option linter.unusedVariables false

/-- A slice of bytes that reads as bs. -/
structure BytesAt (w : World) (r : Option Addr) (len cap : Nat) (bs : List UInt8) : Prop where
  hlen : bs.length = len
  hle : len ≤ cap
  hmax : cap ≤ maxLen
  hcells : 0 < len → ∃ b o, r = some ⟨b, o, none⟩ ∧ ∀ i, i < len → w.cell? ⟨b, o + i, none⟩ = some (W8 (bs[i]?.getD 0))
  hnil : r = none → cap = 0

theorem BytesAt.empty (w : World) (r : Option Addr) (cap : Nat) (h : cap ≤ maxLen) (hn : r = none → cap = 0) : BytesAt w r 0 cap [] := ⟨rfl, Nat.zero_le _, h, fun h => absurd h (by omega), hn⟩

theorem BytesAt.below {w w' : World} {r : Option Addr} {len cap : Nat} {bs : List UInt8} (h : BytesAt w r len cap bs) (hb : Below w.heap.size w w') : BytesAt w' r len cap bs :=
  ⟨h.hlen, h.hle, h.hmax, fun h0 => by
    obtain ⟨b, o, hr, hc⟩ := h.hcells h0
    exact ⟨b, o, hr, fun i hi => by rw [hb.cell (p := ⟨b, o + i, none⟩) (block_lt_of_cell (hc i hi))]; exact hc i hi⟩, h.hnil⟩

theorem BytesAt.drew {w : World} {r : Option Addr} {len cap : Nat} {bs : List UInt8} (h : BytesAt w r len cap bs) : BytesAt w.drew r len cap bs := ⟨h.hlen, h.hle, h.hmax, h.hcells, h.hnil⟩

theorem BytesAt.grown {w w' : World} {row : Option Nat} {r : Option Addr} {len cap : Nat} {bs : List UInt8} (h : BytesAt w r len cap bs) (hg : w.grownBy w' row) (hne : ∀ a, r = some a → 0 < len → some a.block ≠ row) : BytesAt w' r len cap bs :=
  ⟨h.hlen, h.hle, h.hmax, fun h0 => by
    obtain ⟨b, o, hr, hc⟩ := h.hcells h0
    exact ⟨b, o, hr, fun i hi => hg.cell (hc i hi) (hne ⟨b, o, none⟩ hr h0)⟩, h.hnil⟩

/-- Whose block is an old one. -/
theorem BytesAt.lt {w : World} {r : Option Addr} {len cap : Nat} {bs : List UInt8} (h : BytesAt w r len cap bs) {a : Addr} (ha : r = some a) (h0 : 0 < len) : a.block < w.heap.size := by
  obtain ⟨b, o, hr, hc⟩ := h.hcells h0
  rw [ha] at hr
  obtain rfl := Option.some.inj hr
  exact block_lt_of_cell (hc 0 h0)

/-- x[l:h] as to what it reads. -/
theorem BytesAt.sub {w : World} {r : Option Addr} {len cap : Nat} {bs : List UInt8} (h : BytesAt w r len cap bs) (l hi : Nat) (hl : l ≤ hi) (hh : hi ≤ len) (m : Nat) (hm : hi ≤ m) (hmc : m ≤ cap) :
    BytesAt w (if m = l then r else r.map (·.add (l * 1))) (hi - l) (m - l) ((bs.take hi).drop l) := by
  have hlen := h.hlen
  have hmax := h.hmax
  refine ⟨by simp; omega, by omega, by omega, fun h0 => ?_, fun hn => ?_⟩
  · obtain ⟨b, o, rfl, hc⟩ := h.hcells (by omega)
    refine ⟨b, o + l, ?_, fun i hi2 => ?_⟩
    · rw [if_neg (by omega)]
      simp [Addr.add_lit]
    · have := hc (l + i) (by omega)
      rw [show o + (l + i) = o + l + i by omega] at this
      rw [this]
      congr 2
      simp [List.getElem?_drop, show l + i < hi by omega]
  · by_cases hml : m = l
    · omega
    · rw [if_neg hml] at hn
      have : r = none := by cases r <;> simp_all
      have := h.hnil this
      omega

section
variable {P : Program} {ops : Array Oper} {rest : List Oper} {o : Oper} {a : Act} {w : World} {Q : Exit → Act → World → Prop}

/-- A step whose run is known. -/
theorem wpList_val (hgd : o.guard = none) (v : Value) (w' : World) (hr : (execOp a.eval o).run P w = .ok (.value v) w') (h : wpList P ops Q rest (a.put o.dst v) w') : wpList P ops Q (o :: rest) a w :=
  wpList_plain hgd fun K hK => by
    unfold Oper.wp
    rw [hr]
    exact hK _ _ h

/-- copy into a row of one's own. -/
theorem exec_copy (d s : Operand) (dT sT : TypeId) (ho : o.op = .call { callee := .builtin .copy, args := #[d, s], argTypes := #[dT, sT] }) (elem : TypeId) (hu : P.underlying dT = some (.slice elem)) (hsz : (P.info? elem).map (·.size) = some 1)
    (g off dLen dCap : Nat) (r : Option Addr) (len cap : Nat) (bs : List UInt8) (hd : a.eval d = .slice (some ⟨g, off, none⟩) dLen dCap) (hs : a.eval s = .slice r len cap) (hb : BytesAt w r len cap bs)
    (cur : Array Value) (t : TypeId) (hg : w.heap[g]? = some (.cells cur t (0, 0))) (hfit : off + min len dLen ≤ cur.size) :
    ∃ w', (execOp a.eval o).run P w = .ok (.value (.int .i64 ((min len dLen : Nat) : Int))) w' ∧ w' = w.setRow g (cur.toList.take off ++ (bs.take (min len dLen)).map W8 ++ cur.toList.drop (off + min len dLen)).toArray := by
  have hlen := hb.hlen
  have hcs : ((bs.take (min len dLen)).map W8).length = min len dLen := by simp; omega
  have h1 : ∀ v ∈ (bs.take (min len dLen)).map W8, v.oneCell' = true := by
    intro v hv
    obtain ⟨x, _, rfl⟩ := List.mem_map.1 hv
    rfl
  by_cases h0 : min len dLen = 0
  · have e : (cur.toList.take off ++ (bs.take (min len dLen)).map W8 ++ cur.toList.drop (off + min len dLen)).toArray = cur := by simp [h0]
    refine ⟨w, ?_, by rw [e, setRow_self w g cur t _ hg]⟩
    obtain ⟨i, hi, hi1⟩ := Option.map_eq_some_iff.1 hsz
    unfold execOp
    simp only [ho, resolve, invoke, builtin, Sem.run_bind, Sem.run_pure, Result.andThen_ok, List.map_toArray, List.map_cons, List.map_nil, hd, hs]
    have hm : Nat.min len dLen = 0 := h0
    cases r <;> simp [Builtin.copy_, run_underlying hu, Builtin.lenOf, Builtin.firstCells, sizeOf, typeInfo, hi, hm, loadCells, loadCellsFrom, storeCells, goInt]
  · obtain ⟨b, of, rfl, hc⟩ := hb.hcells (by omega)
    refine ⟨_, ?_, rfl⟩
    have hr := run_copy_row (P := P) w dT sT o.type elem g off dLen dCap ⟨b, of, none⟩ len cap cur t ((bs.take (min len dLen)).map W8) hu hsz hg hcs (fun j v hv => ?_) (by rw [hcs]; exact hfit) h1
    · rw [hcs] at hr
      unfold execOp
      simp only [ho, resolve, invoke, builtin, Sem.run_bind, Sem.run_pure, Result.andThen_ok, List.map_toArray, List.map_cons, List.map_nil, hd, hs, hr, goInt]
    · have hj : j < min len dLen := by
        have := (List.getElem?_eq_some_iff.1 hv).1
        rw [hcs] at this
        exact this
      rw [Addr.add_lit, hc j (by omega)]
      simp only [List.getElem?_map, List.getElem?_take, hj, if_true] at hv
      rw [← hv]
      have : j < bs.length := by omega
      simp [this]

theorem wpList_copy_bytes (hgd : o.guard = none) (d s : Operand) (dT sT : TypeId) (ho : o.op = .call { callee := .builtin .copy, args := #[d, s], argTypes := #[dT, sT] }) (elem : TypeId) (hu : P.underlying dT = some (.slice elem)) (hsz : (P.info? elem).map (·.size) = some 1)
    (g off dLen dCap : Nat) (r : Option Addr) (len cap k : Nat) (bs : List UInt8) (hd : a.eval d = .slice (some ⟨g, off, none⟩) dLen dCap) (hs : a.eval s = .slice r len cap) (hb : BytesAt w r len cap bs) (hk : min len dLen = k)
    (cur : Array Value) (t : TypeId) (hg : w.heap[g]? = some (.cells cur t (0, 0))) (hfit : off + k ≤ cur.size)
    (h : ∀ w', w' = w.setRow g (cur.toList.take off ++ (bs.take k).map W8 ++ cur.toList.drop (off + k)).toArray → wpList P ops Q rest (a.put o.dst (.int .i64 (k : Int))) w') : wpList P ops Q (o :: rest) a w := by
  subst hk
  obtain ⟨w', hr, hw⟩ := exec_copy d s dT sT ho elem hu hsz g off dLen dCap r len cap bs hd hs hb cur t hg hfit
  exact wpList_val hgd _ w' hr (h w' hw)

/-- The run of a slice of a slice whose elements have one cell. -/
theorem exec_slice (t e : TypeId) (x : Operand) (lo hi mx : Option Operand) (ho : o.op = .slice t x lo hi mx) (ht : P.underlying t = some (.slice e)) (hs : (P.info? e).map (·.size) = some 1)
    (r : Option Addr) (len cap : Nat) (hx : a.eval x = .slice r len cap) (l h m : Nat)
    (hl : match lo with | none => l = 0 | some y => ∃ k, a.eval y = .int k (l : Int)) (hh : match hi with | none => h = len | some y => ∃ k, a.eval y = .int k (h : Int)) (hm : match mx with | none => m = cap | some y => ∃ k, a.eval y = .int k (m : Int))
    (h1 : l ≤ h) (h2 : h ≤ m) (h3 : m ≤ cap) (hmx : mx.isSome = true → hi.isSome = true) :
    (execOp a.eval o).run P w = .ok (.value (.slice (if m = l then r else r.map (·.add (l * 1))) (h - l) (m - l))) w := by
  obtain ⟨i, hi1, hi2⟩ := Option.map_eq_some_iff.1 hs
  have hsz : (sizeOf e).run P w = .ok 1 w := by simp [sizeOf, typeInfo, hi1, hi2]
  have b : ∀ (k : IntKind) (n y : Nat) (c : BoundsCode), n ≤ y → (Instr.sliceBound (.int k (n : Int)) y c).run P w = .ok n w := fun k n y c hn => by
    simp [Instr.sliceBound, asIntOf]; omega
  have hbs : (Instr.sliceBounds true len cap (lo.map a.eval) (hi.map a.eval) (mx.map a.eval)).run P w = .ok (l, h, m) w := by
    cases lo <;> cases hi <;> cases mx <;> simp only [Option.map_none, Option.map_some] at *
    all_goals first
      | (simp at hmx; done)
      | skip
    all_goals try (obtain ⟨kl, hl⟩ := hl)
    all_goals try (obtain ⟨kh, hh⟩ := hh)
    all_goals try (obtain ⟨km, hm⟩ := hm)
    all_goals simp only [Instr.sliceBounds, Sem.run_bind, Sem.run_pure, Result.andThen]
    all_goals simp_all
  unfold execOp
  simp only [ho, hx]
  have hsa : (Instr.sliceAt t (.slice r len cap) (lo.map a.eval) (hi.map a.eval) (mx.map a.eval)).run P w = (Instr.slice t (.slice r len cap) (lo.map a.eval) (hi.map a.eval) (mx.map a.eval)).run P w := by
    simp [Instr.sliceAt, run_underlying ht]
  simp only [Sem.run_bind, hsa, Instr.slice, run_underlying ht, Result.andThen, hbs, hsz, Sem.run_pure]

/-- x[l:h], as to what it reads. -/
theorem wpList_slice (hgd : o.guard = none) (t e : TypeId) (x : Operand) (lo hi mx : Option Operand) (ho : o.op = .slice t x lo hi mx) (ht : P.underlying t = some (.slice e)) (hs : (P.info? e).map (·.size) = some 1)
    (r : Option Addr) (len cap : Nat) (hx : a.eval x = .slice r len cap) (l h m : Nat)
    (hl : match lo with | none => l = 0 | some y => ∃ k, a.eval y = .int k (l : Int)) (hh : match hi with | none => h = len | some y => ∃ k, a.eval y = .int k (h : Int)) (hm : match mx with | none => m = cap | some y => ∃ k, a.eval y = .int k (m : Int))
    (h1 : l ≤ h) (h2 : h ≤ len) (h2' : h ≤ m) (h3 : m ≤ cap) (hmx : mx.isSome = true → hi.isSome = true) {wb : World} {bs : List UInt8} (hb : BytesAt wb r len cap bs)
    (hk : ∀ r', BytesAt wb r' (h - l) (m - l) ((bs.take h).drop l) → (∀ a, r' = some a → 0 < h - l → ∃ a', r = some a' ∧ a'.block = a.block) → wpList P ops Q rest (a.put o.dst (.slice r' (h - l) (m - l))) w) : wpList P ops Q (o :: rest) a w := by
  refine wpList_val hgd _ w (exec_slice t e x lo hi mx ho ht hs r len cap hx l h m hl hh hm h1 h2' h3 hmx) (hk _ (hb.sub l h h1 h2 m h2' h3) ?_)
  intro ad had h0
  rw [if_neg (by omega)] at had
  obtain ⟨a', ha', rfl⟩ := Option.map_eq_some_iff.1 had
  refine ⟨a', ha', ?_⟩
  unfold Addr.add
  split <;> rfl
end
end Go.Proofs.Ytafakjdolnigaaa
