/- cofferref14.Same of two tokens that are the same. cofferlaw14.twin and cap2. -/
import Derived.Test.YtafakjdolnigaaaGCheck
namespace Go.Proofs.Ytafakjdolnigaaa
open Go.RowKit
set_option linter.unusedVariables false

theorem run_part48 (a : UInt8) (b : Int) (w : World) : (part 48 (cavRow a b) 0).run Try.prog w = .ok (W8 a) w := by
  have ha : (isAgg 48).run Try.prog w = .ok false w := by kernel_rfl
  simp [part, ha, cavRow]
theorem run_part2 (a : UInt8) (b : Int) (w : World) : (part 2 (cavRow a b) 1).run Try.prog w = .ok (.int .i64 b) w := by
  have ha : (isAgg 2).run Try.prog w = .ok false w := by kernel_rfl
  simp [part, ha, cavRow]
theorem run_equal87 (a : UInt8) (b : Int) (w : World) : (Op.equalIn 10000 87 (.agg (cavRow a b)) (.agg (cavRow a b))).run Try.prog w = .ok true w := by
  have hS : Try.prog.underlying 87 = some (.struct (Try.prog.fieldsOf 87)) := by kernel_rfl
  have hp : Try.prog.stoodInHeld 87 = false := by kernel_rfl
  have e1 : (Op.equalIn 9999 48 (W8 a) (W8 a)).run Try.prog w = .ok true w := by
    unfold W8
    rw [show (9999 : Nat) = 9998 + 1 from rfl, run_equalIn_int w 9998 48 .u8 .u8 _ _ (by kernel_rfl)]
    simp
  have e2 : (Op.equalIn 9999 2 (.int .i64 b) (.int .i64 b)).run Try.prog w = .ok true w := by
    rw [show (9999 : Nat) = 9998 + 1 from rfl, run_equalIn_int w 9998 2 .i64 .i64 _ _ (by kernel_rfl)]
    simp
  rw [show (10000 : Nat) = 9999 + 1 from rfl, run_equalIn_agg w 9999 87 _ _ hS hp]
  simp only [Program.fieldsOf, Try.underlying87]
  simp [Op.eqFields, run_part48, run_part2, e1, e2]
@[go_sem high] theorem run_neq87 (a : UInt8) (b : Int) (w : World) : (binOp .neq 87 (.agg (cavRow a b)) (.agg (cavRow a b))).run Try.prog w = .ok (.bool false) w := by
  rw [run_neq_struct w 87, run_equal87]; rfl
@[go_sem high] theorem eqGuard87 (op : BinOp) (x y : Operand) (a b : Array Value) (w : World) : (eqGuard op 87 x y (.agg a) (.agg b)).run Try.prog w = .ok () w := run_eqGuard_agg w op 87 x y a b (by kernel_rfl)

/-- An array in the middle of a row loaded, behind a guard that says yes. -/
theorem wpList_loadsub_G {ops : Array Oper} {rest : List Oper} {o : Oper} {a : Act} {w : World} {Q : Exit → Act → World → Prop} (hgd : Region.wanted o (yielded ops a.tmps) = true) (x : Operand) (ho : o.op = .load 31 x) (g off : Nat) (hx : a.eval x = .pointer (some ⟨g, off, none⟩))
    (l : List UInt8) (hl : l.length = 32) (hv : ∀ j, j < (row8 l).size → w.cell? ⟨g, off + j, none⟩ = (row8 l)[j]?) (h : wpList Try.prog ops Q rest (a.put o.dst (.agg (row8 l))) w) : wpList Try.prog ops Q (o :: rest) a w := by
  have hr := exec_load_sub (P := Try.prog) (a := a) (o := o) (w := w) g off 31 (row8 l) _ ho hx hv Try.underlying31 rfl (info31 l hl)
  exact BigFrame.wpList_want hgd fun K hK => by
    unfold Oper.wp
    rw [hr]
    exact hK _ _ h

theorem neq_self64 (s : UInt64) : (s != s) = false := by simp
theorem neq_self8 (s : UInt8) : (s != s) = false := by simp

set_option maxRecDepth 100000 in
set_option maxHeartbeats 8000000 in
theorem same_any {w : World} {t : Tok} {r r' : Option Addr} {len cap cap' : Nat} {cs : List (UInt8 × Int)} (ht : t.Ok) (h : CavsAt w r len cap cs) (h' : CavsAt w r' len cap' cs) :
    Calls Try.prog 46 #[.agg (tokRow t (.slice r len cap)), .agg (tokRow t (.slice r' len cap'))] w fun e w' => e = .returned (.bool true) ∧ Below w.heap.size w w' := by
  have hcl := h.hlen
  subst hcl
  have Ht := Lib.hid ht
  have H := Lib.hid h
  have H' := Lib.hid h'
  have hcap := h.hmax
  have hle := h.hle
  have hcap' := h'.hmax
  have hle' := h'.hle
  unfold maxLen at hcap hcap'
  have hid : (!(t.tag == t.tag)) = false := by simp
  have htl := ht.tag
  clear ht h h'
  go_enter Try.func46, Try.ntmps46
  go_upto_region 1 with (refine wpList_box rfl 51 _ rfl (tokRow _ _) rfl ?_)
  have r0 := heap_alloc2_old w (.cells (tokRow t (.slice r cs.length cap)) 51) (.cells (tokRow t (.slice r' cs.length cap')) 51)
  have r1 := heap_alloc2_new w (.cells (tokRow t (.slice r cs.length cap)) 51) (.cells (tokRow t (.slice r' cs.length cap')) 51)
  refine abstract_world (fun W => W.heap[w.heap.size]? = some (.cells (tokRow t (.slice r cs.length cap)) 51 (0, 0)) ∧ W.heap[w.heap.size + 1]? = some (.cells (tokRow t (.slice r' cs.length cap')) 51 (0, 0)) ∧ Below w.heap.size w W) ⟨r0, r1, below_seq (below_one _ _) (below_one _ _)⟩ ?_
  clear r0 r1
  rintro w1 ⟨r0, r1, r2⟩
  have X := tok_in r0 Ht.out.tag
  have Y := tok_in r1 Ht.out.tag
  have R0 := Lib.hid r0
  have R1 := Lib.hid r1
  have R2 := Lib.hid r2
  have x0 := X.c0
  have x1 := X.c1
  have x2 := X.c2
  have x3 := X.c3
  have x4 := X.c4
  have x5 := X.c5
  have y0 := Y.c0
  have y1 := Y.c1
  have y2 := Y.c2
  have y3 := Y.c3
  have y4 := Y.c4
  have y5 := Y.c5
  clear X Y r0 r1 r2
  obtain ⟨s, tn, rr, f, u, tag⟩ := t
  simp only at x0 x1 x2 x3 x4 y0 y1 y2 y3 y4 htl hid
  go_upto_region 4 with (first
    | (refine wpList_loadsub_G (by kernel_rfl) _ rfl w.heap.size 6 rfl tag htl (tok_load_tag R0.out Ht.out.tag) ?_)
    | (refine wpList_loadsub_G (by kernel_rfl) _ rfl (w.heap.size + 1) 6 rfl tag htl (tok_load_tag R1.out Ht.out.tag) ?_))
  clear x0 x1 x2 x3 x4 x5 y0 y1 y2 y3 y4 y5 hid
  go_loopw [5] (fun v wr => ∃ k : Nat, k ≤ cs.length ∧ v = .int .i64 (k : Int) ∧ Below w1.heap.size w1 wr) (fun v _ => cs.length - (intOf v).toNat)
  case atStart => exact ⟨0, by omega, rfl, Below.refl _ _⟩
  case round =>
    obtain ⟨k, hk, rfl, hb⟩ := hrel
    have Hb := Lib.hid hb
    have X : Hid (∀ w', Below wr.heap.size wr w' → w'.cell? ⟨w.heap.size, 5, none⟩ = some (.slice r cs.length cap)) := Lib.hid fun w' hw => cell_row (((below_seq hb hw).block _ (heap_lt R0.out)).trans R0.out) rfl
    have Y : Hid (∀ w', Below wr.heap.size wr w' → w'.cell? ⟨w.heap.size + 1, 5, none⟩ = some (.slice r' cs.length cap')) := Lib.hid fun w' hw => cell_row (((below_seq hb hw).block _ (heap_lt R1.out)).trans R1.out) rfl
    have x5 := X.out wr (Below.refl _ _)
    clear hb
    by_cases hlt : k < cs.length
    · obtain ⟨b, o, rfl, hc⟩ := H.out.hcells (by omega)
      obtain ⟨b', o', rfl, hc'⟩ := H'.out.hcells (by omega)
      have h1 := (H.out.below R2.out).below Hb.out
      have h2 := (H'.out.below R2.out).below Hb.out
      obtain ⟨⟨x, z⟩, hxz⟩ : ∃ c, c = cs[k]?.getD (0, 0) := ⟨_, rfl⟩
      have V : Hid (∀ w', Below wr.heap.size wr w' → (w'.cell? ⟨b, o + k * 2, none⟩ = some (W8 x) ∧ w'.cell? ⟨b, o + k * 2 + 1, none⟩ = some (.int .i64 z)) ∧ (w'.cell? ⟨b', o' + k * 2, none⟩ = some (W8 x) ∧ w'.cell? ⟨b', o' + k * 2 + 1, none⟩ = some (.int .i64 z))) := Lib.hid fun w' hw => by
        obtain ⟨b2, o2, hr2, hc2⟩ := (h1.below hw).hcells (by omega)
        obtain ⟨b3, o3, hr3, hc3⟩ := (h2.below hw).hcells (by omega)
        have e2 := Option.some.inj hr2
        have e3 := Option.some.inj hr3
        have a2 := hc2 k hlt
        have a3 := hc3 k hlt
        rw [← hxz] at a2 a3
        injection e2 with eb eo _
        injection e3 with eb' eo' _
        subst eb eo eb' eo'
        exact ⟨a2, a3⟩
      clear hc hc' h1 h2 hxz
      go_upto_region 6 with (fail)
      clear x5
      have hcd : Below wr.heap.size wr wr.drew := (Below.refl _ _).drew
      refine region_k (fun w' => Below wr.heap.size wr w') (by kernel_rfl) hcd (fun Kr hKr => ?_)
      refine g_quiet hcd 0 62 (.pointer (some ⟨w.heap.size, 5, none⟩)) (by kernel_rfl) (by kernel_rfl) (by kernel_rfl) (by kernel_rfl) (fun w3 hw3 => by go_simp) ?_
      refine g_quiet hcd 1 63 (.slice (some ⟨b, o, none⟩) cs.length cap) (by kernel_rfl) (by kernel_rfl) (by kernel_rfl) (by kernel_rfl) (fun w3 hw3 => by have c := X.out w3 hw3; go_simp) ?_
      refine g_quiet hcd 2 64 (.int .i64 (k : Int)) (by kernel_rfl) (by kernel_rfl) (by kernel_rfl) (by kernel_rfl) (fun _ _ => by kernel_rfl) ?_
      refine g_quiet hcd 3 65 (.pointer (some ⟨b, o + k * 2, none⟩)) (by kernel_rfl) (by kernel_rfl) (by kernel_rfl) (by kernel_rfl) (fun w3 hw3 => by go_simp) ?_
      refine g_quiet hcd 4 66 (.agg (cavRow x z)) (by kernel_rfl) (by kernel_rfl) (by kernel_rfl) (by kernel_rfl) (fun w3 hw3 => load87_hy (.tmp 65) (by kernel_rfl) b (o + k * 2) x z (by kernel_rfl) _ (V.out w3 hw3).1.1 (V.out w3 hw3).1.2) ?_
      refine g_quiet hcd 5 67 (.pointer (some ⟨w.heap.size + 1, 5, none⟩)) (by kernel_rfl) (by kernel_rfl) (by kernel_rfl) (by kernel_rfl) (fun w3 hw3 => by go_simp) ?_
      refine g_quiet hcd 6 68 (.slice (some ⟨b', o', none⟩) cs.length cap') (by kernel_rfl) (by kernel_rfl) (by kernel_rfl) (by kernel_rfl) (fun w3 hw3 => by have c := Y.out w3 hw3; go_simp) ?_
      refine g_quiet hcd 7 69 (.int .i64 (k : Int)) (by kernel_rfl) (by kernel_rfl) (by kernel_rfl) (by kernel_rfl) (fun _ _ => by kernel_rfl) ?_
      refine g_quiet hcd 8 70 (.pointer (some ⟨b', o' + k * 2, none⟩)) (by kernel_rfl) (by kernel_rfl) (by kernel_rfl) (by kernel_rfl) (fun w3 hw3 => by go_simp) ?_
      refine g_quiet hcd 9 71 (.agg (cavRow x z)) (by kernel_rfl) (by kernel_rfl) (by kernel_rfl) (by kernel_rfl) (fun w3 hw3 => load87_hy (.tmp 70) (by kernel_rfl) b' (o' + k * 2) x z (by kernel_rfl) _ (V.out w3 hw3).2.1 (V.out w3 hw3).2.2) ?_
      refine g_quiet hcd 10 72 (.bool false) (by kernel_rfl) (by kernel_rfl) (by kernel_rfl) (by kernel_rfl) (fun w3 hw3 => by go_simp) ?_
      refine m_end (by kernel_rfl) ?_
      simp only [Act.put, List.setIfInBounds_toArray, List.set_cons_succ, List.set_cons_zero]
      have Hcd := Lib.hid hcd
      clear hcd
      go_wp2
      exact ⟨⟨k + 1, by omega, by go_num, below_seq Hb.out Hcd.out⟩, by simp [intOf]; omega⟩
    · go_wp2
      go_ret
      exact ⟨rfl, below_seq R2.out Hb.out⟩
end Go.Proofs.Ytafakjdolnigaaa

namespace Go.Proofs.Ytafakjdolnigaaa
open Go.RowKit
set_option linter.unusedVariables false

/-- Caveats, and room for two more that are zero. -/
def twinRow (cs : List (UInt8 × Int)) : Array Value := (cavCells (cs ++ [(0, 0), (0, 0)])).toArray
theorem made_cavs (n : Nat) : madeCells (Value.agg #[.int .u8 0, .int .i64 0]).cells (n * 2) = (cavCells (List.replicate n (0, 0))).toArray := by
  apply Array.ext
  · simp [madeCells, cavCells_length]
  · intro i h1 h2
    have hi : i < n * 2 := by simpa [madeCells] using h1
    obtain ⟨e1, e2⟩ := cavCells_at (List.replicate n (0, 0)) (i / 2) (by simp; omega)
    have hm : i % 2 = 0 ∨ i % 2 = 1 := by omega
    have e : (cavCells (List.replicate n ((0 : UInt8), (0 : Int))))[i]? = some (if i % 2 = 0 then .int .u8 0 else .int .i64 0) := by
      have hr : (List.replicate n ((0 : UInt8), (0 : Int)))[i / 2]?.getD (0, 0) = (0, 0) := by rw [List.getElem?_replicate]; split <;> rfl
      rw [hr] at e1 e2
      rcases hm with hm | hm
      · rw [show i / 2 * 2 = i by omega] at e1
        rw [e1, if_pos hm]; rfl
      · rw [show i / 2 * 2 + 1 = i by omega] at e2
        rw [e2, if_neg (by omega)]
    have h3 : (cavCells (List.replicate n ((0 : UInt8), (0 : Int)))).toArray[i]? = some (if i % 2 = 0 then .int .u8 0 else .int .i64 0) := by simpa using e
    rw [Array.getElem?_eq_getElem h2] at h3
    rw [Option.some.inj h3]
    simp only [madeCells, Value.cells]
    rcases hm with hm | hm <;> simp [hm]
theorem run_makeCavs (w : World) (n : Nat) (hn : n ≤ 1000000) : (Instr.makeSlice 49 (.int .i64 0) (.int .i64 (n : Int))).run Try.prog w = .ok (.slice (some ⟨w.heap.size, 0, none⟩) 0 n) (w.alloc (.cells (cavCells (List.replicate n (0, 0))).toArray 87)) := by
  obtain ⟨i, hi, hz, hs, hby⟩ := info87'
  have hr := run_make (P := Try.prog) w 49 87 i _ Try.underlying49 hi hz .i64 .i64 0 (n : Int) (by omega) (by omega) (by rw [hby]; omega) (by omega)
  rw [hs] at hr
  simp only [Int.toNat_natCast, made_cavs] at hr
  exact hr
set_option maxRecDepth 100000 in
theorem run_append_twin (w : World) (g : Nat) (ty : TypeId) (cs : List (UInt8 × Int)) (n : Nat) (r : Option Addr) (cap : Nat) (hg : w.heap[g]? = some (.cells (cavCells (List.replicate (n + 2) (0, 0))).toArray 87 (0, 0))) (hc : CavsAt w r n cap cs) :
    ∃ w', (Builtin.append_ #[49, 49] ty #[.slice (some ⟨g, 0, none⟩) 0 (n + 2), .slice r n cap]).run Try.prog w = .ok (.slice (some ⟨g, 0, none⟩) n (n + 2)) w' ∧ w'.heap[g]? = some (.cells (twinRow cs) 87 (0, 0)) ∧ w.grownBy w' (some g) := by
  obtain ⟨i, hi, hz, hs, hby⟩ := info87'
  have hlen := hc.hlen
  cases r with
  | none =>
    have hcap := hc.hnil rfl
    have hle := hc.hle
    have h0 : n = 0 := by omega
    subst h0 hcap
    have : cs = [] := List.eq_nil_of_length_eq_zero hlen
    subst this
    refine ⟨w, run_append_nothing w 49 49 ty 87 i Try.underlying49 hi (some ⟨g, 0, none⟩) 0 2 (by omega) _ (Src.ofNil w Try.underlying49 0), hg, ?_⟩
    exact ⟨rfl, rfl, rfl, Nat.le_refl _, fun _ _ _ => rfl⟩
  | some a =>
    have hnews : ∀ j u, (cavCells cs)[j]? = some u → w.cell? (a.add j) = some u := fun j u hj => by
      have hj' : j < cs.length * 2 := by
        have := (List.getElem?_eq_some_iff.1 hj).1
        rwa [cavCells_length] at this
      obtain ⟨b, o, hr, hcell⟩ := hc.hcells (by omega)
      obtain rfl := Option.some.inj hr
      obtain ⟨e1, e2⟩ := cavCells_at cs (j / 2) (by omega)
      obtain ⟨c1, c2⟩ := hcell (j / 2) (by omega)
      rw [Addr.add_lit]
      have hm : j % 2 = 0 ∨ j % 2 = 1 := by omega
      rcases hm with hm | hm
      · have ej : j / 2 * 2 = j := by omega
        rw [ej] at e1 c1
        rw [c1, ← e1, hj]
      · have ej : j / 2 * 2 + 1 = j := by omega
        rw [ej] at e2
        rw [show o + j = o + j / 2 * 2 + 1 by omega, c2, ← e2, hj]
    have key := run_append_room (P := Try.prog) w 49 ty 87 i Try.underlying49 hi g 0 (n + 2) _ hg a n cap (cavCells cs) (by rw [hs, cavCells_length]; omega) hnews (cavCells_one cs) (by omega) (by simp [hs, cavCells_length]; omega)
    rw [Nat.zero_add] at key
    refine ⟨_, key, ?_, ⟨rfl, rfl, rfl, by simp, fun k _ hk => setRow_other w g k _ (fun e => hk (by rw [e]))⟩⟩
    rw [setRow_heap w g _ _ 87 _ hg]
    congr 2
    unfold twinRow
    congr 1
    have e : (cavCells (List.replicate (n + 2) ((0 : UInt8), (0 : Int)))).drop (n * 2) = cavCells [(0, 0), (0, 0)] := by
      rw [← List.replicate_append_replicate, cavCells_append, List.drop_left' (by rw [cavCells_length, List.length_replicate])]
      rfl
    rw [cavCells_append]
    rw [Nat.zero_mul, List.take_zero, List.nil_append, Nat.zero_add, cavCells_length, hlen, e]

theorem g_twin {ops : Array Oper} {a : Act} {w : World} {K : Act → World → Prop} {i d : Nat} (s x : Operand) (hi : wantsB ops a i = some (some d, true)) (hop : (ops[i]?).map (·.op) = some (.call { callee := .builtin .append, args := #[s, x], argTypes := #[49, 49] }))
    (g : Nat) (cs : List (UInt8 × Int)) (n : Nat) (r : Option Addr) (cap : Nat) (hs : a.eval s = .slice (some ⟨g, 0, none⟩) 0 (n + 2)) (hx : a.eval x = .slice r n cap)
    (hg : w.heap[g]? = some (.cells (cavCells (List.replicate (n + 2) (0, 0))).toArray 87 (0, 0))) (hc : CavsAt w r n cap cs)
    (h : ∀ w', w'.heap[g]? = some (.cells (twinRow cs) 87 (0, 0)) → w.grownBy w' (some g) → K (a.put (some d) (.slice (some ⟨g, 0, none⟩) n (n + 2))) w') : wpOp Try.prog ops NoExit i K a w := by
  obtain ⟨o, ho, he⟩ := Option.map_eq_some_iff.1 hop
  obtain ⟨w', hr, h1, h2⟩ := run_append_twin w g o.type cs n r cap hg hc
  refine g_val (.slice (some ⟨g, 0, none⟩) n (n + 2)) w' hi ?_ (h w' h1 h2)
  rw [ho]
  refine congrArg some ?_
  unfold execOp
  simp only [he, resolve, invoke, builtin, Sem.run_bind, Sem.run_pure, Result.andThen_ok, List.map_toArray, List.map_cons, List.map_nil, hs, hx, hr]
theorem make_hy {ops : Array Oper} {a : Act} {i : Nat} (x y : Operand) (hop : (ops[i]?).map (·.op) = some (.makeSlice 49 x y)) (n : Nat) (hx : a.eval x = .int .i64 0) (hy : a.eval y = .int .i64 (n : Int)) (hn : n ≤ 1000000) (w : World) :
    (ops[i]?).map (fun o => (execOp a.eval o).run Try.prog w) = some (.ok (.value (.slice (some ⟨w.heap.size, 0, none⟩) 0 n)) (w.alloc (.cells (cavCells (List.replicate n (0, 0))).toArray 87))) := by
  obtain ⟨o, ho, he⟩ := Option.map_eq_some_iff.1 hop
  rw [ho]
  refine congrArg some ?_
  unfold execOp
  simp only [he, hx, hy, Sem.run_bind, run_makeCavs w n hn, Result.andThen_ok, Sem.run_pure]

set_option maxRecDepth 100000 in
set_option maxHeartbeats 8000000 in
theorem twin14_any {w : World} {t : Tok} {r : Option Addr} {len cap : Nat} {cs : List (UInt8 × Int)} (ht : t.Ok) (h : CavsAt w r len cap cs) (hl : len ≤ 64) :
    Calls Try.prog 69 #[.agg (tokRow t (.slice r len cap))] w fun e w' => ∃ g, e = .returned (.agg (tokRow t (.slice (some ⟨g, 0, none⟩) len (len + 2)))) ∧ w'.heap[g]? = some (.cells (twinRow cs) 87 (0, 0)) ∧ w.heap.size ≤ g ∧ Below w.heap.size w w' := by
  have Ht := Lib.hid ht
  have H := Lib.hid h
  have hcap := h.hmax
  have hle := h.hle
  unfold maxLen at hcap
  clear ht h
  go_enter Try.func69, Try.ntmps69
  go_upto_region 1 with (first
    | (refine wpList_box rfl 51 _ rfl (tokRow _ _) rfl ?_)
    | (refine wpList_allocRow 51 _ alloc51 rfl rfl ?_))
  refine abstract_world (fun W => W.heap[w.heap.size]? = some (.cells (tokRow t (.slice r len cap)) 51 (0, 0)) ∧ W.heap[w.heap.size + 1]? = some (.cells (tokRow zeroTok (.slice none 0 0)) 51 (0, 0)) ∧ Below w.heap.size w W ∧ W.heap.size = w.heap.size + 2) (tok2 w t _) ?_
  rintro w1 ⟨r0, r1, r2, r3⟩
  have e1 : (w.alloc (.cells (tokRow t (.slice r len cap)) 51)).heap.size = w.heap.size + 1 := by simp
  simp only [Act.put, List.setIfInBounds_toArray, List.set_cons_succ, List.set_cons_zero]
  rw [e1]
  clear e1
  have R0 := Lib.hid r0
  have R1 := Lib.hid r1
  have R2 := Lib.hid r2
  have R3 := Lib.hid r3
  clear r0 r1 r2 r3
  have T1 : Hid (∀ w', Below w1.heap.size w1 w' → w'.heap[w.heap.size]? = some (.cells (tokRow t (.slice r len cap)) 51 (0, 0))) := Lib.hid fun w' hw => (hw.block _ (heap_lt R0.out)).trans R0.out
  have C5 : Hid (∀ w', Below w1.heap.size w1 w' → w'.cell? ⟨w.heap.size, 5, none⟩ = some (.slice r len cap)) := Lib.hid fun w' hw => cell_row (T1.out w' hw) rfl
  have hend : Hid (∀ W, Below w1.heap.size w1 W → ∀ g, w1.heap.size ≤ g → W.heap[g]? = some (.cells (twinRow cs) 87 (0, 0)) → (W.setCell ⟨w.heap.size, 5, none⟩ (.slice (some ⟨g, 0, none⟩) len (len + 2))).heap[w.heap.size]? = some (.cells (tokRow t (.slice (some ⟨g, 0, none⟩) len (len + 2))) 51 (0, 0)) ∧ (W.setCell ⟨w.heap.size, 5, none⟩ (.slice (some ⟨g, 0, none⟩) len (len + 2))).heap[w.heap.size + 1]? = some (.cells (tokRow zeroTok (.slice none 0 0)) 51 (0, 0)) ∧ (W.setCell ⟨w.heap.size, 5, none⟩ (.slice (some ⟨g, 0, none⟩) len (len + 2))).heap[g]? = some (.cells (twinRow cs) 87 (0, 0)) ∧ Below w.heap.size w (W.setCell ⟨w.heap.size, 5, none⟩ (.slice (some ⟨g, 0, none⟩) len (len + 2)))) := Lib.hid fun W hW g hg hr => by
    refine ⟨?_, ?_, ?_, (below_seq R2.out hW).setCell (Nat.le_refl _) _⟩
    · rw [← tokRow_putList t (.slice r len cap)]
      exact heap_setCell_same _ _ _ _ _ _ (T1.out W hW)
    · rw [heap_setCell_other _ _ _ _ (by simp)]
      exact (hW.block _ (heap_lt R1.out)).trans R1.out
    · rw [heap_setCell_other _ _ _ _ (by have := R3.out; show g ≠ w.heap.size; omega)]
      exact hr
  go_cut [2] from 3 to 12 (fun v2 wx => v2 = .pointer (some ⟨w.heap.size + 1, 0, none⟩) ∧ ∃ g, w1.heap.size ≤ g ∧ wx.heap[w.heap.size]? = some (.cells (tokRow t (.slice (some ⟨g, 0, none⟩) len (len + 2))) 51 (0, 0)) ∧ wx.heap[w.heap.size + 1]? = some (.cells (tokRow zeroTok (.slice none 0 0)) 51 (0, 0)) ∧ wx.heap[g]? = some (.cells (twinRow cs) 87 (0, 0)) ∧ Below w.heap.size w wx)
  case first =>
    have hcd : Below w1.heap.size w1 w1.drew := (Below.refl _ _).drew
    have ca := C5.out _ hcd
    have cb := C5.out _ (below_seq hcd (below_one w1.drew (.cells (cavCells (List.replicate (len + 2) (0, 0))).toArray 87)))
    have hM : (w1.drew.alloc (.cells (cavCells (List.replicate (len + 2) (0, 0))).toArray 87)).heap[w1.drew.heap.size]? = some (.cells (cavCells (List.replicate (len + 2) (0, 0))).toArray 87 (0, 0)) := heap_alloc_new _ _
    have hMb := below_seq hcd (below_one w1.drew (.cells (cavCells (List.replicate (len + 2) (0, 0))).toArray 87))
    have hgs := hcd.size
    obtain ⟨W4, hW4⟩ : ∃ y, y = w1.drew.alloc (.cells (cavCells (List.replicate (len + 2) (0, 0))).toArray 87) := ⟨_, rfl⟩
    obtain ⟨G, hG⟩ : ∃ y, y = w1.drew.heap.size := ⟨_, rfl⟩
    rw [← hW4] at hMb hM cb
    rw [← hG] at hM hgs
    have hcav := (H.out.below R2.out).below hMb
    have HW4 := Lib.hid hW4
    have HG := Lib.hid hG
    have HM := Lib.hid hM
    clear hW4 hG hM
    refine region_k (fun _ => True) (by kernel_rfl) trivial (fun Kr hKr => ?_)
    refine g_quiet trivial 0 3 (.pointer (some ⟨w.heap.size, 5, none⟩)) (by kernel_rfl) (by kernel_rfl) (by kernel_rfl) (by kernel_rfl) (fun w2 hw2 => by go_simp) ?_
    refine g_quiet trivial 5 8 (.pointer (some ⟨w.heap.size, 5, none⟩)) (by kernel_rfl) (by kernel_rfl) (by kernel_rfl) (by kernel_rfl) (fun w2 hw2 => by go_simp) ?_
    simp only [Act.put, List.setIfInBounds_toArray, List.set_cons_succ, List.set_cons_zero]
    refine m_pick2 1 6 (by kernel_rfl) ?_ ?_
    · skip
      refine (g_val (d := 4) (.slice r len cap) w1.drew (by kernel_rfl) (by go_simp) ?_)
      refine ⟨trivial, ?_⟩
      simp only [Act.put, List.setIfInBounds_toArray, List.set_cons_succ, List.set_cons_zero]
      refine g_quiet trivial 2 5 (.int .i64 (len : Int)) (by kernel_rfl) (by kernel_rfl) (by kernel_rfl) (by kernel_rfl) (fun w2 hw2 => by go_simp) ?_
      refine g_quiet trivial 3 6 (.int .i64 ((len : Int) + 2)) (by kernel_rfl) (by kernel_rfl) (by kernel_rfl) (by kernel_rfl) (fun w2 hw2 => by go_simp <;> exact wrapI_id _ (by omega)) ?_
      simp only [Act.put, List.setIfInBounds_toArray, List.set_cons_succ, List.set_cons_zero]
      refine m_pick2 4 6 (by kernel_rfl) ?_ ?_
      · skip
        refine (g_val (d := 7) (.slice (some ⟨w1.drew.heap.size, 0, none⟩) 0 (len + 2)) (w1.drew.alloc (.cells (cavCells (List.replicate (len + 2) (0, 0))).toArray 87)) (by kernel_rfl) (make_hy (.const (.int .i64 0)) (.tmp 6) (by kernel_rfl) (len + 2) (by kernel_rfl) (by kernel_rfl) (by omega) _) ?_)
        rw [← HW4.out, ← HG.out]
        refine ⟨trivial, ?_⟩
        simp only [Act.put, List.setIfInBounds_toArray, List.set_cons_succ, List.set_cons_zero]
        refine m_pick 6 (by kernel_rfl) ?_
        refine (g_val (d := 9) (.slice r len cap) W4 (by kernel_rfl) (by go_simp) ?_)
        refine ⟨trivial, ?_⟩
        simp only [Act.put, List.setIfInBounds_toArray, List.set_cons_succ, List.set_cons_zero]
        refine m_pick 7 (by kernel_rfl) (g_twin (d := 10) (.tmp 7) (.tmp 9) (by kernel_rfl) (by kernel_rfl) G cs len r cap (by kernel_rfl) (by kernel_rfl) HM.out hcav ?_)
        intro w7 hr7 hg7
        have h7 : Below w1.heap.size w1 w7 := hMb.grown hg7 hMb.size (fun k hk => by obtain rfl := Option.some.inj hk; exact hgs)
        refine ⟨trivial, ?_⟩
        refine g_quiet trivial 8 11 (.pointer (some ⟨w.heap.size, 5, none⟩)) (by kernel_rfl) (by kernel_rfl) (by kernel_rfl) (by kernel_rfl) (fun w2 hw2 => by go_simp) ?_
        simp only [Act.put, List.setIfInBounds_toArray, List.set_cons_succ, List.set_cons_zero]
        refine m_pick 9 (by kernel_rfl) (step_skip (w7.setCell ⟨w.heap.size, 5, none⟩ (.slice (some ⟨G, 0, none⟩) len (len + 2))) (by kernel_rfl) (by have c := C5.out w7 h7; have f := frozen_of_row w7 w.heap.size 5 _ _ (T1.out w7 h7); go_simp) ?_)
        refine ⟨trivial, ?_⟩
        refine m_end (by kernel_rfl) ?_
        obtain ⟨q1, q2, q3, q4⟩ := hend.out w7 h7 G hgs hr7
        go_wp2
        go_meet
        exact ⟨rfl, G, hgs, q1, q2, q3, q4⟩
      · skip
        refine (g_val (d := 9) (.slice r len cap) w1.drew (by kernel_rfl) (by go_simp) ?_)
        refine ⟨trivial, ?_⟩
        simp only [Act.put, List.setIfInBounds_toArray, List.set_cons_succ, List.set_cons_zero]
        refine m_pick 4 (by kernel_rfl) ?_
        refine (g_val (d := 7) (.slice (some ⟨w1.drew.heap.size, 0, none⟩) 0 (len + 2)) (w1.drew.alloc (.cells (cavCells (List.replicate (len + 2) (0, 0))).toArray 87)) (by kernel_rfl) (make_hy (.const (.int .i64 0)) (.tmp 6) (by kernel_rfl) (len + 2) (by kernel_rfl) (by kernel_rfl) (by omega) _) ?_)
        rw [← HW4.out, ← HG.out]
        refine ⟨trivial, ?_⟩
        simp only [Act.put, List.setIfInBounds_toArray, List.set_cons_succ, List.set_cons_zero]
        refine m_pick 7 (by kernel_rfl) (g_twin (d := 10) (.tmp 7) (.tmp 9) (by kernel_rfl) (by kernel_rfl) G cs len r cap (by kernel_rfl) (by kernel_rfl) HM.out hcav ?_)
        intro w7 hr7 hg7
        have h7 : Below w1.heap.size w1 w7 := hMb.grown hg7 hMb.size (fun k hk => by obtain rfl := Option.some.inj hk; exact hgs)
        refine ⟨trivial, ?_⟩
        refine g_quiet trivial 8 11 (.pointer (some ⟨w.heap.size, 5, none⟩)) (by kernel_rfl) (by kernel_rfl) (by kernel_rfl) (by kernel_rfl) (fun w2 hw2 => by go_simp) ?_
        simp only [Act.put, List.setIfInBounds_toArray, List.set_cons_succ, List.set_cons_zero]
        refine m_pick 9 (by kernel_rfl) (step_skip (w7.setCell ⟨w.heap.size, 5, none⟩ (.slice (some ⟨G, 0, none⟩) len (len + 2))) (by kernel_rfl) (by have c := C5.out w7 h7; have f := frozen_of_row w7 w.heap.size 5 _ _ (T1.out w7 h7); go_simp) ?_)
        refine ⟨trivial, ?_⟩
        refine m_end (by kernel_rfl) ?_
        obtain ⟨q1, q2, q3, q4⟩ := hend.out w7 h7 G hgs hr7
        go_wp2
        go_meet
        exact ⟨rfl, G, hgs, q1, q2, q3, q4⟩
    · skip
      refine (g_val (d := 9) (.slice r len cap) w1.drew (by kernel_rfl) (by go_simp) ?_)
      refine ⟨trivial, ?_⟩
      simp only [Act.put, List.setIfInBounds_toArray, List.set_cons_succ, List.set_cons_zero]
      refine m_pick 1 (by kernel_rfl) ?_
      refine (g_val (d := 4) (.slice r len cap) w1.drew (by kernel_rfl) (by go_simp) ?_)
      refine ⟨trivial, ?_⟩
      simp only [Act.put, List.setIfInBounds_toArray, List.set_cons_succ, List.set_cons_zero]
      refine g_quiet trivial 2 5 (.int .i64 (len : Int)) (by kernel_rfl) (by kernel_rfl) (by kernel_rfl) (by kernel_rfl) (fun w2 hw2 => by go_simp) ?_
      refine g_quiet trivial 3 6 (.int .i64 ((len : Int) + 2)) (by kernel_rfl) (by kernel_rfl) (by kernel_rfl) (by kernel_rfl) (fun w2 hw2 => by go_simp <;> exact wrapI_id _ (by omega)) ?_
      simp only [Act.put, List.setIfInBounds_toArray, List.set_cons_succ, List.set_cons_zero]
      refine m_pick 4 (by kernel_rfl) ?_
      refine (g_val (d := 7) (.slice (some ⟨w1.drew.heap.size, 0, none⟩) 0 (len + 2)) (w1.drew.alloc (.cells (cavCells (List.replicate (len + 2) (0, 0))).toArray 87)) (by kernel_rfl) (make_hy (.const (.int .i64 0)) (.tmp 6) (by kernel_rfl) (len + 2) (by kernel_rfl) (by kernel_rfl) (by omega) _) ?_)
      rw [← HW4.out, ← HG.out]
      refine ⟨trivial, ?_⟩
      simp only [Act.put, List.setIfInBounds_toArray, List.set_cons_succ, List.set_cons_zero]
      refine m_pick 7 (by kernel_rfl) (g_twin (d := 10) (.tmp 7) (.tmp 9) (by kernel_rfl) (by kernel_rfl) G cs len r cap (by kernel_rfl) (by kernel_rfl) HM.out hcav ?_)
      intro w7 hr7 hg7
      have h7 : Below w1.heap.size w1 w7 := hMb.grown hg7 hMb.size (fun k hk => by obtain rfl := Option.some.inj hk; exact hgs)
      refine ⟨trivial, ?_⟩
      refine g_quiet trivial 8 11 (.pointer (some ⟨w.heap.size, 5, none⟩)) (by kernel_rfl) (by kernel_rfl) (by kernel_rfl) (by kernel_rfl) (fun w2 hw2 => by go_simp) ?_
      simp only [Act.put, List.setIfInBounds_toArray, List.set_cons_succ, List.set_cons_zero]
      refine m_pick 9 (by kernel_rfl) (step_skip (w7.setCell ⟨w.heap.size, 5, none⟩ (.slice (some ⟨G, 0, none⟩) len (len + 2))) (by kernel_rfl) (by have c := C5.out w7 h7; have f := frozen_of_row w7 w.heap.size 5 _ _ (T1.out w7 h7); go_simp) ?_)
      refine ⟨trivial, ?_⟩
      refine m_end (by kernel_rfl) ?_
      obtain ⟨q1, q2, q3, q4⟩ := hend.out w7 h7 G hgs hr7
      go_wp2
      go_meet
      exact ⟨rfl, G, hgs, q1, q2, q3, q4⟩
  case rest =>
    obtain ⟨rfl, g, hg, r0, r1, r2, r3⟩ := hcut
    have P0 := Lib.hid r0
    have P1 := Lib.hid r1
    have P2 := Lib.hid r2
    have P3 := Lib.hid r3
    clear r0 r1 r2 r3
    go_wp2_with (first
      | (refine wpList_load_row rfl 51 _ rfl _ rfl 51 _ _ _ P0.out Try.underlying51 rfl (info51 _ _ Ht.out.tag) ?_)
      | (refine wpList_store_row rfl 51 _ _ rfl _ _ rfl rfl 51 _ P1.out (info51 _ _ Ht.out.tag) (by rw [tokRow_size _ _ zero32_length, tokRow_size _ _ Ht.out.tag]) (tokRow_one _ _ rfl) ?_))
    exact bodyPost_ret (results_cell_row rfl _ _ _ 51 _ _ _ rfl (setRow_heap _ _ _ _ _ _ P1.out) Try.underlying51 rfl (info51 _ _ Ht.out.tag)) rfl ⟨g, rfl, (setRow_other _ _ _ _ (by have := R3.out; omega)).trans P2.out, by have := R3.out; omega, below_row P3.out (by omega) _⟩

set_option maxRecDepth 100000 in
set_option maxHeartbeats 2000000 in
theorem cap2_any {w : World} {t : Tok} {r : Option Addr} {len cap : Nat} (ht : t.tag.length = 32) (hl : len ≤ 64) :
    Calls Try.prog 76 #[.agg (tokRow t (.slice r len cap))] w fun e w' => e = .returned (.int .i64 (if len = 0 then 0 else ((len + 1 : Nat) : Int))) ∧ Below w.heap.size w w' := by
  have Ht := Lib.hid ht
  obtain ⟨C, hC⟩ : ∃ C : Int, C = if len = 0 then 0 else ((len + 1 : Nat) : Int) := ⟨_, rfl⟩
  rw [← hC]
  have HC := Lib.hid hC
  clear ht hC
  go_enter Try.func76, Try.ntmps76
  go_upto_region 1 with (refine wpList_box rfl 51 _ rfl (tokRow _ _) rfl ?_)
  have r0 := heap_alloc_new w (.cells (tokRow t (.slice r len cap)) 51)
  refine abstract_world (fun W => W.heap[w.heap.size]? = some (.cells (tokRow t (.slice r len cap)) 51 (0, 0)) ∧ Below w.heap.size w W) ⟨r0, below_one _ _⟩ ?_
  clear r0
  rintro w1 ⟨r0, r1⟩
  have c5 := (tok_in r0 Ht.out).c5
  have R1 := Lib.hid r1
  clear r0 r1
  by_cases h0 : len = 0
  · obtain rfl : C = 0 := by rw [HC.out, if_pos h0]
    subst h0
    clear HC
    go_wp2
    go_ret
    exact ⟨rfl, R1.out⟩
  · obtain rfl : C = (len : Int) + 1 := by rw [HC.out, if_neg h0]; omega
    clear HC
    go_wp2
    go_ret
    exact ⟨rfl, R1.out⟩
end Go.Proofs.Ytafakjdolnigaaa
