/- Words for walks: what an operation does, told once; blocks of one's own; regions that only reckon, run by the kernel. Conditions: none. -/
import Derived.Test.YtnnalefglpnoaaaProg
import Derived.WalkKit
import Derived.KernelRfl
import Derived.Deep.RegionHeld3
import Derived.Deep.QuietTactic
import Derived.BigQuiet
import Derived.RowKit3
import Derived.Laws.IdiomCopy
import Derived.IntWalk
import Derived.Lib.Hide
set_option linter.unusedVariables false
set_option linter.unusedSimpArgs false
namespace Go.Proofs.Ytnnalefglpnoaaa.Wd
open Go.RowKit
section
variable {P : Program} {ops : Array Oper} {rest : List Oper} {o : Oper} {a : Act} {Q : Exit → Act → World → Prop} {w w' : World} {v : Value}
theorem ev_value (hg : o.guard = none) (hrun : (execOp a.eval o).run P w = .ok (.value v) w') (h : wpList P ops Q rest (a.put o.dst v) w') : wpList P ops Q (o :: rest) a w :=
  wpList_plain hg fun K hK => by unfold Oper.wp; rw [hrun]; exact hK _ _ h
theorem ev_skip (hg : o.guard = none) (hrun : (execOp a.eval o).run P w = .ok .skip w') (h : wpList P ops Q rest (a.put o.dst undef) w') : wpList P ops Q (o :: rest) a w :=
  wpList_plain hg fun K hK => by unfold Oper.wp; rw [hrun]; exact hK _ _ h
/-- operations that only reckon, run one behind the other -/
def pureRun (P : Program) : List Oper → Act → World → Option (Act × World)
  | [], a, w => some (a, w)
  | o :: r, a, w => match o.guard with
    | some _ => none
    | none => match (execOp a.eval o).run P w with
      | .ok (.value v) w' => pureRun P r (a.put o.dst v) w'
      | _ => none
theorem wpList_pure {a' : Act} (pre : List Oper) (hrun : pureRun P pre a w = some (a', w')) (h : wpList P ops Q rest a' w') : wpList P ops Q (pre ++ rest) a w := by
  induction pre generalizing a w with
  | nil => simp only [pureRun, Option.some.injEq, Prod.mk.injEq] at hrun; obtain ⟨rfl, rfl⟩ := hrun; exact h
  | cons o r ih =>
    unfold pureRun at hrun
    split at hrun
    · cases hrun
    · rename_i hg
      split at hrun
      · rename_i v w1 hr
        exact ev_value hg hr (ih hrun)
      · cases hrun
/-- A region's first n operations, run by the kernel; 'obs': what is asked of the frame behind them. -/
theorem wp_region_pure {β : Type} {id : Nat} (n : Nat) (obs : Act → β) {b : β} (hrun : ((pureRun P (ops.toList.take n) a w).map fun x => (obs x.1, x.2)) = some (b, w))
    (h : ∀ a', obs a' = b → wpList P ops Q (ops.toList.drop n) a' w) : (Code.region id ops false).wp P Q a w := by
  refine wp_region_list ?_
  obtain ⟨⟨a', w1⟩, h1, h2⟩ := Option.map_eq_some_iff.1 hrun
  simp only [Prod.mk.injEq] at h2
  obtain ⟨h2, rfl⟩ := h2
  have := wpList_pure (ops := ops) (Q := Q) (rest := ops.toList.drop n) _ h1 (h a' h2)
  rwa [List.take_append_drop] at this
end
theorem bcell {W w1 : World} (hb : Below W.heap.size W w1) : (∀ b o, b < W.heap.size → w1.cell? ⟨b, o, none⟩ = W.cell? ⟨b, o, none⟩) ∧ (∀ b o, b < W.heap.size → w1.frozen? ⟨b, o, none⟩ = W.frozen? ⟨b, o, none⟩) :=
  ⟨fun b o h => hb.cell (p := ⟨b, o, none⟩) h, fun b o h => hb.frozen (p := ⟨b, o, none⟩) h⟩
/-- Block g is a row of cells of one's own. -/
structure Blk (w : World) (g : Nat) (cs : List Value) (t : TypeId) : Prop where
  mk' ::
  out : w.heap[g]? = some (.cells cs.toArray t (0, 0))
section
variable {w w1 : World} {g g' : Nat} {cs cs' : List Value} {t : TypeId}
theorem Blk.lt (h : Blk w g cs t) : g < w.heap.size := (Array.getElem?_eq_some_iff.1 h.out).1
theorem Blk.cell (h : Blk w g cs t) (i : Nat) : w.cell? ⟨g, i, none⟩ = cs[i]? := by
  have := cell_of_row w g i cs.toArray t (0, 0) h.out
  simpa using this
theorem Blk.frozen (h : Blk w g cs t) (i : Nat) : w.frozen? ⟨g, i, none⟩ = false := by simp [World.frozen?, h.out]
theorem Blk.set (h : Blk w g cs t) (i : Nat) (u : Value) : Blk (w.setCell ⟨g, i, none⟩ u) g (cs.set i u) t := by
  constructor
  have := h.out
  simp [World.setCell, Array.getElem?_modify, this]
theorem Blk.far (h : Blk w g cs t) {p : Addr} (hp : g ≠ p.block) (u : Value) : Blk (w.setCell p u) g cs t := ⟨(Below.heap_setCell w p u g hp).trans h.out⟩
theorem Blk.below (h : Blk w g cs t) (hb : Below w.heap.size w w1) : Blk w1 g cs t := ⟨(hb.block g h.lt).trans h.out⟩
theorem Blk.alloc (h : Blk w g cs t) (o : Obj) : Blk (w.alloc o) g cs t := ⟨(Below.heap_alloc w o g h.lt).trans h.out⟩
theorem Blk.drew (h : Blk w g cs t) : Blk w.drew g cs t := ⟨h.out⟩
theorem Blk.drewN (h : Blk w g cs t) (n : Nat) : Blk (w.drewN n) g cs t := ⟨h.out⟩
theorem Blk.new (w : World) (cs : List Value) (t : TypeId) : Blk (w.alloc (.cells cs.toArray t)) w.heap.size cs t := ⟨heap_alloc_new w _⟩
theorem Blk.congr (h : Blk w g cs t) (e : cs = cs') : Blk w g cs' t := e ▸ h
end
theorem below_refl (w : World) : Below w.heap.size w w := Below.refl _ _
theorem below_trans {w w1 w2 : World} (h : Below w.heap.size w w1) (k : Below w1.heap.size w1 w2) : Below w.heap.size w w2 :=
  h.trans ⟨k.os, k.tape, k.output, k.size, fun i hi => k.block i (Nat.lt_of_lt_of_le hi h.size)⟩
theorem below_alloc {w W : World} (h : Below w.heap.size w W) (o : Obj) : Below w.heap.size w (W.alloc o) := h.alloc h.size o
theorem below_drewN {w W : World} (h : Below w.heap.size w W) (n : Nat) : Below w.heap.size w (W.drewN n) := ⟨h.os, h.tape, h.output, h.size, h.block⟩
theorem below_set {w W : World} {g j : Nat} {v : Value} (h : Below w.heap.size w W) (hg : w.heap.size ≤ g) : Below w.heap.size w (W.setCell ⟨g, j, none⟩ v) := h.setCell hg _
theorem setCells_far {g : Nat} : ∀ (vs : List Value) (o : Nat) {w : World} (k : Nat), k ≠ g → (w.setCells g o vs).heap[k]? = w.heap[k]?
  | [], _, _, _, _ => rfl
  | v :: r, o, w, k, hk => by
    rw [World.setCells, setCells_far r (o + 1) k hk]
    exact Below.heap_setCell w ⟨g, o, none⟩ v k hk
theorem setCells_same (g : Nat) : ∀ (vs : List Value) (o : Nat) (w : World), (w.setCells g o vs).os = w.os ∧ (w.setCells g o vs).tape = w.tape ∧ (w.setCells g o vs).output = w.output ∧ (w.setCells g o vs).heap.size = w.heap.size
  | [], _, _ => ⟨rfl, rfl, rfl, rfl⟩
  | v :: r, o, w => by
    obtain ⟨h1, h2, h3, h4⟩ := setCells_same g r (o + 1) (w.setCell ⟨g, o, none⟩ v)
    rw [World.setCells]
    exact ⟨h1, h2, h3, by rw [h4]; simp [World.setCell]⟩
theorem below_setCells {w W : World} {g o : Nat} {vs : List Value} (h : Below w.heap.size w W) (hg : w.heap.size ≤ g) : Below w.heap.size w (W.setCells g o vs) := by
  obtain ⟨h1, h2, h3, h4⟩ := setCells_same g vs o W
  exact ⟨h1.trans h.os, h2.trans h.tape, h3.trans h.output, by rw [h4]; exact h.size, fun i hi => (setCells_far vs o i (by omega)).trans (h.block i hi)⟩
theorem Blk.setCells {g : Nat} {t : TypeId} : ∀ (vs : List Value) (o : Nat) (w : World) (cs : List Value), Blk w g cs t → o + vs.length ≤ cs.length →
    Blk (w.setCells g o vs) g (cs.take o ++ vs ++ cs.drop (o + vs.length)) t
  | [], o, w, cs, h, _ => h.congr (by simp)
  | v :: r, o, w, cs, h, hl => by
    simp only [List.length_cons] at hl
    refine (Blk.setCells r (o + 1) (w.setCell ⟨g, o, none⟩ v) _ (h.set o v) (by simp; omega)).congr ?_
    have ho : o < cs.length := by omega
    rw [List.take_set, List.drop_set_of_lt (by omega)]
    simp only [List.length_cons]
    rw [show o + 1 + r.length = o + (r.length + 1) by omega]
    congr 1
    rw [List.take_succ_eq_append_getElem ho, List.set_append_right _ _ (by rw [List.length_take]; omega)]
    simp [Nat.min_eq_left (Nat.le_of_lt ho)]
theorem Blk.whole {g : Nat} {t : TypeId} {w : World} {cs vs : List Value} (h : Blk w g cs t) (hl : vs.length = cs.length) : Blk (w.setCells g 0 vs) g vs t :=
  (Blk.setCells vs 0 w cs h (by omega)).congr (by simp [hl])
theorem run_store_blk {P : Program} {w : World} {g o : Nat} {e : TypeId} {cs : List Value} (t : TypeId) (u : Value) (seg : List Value) (hh : Blk w g cs e) (hu : u.cells.toList = seg) (ht : (P.info? t).map (·.size) = some seg.length)
    (hfit : o + seg.length ≤ cs.length) (h1 : ∀ q ∈ seg, q.oneCell' = true) : (Instr.storeAt t (.pointer (some ⟨g, o, none⟩)) u).run P w = .ok () (w.setCells g o seg) := by
  obtain ⟨i, hi, hsz⟩ := Option.map_eq_some_iff.1 ht
  have hc : u.cells.size = i.size := by rw [hsz, ← hu, Array.length_toList]
  have hst := run_storeCells_cells (P := P) g o seg 0 w (fun j hj => by rw [hh.cell]; simp; omega) (fun j _ => hh.frozen _) h1
  simp only [Nat.add_zero] at hst
  simp [Instr.storeAt, Instr.sureAddr, storeVar, sizeOf, typeInfo, hi, hc, hu, hst]
section
variable {P : Program} {ops : Array Oper} {rest : List Oper} {o : Oper} {a : Act} {Q : Exit → Act → World → Prop} {w : World}
/-- A new variable: its block under a name of its own. -/
theorem ev_new (hg : o.guard = none) {N : Tmp} (_hd : o.dst = some N) (cs : List Value) (t : TypeId) (hrun : (execOp a.eval o).run P w = .ok (.value (.pointer (some ⟨w.heap.size, 0, none⟩))) (w.alloc (.cells cs.toArray t)))
    (h : ∀ g w1, w.heap.size ≤ g → Blk w1 g cs t → Below w.heap.size w w1 → g < w1.heap.size → wpList P ops Q rest (a.put o.dst (.pointer (some ⟨g, 0, none⟩))) w1) : wpList P ops Q (o :: rest) a w :=
  ev_value hg hrun (h _ _ (Nat.le_refl _) (Blk.new w cs t) (below_alloc (Below.refl _ _) _) (by simp))
/-- A whole value laid into a variable. -/
theorem ev_store (hg : o.guard = none) (hN : o.dst = none) {t : TypeId} {p x : Operand} (ho : o.op = .store t p x) {g : Nat} (hp : a.eval p = .pointer (some ⟨g, 0, none⟩)) {cs seg : List Value} {e : TypeId} (hB : Blk w g cs e)
    {u : Value} (hx : a.eval x = u) (hu : u.cells.toList = seg) (ht : (P.info? t).map (·.size) = some seg.length) (hl : seg.length = cs.length) (h1 : seg.all (·.oneCell') = true)
    (h : ∀ w1, Blk w1 g seg e → (∀ w0 : World, w0.heap.size ≤ g → Below w0.heap.size w0 w → Below w0.heap.size w0 w1) → (∀ g' cs' t', g' ≠ g → Blk w g' cs' t' → Blk w1 g' cs' t') → wpList P ops Q rest a w1) : wpList P ops Q (o :: rest) a w := by
  refine ev_skip (w' := w.setCells g 0 seg) hg ?_ ?_
  · unfold execOp
    simp only [ho, hp, hx]
    rw [Sem.run_bind, run_store_blk t u seg hB hu ht (by omega) (by simpa using h1)]
    rfl
  · have := h _ (hB.whole hl) (fun w0 hw hb => below_setCells hb hw) (fun g' cs' t' hne hb => ⟨(setCells_far seg 0 g' hne).trans hb.out⟩)
    rwa [hN]
end
theorem results_one {P : Program} {fn : Func} {p : Tmp} {ty : TypeId} (h : fn.results = #[.cell p ty]) (tmps : Array Value) (w : World) (g : Nat) (t : TypeId) (cs : List Value) (d : TypeDesc)
    (hp : tmps.getD p undef = .pointer (some ⟨g, 0, none⟩)) (hg : Blk w g cs t)
    (hu : P.underlying ty = some d) (hd : (match d with | .struct _ | .array _ _ => true | _ => false) = true) (hi : (P.info? ty).map (·.size) = some cs.length) :
    (results fn tmps).run P w = .ok (.agg cs.toArray) w := results_cell_row h tmps w g t cs.toArray (0, 0) d hp hg.out hu hd (by simpa using hi)
theorem results_two {P : Program} {fn : Func} {p u : Tmp} {ty : TypeId} (h : fn.results = #[.cell p ty, .tmp u]) (tmps : Array Value) (w : World) (g : Nat) (t : TypeId) (cs : List Value) (d : TypeDesc)
    (hp : tmps.getD p undef = .pointer (some ⟨g, 0, none⟩)) (hg : Blk w g cs t)
    (hu : P.underlying ty = some d) (hd : (match d with | .struct _ | .array _ _ => true | _ => false) = true) (hi : (P.info? ty).map (·.size) = some cs.length) :
    (results fn tmps).run P w = .ok (.tuple #[.agg cs.toArray, tmps.getD u undef]) w := by
  have hp' : tmps[p]?.getD undef = .pointer (some ⟨g, 0, none⟩) := by simpa using hp
  simp [results, h, hp', asAddr, run_loadVar_row w g t ty cs.toArray (0, 0) d hg.out hu hd (by simpa using hi)]
/-- An element of an array of structs, by value. -/
theorem run_index_agg {P : Program} {t e n k : Nat} {fs : _} (hu : P.underlying t = some (.array n e)) (he : P.underlying e = some (.struct fs)) (hk : (P.info? e).map (·.size) = some k) (cs : Array Value) (i : Int) (h0 : 0 ≤ i) (h1 : i < n) (w : World) :
    (Instr.index t (.agg cs) (.int .i64 i)).run P w = .ok (.agg (cs.extract (i.toNat * k) (i.toNat * k + k))) w := by
  obtain ⟨inf, hi, hs⟩ := Option.map_eq_some_iff.1 hk
  simp [Instr.index, asIntOf, run_underlying hu, h0, h1, part, isAgg, run_underlying he, sizeOf, typeInfo, hi, hs]
theorem flatten_at {α β : Type} (f : α → List β) (k : Nat) (hf : ∀ x, (f x).length = k) : ∀ (l : List α) (i : Nat) (x : α), l[i]? = some x → (((l.map f).flatten.drop (i * k)).take k) = f x
  | [], _, _, h => by simp at h
  | y :: l, 0, x, h => by
    simp only [List.getElem?_cons_zero, Option.some.injEq] at h
    subst h
    simp [List.take_append, hf, List.take_of_length_le]
  | y :: l, i + 1, x, h => by
    simp only [List.getElem?_cons_succ] at h
    have := flatten_at f k hf l i x h
    rw [List.map_cons, List.flatten_cons, Nat.succ_mul, Nat.add_comm, List.drop_append, hf, List.drop_of_length_le (by rw [hf]; omega)]
    simpa using this
end Go.Proofs.Ytnnalefglpnoaaa.Wd
