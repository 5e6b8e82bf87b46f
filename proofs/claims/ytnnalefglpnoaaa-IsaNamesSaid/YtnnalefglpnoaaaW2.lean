/- Words for walks, more: a whole value read out of a variable, one cell written. Conditions: none. -/
import Derived.Test.YtnnalefglpnoaaaW
set_option linter.unusedVariables false
set_option linter.unusedSimpArgs false
namespace Go.Proofs.Ytnnalefglpnoaaa.Wd
open Go.RowKit
section
variable {P : Program} {ops : Array Oper} {rest : List Oper} {o : Oper} {a : Act} {Q : Exit → Act → World → Prop} {w : World}
/-- A whole value read out of a variable. -/
theorem ev_load (hg : o.guard = none) {t : TypeId} {p : Operand} (ho : o.op = .load t p) {g : Nat} (hp : a.eval p = .pointer (some ⟨g, 0, none⟩)) {cs : List Value} {e : TypeId} (hB : Blk w g cs e) {d : TypeDesc}
    (hu : P.underlying t = some d) (hd : (match d with | .struct _ | .array _ _ => true | _ => false) = true) (hi : (P.info? t).map (·.size) = some cs.length) {v : Value} (hv : Value.agg cs.toArray = v)
    (h : wpList P ops Q rest (a.put o.dst v) w) : wpList P ops Q (o :: rest) a w :=
  wpList_load_row hg t p ho g hp e cs.toArray (0, 0) d hB.out hu hd (by simpa using hi) (hv ▸ h)
/-- One cell of a variable written. -/
theorem ev_set (hg : o.guard = none) (hN : o.dst = none) {t : TypeId} {p x : Operand} (ho : o.op = .store t p x) {g i : Nat} (hp : a.eval p = .pointer (some ⟨g, i, none⟩)) {cs : List Value} {e : TypeId} (hB : Blk w g cs e)
    {u : Value} (hx : a.eval x = u) (hu : u.cells.toList = [u]) (ht : (P.info? t).map (·.size) = some 1) (hl : i < cs.length) (h1 : u.oneCell' = true)
    (h : ∀ w1, Blk w1 g (cs.set i u) e → (∀ w0 : World, w0.heap.size ≤ g → Below w0.heap.size w0 w → Below w0.heap.size w0 w1) → (∀ g' cs' t', g' ≠ g → Blk w g' cs' t' → Blk w1 g' cs' t') → wpList P ops Q rest a w1) : wpList P ops Q (o :: rest) a w := by
  refine ev_skip (w' := w.setCell ⟨g, i, none⟩ u) hg ?_ ?_
  · unfold execOp
    simp only [ho, hp, hx]
    rw [Sem.run_bind, run_store_blk t u [u] hB hu ht (by simp; omega) (by simpa using h1)]
    rfl
  · have := h _ (hB.set i u) (fun w0 hw hb => below_set hb hw) (fun g' cs' t' hne hb => hb.far hne u)
    rwa [hN]
end
end Go.Proofs.Ytnnalefglpnoaaa.Wd
