/- Layer 5: the frame of a row: the list is met by the program's own start; an instruction opened. Conditions: none. -/
import Derived.Test.YtbnmhhbncggjkaaGreatDoorK5H
import Derived.Deep.DeepWitnessRowRef
import Derived.LaidMore
import Derived.Carry
set_option linter.unusedVariables false
set_option linter.unusedSimpArgs false
namespace Go.Proofs.YtbnmhhbncggjkaaGreatDoor
open Go.ChangeShapes Go.WideShapes Go.ChangeAt Go.RowKit
set_option maxRecDepth 1000000
theorem own_none : ownKnob Tryz.prog.godebug = none := by kernel_rfl
theorem laid_out : laidOutB Tryz.prog = true := by kernel_rfl
theorem lt_of {H : Type} {enc : TypeId × Value → H} {W : World} {t : TypeId} {v : Value} {d : DataW H} {p : List MemPlace} (h : DataW.Trod enc Tryz.prog W 0 (fun _ => true) true t v d p) : ∀ x ∈ p, x.block < W.heap.size := by
  obtain ⟨m, hm⟩ := h
  exact DataW.trod_lt m _ _ _ hm
theorem i64_bd (a : Int) (h : (Lit.int .i64 a).wf = true) : inI a = true := by
  rw [inI_eq]
  simp [Lit.wf, IntKind.min, IntKind.max, IntKind.signed, IntKind.bits] at h
  omega
theorem open_inst {H : Type} {enc : TypeId × Value → H} {W : World} {base : Nat} {v : Value} {d : DataW H} {p : List MemPlace} (hv : Value.okWide Tryz.prog W .any base 23 v)
    (h : DataW.Trod enc Tryz.prog W 0 (fun _ => true) true 23 v d p) : ∃ op rd rs1 rs2 n : Int, v = .agg #[.int .i64 op, .int .i64 rd, .int .i64 rs1, .int .i64 rs2, .int .i64 n] ∧ inI op = true ∧ inI rd = true ∧ inI rs1 = true ∧ inI rs2 = true ∧ inI n = true := by
  obtain ⟨cs, rfl, hsz⟩ := okWide_struct Tryz.underlying23 hv
  obtain ⟨l⟩ := cs
  have h5 : Tryz.prog.cellsOf 23 = 5 := by kernel_rfl
  have c3 : Tryz.prog.cellsOf 3 = 1 := by kernel_rfl
  have c2 : Tryz.prog.cellsOf 2 = 1 := by kernel_rfl
  match l, hsz.trans h5 with
  | [v0, v1, v2, v3, v4], _ =>
    obtain ⟨fuel, hf⟩ := h
    obtain ⟨xs, m, _, hx, _, hlen, hg⟩ := DataW.trod_struct Tryz.underlying23 hf
    match xs, hlen with
    | [y0, y1, y2, y3, y4], _ =>
      obtain ⟨a0, e0, _, w0⟩ := DataW.trod_int Tryz.underlying3 (by simpa [Value.cells, c3] using hg 0 _ rfl)
      obtain ⟨a1, e1, _, w1⟩ := DataW.trod_int Tryz.underlying3 (by simpa [Value.cells, c3] using hg 1 _ rfl)
      obtain ⟨a2, e2, _, w2⟩ := DataW.trod_int Tryz.underlying3 (by simpa [Value.cells, c3] using hg 2 _ rfl)
      obtain ⟨a3, e3, _, w3⟩ := DataW.trod_int Tryz.underlying3 (by simpa [Value.cells, c3] using hg 3 _ rfl)
      obtain ⟨a4, e4, _, w4⟩ := DataW.trod_int Tryz.underlying2 (by simpa [Value.cells, c2] using hg 4 _ rfl)
      simp only [List.cons.injEq, and_true] at e0 e1 e2 e3 e4
      subst e0 e1 e2 e3 e4
      exact ⟨a0, a1, a2, a3, a4, rfl, i64_bd a0 w0, i64_bd a1 w1, i64_bd a2 w2, i64_bd a3 w3, i64_bd a4 w4⟩
noncomputable def pinCell : DataW Unit → Value
  | .lit (.int k z) => .int k z
  | _ => .bool false
noncomputable def pinCells : DataW Unit → Array Value
  | .agg l => (l.map pinCell).toArray
  | _ => #[]
/-- A world for the witness: what the program's own start leaves, and Go's own table. -/
noncomputable def laidWorld (os : Os) : World :=
  { World.doorLaid Tryz.prog 4000 os with heap := (World.doorLaid Tryz.prog 4000 os).heap.modify 5 fun
      | .cells _ t frozen => .cells (pinCells Rows.laid_unicode_utf8_first) t frozen
      | o => o }
theorem door_met (os : Os) (args : Array Value) : laidMet Tryz.prog laidL ((laidWorld os).forCall (fun _ _ => 0) ⟨#[], args, []⟩).memory :=
  laidMet_of_run' 8 (by kernel_rfl) (by kernel_rfl)
end Go.Proofs.YtbnmhhbncggjkaaGreatDoor
