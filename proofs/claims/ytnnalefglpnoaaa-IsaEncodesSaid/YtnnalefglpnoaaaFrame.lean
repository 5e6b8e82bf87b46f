/- The frame of a row: what an instruction by value opens to. Conditions: none. -/
import Derived.Test.YtnnalefglpnoaaaRows
import Derived.ProofKit
import Derived.OpenShut
import Derived.Carry
set_option linter.unusedVariables false
set_option linter.unusedSimpArgs false
namespace Go.Proofs.Ytnnalefglpnoaaa
open Go.ChangeShapes Go.WideShapes Go.ChangeAt Go.RowKit
theorem own_none : ownKnob Try.prog.godebug = none := by kernel_rfl
theorem laid_out : laidOutB Try.prog = true := by kernel_rfl
theorem lt_of {H : Type} {enc : TypeId × Value → H} {W : World} {t : TypeId} {v : Value} {d : DataW H} {p : List MemPlace} (h : DataW.Trod enc Try.prog W 0 (fun _ => true) true t v d p) : ∀ x ∈ p, x.block < W.heap.size := by
  obtain ⟨m, hm⟩ := h
  exact DataW.trod_lt m _ _ _ hm
theorem i64_bd (a : Int) (h : (Lit.int .i64 a).wf = true) : -9223372036854775808 ≤ a ∧ a ≤ 9223372036854775807 := by
  simp [Lit.wf, IntKind.min, IntKind.max, IntKind.signed, IntKind.bits] at h
  omega
theorem u32_bd (a : Int) (h : (Lit.int .u32 a).wf = true) : 0 ≤ a ∧ a < 4294967296 := by
  simp [Lit.wf, IntKind.min, IntKind.max, IntKind.signed, IntKind.bits] at h
  omega
theorem open_inst {H : Type} {enc : TypeId × Value → H} {W : World} {base : Nat} {v : Value} {d : DataW H} {p : List MemPlace} (hv : Value.okWide Try.prog W .any base 25 v)
    (h : DataW.Trod enc Try.prog W 0 (fun _ => true) true 25 v d p) : ∃ op rd rs1 rs2 n : Int, v = .agg #[.int .i64 op, .int .i64 rd, .int .i64 rs1, .int .i64 rs2, .int .i64 n] ∧ -9223372036854775808 ≤ n ∧ n ≤ 9223372036854775807 := by
  obtain ⟨cs, rfl, hsz⟩ := okWide_struct Try.underlying25 hv
  obtain ⟨l⟩ := cs
  have h5 : Try.prog.cellsOf 25 = 5 := by kernel_rfl
  have c3 : Try.prog.cellsOf 3 = 1 := by kernel_rfl
  have c2 : Try.prog.cellsOf 2 = 1 := by kernel_rfl
  match l, hsz.trans h5 with
  | [v0, v1, v2, v3, v4], _ =>
    obtain ⟨fuel, hf⟩ := h
    obtain ⟨xs, m, _, hx, _, hlen, hg⟩ := DataW.trod_struct Try.underlying25 hf
    match xs, hlen with
    | [y0, y1, y2, y3, y4], _ =>
      obtain ⟨a0, e0, _, _⟩ := DataW.trod_int Try.underlying3 (by simpa [Value.cells, c3] using hg 0 _ rfl)
      obtain ⟨a1, e1, _, _⟩ := DataW.trod_int Try.underlying3 (by simpa [Value.cells, c3] using hg 1 _ rfl)
      obtain ⟨a2, e2, _, _⟩ := DataW.trod_int Try.underlying3 (by simpa [Value.cells, c3] using hg 2 _ rfl)
      obtain ⟨a3, e3, _, _⟩ := DataW.trod_int Try.underlying3 (by simpa [Value.cells, c3] using hg 3 _ rfl)
      obtain ⟨a4, e4, _, w4⟩ := DataW.trod_int Try.underlying2 (by simpa [Value.cells, c2] using hg 4 _ rfl)
      simp only [List.cons.injEq, and_true] at e0 e1 e2 e3 e4
      subst e0 e1 e2 e3 e4
      exact ⟨a0, a1, a2, a3, a4, rfl, (i64_bd a4 w4).1, (i64_bd a4 w4).2⟩
end Go.Proofs.Ytnnalefglpnoaaa
