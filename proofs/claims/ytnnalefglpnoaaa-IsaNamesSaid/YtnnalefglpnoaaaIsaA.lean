/- Layer 4, walks: the table, and what is looked up in it. Conditions: none. -/
import Derived.Test.YtnnalefglpnoaaaW
import Derived.Test.YtnnalefglpnoaaaIsaTbl
set_option linter.unusedVariables false
set_option linter.unusedSimpArgs false
namespace Go.Proofs.Ytnnalefglpnoaaa
open Go.RowKit Wd
/-- An operation's cells. -/
def Opn.cells (o : Opn) : List Value := [.string o.name, .int .i64 o.kind, .int .u32 o.code, .int .u32 o.f3, .int .u32 o.f7, .int .i64 o.shift]
/-- The whole table's. -/
def tblCells : List Value := (tbl.map Opn.cells).flatten
def zeroCells : List Value := (List.replicate 82 Opn.zero.cells).flatten
theorem tblCells_length : tblCells.length = 492 := by
  have : (tblCells.length == 492) = true := by kernel_rfl
  simpa using this
theorem info_ops : (Try.prog.info? 44).map (·.size) = some 492 := by kernel_rfl
set_option maxRecDepth 100000 in
theorem operations_calls (w : World) : Calls Try.prog 20 #[] w fun e w' => e = .returned (.agg tblCells.toArray) ∧ Below w.heap.size w w' := by
  refine calls_of_wp Try.func20 rfl ?_
  refine wp_seq_k fun K hK => ?_
  refine wp_region_list ?_
  refine ev_new rfl (N := 0) rfl zeroCells 44 (by kernel_rfl) ?_
  intro g w1 hg hB hb hlt
  refine wpList_nil (hK _ _ ?_)
  refine wp_seq_k fun K2 hK2 => ?_
  refine wp_region_pure (P := Try.prog) 83 (fun a => (a.eval (.tmp 83), a.eval (.tmp 0), a.defers)) (b := (.agg tblCells.toArray, .pointer (some ⟨g, 0, none⟩), [])) (by kernel_rfl) ?_
  intro a' ha
  simp only [Prod.mk.injEq] at ha
  obtain ⟨h1, h2, h3⟩ := ha
  refine ev_store (o := { dst := none, op := .store 44 (.tmp 0) (.tmp 83), type := 0, pos := "isa.go:19", after := #[], guard := none }) rfl rfl rfl h2 hB h1 (seg := tblCells) rfl ?_ ?_ ?_ ?_
  · rw [tblCells_length]; exact info_ops
  · rw [tblCells_length]; kernel_rfl
  · kernel_rfl
  intro w2 hB2 hb2 _
  refine wpList_nil (hK2 _ _ ?_)
  refine wp_ret ?_
  refine bodyPost_ret (results_one rfl _ _ g 44 tblCells _ h2 hB2 Try.underlying44 rfl (by rw [tblCells_length]; exact info_ops)) h3 ⟨rfl, hb2 _ hg hb⟩
theorem cells_length (o : Opn) : o.cells.length = 6 := rfl
theorem tbl_at (i : Int) (h0 : 0 ≤ i) (h1 : i < 82) : tbl[i.toNat]? = some (tbl.getD i.toNat Opn.zero) := by
  have : i.toNat < tbl.length := by rw [tbl_length]; omega
  rw [List.getD_eq_getElem?_getD, List.getElem?_eq_getElem this]; rfl
/-- The table's element as a value. -/
theorem index_tbl (i : Int) (h0 : 0 ≤ i) (h1 : i < 82) (w : World) : (Instr.index 44 (.agg tblCells.toArray) (.int .i64 i)).run Try.prog w = .ok (.agg #[.string (opn (i + 1)).name, .int .i64 (opn (i + 1)).kind, .int .u32 (opn (i + 1)).code, .int .u32 (opn (i + 1)).f3, .int .u32 (opn (i + 1)).f7, .int .i64 (opn (i + 1)).shift]) w := by
  rw [run_index_agg Try.underlying44 Try.underlying43 (k := 6) (by kernel_rfl) _ i h0 (by omega) w]
  have h := flatten_at Opn.cells 6 cells_length tbl i.toNat _ (tbl_at i h0 h1)
  have e : opn (i + 1) = tbl.getD i.toNat Opn.zero := by
    unfold opn
    rw [if_pos (by omega)]
    congr 2
    omega
  rw [e]
  congr 2
  apply Array.ext'
  rw [Array.toList_extract]
  rw [List.extract_eq_take_drop, Nat.add_sub_cancel_left]
  exact h
end Go.Proofs.Ytnnalefglpnoaaa
