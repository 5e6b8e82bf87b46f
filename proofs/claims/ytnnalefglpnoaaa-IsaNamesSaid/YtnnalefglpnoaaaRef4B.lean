/- Layer 4's reference, walks: the operations above. Conditions: which part of the table. -/
import Derived.Test.YtnnalefglpnoaaaRef4O
set_option linter.unusedVariables false
set_option linter.unusedSimpArgs false
namespace Go.Proofs.Ytnnalefglpnoaaa
open Go.RowKit Wd
set_option maxRecDepth 100000 in
set_option maxHeartbeats 8000000 in
theorem high_calls (op : Int) (w : World) (h1 : 37 ≤ op) (h2 : op ≤ 82) : Calls Try.prog 37 #[.int .i64 op] w fun e w' => e = .returned (.agg (refCells (opn op)).toArray) ∧ Below w.heap.size w w' := by
  go_enter Try.func37, Try.ntmps37
  go_wp2_with (first
    | (refine ev_new rfl (N := 2) rfl (refCells Opn.zero) 35 (by kernel_rfl) ?_; intro g w1 hg B hb hlt)
    | (refine ev_store rfl rfl (p := .tmp 2) rfl rfl B rfl rfl (by kernel_rfl) rfl rfl ?_; intro w2 B2 lo2 ot2))
  all_goals
    refine bodyPost_ret (results_one rfl _ _ g 35 _ _ rfl B2 Try.underlying35 rfl (by kernel_rfl)) rfl ⟨?_, lo2 _ hg hb⟩
    have e := eq_of_beq (show (op == _) = true by assumption)
    subst e
    rfl
end Go.Proofs.Ytnnalefglpnoaaa
