/- Layer 4: the examples hold; what is encoded and decoded is as the document says. Conditions: none. -/
import Derived.Test.YtnnalefglpnoaaaK4V
import Derived.Test.YtnnalefglpnoaaaEngBe
set_option linter.unusedVariables false
set_option linter.unusedSimpArgs false
namespace Go.Proofs.Ytnnalefglpnoaaa
open Go Eng Go.RowKit
set_option maxRecDepth 1000000
noncomputable abbrev M7 : List (FuncId × PCon) := M6 ++ R6
theorem M7_con : PConsS P G0 M7 := M6_con.append R6_con
theorem awake_told {R : Type} (k : LV → Option R) : evk P G0 (Ko M7) 1000 (.call 9 []) (hpOf P []) (obs0 k) = k (.bool true) := by kernel_rfl
noncomputable def cAwake : PCon := fun args => match args with | [] => [(true, .bool true)] | _ => []
theorem awake_con : PConS P G0 9 cAwake := fun args v e h => by
  unfold cAwake at e
  split at e
  · obtain ⟨-, rfl⟩ := pick_one e
    exact (pure_con (ko_told M7_con) (n := 1000) (by rw [awake_told]) rfl).toS
  · cases e
noncomputable abbrev M8 : List (FuncId × PCon) := (9, cAwake) :: M7
theorem M8_con : PConsS P G0 M8 := .cons awake_con M7_con
theorem ieq_self (a : Int) : ieq a a = true := by rw [ieq_eq]
theorem LawEncodes_told {R : Type} (k : LV → Option R) (op rd rs1 rs2 n : Int) : evk P G0 (Ko M8) 400 (.call 4 [(.agg [(.int .i64 op), (.int .i64 rd), (.int .i64 rs1), (.int .i64 rs2), (.int .i64 n)])]) (hpOf P []) (obs0 k) =
  (ast (inI n) <|
  ast (inI n) <|
  let x0 := ieq (encV op rd rs1 rs2 n) (encV op rd rs1 rs2 n);
  tst (x0)
  (let x1 := ieq (encE op rd rs1 rs2 n) (encE op rd rs1 rs2 n);
   k (.bool x1))
  (k (.bool false))) := by kernel_rfl
theorem LawDecodes_told {R : Type} (k : LV → Option R) (w : Int) : evk P G0 (Ko M8) 400 (.call 3 [(.int .u32 w)]) (hpOf P []) (obs0 k) =
  (ast (inU w) <|
  ast (inU w) <|
  let x0 := band (ieq (decOp w) (decOp w)) (band (ieq (decRd w) (decRd w)) (band (ieq (decRs1 w) (decRs1 w)) (band (ieq (decRs2 w) (decRs2 w)) (band (ieq (decImm w) (decImm w)) true))));
  tst (x0)
  (k (.bool (ieq (decE w) (decE w))))
  (k (.bool false))) := by kernel_rfl
theorem IsaEncodes_law (op rd rs1 rs2 n : Int) (w : World) (h0 : -9223372036854775808 ≤ n) (h1 : n ≤ 9223372036854775807) :
    Calls Try.prog 4 #[.agg #[.int .i64 op, .int .i64 rd, .int .i64 rs1, .int .i64 rs2, .int .i64 n]] w fun e w' => e = .returned (.bool true) ∧ Below w.heap.size w w' := by
  have hn : inI n = true := by rw [inI_eq]; exact ⟨h0, h1⟩
  refine toBelow (G := G0) (args := [.agg [.int .i64 op, .int .i64 rd, .int .i64 rs1, .int .i64 rs2, .int .i64 n]]) (pure_con (H := hpOf P []) (ko_told M8_con) (n := 400) (by rw [LawEncodes_told]; simp only [kst, kast, hn, ieq_self]; rfl) rfl) (gr_none w) (lr_cons (vr_agg ?_ ?_) lr_nil)
  · exact lr_cons (.int _ _) (lr_cons (.int _ _) (lr_cons (.int _ _) (lr_cons (.int _ _) (lr_cons (.int _ _) lr_nil))))
  · intro u hu
    simp at hu
    rcases hu with rfl | rfl | rfl | rfl | rfl <;> rfl
theorem IsaDecodes_law (x : Int) (w : World) (h0 : 0 ≤ x) (h1 : x < 4294967296) :
    Calls Try.prog 3 #[.int .u32 x] w fun e w' => e = .returned (.bool true) ∧ Below w.heap.size w w' := by
  have hn : inU x = true := by rw [inU_eq]; exact ⟨h0, by omega⟩
  exact toBelow (G := G0) (args := [.int .u32 x]) (pure_con (H := hpOf P []) (ko_told M8_con) (n := 400) (by rw [LawDecodes_told]; simp only [kst, kast, hn, ieq_self, band]; rfl) rfl) (gr_none w) (lr_cons (.int _ _) lr_nil)
end Go.Proofs.Ytnnalefglpnoaaa
