/- THE TEXT OF ANY INSTRUCTION, OR THAT IT IS NONE, IS AS THE DOCUMENT SAYS. Conditions: none. -/
import Derived.Test.YtbnmhhbncggjkaaGreatDoorK5I
set_option linter.unusedVariables false
set_option linter.unusedSimpArgs false
namespace Go.Proofs.YtbnmhhbncggjkaaGreatDoor.AsmPrints
open Go Go.ChangeShapes Go.WideShapes Go.ChangeAt Go.RowKit
set_option maxRecDepth 1000000
theorem beqS_self : ∀ l : List UInt8, Eng.beqS l l = true
  | [] => rfl
  | x :: l => by
    show Bool.rec false (Eng.beqS l l) (Nat.beq x.toNat x.toNat) = true
    rw [Nat.beq_refl]
    exact beqS_self l
theorem law {m : Int} (op rd rs1 rs2 n : Int) (w : World) (hg : Eng.GR (G5 m) w) (h1 : inI rd = true) (h2 : inI rs1 = true) (h3 : inI rs2 = true) (h4 : inI n = true) :
    Calls Tryz.prog 3 #[.agg #[.int .i64 op, .int .i64 rd, .int .i64 rs1, .int .i64 rs2, .int .i64 n]] w fun e w' => e = .returned (.bool true) ∧ Below w.heap.size w w' := by
  refine Eng.toBelow (G := G5 m) (args := [.agg [.int .i64 op, .int .i64 rd, .int .i64 rs1, .int .i64 rs2, .int .i64 n]]) (Eng.pure_con (H := Eng.hpOf P []) (kp_told M55_con .nil) (n := 400) (by
    rw [LawPrints_told]
    have hs : Eng.beqS (prS op rd rs1 rs2 n) (prS op rd rs1 rs2 n) = true := beqS_self _
    simp only [kst, kast, h1, h2, h3, h4, hs, show ∀ a : Int, Eng.ieq a a = true from fun a => by rw [ieq_eq], band_eq', and_self, if_true]) rfl) hg (Eng.lr_cons (Eng.vr_agg ?_ ?_) Eng.lr_nil)
  · exact Eng.lr_cons (.int _ _) (Eng.lr_cons (.int _ _) (Eng.lr_cons (.int _ _) (Eng.lr_cons (.int _ _) (Eng.lr_cons (.int _ _) Eng.lr_nil))))
  · intro u hu
    simp at hu
    rcases hu with rfl | rfl | rfl | rfl | rfl <;> rfl
theorem contract (H : Type) (enc : TypeId × Value → H) (W : World) (base : Nat) (args : Array Value) (ds gs : List (DataW H)) (before : List MemPlace)
    (hval : ∀ (j : Nat) t v, Tryz.f3.params[j]? = some t → args[j]? = some v → Value.okWide Tryz.prog W .any base t v)
    (hW : DataW.Whole enc Tryz.prog Tryz.f3.params.toList Rows.asmPrintsSpec.vars false W args.toList ds gs before) (hL : laidMetH Tryz.prog laidL W) (hsh : W.ShapedOpen Tryz.prog) :
    Calls Tryz.prog 3 args W fun e W' => ∃ v, e = .returned v ∧ Rows.asmPrintsSpec.post enc Tryz.prog Tryz.f3 false true false false W args v W' := by
  have hW' := hW
  obtain ⟨p, q, hA0, hV, rfl, hfz, hnd⟩ := hW
  have hA : DataW.TrodAll enc Tryz.prog W 0 (fun _ => true) true Tryz.f3.params.toList args.toList ds p := hA0
  rw [Tryz.params3] at hA hval
  obtain ⟨v0, vs0, d0, ds0, p0, q0, hargs, rfl, rfl, h0, r0⟩ := trodAll_cons hA
  obtain ⟨rfl, rfl, rfl⟩ := trodAll_nil r0
  obtain rfl : args = #[v0] := by cases args; simp_all
  obtain ⟨rfl, rfl⟩ := trodVars_none hV
  have k0 := h0
  have l0 := lt_of h0
  obtain ⟨a0, b0, c0, e0, n0, rfl, y0, y1, y2, y3, y4⟩ := open_inst (hval 0 23 v0 rfl rfl) h0
  obtain ⟨m, hg⟩ := gr5 hL hsh
  clear hA0
  simp only [List.append_nil] at hW'
  refine (law (m := m) a0 b0 c0 e0 n0 W hg y1 y2 y3 y4).mono fun e W' ⟨he, bel⟩ => ?_
  subst he
  exact ⟨_, rfl, _, _, _, [], _, [], hW', trodAll_mk1 (shut_bool Tryz.underlying4 _), (trodAll_cons_mk (Below.trod laid_out (by kernel_rfl) (of_decide_eq_true (by kernel_rfl)) k0 bel l0) trodAll_mk0), rfl, bel.frame _, fun h => by cases h⟩
theorem reads (os : Os) {H : Type} (enc : TypeId × Value → H) : ∃ places, DataW.whole enc Tryz.prog ((laidWorld os).forCall (fun _ _ => 0) ⟨#[], #[.agg #[.int .i64 0, .int .i64 0, .int .i64 0, .int .i64 0, .int .i64 0]], []⟩).memory Tryz.f3.params.toList Rows.asmPrintsSpec.vars false #[Value.agg #[.int .i64 0, .int .i64 0, .int .i64 0, .int .i64 0, .int .i64 0]].toList 8 = some ([.agg [.lit (.int .i64 0), .lit (.int .i64 0), .lit (.int .i64 0), .lit (.int .i64 0), .lit (.int .i64 0)]], [], places) :=
  ⟨[], by kernel_rfl⟩
theorem lifted (os : Os) (started : os.Started) (H : Type) (enc : TypeId × Value → H) (F : Stop.Interp) :
    ReturnsInHanded {} Tryz.checked os 3 .any ((OpenSpec.ofChange Rows.asmPrintsSpec).preRow enc Tryz.prog Tryz.f3 Rows.asmPrintsRow.domain false Rows.asmPrintsRow.laid) (((OpenSpec.ofChange Rows.asmPrintsSpec).at F).post enc Tryz.prog Tryz.f3 false true false false) := by
  obtain ⟨places, hx⟩ := reads os enc
  refine returnsInHanded_of_row (C := Tryz.checked) (s := OpenSpec.ofChange Rows.asmPrintsSpec) own_none started (by kernel_rfl) Tryz.func3
    (witness_row_atRef (enc := enc) (C := Tryz.checked) false (laidWorld os) #[.agg #[.int .i64 0, .int .i64 0, .int .i64 0, .int .i64 0, .int .i64 0]] rfl (by kernel_rfl) (by kernel_rfl) (by kernel_rfl)
      (OpenSpec.preRow_of_cond 8 hx (by kernel_rfl) (fun k hk => by cases hk) (by kernel_rfl) (door_met os _))) ?_
  intro W base args ds gs before hval hW _ _ _ hL hsh _
  exact contract H enc W base args ds gs before hval hW hL hsh
theorem said : Rows.AsmPrintsSaid :=
  OpenClaim.holds_of_cond 3 Tryz.f3 rfl rfl rfl rfl rfl rfl rfl ⟨rfl, rfl, rfl, rfl, rfl⟩ rfl rfl rfl rfl rfl (by kernel_rfl) Tryz.func3 (by kernel_rfl)
    (of_decide_eq_true (by kernel_rfl)) (by unfold Func.isWrapper; first | (rw [if_pos (by decide +kernel)]; kernel_rfl) | (rw [if_neg (by decide +kernel)]; exact ⟨rfl, rfl⟩))
    (fun os started H enc _ F => by rw [OpenClaim.pre_eq_preRow]; exact lifted os started H enc F)
theorem plain (f : FuncId) (fn : Func) (hf : Tryz.pinned.checked.prog.funcNamed "curtilage/curtilagelaw05.AsmPrints" = some f) (hfn : Tryz.pinned.checked.prog.funcs[f]? = some fn) :
    true = Tryz.pinned.checked.prog.looks [] ∧ ∀ (j : Nat) t, fn.params[j]? = some t → Tryz.pinned.checked.prog.wantsStandIn t = false := by
  obtain rfl : f = 3 := Option.some.inj ((show Tryz.prog.funcNamed "curtilage/curtilagelaw05.AsmPrints" = some 3 by kernel_rfl).symm.trans hf) |>.symm
  obtain rfl : fn = Tryz.f3 := (Option.some.inj (Tryz.func3.symm.trans hfn)).symm
  refine ⟨by kernel_rfl, fun j t ht => ?_⟩
  rw [Tryz.params3] at ht
  obtain rfl : t = 23 := by simpa using Array.mem_of_getElem? ht
  exact (show Tryz.prog.wantsStandIn 23 = false by kernel_rfl)
/-- THE STATEMENT. -/
theorem card : Rows.AsmPrintsCardSaid :=
  Claim7.holds_tied_plain_at .later [] _ _ _ _ said (fun _ h => by cases h) (by kernel_rfl) (fun _ h => by cases h) asmPrints_row_tie rfl ⟨rfl, rfl⟩ (by kernel_rfl) rfl plain (by kernel_rfl)
end Go.Proofs.YtbnmhhbncggjkaaGreatDoor.AsmPrints
