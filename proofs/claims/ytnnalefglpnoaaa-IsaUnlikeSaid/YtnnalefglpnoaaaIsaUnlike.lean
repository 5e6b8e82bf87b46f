/- NO TWO INSTRUCTIONS ARE ONE NUMBER, for any two instructions. Conditions: none. -/
import Derived.Test.YtnnalefglpnoaaaIsaQ
import Derived.Test.YtnnalefglpnoaaaFrame
set_option linter.unusedVariables false
set_option linter.unusedSimpArgs false
namespace Go.Proofs.Ytnnalefglpnoaaa
open Go.RowKit Wd
theorem enc_inj {op rd rs1 rs2 n op' rd' rs1' rs2' n' : Int} (h : encB op rd rs1 rs2 n = true) (h' : encB op' rd' rs1' rs2' n' = true) (e : encN op rd rs1 rs2 n = encN op' rd' rs1' rs2' n') : op = op' ∧ rd = rd' ∧ rs1 = rs1' ∧ rs2 = rs2' ∧ n = n' := by
  have e1 := enc_unique h h' e
  subst e1
  obtain ⟨b, p⟩ := encB_parts h
  obtain ⟨b', p'⟩ := encB_parts h'
  rw [← e] at p'
  exact ⟨rfl, p.rd.symm.trans p'.rd, p.rs1.symm.trans p'.rs1, p.rs2.symm.trans p'.rs2, p.imm.symm.trans p'.imm⟩
set_option maxRecDepth 100000 in
set_option maxHeartbeats 4000000 in
theorem IsaUnlike_law (op rd rs1 rs2 n op' rd' rs1' rs2' n' : Int) (w : World) (hn0 : -9223372036854775808 ≤ n) (hn1 : n ≤ 9223372036854775807) (hm0 : -9223372036854775808 ≤ n') (hm1 : n' ≤ 9223372036854775807) :
    Calls Try.prog 7 #[.agg #[.int .i64 op, .int .i64 rd, .int .i64 rs1, .int .i64 rs2, .int .i64 n], .agg #[.int .i64 op', .int .i64 rd', .int .i64 rs1', .int .i64 rs2', .int .i64 n']] w fun e w' => e = .returned (.bool true) ∧ Below w.heap.size w w' := by
  go_enter Try.func7, Try.ntmps7
  go_wp2_with (first
    | (refine ev_new rfl (N := 2) rfl (instCells op rd rs1 rs2 n) 25 (by kernel_rfl) ?_; intro g w1 hg hB hb hlt; have H := HeldI.mk hB hb hg)
    | (refine ev_new rfl (N := 3) rfl (instCells op' rd' rs1' rs2' n') 25 (by kernel_rfl) ?_; intro g' w1' hg' hB' hb' hlt'; have H := H.step hb'; have H' := HeldI.mk hB' H.low (Nat.le_trans hb.size hg')))
  refine (awake_calls _).mono ?_
  rintro e w2 ⟨rfl, hb2⟩
  have H := H.step hb2
  have H' := H'.step hb2
  go_wp2_with (refine ev_load rfl (t := 25) (p := .tmp 2) rfl rfl H.box Try.underlying25 rfl (by kernel_rfl) rfl ?_)
  refine (Encode_calls op rd rs1 rs2 n _ hn0 hn1).mono ?_
  rintro e w3 ⟨rfl, hb3⟩
  have H := H.step hb3
  have H' := H'.step hb3
  go_wp2_with (refine ev_load rfl (t := 25) (p := .tmp 3) rfl rfl H'.box Try.underlying25 rfl (by kernel_rfl) rfl ?_)
  refine (Encode_calls op' rd' rs1' rs2' n' _ hm0 hm1).mono ?_
  rintro e w4 ⟨rfl, hb4⟩
  have H := H.step hb4
  have H' := H'.step hb4
  cases hB : encB op rd rs1 rs2 n
  · rw [(encV_no hB).1, (encV_no hB).2]
    clear hB
    go_wp2_with fail
    all_goals go_ret
    all_goals exact ⟨rfl, H.low⟩
  · rw [encV_of hB, encE_zero.2 hB]
    cases hB' : encB op' rd' rs1' rs2' n'
    · rw [(encV_no hB').1, (encV_no hB').2]
      clear hB hB'
      go_wp2_with fail
      all_goals go_ret
      all_goals exact ⟨rfl, H.low⟩
    · rw [encV_of hB', encE_zero.2 hB']
      have HB := Lib.hid hB
      have HB' := Lib.hid hB'
      clear hB hB'
      obtain ⟨d0, d1, d2, d3, d4, -⟩ := H.S
      obtain ⟨c0, c1, c2, c3, c4, -⟩ := H'.S
      go_wp2_with fail
      all_goals go_ret
      all_goals refine ⟨ret_bool ?_, H.low⟩
      all_goals
        clear d0 d1 d2 d3 d4 c0 c1 c2 c3 c4
        subst_vars
        first
          | (simp; done)
          | (rw [Bool.not_eq_true', beq_eq_false_iff_ne]; intro e; have := enc_inj HB.out HB'.out e; simp_all)
namespace IsaUnlike
open Go.ChangeShapes Go.WideShapes Go.ChangeAt Go.RowKit
open Go.ChangeMaps (open_string)
set_option maxRecDepth 100000 in
theorem lifted (os : Os) (started : os.Started) (H : Type) (enc : TypeId × Value → H) :
    ReturnsInHanded {} Try.checked os 7 .any (Rows.isaUnlikeSpec.pre6 enc Try.prog Try.f7 Rows.isaUnlikeRow.domain false) (Rows.isaUnlikeSpec.post enc Try.prog Try.f7 false true false false) := by
  refine returnsInHanded_of_change (C := Try.checked) own_none started (by kernel_rfl) Try.func7
    (ChangeSpec.witness6 (enc := enc) (C := Try.checked) false ⟨#[], #[.agg #[.int .i64 0, .int .i64 0, .int .i64 0, .int .i64 0, .int .i64 0], .agg #[.int .i64 0, .int .i64 0, .int .i64 0, .int .i64 0, .int .i64 0]], []⟩ 8 (by kernel_rfl) (by kernel_rfl) (by kernel_rfl) (by kernel_rfl)) ?_
  intro W base args ds gs before hval0 hW hcnd _
  have hval : ∀ (j : Nat) t v, Try.f7.params[j]? = some t → args[j]? = some v → Value.okWide Try.prog W .any base t v := hval0
  have hW' := hW
  obtain ⟨p, q, hA0, hV, rfl, hfz, hnd⟩ := hW
  have hA : DataW.TrodAll enc Try.prog W 0 (fun _ => true) true Try.f7.params.toList args.toList ds p := hA0
  rw [Try.params7] at hA hval
  obtain ⟨v0, vs0, d0, ds0, p0, q0, hargs, rfl, rfl, h0, r0⟩ := trodAll_cons hA
  obtain ⟨v1, vs1, d1, ds1, p1, q1, rfl, rfl, rfl, h1, r1⟩ := trodAll_cons r0
  obtain ⟨rfl, rfl, rfl⟩ := trodAll_nil r1
  obtain rfl : args = #[v0, v1] := by cases args; simp_all
  obtain ⟨rfl, rfl⟩ := trodVars_none hV
  have k0 := h0
  have l0 := lt_of h0
  obtain ⟨a0, b0, c0, e0, n0, rfl, x0, y0⟩ := open_inst (hval 0 25 v0 rfl rfl) h0
  have k1 := h1
  have l1 := lt_of h1
  obtain ⟨a1, b1, c1, e1, n1, rfl, x1, y1⟩ := open_inst (hval 1 25 v1 rfl rfl) h1
  refine (IsaUnlike_law a0 b0 c0 e0 n0 a1 b1 c1 e1 n1 W x0 y0 x1 y1).mono fun e W' ⟨he, bel⟩ => ?_
  subst he
  exact ⟨_, rfl, _, _, _, [], _, [], hW', trodAll_mk1 (shut_bool Try.underlying4 _), (trodAll_cons_mk (Below.trod laid_out (by kernel_rfl) (of_decide_eq_true (by kernel_rfl)) k0 bel l0) (trodAll_cons_mk (Below.trod laid_out (by kernel_rfl) (of_decide_eq_true (by kernel_rfl)) k1 bel l1) trodAll_mk0)), rfl, bel.frame _, fun h => by cases h⟩
theorem over : Rows.isaUnlikeRow.holds Try.pinned (OpenSpec.ofChange Rows.isaUnlikeSpec) :=
  OpenClaim.holds_of_wide 7 Try.f7 rfl rfl rfl rfl rfl rfl rfl ⟨rfl, rfl, rfl, rfl, rfl⟩ rfl rfl rfl rfl rfl (by kernel_rfl) Try.func7 (by kernel_rfl)
    (of_decide_eq_true (by kernel_rfl)) (by unfold Func.isWrapper; first | (rw [if_pos (by decide +kernel)]; kernel_rfl) | (rw [if_neg (by decide +kernel)]; exact ⟨rfl, rfl⟩))
    (fun os started H enc _ => lifted os started H enc)
/-- THE STATEMENT. -/
theorem proved : Rows.IsaUnlikeSaid := over
end IsaUnlike
end Go.Proofs.Ytnnalefglpnoaaa
