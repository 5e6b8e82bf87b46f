/- WHAT IS ENCODED IS DECODED: the same instruction comes of its number, for any instruction. Conditions: none. -/
import Derived.Test.YtnnalefglpnoaaaIsaQ
import Derived.Test.YtnnalefglpnoaaaFrame
set_option linter.unusedVariables false
set_option linter.unusedSimpArgs false
namespace Go.Proofs.Ytnnalefglpnoaaa
open Go.RowKit Wd
set_option maxRecDepth 100000 in
set_option maxHeartbeats 4000000 in
theorem IsaBack_law (op rd rs1 rs2 n : Int) (w : World) (hn0 : -9223372036854775808 ≤ n) (hn1 : n ≤ 9223372036854775807) :
    Calls Try.prog 5 #[.agg #[.int .i64 op, .int .i64 rd, .int .i64 rs1, .int .i64 rs2, .int .i64 n]] w fun e w' => e = .returned (.bool true) ∧ Below w.heap.size w w' := by
  go_enter Try.func5, Try.ntmps5
  go_wp2_with (refine ev_new rfl (N := 1) rfl (instCells op rd rs1 rs2 n) 25 (by kernel_rfl) ?_; intro g w1 hg hB hb hlt; have H := HeldI.mk hB hb hg)
  refine (awake_calls _).mono ?_
  rintro e w2 ⟨rfl, hb2⟩
  have H := H.step hb2
  go_wp2_with (refine ev_load rfl (t := 25) (p := .tmp 1) rfl rfl H.box Try.underlying25 rfl (by kernel_rfl) rfl ?_)
  refine (Encode_calls op rd rs1 rs2 n _ hn0 hn1).mono ?_
  rintro e w3 ⟨rfl, hb3⟩
  have H := H.step hb3
  cases hB : encB op rd rs1 rs2 n
  · rw [(encV_no hB).1, (encV_no hB).2]
    clear hB
    go_wp2_with fail
    go_ret
    exact ⟨rfl, H.low⟩
  · rw [encV_of hB, encE_zero.2 hB]
    have HB := Lib.hid hB
    clear hB
    go_wp2_with fail
    refine (Decode_enc op rd rs1 rs2 n _ HB.out).mono ?_
    rintro e w4 ⟨rfl, hb4⟩
    have H := H.step hb4
    obtain ⟨d0, d1, d2, d3, d4, -⟩ := H.S
    have hlt4 := H.box.lt
    go_wp2_with fail
    go_ret
    exact ⟨rfl, below_alloc H.low _⟩
namespace IsaBack
open Go.ChangeShapes Go.WideShapes Go.ChangeAt Go.RowKit
open Go.ChangeMaps (open_string)
set_option maxRecDepth 100000 in
theorem lifted (os : Os) (started : os.Started) (H : Type) (enc : TypeId × Value → H) :
    ReturnsInHanded {} Try.checked os 5 .any (Rows.isaBackSpec.pre6 enc Try.prog Try.f5 Rows.isaBackRow.domain false) (Rows.isaBackSpec.post enc Try.prog Try.f5 false true false false) := by
  refine returnsInHanded_of_change (C := Try.checked) own_none started (by kernel_rfl) Try.func5
    (ChangeSpec.witness6 (enc := enc) (C := Try.checked) false ⟨#[], #[.agg #[.int .i64 0, .int .i64 0, .int .i64 0, .int .i64 0, .int .i64 0]], []⟩ 8 (by kernel_rfl) (by kernel_rfl) (by kernel_rfl) (by kernel_rfl)) ?_
  intro W base args ds gs before hval0 hW hcnd _
  have hval : ∀ (j : Nat) t v, Try.f5.params[j]? = some t → args[j]? = some v → Value.okWide Try.prog W .any base t v := hval0
  have hW' := hW
  obtain ⟨p, q, hA0, hV, rfl, hfz, hnd⟩ := hW
  have hA : DataW.TrodAll enc Try.prog W 0 (fun _ => true) true Try.f5.params.toList args.toList ds p := hA0
  rw [Try.params5] at hA hval
  obtain ⟨v0, vs0, d0, ds0, p0, q0, hargs, rfl, rfl, h0, r0⟩ := trodAll_cons hA
  obtain ⟨rfl, rfl, rfl⟩ := trodAll_nil r0
  obtain rfl : args = #[v0] := by cases args; simp_all
  obtain ⟨rfl, rfl⟩ := trodVars_none hV
  have k0 := h0
  have l0 := lt_of h0
  obtain ⟨a0, b0, c0, e0, n0, rfl, x0, y0⟩ := open_inst (hval 0 25 v0 rfl rfl) h0
  refine (IsaBack_law a0 b0 c0 e0 n0 W x0 y0).mono fun e W' ⟨he, bel⟩ => ?_
  subst he
  exact ⟨_, rfl, _, _, _, [], _, [], hW', trodAll_mk1 (shut_bool Try.underlying4 _), (trodAll_cons_mk (Below.trod laid_out (by kernel_rfl) (of_decide_eq_true (by kernel_rfl)) k0 bel l0) trodAll_mk0), rfl, bel.frame _, fun h => by cases h⟩
theorem over : Rows.isaBackRow.holds Try.pinned (OpenSpec.ofChange Rows.isaBackSpec) :=
  OpenClaim.holds_of_wide 5 Try.f5 rfl rfl rfl rfl rfl rfl rfl ⟨rfl, rfl, rfl, rfl, rfl⟩ rfl rfl rfl rfl rfl (by kernel_rfl) Try.func5 (by kernel_rfl)
    (of_decide_eq_true (by kernel_rfl)) (by unfold Func.isWrapper; first | (rw [if_pos (by decide +kernel)]; kernel_rfl) | (rw [if_neg (by decide +kernel)]; exact ⟨rfl, rfl⟩))
    (fun os started H enc _ => lifted os started H enc)
/-- THE STATEMENT. -/
theorem proved : Rows.IsaBackSaid := over
end IsaBack
end Go.Proofs.Ytnnalefglpnoaaa
