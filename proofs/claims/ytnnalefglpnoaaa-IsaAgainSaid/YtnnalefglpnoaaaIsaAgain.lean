/- WHAT IS DECODED IS ENCODED: the same number comes of its instruction, for any uint32. Conditions: none. -/
import Derived.Test.YtnnalefglpnoaaaIsaAw
import Derived.Test.YtnnalefglpnoaaaRows
import Derived.ProofKit
import Derived.OpenShut
set_option linter.unusedVariables false
set_option linter.unusedSimpArgs false
namespace Go.Proofs.Ytnnalefglpnoaaa
open Go.RowKit Wd
set_option maxRecDepth 100000 in
set_option maxHeartbeats 4000000 in
theorem IsaAgain_law (x : Int) (w : World) (h0 : 0 ≤ x) (h1 : x < 4294967296) : Calls Try.prog 6 #[.int .u32 x] w fun e w' => e = .returned (.bool true) ∧ Below w.heap.size w w' := by
  go_enter Try.func6, Try.ntmps6
  go_wp2_with fail
  refine (awake_calls _).mono ?_
  rintro e w1 ⟨rfl, hb1⟩
  go_wp2_with fail
  refine (Decode_calls _ _ h0 h1).mono ?_
  rintro e w2 (⟨k, hk, hh, hno, rfl, hb2⟩ | ⟨hno, rfl, hb2⟩)
  · have HE := Lib.hid (hit_enc hh)
    have ho := opn_ok ((k : Int) + 1) (by omega)
    have HI := Lib.hid (imm_bd _ x ho)
    have HN := Lib.hid hno
    have HH := Lib.hid hh
    clear hno hh ho
    go_wp2_with (go_at_call 12; refine (Encode_calls _ _ _ _ _ _ HI.out.1 HI.out.2).mono ?_; rintro e w3 ⟨rfl, hb3⟩; rw [HE.out.1, HE.out.2])
    go_ret
    exact ⟨rfl, by repeat (first | assumption | refine below_alloc ?_ _ | refine below_trans ?_ (by assumption))⟩
  · have HN := Lib.hid hno
    clear hno
    go_wp2_with fail
    go_ret
    exact ⟨rfl, by repeat (first | assumption | refine below_alloc ?_ _ | refine below_trans ?_ (by assumption))⟩
namespace IsaAgain
open Go.ChangeShapes Go.WideShapes Go.ChangeAt Go.RowKit
theorem own : ownKnob Try.prog.godebug = none := by kernel_rfl
theorem bd (a : Int) (h : (Lit.int .u32 a).wf = true) : 0 ≤ a ∧ a < 4294967296 := by
  simp [Lit.wf, IntKind.min, IntKind.max, IntKind.signed, IntKind.bits] at h
  omega
set_option maxRecDepth 100000 in
theorem lifted (os : Os) (started : os.Started) (H : Type) (enc : TypeId × Value → H) :
    ReturnsInHanded {} Try.checked os 6 .any (Rows.isaAgainSpec.pre6 enc Try.prog Try.f6 Rows.isaAgainRow.domain false) (Rows.isaAgainSpec.post enc Try.prog Try.f6 false true false false) := by
  refine returnsInHanded_of_change (C := Try.checked) own started (by kernel_rfl) Try.func6
    (ChangeSpec.witness6 (enc := enc) (C := Try.checked) false ⟨#[], #[.int .u32 0], []⟩ 8 (by kernel_rfl) (by kernel_rfl) (by kernel_rfl) (by kernel_rfl)) ?_
  intro W base args ds gs before hval0 hW hcnd _
  have hval : ∀ (j : Nat) t v, Try.f6.params[j]? = some t → args[j]? = some v → Value.okWide Try.prog W .any base t v := hval0
  have hW' := hW
  obtain ⟨p, q, hA0, hV, rfl, hfz, hnd⟩ := hW
  have hA : DataW.TrodAll enc Try.prog W 0 (fun _ => true) true Try.f6.params.toList args.toList ds p := hA0
  rw [Try.params6] at hA hval
  obtain ⟨v0, vs0, d0, ds0, p0, q0, hargs, rfl, rfl, h0, r0⟩ := trodAll_cons hA
  obtain ⟨rfl, rfl, rfl⟩ := trodAll_nil r0
  obtain rfl : args = #[v0] := by cases args; simp_all
  obtain ⟨rfl, rfl⟩ := trodVars_none hV
  obtain ⟨a0, rfl, rfl, rfl, w0⟩ := open_int Try.underlying22 (hval 0 22 v0 rfl rfl) h0
  clear hA0 hval0
  simp only [List.append_nil] at hW'
  refine (IsaAgain_law a0 W (bd a0 w0).1 (bd a0 w0).2).mono fun e W' ⟨he, bel⟩ => ?_
  subst he
  exact ⟨_, rfl, _, _, _, [], _, [], hW', trodAll_mk1 (shut_bool Try.underlying4 _), (trodAll_cons_mk (shut_int Try.underlying22 w0) trodAll_mk0), rfl, bel.frame _, fun h => by cases h⟩
theorem over : Rows.isaAgainRow.holds Try.pinned (OpenSpec.ofChange Rows.isaAgainSpec) :=
  OpenClaim.holds_of_wide 6 Try.f6 rfl rfl rfl rfl rfl rfl rfl ⟨rfl, rfl, rfl, rfl, rfl⟩ rfl rfl rfl rfl rfl (by kernel_rfl) Try.func6 (by kernel_rfl)
    (of_decide_eq_true (by kernel_rfl)) (by unfold Func.isWrapper; first | (rw [if_pos (by decide +kernel)]; kernel_rfl) | (rw [if_neg (by decide +kernel)]; exact ⟨rfl, rfl⟩))
    (fun os started H enc _ => lifted os started H enc)
/-- THE STATEMENT. -/
theorem proved : Rows.IsaAgainSaid := over
end IsaAgain
end Go.Proofs.Ytnnalefglpnoaaa
