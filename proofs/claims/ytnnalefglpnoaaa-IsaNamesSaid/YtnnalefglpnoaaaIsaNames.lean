/- Operations' names and kinds, and the operation of any name, are as the document says, for any number and any name. Conditions: none. -/
import Derived.Test.YtnnalefglpnoaaaRef4C
import Derived.Test.YtnnalefglpnoaaaIsaAw
import Derived.Test.YtnnalefglpnoaaaFrame
set_option linter.unusedVariables false
set_option linter.unusedSimpArgs false
namespace Go.Proofs.Ytnnalefglpnoaaa
open Go.RowKit Wd
theorem names_back : ((List.range 82).all fun k => findN (opn ((k : Int) + 1)).name == (k : Int) + 1) = true := by decide +kernel
theorem names_some : ((List.range 82).all fun k => !(opn ((k : Int) + 1)).name.toList.isEmpty) = true := by decide +kernel
theorem find_name (op : Int) (h : 1 ≤ op ∧ op ≤ 82) : findN (opn op).name = op := by
  have h1 := List.all_eq_true.1 names_back (op - 1).toNat (List.mem_range.2 (by omega))
  rw [show (((op - 1).toNat : Nat) : Int) + 1 = op by omega] at h1
  exact eq_of_beq h1
theorem name_some (op : Int) (h : 1 ≤ op ∧ op ≤ 82) : (opn op).name.toList ≠ [] := by
  have h1 := List.all_eq_true.1 names_some (op - 1).toNat (List.mem_range.2 (by omega))
  rw [show (((op - 1).toNat : Nat) : Int) + 1 = op by omega] at h1
  intro e
  rw [e] at h1
  cases h1
theorem find_empty (s : ByteArray) (h : s.toList = []) : findN s = 0 := findN_none s (fun j hj => by
  rw [h]
  exact name_some _ (by omega))
theorem zero_name : Opn.zero.name.toList.isEmpty = true := by decide +kernel
theorem find_back (op : Int) (h : ¬ (opn op).name.toList = []) : findN (opn op).name = op := by
  rcases (show (1 ≤ op ∧ op ≤ 82) ∨ (op < 1 ∨ 82 < op) by omega) with hop | hop
  · exact find_name op hop
  · rw [opn_out op hop] at h
    exact absurd (List.isEmpty_iff.1 zero_name) h
set_option maxRecDepth 100000 in
set_option maxHeartbeats 4000000 in
theorem IsaNames_law (op : Int) (s : ByteArray) (w : World) :
    Calls Try.prog 8 #[.int .i64 op, .string s] w fun e w' => e = .returned (.bool true) ∧ Below w.heap.size w w' := by
  go_enter Try.func8, Try.ntmps8
  go_wp2_with fail
  refine (awake_calls _).mono ?_
  rintro e w1 ⟨rfl, hb1⟩
  go_wp2_with (first
    | (go_at_call 14; refine (Of_calls _ _).mono ?_; rintro e w2 ⟨rfl, hb2⟩)
    | (refine ev_new rfl (N := 6) rfl (refCells Opn.zero) 35 (by kernel_rfl) ?_; intro g w3 hg B hb3 hlt)
    | (refine ev_store rfl rfl (p := .tmp 6) rfl rfl B rfl (seg := refCells (opn op)) rfl (by kernel_rfl) rfl rfl ?_; intro w4 B lo4 ot4; have hb4 := lo4 _ (Nat.le_trans (below_trans hb1 hb2).size hg) (below_trans (below_trans hb1 hb2) hb3)))
  refine (Name_calls _ _).mono ?_
  rintro e w5 ⟨rfl, hb5⟩
  go_wp2_with fail
  refine (Kind_calls _ _).mono ?_
  rintro e w6 ⟨rfl, hb6⟩
  go_wp2_with fail
  refine (Find_calls _ _).mono ?_
  rintro e w7 ⟨rfl, hb7⟩
  go_wp2_with fail
  refine (Find_calls _ _).mono ?_
  rintro e w8 ⟨rfl, hb8⟩
  have hb := below_trans (below_trans (below_trans (below_trans hb4 hb5) hb6) hb7) hb8
  have B := (((B.below hb5).below hb6).below hb7).below hb8
  have c0 : w8.cell? ⟨g, 0, none⟩ = some (.string (opn op).name) := B.cell 0
  have c1 : w8.cell? ⟨g, 1, none⟩ = some (.int .i64 (opn op).kind) := B.cell 1
  clear hb1 hb2 hb3 hb4 hb5 hb6 hb7 hb8 lo4 ot4
  have HB := Lib.hid hb
  clear hb
  go_wp2_with (go_at_call 18; refine (RefFind_calls _ _).mono ?_; rintro e w9 ⟨rfl, hb9⟩)
  all_goals try (exfalso; exact (by assumption : ¬ findN s = 0) (find_empty s (by assumption)))
  all_goals go_ret
  all_goals first
    | exact ⟨rfl, HB.out⟩
    | exact ⟨rfl, below_trans HB.out hb9⟩
    | (have b := (by assumption : ¬ (opn op).name.toList = []); exact ⟨ret_bool (by simp [find_back op b]), HB.out⟩)
    | (have a := (by assumption : ¬ s.toList = []); have b := (by assumption : (opn op).name.toList = []); exact ⟨ret_bool (by simp [a, b]), below_trans HB.out hb9⟩)
    | (have a := (by assumption : ¬ s.toList = []); have b := (by assumption : ¬ (opn op).name.toList = []); exact ⟨ret_bool (by simp [a, b, find_back op b]), below_trans HB.out hb9⟩)
namespace IsaNames
open Go.ChangeShapes Go.WideShapes Go.ChangeAt Go.RowKit
open Go.ChangeMaps (open_string)
set_option maxRecDepth 100000 in
theorem lifted (os : Os) (started : os.Started) (H : Type) (enc : TypeId × Value → H) :
    ReturnsInHanded {} Try.checked os 8 .any (Rows.isaNamesSpec.pre6 enc Try.prog Try.f8 Rows.isaNamesRow.domain false) (Rows.isaNamesSpec.post enc Try.prog Try.f8 false true false false) := by
  refine returnsInHanded_of_change (C := Try.checked) own_none started (by kernel_rfl) Try.func8
    (ChangeSpec.witness6 (enc := enc) (C := Try.checked) false ⟨#[], #[.int .i64 0, .string (⟨#[]⟩ : ByteArray)], []⟩ 8 (by kernel_rfl) (by kernel_rfl) (by kernel_rfl) (by kernel_rfl)) ?_
  intro W base args ds gs before hval0 hW hcnd _
  have hval : ∀ (j : Nat) t v, Try.f8.params[j]? = some t → args[j]? = some v → Value.okWide Try.prog W .any base t v := hval0
  have hW' := hW
  obtain ⟨p, q, hA0, hV, rfl, hfz, hnd⟩ := hW
  have hA : DataW.TrodAll enc Try.prog W 0 (fun _ => true) true Try.f8.params.toList args.toList ds p := hA0
  rw [Try.params8] at hA hval
  obtain ⟨v0, vs0, d0, ds0, p0, q0, hargs, rfl, rfl, h0, r0⟩ := trodAll_cons hA
  obtain ⟨v1, vs1, d1, ds1, p1, q1, rfl, rfl, rfl, h1, r1⟩ := trodAll_cons r0
  obtain ⟨rfl, rfl, rfl⟩ := trodAll_nil r1
  obtain rfl : args = #[v0, v1] := by cases args; simp_all
  obtain ⟨rfl, rfl⟩ := trodVars_none hV
  have k0 := h0
  have l0 := lt_of h0
  obtain ⟨a0, rfl, rfl, rfl, w0⟩ := open_int Try.underlying3 (hval 0 3 v0 rfl rfl) h0
  have k1 := h1
  have l1 := lt_of h1
  obtain ⟨a1, rfl, rfl, rfl, w1⟩ := open_string Try.underlying9 (hval 1 9 v1 rfl rfl) h1
  refine (IsaNames_law a0 a1 W).mono fun e W' ⟨he, bel⟩ => ?_
  subst he
  exact ⟨_, rfl, _, _, _, [], _, [], hW', trodAll_mk1 (shut_bool Try.underlying4 _), (trodAll_cons_mk (Below.trod laid_out (by kernel_rfl) (of_decide_eq_true (by kernel_rfl)) k0 bel l0) (trodAll_cons_mk (Below.trod laid_out (by kernel_rfl) (of_decide_eq_true (by kernel_rfl)) k1 bel l1) trodAll_mk0)), rfl, bel.frame _, fun h => by cases h⟩
theorem over : Rows.isaNamesRow.holds Try.pinned (OpenSpec.ofChange Rows.isaNamesSpec) :=
  OpenClaim.holds_of_wide 8 Try.f8 rfl rfl rfl rfl rfl rfl rfl ⟨rfl, rfl, rfl, rfl, rfl⟩ rfl rfl rfl rfl rfl (by kernel_rfl) Try.func8 (by kernel_rfl)
    (of_decide_eq_true (by kernel_rfl)) (by unfold Func.isWrapper; first | (rw [if_pos (by decide +kernel)]; kernel_rfl) | (rw [if_neg (by decide +kernel)]; exact ⟨rfl, rfl⟩))
    (fun os started H enc _ => lifted os started H enc)
/-- THE STATEMENT. -/
theorem proved : Rows.IsaNamesSaid := over
end IsaNames
end Go.Proofs.Ytnnalefglpnoaaa
