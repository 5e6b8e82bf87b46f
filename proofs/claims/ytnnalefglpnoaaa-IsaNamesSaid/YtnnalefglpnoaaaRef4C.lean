/- Layer 4's reference, walks: the operation of a number; of a name. Conditions: none. -/
import Derived.Test.YtnnalefglpnoaaaRef4A
import Derived.Test.YtnnalefglpnoaaaRef4B
import Derived.Test.YtnnalefglpnoaaaIsaG
set_option linter.unusedVariables false
set_option linter.unusedSimpArgs false
namespace Go.Proofs.Ytnnalefglpnoaaa
open Go.RowKit Wd
theorem opn_out (op : Int) (h : op < 1 ∨ 82 < op) : opn op = Opn.zero := by
  unfold opn
  rw [if_neg (by omega)]
set_option maxRecDepth 100000 in
set_option maxHeartbeats 4000000 in
theorem low_out (op : Int) (w : World) (h1 : op < 1) : Calls Try.prog 36 #[.int .i64 op] w fun e w' => e = .returned (.agg (refCells Opn.zero).toArray) ∧ Below w.heap.size w w' := by
  go_enter Try.func36, Try.ntmps36
  go_wp2_with (first
    | (refine ev_new rfl (N := 2) rfl (refCells Opn.zero) 35 (by kernel_rfl) ?_; intro g w1 hg B hb hlt)
    | (refine ev_store rfl rfl (p := .tmp 2) rfl rfl B rfl rfl (by kernel_rfl) rfl rfl ?_; intro w2 B2 lo2 ot2))
  exact bodyPost_ret (results_one rfl _ _ g 35 _ _ rfl B2 Try.underlying35 rfl (by kernel_rfl)) rfl ⟨rfl, lo2 _ hg hb⟩
set_option maxRecDepth 100000 in
set_option maxHeartbeats 4000000 in
theorem high_out (op : Int) (w : World) (h1 : 82 < op) : Calls Try.prog 37 #[.int .i64 op] w fun e w' => e = .returned (.agg (refCells Opn.zero).toArray) ∧ Below w.heap.size w w' := by
  go_enter Try.func37, Try.ntmps37
  go_wp2_with (first
    | (refine ev_new rfl (N := 2) rfl (refCells Opn.zero) 35 (by kernel_rfl) ?_; intro g w1 hg B hb hlt)
    | (refine ev_store rfl rfl (p := .tmp 2) rfl rfl B rfl rfl (by kernel_rfl) rfl rfl ?_; intro w2 B2 lo2 ot2))
  exact bodyPost_ret (results_one rfl _ _ g 35 _ _ rfl B2 Try.underlying35 rfl (by kernel_rfl)) rfl ⟨rfl, lo2 _ hg hb⟩
/-- The reference's operation. -/
theorem low_all (op : Int) (w : World) (h : op ≤ 36) : Calls Try.prog 36 #[.int .i64 op] w fun e w' => e = .returned (.agg (refCells (opn op)).toArray) ∧ Below w.heap.size w w' := by
  by_cases h1 : 1 ≤ op
  · exact low_calls op w h1 h
  · rw [opn_out op (by omega)]; exact low_out op w (by omega)
theorem high_all (op : Int) (w : World) (h : 36 < op) : Calls Try.prog 37 #[.int .i64 op] w fun e w' => e = .returned (.agg (refCells (opn op)).toArray) ∧ Below w.heap.size w w' := by
  by_cases h1 : op ≤ 82
  · exact high_calls op w (by omega) h1
  · rw [opn_out op (by omega)]; exact high_out op w (by omega)
set_option maxRecDepth 100000 in
set_option maxHeartbeats 1000000 in
theorem Of_calls (op : Int) (w : World) : Calls Try.prog 14 #[.int .i64 op] w fun e w' => e = .returned (.agg #[.string (opn op).name, .int .i64 (opn op).kind, .int .i64 (opn op).code, .int .i64 (opn op).f3, .int .i64 (opn op).f7, .int .i64 (opn op).shift]) ∧ Below w.heap.size w w' := by
  by_cases h : op ≤ 36
  all_goals
    go_enter Try.func14, Try.ntmps14
    go_wp2_with (first
      | (refine ev_new rfl (N := 2) rfl (refCells Opn.zero) 35 (by kernel_rfl) ?_; intro g w1 hg B hb hlt)
      | (go_at_call 36; refine (low_all op _ h).mono ?_; rintro e w2 ⟨rfl, hb2⟩; have B := B.below hb2; have hb := below_trans hb hb2)
      | (go_at_call 37; refine (high_all op _ (by omega)).mono ?_; rintro e w2 ⟨rfl, hb2⟩; have B := B.below hb2; have hb := below_trans hb hb2)
      | (refine ev_store rfl rfl (p := .tmp 2) rfl rfl B rfl (seg := refCells (opn op)) rfl (by kernel_rfl) rfl rfl ?_; intro w3 B2 lo2 ot2))
    exact bodyPost_ret (results_one rfl _ _ g 35 _ _ rfl B2 Try.underlying35 rfl (by kernel_rfl)) rfl ⟨rfl, lo2 _ hg hb⟩
set_option maxRecDepth 100000 in
theorem Many_calls (w : World) : Calls Try.prog 24 #[] w fun e w' => e = .returned (.int .i64 82) ∧ w = w' := by
  go_enter Try.func24, Try.ntmps24
  go_wp2
  go_ret
  exact ⟨rfl, rfl⟩
set_option maxRecDepth 100000 in
set_option maxHeartbeats 1000000 in
theorem RefFind_calls (s : ByteArray) (w : World) : Calls Try.prog 18 #[.string s] w fun e w' => e = .returned (.int .i64 (findN s)) ∧ Below w.heap.size w w' := by
  go_enter Try.func18, Try.ntmps18
  go_wp2
  go_loopw [3] (fun i wr => ∃ k : Nat, k ≤ 82 ∧ i = .int .i64 ((k : Int) + 1) ∧ Below w.heap.size w wr ∧ ∀ j : Nat, j < k → (opn ((j : Int) + 1)).name.toList ≠ s.toList) (fun i _ => 83 - (intOf i).toNat)
  case atStart => exact ⟨0, by omega, rfl, Below.refl _ _, fun j hj => absurd hj (by omega)⟩
  case round =>
    obtain ⟨k, hk, rfl, hb, hno⟩ := hrel
    have HN := Lib.hid hno
    clear hno
    by_cases hlt : k < 82
    · go_wp2_with (first
        | (go_at_call 24; refine (Many_calls _).mono ?_; rintro e w2 ⟨rfl, rfl⟩)
        | (go_at_call 14; refine (Of_calls _ _).mono ?_; rintro e w3 ⟨rfl, hb3⟩))
      · have h := (by assumption : ((opn ((k : Int) + 1)).name.toList == s.toList) = true)
        go_ret
        exact ⟨ret_int (findN_hit s k hlt (by simpa using h) HN.out).symm, below_alloc (below_trans hb hb3) _⟩
      · have h := (by assumption : ((opn ((k : Int) + 1)).name.toList == s.toList) = false)
        refine ⟨⟨k + 1, by omega, by go_num, below_alloc (below_trans hb hb3) _, fun j hj => ?_⟩, by simp [intOf]; omega⟩
        rcases Nat.lt_or_ge j k with hj' | hj'
        · exact HN.out j hj'
        · obtain rfl : j = k := by omega
          simpa using h
    · obtain rfl : k = 82 := by omega
      go_wp2_with (go_at_call 24; refine (Many_calls _).mono ?_; rintro e w2 ⟨rfl, rfl⟩)
      go_ret
      exact ⟨ret_int (findN_none s HN.out).symm, hb⟩
end Go.Proofs.Ytnnalefglpnoaaa
