/- Layer 4: the chapter's examples hold (awake). Conditions: none. -/
import Derived.Test.YtnnalefglpnoaaaIsaH
set_option linter.unusedVariables false
set_option linter.unusedSimpArgs false
namespace Go.Proofs.Ytnnalefglpnoaaa
open Go.RowKit Wd
set_option maxRecDepth 100000 in
theorem number_law (s : ByteArray) (rd rs1 rs2 n : Int) (w : World) (hn0 : -9223372036854775808 ≤ n) (hn1 : n ≤ 9223372036854775807) :
    Calls Try.prog 19 #[.string s, .int .i64 rd, .int .i64 rs1, .int .i64 rs2, .int .i64 n] w fun e w' => e = .returned (.int .u32 (encV (findN s) rd rs1 rs2 n)) ∧ Below w.heap.size w w' := by
  go_enter Try.func19, Try.ntmps19
  go_wp2_with (first
    | (go_at_call 17; refine (Find_calls _ _).mono ?_; rintro e w1 ⟨rfl, hb1⟩)
    | (go_at_call 12; refine (Encode_calls _ _ _ _ _ _ hn0 hn1).mono ?_; rintro e w2 ⟨rfl, hb2⟩))
  go_ret
  exact ⟨rfl, below_trans hb1 hb2⟩
theorem hit_none (x : Int) (h : ((List.range 82).all fun j => !hitB ((j : Int) + 1) x) = true) (j : Nat) (hj : j < 82) : hitB ((j : Int) + 1) x = false := by
  have := List.all_eq_true.1 h j (List.mem_range.2 hj)
  simpa using this
def DecIs (x op rd rs1 rs2 n e : Int) : Prop := ∀ w : World, Calls Try.prog 10 #[.int .u32 x] w fun en w' => en = .returned (.tuple #[.agg #[.int .i64 op, .int .i64 rd, .int .i64 rs1, .int .i64 rs2, .int .i64 n], .int .i64 e]) ∧ Below w.heap.size w w'
theorem dec_no (x : Int) (h0 : 0 ≤ x) (h1 : x < 4294967296) (h : ((List.range 82).all fun j => !hitB ((j : Int) + 1) x) = true) : DecIs x 0 0 0 0 0 40 := by
  intro w
  refine Decode_walk x w h0 h1 _ ?_ ?_
  · intro k w' hk hh _ _
    rw [hit_none x h k hk] at hh
    cases hh
  · intro w' _ hb
    exact ⟨rfl, hb⟩
theorem dec_beq : DecIs 4263546595 55 0 1 2 (-4) 0 := by
  intro w
  refine Decode_walk _ w (by decide) (by decide) _ ?_ ?_
  · intro k w' hk hh hno hb
    have h1 : ((List.range 82).all fun j => (j == 54) || !hitB ((j : Int) + 1) 4263546595) = true := by decide +kernel
    have h2 := List.all_eq_true.1 h1 k (List.mem_range.2 hk)
    rw [hh] at h2
    obtain rfl : k = 54 := by simpa using h2
    refine ⟨?_, hb⟩
    have e1 : fieldN (hasRd (opn ((54 : Nat) + 1 : Int)).kind) 4263546595 7 = 0 := by decide +kernel
    have e2 : fieldN (hasRs1 (opn ((54 : Nat) + 1 : Int)).kind) 4263546595 15 = 1 := by decide +kernel
    have e3 : fieldN (hasRs2 (opn ((54 : Nat) + 1 : Int)).kind) 4263546595 20 = 2 := by decide +kernel
    have e4 : immN (opn ((54 : Nat) + 1 : Int)) 4263546595 = -4 := by decide +kernel
    rw [e1, e2, e3, e4]
    rfl
  · intro w' hno _
    have h1 : hitB ((54 : Nat) + 1 : Int) 4263546595 = true := by decide +kernel
    rw [hno 54 (by decide)] at h1
    cases h1
set_option maxRecDepth 100000 in
set_option maxHeartbeats 4000000 in
theorem awake_calls (w : World) : Calls Try.prog 9 #[] w fun e w' => e = .returned (.bool true) ∧ Below w.heap.size w w' := by
  have a1 : encV (findN ⟨#[97, 100, 100, 105]⟩) 1 0 0 5 = 5243027 := by decide +kernel
  have a2 : encV (findN ⟨#[115, 100]⟩) 0 1 2 8 = 2143267 := by decide +kernel
  have a3 : encV (findN ⟨#[98, 101, 113]⟩) 0 1 2 (-4) = 4263546595 := by decide +kernel
  have a4 : encV (findN ⟨#[99, 115, 101, 116, 98, 111, 117, 110, 100, 115]⟩) 3 1 2 0 = 270565851 := by decide +kernel
  have a5 : encV (findN ⟨#[101, 99, 97, 108, 108]⟩) 0 0 0 0 = 115 := by decide +kernel
  have b1 : DecIs 0 0 0 0 0 0 40 := dec_no 0 (by decide) (by decide) (by decide +kernel)
  have b2 : DecIs 4294967295 0 0 0 0 0 40 := dec_no _ (by decide) (by decide) (by decide +kernel)
  have A1 := Lib.hid a1
  have A2 := Lib.hid a2
  have A3 := Lib.hid a3
  have A4 := Lib.hid a4
  have A5 := Lib.hid a5
  have B1 := Lib.hid b1
  have B2 := Lib.hid b2
  clear a1 a2 a3 a4 a5 b1 b2
  go_enter Try.func9, Try.ntmps9
  iterate 5
    go_wp2_with fail
    refine (number_law _ _ _ _ _ _ (by decide) (by decide)).mono ?_
    rintro e w1 ⟨rfl, hb⟩
    first | rw [A1.out] | rw [A2.out] | rw [A3.out] | rw [A4.out] | rw [A5.out]
  go_wp2_with fail
  refine (B1.out _).mono ?_
  rintro e w6 ⟨rfl, hb6⟩
  go_wp2_with fail
  refine (B2.out _).mono ?_
  rintro e w7 ⟨rfl, hb7⟩
  go_wp2_with fail
  refine (dec_beq _).mono ?_
  rintro e w8 ⟨rfl, hb8⟩
  go_wp2_with fail
  go_ret
  exact ⟨rfl, by repeat (first | assumption | refine below_alloc ?_ _ | refine below_trans ?_ (by assumption))⟩
/-- What Decode comes to. -/
def DecPost (x : Int) (w : World) (e : Ending) (w' : World) : Prop :=
  (∃ k : Nat, k < 82 ∧ hitB ((k : Int) + 1) x = true ∧ (∀ j : Nat, j < k → hitB ((j : Int) + 1) x = false) ∧ e = .returned (.tuple #[.agg #[.int .i64 ((k : Int) + 1), .int .i64 (fieldN (hasRd (opn ((k : Int) + 1)).kind) x 7), .int .i64 (fieldN (hasRs1 (opn ((k : Int) + 1)).kind) x 15), .int .i64 (fieldN (hasRs2 (opn ((k : Int) + 1)).kind) x 20), .int .i64 (immN (opn ((k : Int) + 1)) x)], .int .i64 0]) ∧ Below w.heap.size w w') ∨
  ((∀ j : Nat, j < 82 → hitB ((j : Int) + 1) x = false) ∧ e = .returned (.tuple #[.agg #[.int .i64 0, .int .i64 0, .int .i64 0, .int .i64 0, .int .i64 0], .int .i64 40]) ∧ Below w.heap.size w w')
theorem Decode_calls (x : Int) (w : World) (h0 : 0 ≤ x) (h1 : x < 4294967296) : Calls Try.prog 10 #[.int .u32 x] w (DecPost x w) :=
  Decode_walk x w h0 h1 _ (fun k w' hk hh hno hb => Or.inl ⟨k, hk, hh, hno, rfl, hb⟩) (fun w' hno hb => Or.inr ⟨hno, rfl, hb⟩)
theorem hit_enc {op x : Int} (h : hitB op x = true) : encE op (fieldN (hasRd (opn op).kind) x 7) (fieldN (hasRs1 (opn op).kind) x 15) (fieldN (hasRs2 (opn op).kind) x 20) (immN (opn op) x) = 0 ∧ encV op (fieldN (hasRd (opn op).kind) x 7) (fieldN (hasRs1 (opn op).kind) x 15) (fieldN (hasRs2 (opn op).kind) x 20) (immN (opn op) x) = x := by
  simp only [hitB, Bool.and_eq_true, beq_iff_eq] at h
  exact ⟨h.1.2, h.2⟩
end Go.Proofs.Ytnnalefglpnoaaa
