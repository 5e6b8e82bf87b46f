/- Layer 4, walks: what asks the table. Conditions: none. -/
import Derived.Test.YtnnalefglpnoaaaIsaA
import Derived.Outline
set_option linter.unusedVariables false
set_option linter.unusedSimpArgs false
namespace Go.Proofs.Ytnnalefglpnoaaa
open Go.RowKit Wd
section
variable (n : ByteArray) (k c f g s : Int) (w : World)
theorem field_op0 : (Instr.field 43 (.agg #[.string n, .int .i64 k, .int .u32 c, .int .u32 f, .int .u32 g, .int .i64 s]) 0).run Try.prog w = .ok (.string n) w := by kernel_rfl
theorem field_op1 : (Instr.field 43 (.agg #[.string n, .int .i64 k, .int .u32 c, .int .u32 f, .int .u32 g, .int .i64 s]) 1).run Try.prog w = .ok (.int .i64 k) w := by kernel_rfl
end
attribute [go_sem] field_op0 field_op1
def knownB (op : Int) : Bool := decide (1 ≤ op ∧ op ≤ 82)
set_option maxRecDepth 100000 in
theorem known_calls (op : Int) (w : World) : Calls Try.prog 28 #[.int .i64 op] w fun e w' => e = .returned (.bool (knownB op)) ∧ Below w.heap.size w w' := by
  unfold knownB
  by_cases h1 : 1 ≤ op
  · by_cases h2 : op ≤ 82
    all_goals
      go_enter Try.func28, Try.ntmps28
      go_wp2_with (go_at_call 20; refine (operations_calls _).mono ?_; rintro e w1 ⟨rfl, hb⟩)
      go_ret
      exact ⟨by simp [h1, h2], ‹_›⟩
  · have h1' : decide (1 ≤ op) = false := decide_eq_false h1
    go_enter Try.func28, Try.ntmps28
    go_wp2_with (go_at_call 20; refine (operations_calls _).mono ?_; rintro e w1 ⟨rfl, hb⟩)
    go_ret
    exact ⟨by simp [h1], Below.refl _ _⟩
theorem opn_off (op : Int) (h : knownB op = false) : opn op = Opn.zero := by
  unfold knownB at h
  unfold opn
  rw [if_neg (by simpa using h)]
theorem known_lo (op : Int) (h : knownB op = true) : 1 ≤ op ∧ op ≤ 82 := by simpa [knownB] using h
set_option maxRecDepth 100000 in
theorem Name_calls (op : Int) (w : World) : Calls Try.prog 15 #[.int .i64 op] w fun e w' => e = .returned (.string (opn op).name) ∧ Below w.heap.size w w' := by
  cases hk : knownB op
  · rw [opn_off op hk]
    have HK := Lib.hid hk
    clear hk
    go_enter Try.func15, Try.ntmps15
    go_wp2_with (go_at_call 28; refine (known_calls _ _).mono ?_; rintro e w1 ⟨rfl, hb⟩; rw [HK.out])
    go_ret
    exact ⟨rfl, ‹_›⟩
  · have hb := known_lo op hk
    have hix := index_tbl (op - 1) (by omega) (by omega)
    rw [Int.sub_add_cancel] at hix
    have HK := Lib.hid hk
    clear hk
    go_enter Try.func15, Try.ntmps15
    go_wp2_with (first | (go_at_call 28; refine (known_calls _ _).mono ?_; rintro e w1 ⟨rfl, hb1⟩; rw [HK.out]) | (go_at_call 20; refine (operations_calls _).mono ?_; rintro e w2 ⟨rfl, hb2⟩))
    go_ret
    exact ⟨rfl, below_trans ‹_› ‹_›⟩
set_option maxRecDepth 100000 in
theorem Kind_calls (op : Int) (w : World) : Calls Try.prog 16 #[.int .i64 op] w fun e w' => e = .returned (.int .i64 (opn op).kind) ∧ Below w.heap.size w w' := by
  cases hk : knownB op
  · rw [opn_off op hk]
    have HK := Lib.hid hk
    clear hk
    go_enter Try.func16, Try.ntmps16
    go_wp2_with (go_at_call 28; refine (known_calls _ _).mono ?_; rintro e w1 ⟨rfl, hb⟩; rw [HK.out])
    go_ret
    exact ⟨rfl, ‹_›⟩
  · have hb := known_lo op hk
    have hix := index_tbl (op - 1) (by omega) (by omega)
    rw [Int.sub_add_cancel] at hix
    have HK := Lib.hid hk
    clear hk
    go_enter Try.func16, Try.ntmps16
    go_wp2_with (first | (go_at_call 28; refine (known_calls _ _).mono ?_; rintro e w1 ⟨rfl, hb1⟩; rw [HK.out]) | (go_at_call 20; refine (operations_calls _).mono ?_; rintro e w2 ⟨rfl, hb2⟩))
    go_ret
    exact ⟨rfl, below_trans ‹_› ‹_›⟩
end Go.Proofs.Ytnnalefglpnoaaa
