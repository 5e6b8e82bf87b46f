/- Layer 4, walks: the number that an operation reads in an instruction's. Conditions: the operation is one of the table's form. -/
import Derived.Test.YtnnalefglpnoaaaIsaD
set_option linter.unusedVariables false
set_option linter.unusedSimpArgs false
namespace Go.Proofs.Ytnnalefglpnoaaa
open Go.RowKit Wd
theorem bd_bits (x : Int) (f m : Int) (M : Int) (h : (2 : Int) ^ m.toNat = M) : 0 ≤ bitsN x f m ∧ bitsN x f m < M := h ▸ bitsN_bd x f m
set_option maxRecDepth 100000 in
theorem read_calls (o : Opn) (x : Int) (w : World) (ho : o.ok) (h0 : 0 ≤ x) (h1 : x < 4294967296) :
    Calls Try.prog 21 #[.agg #[.string o.name, .int .i64 o.kind, .int .u32 o.code, .int .u32 o.f3, .int .u32 o.f7, .int .i64 o.shift], .int .u32 x] w fun e w' => e = .returned (.int .i64 (immN o x)) ∧ Below w.heap.size w w' := by
  obtain ⟨k0, k1, c0, c1, f0, f1, g0, g1, s0, s1, s6, k2, k6, k8⟩ := ho
  have S1 := Lib.hid s1
  clear s1 s6 k2 k6 k8
  obtain ⟨nm, k, c, f, g, s⟩ := o
  dsimp only at *
  obtain ⟨a1, b1⟩ := bd_bits x 20 12 4096 rfl
  obtain ⟨a2, b2⟩ := bd_bits x 25 7 128 rfl
  obtain ⟨a3, b3⟩ := bd_bits x 7 5 32 rfl
  obtain ⟨a4, b4⟩ := bd_bits x 31 1 2 rfl
  obtain ⟨a5, b5⟩ := bd_bits x 25 6 64 rfl
  obtain ⟨a6, b6⟩ := bd_bits x 8 4 16 rfl
  obtain ⟨a7, b7⟩ := bd_bits x 7 1 2 rfl
  obtain ⟨a8, b8⟩ := bd_bits x 12 20 1048576 rfl
  obtain ⟨a9, b9⟩ := bd_bits x 21 10 1024 rfl
  obtain ⟨a10, b10⟩ := bd_bits x 20 1 2 rfl
  obtain ⟨a11, b11⟩ := bd_bits x 12 8 256 rfl
  have Q := Lib.hid (show (0 ≤ x / 33554432 % 128 * 32 + x / 128 % 32 ∧ x / 33554432 % 128 * 32 + x / 128 % 32 < 4294967296) ∧ (0 ≤ x / 2147483648 % 2 * 4096 + x / 33554432 % 64 * 32 + x / 256 % 16 * 2 + x / 128 % 2 * 2048 ∧ x / 2147483648 % 2 * 4096 + x / 33554432 % 64 * 32 + x / 256 % 16 * 2 + x / 128 % 2 * 2048 < 4294967296) ∧ (0 ≤ x / 2147483648 % 2 * 1048576 + x / 2097152 % 1024 * 2 + x / 1048576 % 2 * 2048 + x / 4096 % 256 * 4096 ∧ x / 2147483648 % 2 * 1048576 + x / 2097152 % 1024 * 2 + x / 1048576 % 2 * 2048 + x / 4096 % 256 * 4096 < 4294967296) ∧ (0 ≤ bitsN x 20 12 ∧ bitsN x 20 12 < 4294967296) ∧ (0 ≤ bitsN x 12 20 * 4096 ∧ bitsN x 12 20 * 4096 < 4294967296) from by refine ⟨?_, ?_, ?_, ?_, ?_⟩ <;> omega)
  have r4 := Lib.hid (read4 x)
  have r5 := Lib.hid (read5 x)
  have r7 := Lib.hid (read7 x)
  rcases s0 with rfl | rfl | rfl
  · obtain rfl | rfl | rfl | rfl | rfl | rfl | rfl | rfl | rfl | rfl : k = 1 ∨ k = 2 ∨ k = 3 ∨ k = 4 ∨ k = 5 ∨ k = 6 ∨ k = 7 ∨ k = 8 ∨ k = 9 ∨ k = 10 := by omega
    all_goals
      go_enter Try.func21, Try.ntmps21
      go_wp2_with (first | (go_at_call 23; refine (bits_calls _ _ _ _ h0 h1 (by decide) (by decide) (by decide)).mono ?_; rintro e w1 ⟨rfl, rfl⟩) | (go_at_call 38; (first | rw [r4.out] | rw [r5.out] | rw [r7.out] | skip); refine (signed_calls _ _ _ ?b0 ?b1 (by decide) (by decide)).mono ?_; (case b0 => first | exact Q.out.1.1 | exact Q.out.2.1.1 | exact Q.out.2.2.1.1 | exact Q.out.2.2.2.1.1 | exact Q.out.2.2.2.2.1); (case b1 => first | exact Q.out.1.2 | exact Q.out.2.1.2 | exact Q.out.2.2.1.2 | exact Q.out.2.2.2.1.2 | exact Q.out.2.2.2.2.2); rintro e w1 ⟨rfl, rfl⟩))
      go_ret
      exact ⟨ret_int rfl, below_alloc (Below.refl _ _) _⟩
  · have hk := S1.out (by decide)
    subst hk
    go_enter Try.func21, Try.ntmps21
    go_wp2_with (go_at_call 23; refine (bits_calls _ _ _ _ h0 h1 (by decide) (by decide) (by decide)).mono ?_; rintro e w1 ⟨rfl, rfl⟩)
    go_ret
    exact ⟨ret_int rfl, below_alloc (Below.refl _ _) _⟩
  · have hk := S1.out (by decide)
    subst hk
    go_enter Try.func21, Try.ntmps21
    go_wp2_with (go_at_call 23; refine (bits_calls _ _ _ _ h0 h1 (by decide) (by decide) (by decide)).mono ?_; rintro e w1 ⟨rfl, rfl⟩)
    go_ret
    exact ⟨ret_int rfl, below_alloc (Below.refl _ _) _⟩
end Go.Proofs.Ytnnalefglpnoaaa
