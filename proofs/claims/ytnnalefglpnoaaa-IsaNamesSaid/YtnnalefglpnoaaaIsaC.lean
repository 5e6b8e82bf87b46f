/- Layers 1 and 4, walks: functions of numbers alone. Conditions: the numbers are of their kinds. -/
import Derived.Test.YtnnalefglpnoaaaW
import Derived.Test.YtnnalefglpnoaaaNum
set_option linter.unusedVariables false
set_option linter.unusedSimpArgs false
namespace Go.Proofs.Ytnnalefglpnoaaa
open Go.RowKit Wd
theorem ret_bool {a b : Bool} (h : a = b) : Ending.returned (.bool a) = .returned (.bool b) := by rw [h]
theorem ret_int {k : IntKind} {a b : Int} (h : a = b) : Ending.returned (.int k a) = .returned (.int k b) := by rw [h]
set_option maxRecDepth 100000 in
theorem Bits_calls (x f m : Int) (w : World) (h0 : 0 ≤ x) (h1 : x < 18446744073709551616) (hf : 0 ≤ f) (hm : 1 ≤ m) (hfm : f + m ≤ 64) :
    Calls Try.prog 39 #[.int .u64 x, .int .i64 f, .int .i64 m] w fun e w' => e = .returned (.int .u64 (bitsN x f m)) ∧ w = w' := by
  go_enter Try.func39, Try.ntmps39
  go_wp2
  go_ret
  exact ⟨ret_int (bits_eq x f m hf hm hfm), rfl⟩
theorem Sign_calls (x m : Int) (w : World) (h0 : 0 ≤ x) (h1 : x < 18446744073709551616) (hm : 1 ≤ m) (hfm : m ≤ 64) :
    Calls Try.prog 45 #[.int .u64 x, .int .i64 m] w fun e w' => e = .returned (.int .u64 (IntKind.u64.wrap (sgnN x m))) ∧ w = w' := by
  go_enter Try.func45, Try.ntmps45
  go_wp2
  go_ret
  exact ⟨ret_int (by rw [sgn_eq x m hm hfm]), rfl⟩
def hasRd (k : Int) : Bool := k == 1 || k == 2 || k == 3 || k == 6 || k == 7 || k == 8
def hasRs1 (k : Int) : Bool := k == 1 || k == 2 || k == 3 || k == 4 || k == 5 || k == 8 || k == 10
def hasRs2 (k : Int) : Bool := k == 1 || k == 4 || k == 5 || k == 10
theorem has_calls (k : Int) (w : World) (h0 : 0 ≤ k) (h1 : k ≤ 10) : Calls Try.prog 22 #[.int .i64 k] w fun e w' => e = .returned (.tuple #[.bool (hasRd k), .bool (hasRs1 k), .bool (hasRs2 k)]) ∧ w = w' := by
  obtain rfl | rfl | rfl | rfl | rfl | rfl | rfl | rfl | rfl | rfl | rfl : k = 0 ∨ k = 1 ∨ k = 2 ∨ k = 3 ∨ k = 4 ∨ k = 5 ∨ k = 6 ∨ k = 7 ∨ k = 8 ∨ k = 9 ∨ k = 10 := by omega
  all_goals
    go_enter Try.func22, Try.ntmps22
    go_wp2
    go_ret3
    exact ⟨rfl, rfl⟩
def regB (r : Int) (h : Bool) : Bool := decide (0 ≤ r) && decide (r ≤ 31) && (h || r == 0)
theorem register_calls (r : Int) (h : Bool) (w : World) : Calls Try.prog 29 #[.int .i64 r, .bool h] w fun e w' => e = .returned (.bool (regB r h)) ∧ w = w' := by
  go_enter Try.func29, Try.ntmps29
  go_wp2
  all_goals go_ret
  all_goals exact ⟨by first | (simp [regB, *]; done) | (simp [regB, *]; omega), rfl⟩
theorem bits_calls (x f m : Int) (w : World) (h0 : 0 ≤ x) (h1 : x < 4294967296) (hf : 0 ≤ f) (hm : 1 ≤ m) (hfm : f + m ≤ 32) :
    Calls Try.prog 23 #[.int .u32 x, .int .i64 f, .int .i64 m] w fun e w' => e = .returned (.int .i64 (bitsN x f m)) ∧ w = w' := by
  have hb := bitsN_bd x f m
  have hp := pow_le32 m.toNat (by omega)
  obtain ⟨hb0, hb1⟩ := hb
  go_enter Try.func23, Try.ntmps23
  go_wp2_with (go_at_call 39; refine (Bits_calls _ _ _ _ (by omega) (by omega) hf hm (by omega)).mono ?_; rintro e w1 ⟨rfl, rfl⟩)
  go_ret
  exact ⟨rfl, rfl⟩
theorem signed_calls (x m : Int) (w : World) (h0 : 0 ≤ x) (h1 : x < 4294967296) (hm : 1 ≤ m) (hfm : m ≤ 32) :
    Calls Try.prog 38 #[.int .i64 x, .int .i64 m] w fun e w' => e = .returned (.int .i64 (sgnN x m)) ∧ w = w' := by
  have hp := pow_le32 m.toNat (by omega)
  have hs : -4294967296 ≤ sgnN x m ∧ sgnN x m ≤ 4294967296 := by
    unfold sgnN
    have h : (0 : Int) < 2 ^ m.toNat := Int.pow_pos (by decide)
    have h1 := Int.emod_nonneg x (Int.ne_of_gt h)
    have h2 := Int.emod_lt_of_pos x h
    split <;> omega
  have he : wrap64 (IntKind.u64.wrap (sgnN x m)) = sgnN x m := by rw [u64_wrap]; unfold wrap64; omega
  have HE := Lib.hid he
  clear he hs hp
  go_enter Try.func38, Try.ntmps38
  go_wp2_with (go_at_call 45; refine (Sign_calls _ _ _ (by omega) (by omega) hm (by omega)).mono ?_; rintro e w1 ⟨rfl, rfl⟩)
  go_ret
  exact ⟨ret_int HE.out, rfl⟩
theorem Fits_calls (n m : Int) (w : World) (h0 : -9223372036854775808 ≤ n) (h1 : n ≤ 9223372036854775807) (hm : 1 ≤ m) (hfm : m ≤ 64) :
    Calls Try.prog 41 #[.int .i64 n, .int .i64 m] w fun e w' => e = .returned (.bool (fitsB n m)) ∧ w = w' := by
  have he := fits_eq n m hm hfm h0 h1
  have HE := Lib.hid he
  clear he
  have hw : 0 ≤ IntKind.u64.wrap n ∧ IntKind.u64.wrap n < 18446744073709551616 := by rw [u64_wrap]; omega
  have HW := Lib.hid hw
  clear hw
  go_enter Try.func41, Try.ntmps41
  go_wp2_with (go_at_call 45; refine (Sign_calls _ _ _ HW.out.1 HW.out.2 hm (by omega)).mono ?_; rintro e w1 ⟨rfl, rfl⟩)
  go_ret
  exact ⟨by rw [← HE.out]; rfl, rfl⟩
theorem part_calls (n f m t : Int) (w : World) (hf : 0 ≤ f) (hm : 1 ≤ m) (hfm : f + m ≤ 64) (ht : 0 ≤ t) (hmt : m + t ≤ 32) :
    Calls Try.prog 42 #[.int .i64 n, .int .i64 f, .int .i64 m, .int .i64 t] w fun e w' => e = .returned (.int .u32 (bitsN n f m * 2 ^ t.toNat)) ∧ w = w' := by
  have hb := bitsN_bd n f m
  have hp : bitsN n f m * 2 ^ t.toNat < 4294967296 := by
    have h1 : bitsN n f m * 2 ^ t.toNat < 2 ^ m.toNat * 2 ^ t.toNat := Int.mul_lt_mul_of_pos_right hb.2 (Int.pow_pos (by decide))
    rw [← Int.pow_add] at h1
    have := pow_le32 (m.toNat + t.toNat) (by omega)
    omega
  have hp0 : 0 ≤ bitsN n f m * 2 ^ t.toNat := Int.mul_nonneg hb.1 (Int.pow_nonneg (by decide))
  have hw : 0 ≤ IntKind.u64.wrap n ∧ IntKind.u64.wrap n < 18446744073709551616 := by rw [u64_wrap]; omega
  have HW := Lib.hid hw
  have he : bitsN (IntKind.u64.wrap n) f m = bitsN n f m := by rw [u64_wrap]; exact bitsN_wrap n f m hf hm hfm
  have HE := Lib.hid he
  have HF := Lib.hid (show IntKind.u32.wrap (IntKind.u64.wrap (bitsN n f m * 2 ^ t.toNat)) = bitsN n f m * 2 ^ t.toNat by rw [u64_wrap, IntKind.wrap_u32']; omega)
  have HF2 := Lib.hid (show IntKind.u64.wrap (bitsN n f m * 2 ^ t.toNat) % 4294967296 = bitsN n f m * 2 ^ t.toNat by rw [u64_wrap]; omega)
  clear hw he hb hp hp0
  go_enter Try.func42, Try.ntmps42
  go_wp2_with (go_at_call 39; refine (Bits_calls _ _ _ _ HW.out.1 HW.out.2 hf hm (by omega)).mono ?_; rintro e w1 ⟨rfl, rfl⟩; rw [HE.out])
  go_ret
  exact ⟨ret_int (by first | exact HF.out | exact HF2.out), rfl⟩
end Go.Proofs.Ytnnalefglpnoaaa
