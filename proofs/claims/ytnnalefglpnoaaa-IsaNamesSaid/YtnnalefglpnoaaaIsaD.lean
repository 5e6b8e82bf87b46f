/- Layer 4, walks: what an operation has as a number, and what it lays. Conditions: the operation is one of the table's form. -/
import Derived.Test.YtnnalefglpnoaaaIsaB
import Derived.Test.YtnnalefglpnoaaaIsaC
import Derived.Test.YtnnalefglpnoaaaIsaL
set_option linter.unusedVariables false
set_option linter.unusedSimpArgs false
namespace Go.Proofs.Ytnnalefglpnoaaa
open Go.RowKit Wd
/-- The form of the table's operations. -/
structure Opn.ok (o : Opn) : Prop where
  k0 : 1 ≤ o.kind
  k1 : o.kind ≤ 10
  c0 : 0 ≤ o.code
  c1 : o.code < 128
  f0 : 0 ≤ o.f3
  f1 : o.f3 < 8
  g0 : 0 ≤ o.f7
  g1 : o.f7 < 128
  s0 : o.shift = 0 ∨ o.shift = 5 ∨ o.shift = 6
  s1 : o.shift ≠ 0 → o.kind = 2
  s6 : o.shift = 6 → o.f7 < 64
  k2 : o.kind = 2 ∨ o.kind = 3 → o.shift = 0 → o.f7 = 0
  k6 : o.kind = 6 ∨ o.kind = 7 → o.f3 = 0
  k8 : o.kind = 8 → o.f7 < 32
/-- May an operation have a number? -/
def mayN (o : Opn) (n : Int) : Bool :=
  if 0 < o.shift then decide (0 ≤ n ∧ n < 2 ^ o.shift.toNat)
  else if o.kind = 2 ∨ o.kind = 3 ∨ o.kind = 4 then decide (-2048 ≤ n ∧ n ≤ 2047)
  else if o.kind = 5 then decide (-4096 ≤ n ∧ n ≤ 4094 ∧ n % 2 = 0)
  else if o.kind = 6 then decide (-2147483648 ≤ n ∧ n ≤ 2147479552 ∧ n % 4096 = 0)
  else if o.kind = 7 then decide (-1048576 ≤ n ∧ n ≤ 1048574 ∧ n % 2 = 0)
  else decide (n = 0)
def restN (o : Opn) (n : Int) : Int :=
  if o.kind = 1 then o.f7 * 33554432
  else if o.kind = 2 ∨ o.kind = 3 then n % 4096 * 1048576 + (if o.shift = 6 then o.f7 * 67108864 else o.f7 * 33554432)
  else if o.kind = 4 then n % 32 * 128 + n / 32 % 128 * 33554432
  else if o.kind = 5 then n / 4096 % 2 * 2147483648 + n / 32 % 64 * 33554432 + n / 2 % 16 * 256 + n / 2048 % 2 * 128
  else if o.kind = 6 then n / 4096 % 1048576 * 4096
  else if o.kind = 7 then n / 1048576 % 2 * 2147483648 + n / 2 % 1024 * 2097152 + n / 2048 % 2 * 1048576 + n / 4096 % 256 * 4096
  else if o.kind = 8 then o.f7 * 1048576 + 4261412864
  else if o.kind = 10 then 128 + o.f7 * 33554432
  else o.f7 * 1048576
def laidN (o : Opn) (n : Int) : Int := o.code + o.f3 * 4096 + restN o n
/-- The number that an operation would have. -/
def immN (o : Opn) (x : Int) : Int :=
  if o.kind = 2 ∨ o.kind = 3 then (if 0 < o.shift then bitsN x 20 o.shift else sgnN (x / 1048576 % 4096) 12)
  else if o.kind = 4 then sgnN (x / 33554432 % 128 * 32 + x / 128 % 32) 12
  else if o.kind = 5 then sgnN (x / 2147483648 % 2 * 4096 + x / 33554432 % 64 * 32 + x / 256 % 16 * 2 + x / 128 % 2 * 2048) 13
  else if o.kind = 6 then sgnN (x / 4096 % 1048576 * 4096) 32
  else if o.kind = 7 then sgnN (x / 2147483648 % 2 * 1048576 + x / 2097152 % 1024 * 2 + x / 1048576 % 2 * 2048 + x / 4096 % 256 * 4096) 21
  else 0
section
variable (c f g n : Int) (c0 : 0 ≤ c) (c1 : c < 128) (f0 : 0 ≤ f) (f1 : f < 8) (g0 : 0 ≤ g) (g1 : g < 128) (nm : ByteArray)
include c0 c1 f0 f1 g0 g1
theorem laidN1 : bits .or .u32 (bits .or .u32 c (f * 4096)) (g * 33554432) = laidN ⟨nm, 1, c, f, g, 0⟩ n := by
  rw [laid1 c f g n c0 c1 f0 f1 g0 g1]; simp [laidN, restN]
theorem laidN4 : bits .or .u32 (bits .or .u32 (bits .or .u32 c (f * 4096)) (bitsN n 0 5 * 128)) (bitsN n 5 7 * 33554432) = laidN ⟨nm, 4, c, f, g, 0⟩ n := by
  rw [laid4 c f g n c0 c1 f0 f1 g0 g1]; simp [laidN, restN]; omega
theorem laidN5 : bits .or .u32 (bits .or .u32 (bits .or .u32 (bits .or .u32 (bits .or .u32 c (f * 4096)) (bitsN n 12 1 * 2147483648)) (bitsN n 5 6 * 33554432)) (bitsN n 1 4 * 256)) (bitsN n 11 1 * 128) = laidN ⟨nm, 5, c, f, g, 0⟩ n := by
  rw [laid5 c f g n c0 c1 f0 f1 g0 g1]; simp [laidN, restN]; omega
theorem laidN6 (hf : f = 0) : bits .or .u32 (bits .or .u32 c (f * 4096)) (bitsN n 12 20 * 4096) = laidN ⟨nm, 6, c, f, g, 0⟩ n := by
  rw [laid6 c f g n c0 c1 f0 f1 g0 g1 hf]; simp [laidN, restN]
theorem laidN7 (hf : f = 0) : bits .or .u32 (bits .or .u32 (bits .or .u32 (bits .or .u32 (bits .or .u32 c (f * 4096)) (bitsN n 20 1 * 2147483648)) (bitsN n 1 10 * 2097152)) (bitsN n 11 1 * 1048576)) (bitsN n 12 8 * 4096) = laidN ⟨nm, 7, c, f, g, 0⟩ n := by
  rw [laid7 c f g n c0 c1 f0 f1 g0 g1 hf]; simp [laidN, restN]; omega
theorem laidN8 (hg : g < 32) : bits .or .u32 (bits .or .u32 (bits .or .u32 c (f * 4096)) (g * 1048576)) 4261412864 = laidN ⟨nm, 8, c, f, g, 0⟩ n := by
  rw [laid8 c f g n c0 c1 f0 f1 g0 g1 hg]; simp [laidN, restN]; omega
theorem laidN9 : bits .or .u32 (bits .or .u32 c (f * 4096)) (g * 1048576) = laidN ⟨nm, 9, c, f, g, 0⟩ n := by
  rw [laid9 c f g n c0 c1 f0 f1 g0 g1]; simp [laidN, restN]
theorem laidN10 : bits .or .u32 (bits .or .u32 (bits .or .u32 c (f * 4096)) 128) (g * 33554432) = laidN ⟨nm, 10, c, f, g, 0⟩ n := by
  rw [laid10 c f g n c0 c1 f0 f1 g0 g1]; simp [laidN, restN]; omega
theorem laidN2 (k : Int) (hk : k = 2 ∨ k = 3) (hg : g = 0) : bits .or .u32 (bits .or .u32 (bits .or .u32 c (f * 4096)) (bitsN n 0 12 * 1048576)) (g * 1048576) = laidN ⟨nm, k, c, f, g, 0⟩ n := by
  subst hg
  have h0 : ∀ a : Int, 0 ≤ a → a < 4294967296 → bits .or .u32 a (0 * 1048576) = a := fun a h1 h2 => by
    rw [or_mid32 (a := a) (b := 0 * 1048576) 32 0 a 0 0 (by omega) (by omega) h1 (by omega) (by omega) (by omega) (by omega) h2 (by omega)]
    omega
  rw [laid2 c f 0 n c0 c1 f0 f1 g0 g1, h0 _ (by omega) (by omega)]
  rcases hk with rfl | rfl <;> simp [laidN, restN]
theorem laidN25 (n0 : 0 ≤ n) (n1 : n < 32) : bits .or .u32 (bits .or .u32 (bits .or .u32 c (f * 4096)) (bitsN n 0 12 * 1048576)) (g * 33554432) = laidN ⟨nm, 2, c, f, g, 5⟩ n := by
  rw [laid25 c f g n c0 c1 f0 f1 g0 g1 n0 n1]; simp [laidN, restN]; omega
theorem laidN26 (n0 : 0 ≤ n) (n1 : n < 64) (hg : g < 64) : bits .or .u32 (bits .or .u32 (bits .or .u32 c (f * 4096)) (bitsN n 0 12 * 1048576)) (g * 67108864) = laidN ⟨nm, 2, c, f, g, 6⟩ n := by
  rw [laid26 c f g n c0 c1 f0 f1 g0 g1 n0 n1 hg]; simp [laidN, restN]; omega
end
set_option maxRecDepth 100000 in
theorem laid_calls (o : Opn) (n : Int) (w : World) (ho : o.ok) (h0 : -9223372036854775808 ≤ n) (h1 : n ≤ 9223372036854775807) (hm : mayN o n = true) :
    Calls Try.prog 31 #[.agg #[.string o.name, .int .i64 o.kind, .int .u32 o.code, .int .u32 o.f3, .int .u32 o.f7, .int .i64 o.shift], .int .i64 n] w fun e w' => e = .returned (.int .u32 (laidN o n)) ∧ Below w.heap.size w w' := by
  have HM := Lib.hid hm
  clear hm
  obtain ⟨k0, k1, c0, c1, f0, f1, g0, g1, s0, s1, s6, k2, k6, k8⟩ := ho
  have S1 := Lib.hid s1
  have S6 := Lib.hid s6
  have K2 := Lib.hid k2
  have K6 := Lib.hid k6
  have K8 := Lib.hid k8
  clear s1 s6 k2 k6 k8
  obtain ⟨nm, k, c, f, g, s⟩ := o
  dsimp only at *
  rcases s0 with rfl | rfl | rfl
  · obtain rfl | rfl | rfl | rfl | rfl | rfl | rfl | rfl | rfl | rfl : k = 1 ∨ k = 2 ∨ k = 3 ∨ k = 4 ∨ k = 5 ∨ k = 6 ∨ k = 7 ∨ k = 8 ∨ k = 9 ∨ k = 10 := by omega
    all_goals
      go_enter Try.func31, Try.ntmps31
      go_wp2_with (go_at_call 42; refine (part_calls _ _ _ _ _ (by omega) (by omega) (by omega) (by omega) (by omega)).mono ?_; rintro e w1 ⟨rfl, rfl⟩)
      go_ret
      refine ⟨ret_int ?_, below_alloc (Below.refl _ _) _⟩
    · exact laidN1 c f g n c0 c1 f0 f1 g0 g1 nm
    · exact laidN2 c f g n c0 c1 f0 f1 g0 g1 nm 2 (by simp) (K2.out (by simp) (by simp))
    · exact laidN2 c f g n c0 c1 f0 f1 g0 g1 nm 3 (by simp) (K2.out (by simp) (by simp))
    · exact laidN4 c f g n c0 c1 f0 f1 g0 g1 nm
    · exact laidN5 c f g n c0 c1 f0 f1 g0 g1 nm
    · exact laidN6 c f g n c0 c1 f0 f1 g0 g1 nm (K6.out (by simp))
    · exact laidN7 c f g n c0 c1 f0 f1 g0 g1 nm (K6.out (by simp))
    · exact laidN8 c f g n c0 c1 f0 f1 g0 g1 nm (K8.out (by simp))
    · exact laidN9 c f g n c0 c1 f0 f1 g0 g1 nm
    · exact laidN10 c f g n c0 c1 f0 f1 g0 g1 nm
  · have hk := S1.out (by decide)
    subst hk
    have hn : 0 ≤ n ∧ n < 32 := of_decide_eq_true HM.out
    obtain ⟨hn0, hn1⟩ := hn
    go_enter Try.func31, Try.ntmps31
    go_wp2_with (go_at_call 42; refine (part_calls _ _ _ _ _ (by omega) (by omega) (by omega) (by omega) (by omega)).mono ?_; rintro e w1 ⟨rfl, rfl⟩)
    go_ret
    exact ⟨ret_int (laidN25 c f g n c0 c1 f0 f1 g0 g1 nm hn0 hn1), below_alloc (Below.refl _ _) _⟩
  · have hk := S1.out (by decide)
    subst hk
    have hn : 0 ≤ n ∧ n < 64 := of_decide_eq_true HM.out
    obtain ⟨hn0, hn1⟩ := hn
    have hg := S6.out rfl
    go_enter Try.func31, Try.ntmps31
    go_wp2_with (go_at_call 42; refine (part_calls _ _ _ _ _ (by omega) (by omega) (by omega) (by omega) (by omega)).mono ?_; rintro e w1 ⟨rfl, rfl⟩)
    go_ret
    refine ⟨ret_int ?_, below_alloc (Below.refl _ _) _⟩
    rw [show g * 1048576 * 64 = g * 67108864 by omega]
    exact laidN26 c f g n c0 c1 f0 f1 g0 g1 nm hn0 hn1 hg
theorem may5 (nm : ByteArray) (c f g n : Int) : mayN ⟨nm, 2, c, f, g, 5⟩ n = decide (0 ≤ n ∧ n < 32) := rfl
theorem may6 (nm : ByteArray) (c f g n : Int) : mayN ⟨nm, 2, c, f, g, 6⟩ n = decide (0 ≤ n ∧ n < 64) := rfl
theorem tmod0 (n k : Int) : n.tmod k = 0 ↔ n % k = 0 := by rw [← Int.dvd_iff_tmod_eq_zero, Int.dvd_iff_emod_eq_zero]
set_option maxRecDepth 100000 in
theorem number_calls (o : Opn) (n : Int) (w : World) (ho : o.ok) (h0 : -9223372036854775808 ≤ n) (h1 : n ≤ 9223372036854775807) :
    Calls Try.prog 30 #[.agg #[.string o.name, .int .i64 o.kind, .int .u32 o.code, .int .u32 o.f3, .int .u32 o.f7, .int .i64 o.shift], .int .i64 n] w fun e w' => e = .returned (.bool (mayN o n)) ∧ Below w.heap.size w w' := by
  obtain ⟨k0, k1, c0, c1, f0, f1, g0, g1, s0, s1, s6, k2, k6, k8⟩ := ho
  have S1 := Lib.hid s1
  clear s1 s6 k2 k6 k8
  obtain ⟨nm, k, c, f, g, s⟩ := o
  dsimp only at *
  rcases s0 with rfl | rfl | rfl
  · obtain rfl | rfl | rfl | rfl | rfl | rfl | rfl | rfl | rfl | rfl : k = 1 ∨ k = 2 ∨ k = 3 ∨ k = 4 ∨ k = 5 ∨ k = 6 ∨ k = 7 ∨ k = 8 ∨ k = 9 ∨ k = 10 := by omega
    all_goals
      go_enter Try.func30, Try.ntmps30
      go_wp2_with (go_at_call 41; refine (Fits_calls _ _ _ h0 h1 (by omega) (by omega)).mono ?_; rintro e w1 ⟨rfl, rfl⟩)
      all_goals go_ret
      all_goals refine ⟨ret_bool ?_, below_alloc (Below.refl _ _) _⟩
      all_goals first | (rw [Bool.eq_iff_iff]; simp [mayN, fitsB, tmod0] at *; done) | (rw [Bool.eq_iff_iff]; simp [mayN, fitsB, tmod0] at *; omega)
  · have hk := S1.out (by decide)
    subst hk
    go_enter Try.func30, Try.ntmps30
    go_wp2
    all_goals go_ret
    all_goals refine ⟨ret_bool ?_, below_alloc (Below.refl _ _) _⟩
    all_goals (rw [may5, Bool.eq_iff_iff]; simp; omega)
  · have hk := S1.out (by decide)
    subst hk
    go_enter Try.func30, Try.ntmps30
    go_wp2
    all_goals go_ret
    all_goals refine ⟨ret_bool ?_, below_alloc (Below.refl _ _) _⟩
    all_goals (rw [may6, Bool.eq_iff_iff]; simp; omega)
end Go.Proofs.Ytnnalefglpnoaaa
