/- Numbers: bits, signs, disjoint parts added up. Conditions: none. -/
import Derived.WalkKit
set_option linter.unusedVariables false
set_option linter.unusedSimpArgs false
namespace Go.Proofs.YtbnmhhbncggjkaaGreatDoor
open Go Go.RowKit
def bitsN (x f m : Int) : Int := x / 2 ^ f.toNat % 2 ^ m.toNat
def sgnN (x m : Int) : Int := if x % 2 ^ m.toNat < 2 ^ (m.toNat - 1) then x % 2 ^ m.toNat else x % 2 ^ m.toNat - 2 ^ m.toNat
theorem p64 (a b : Nat) (h : a + b = 64) : (18446744073709551616 : Int) = 2 ^ a * 2 ^ b := by
  rw [← Int.pow_add, h]; rfl
theorem u64_wrap (x : Int) : IntKind.u64.wrap x = x % 18446744073709551616 := by simp [IntKind.wrap, IntKind.signed, IntKind.bits]
theorem shl_mod (x : Int) (a b : Nat) (h : a + b = 64) : (x * 2 ^ b) % 18446744073709551616 = (x % 2 ^ a) * 2 ^ b := by
  rw [p64 a b h, Int.mul_comm x, Int.mul_comm (2 ^ a), Int.mul_emod_mul_of_pos _ _ (Int.pow_pos (by decide)), Int.mul_comm]
theorem mod_div (x : Int) (f m : Nat) : x % 2 ^ (f + m) / 2 ^ f = x / 2 ^ f % 2 ^ m := by
  have hf : (0 : Int) < 2 ^ f := Int.pow_pos (by decide)
  have hm : (0 : Int) < 2 ^ m := Int.pow_pos (by decide)
  rw [Int.pow_add]
  have h1 := Int.mul_ediv_add_emod x (2 ^ f)
  have h2 := Int.mul_ediv_add_emod (x / 2 ^ f) (2 ^ m)
  have h3 := Int.emod_nonneg x (Int.ne_of_gt hf)
  have h4 := Int.emod_lt_of_pos x hf
  have h5 := Int.emod_nonneg (x / 2 ^ f) (Int.ne_of_gt hm)
  have h6 := Int.emod_lt_of_pos (x / 2 ^ f) hm
  have e : x % (2 ^ f * 2 ^ m) = 2 ^ f * (x / 2 ^ f % 2 ^ m) + x % 2 ^ f := by
    have : x = 2 ^ f * (x / 2 ^ f % 2 ^ m) + x % 2 ^ f + 2 ^ f * 2 ^ m * (x / 2 ^ f / 2 ^ m) := by grind
    conv => lhs; rw [this]
    rw [Int.add_mul_emod_self_left, Int.emod_eq_of_lt]
    · exact Int.add_nonneg (Int.mul_nonneg (Int.le_of_lt hf) h5) h3
    · have : 2 ^ f * (x / 2 ^ f % 2 ^ m) + 2 ^ f ≤ 2 ^ f * 2 ^ m := by
        have := Int.mul_le_mul_of_nonneg_left (show x / 2 ^ f % 2 ^ m + 1 ≤ 2 ^ m by omega) (Int.le_of_lt hf)
        grind
      omega
  rw [e, Int.add_comm, Int.add_mul_ediv_left _ _ (Int.ne_of_gt hf), Int.ediv_eq_zero_of_lt h3 h4, Int.zero_add]
theorem bits_eq (x f m : Int) (hf : 0 ≤ f) (hm : 1 ≤ m) (hfm : f + m ≤ 64) : IntKind.u64.wrap (x * 2 ^ (64 - f - m).toNat) / 2 ^ (64 - m).toNat = bitsN x f m := by
  obtain ⟨f, rfl⟩ := Int.eq_ofNat_of_zero_le hf
  obtain ⟨m, rfl⟩ := Int.eq_ofNat_of_zero_le (show 0 ≤ m by omega)
  obtain ⟨d, hd⟩ : ∃ d, f + m + d = 64 := ⟨64 - f - m, by omega⟩
  rw [u64_wrap, show (64 - (f : Int) - m).toNat = d by omega, show (64 - (m : Int)).toNat = f + d by omega, shl_mod x (f + m) d (by omega)]
  unfold bitsN
  rw [show (2 : Int) ^ (f + d) = 2 ^ f * 2 ^ d from Int.pow_add .., Int.mul_ediv_mul_of_pos_left _ _ (Int.pow_pos (by decide)), mod_div]
  simp
theorem sgn_eq (x m : Int) (hm : 1 ≤ m) (hfm : m ≤ 64) : wrap64 (IntKind.u64.wrap (x * 2 ^ (64 - m).toNat)) / 2 ^ (64 - m).toNat = sgnN x m := by
  obtain ⟨m, rfl⟩ := Int.eq_ofNat_of_zero_le (show 0 ≤ m by omega)
  obtain ⟨d, hd⟩ : ∃ d, m + d = 64 := ⟨64 - m, by omega⟩
  obtain ⟨k, hk⟩ : ∃ k, m = k + 1 := ⟨m - 1, by omega⟩
  rw [u64_wrap, show (64 - (m : Int)).toNat = d by omega, shl_mod x m d (by omega)]
  unfold sgnN
  have hD : (0 : Int) < 2 ^ d := Int.pow_pos (by decide)
  have hK : (0 : Int) < 2 ^ k := Int.pow_pos (by decide)
  have e63 : (9223372036854775808 : Int) = 2 ^ k * 2 ^ d := by rw [← Int.pow_add, show k + d = 63 by omega]; rfl
  have e64 : (18446744073709551616 : Int) = 2 ^ m * 2 ^ d := p64 m d hd
  have eM : (2 : Int) ^ m = 2 * 2 ^ k := by rw [hk, Int.pow_succ]; omega
  have h1 := Int.emod_nonneg x (show (2:Int) ^ m ≠ 0 by omega)
  have h2 := Int.emod_lt_of_pos x (show (0:Int) < 2 ^ m by omega)
  simp only [Int.toNat_natCast]
  rw [show m - 1 = k by omega]
  generalize x % 2 ^ m = r at *
  have key : wrap64 (r * 2 ^ d) = (if r < 2 ^ k then r else r - 2 ^ m) * 2 ^ d := by
    split
    · rename_i h
      have a1 : r * 2 ^ d < 9223372036854775808 := by rw [e63]; exact Int.mul_lt_mul_of_pos_right h hD
      have a2 : 0 ≤ r * 2 ^ d := Int.mul_nonneg h1 (Int.le_of_lt hD)
      unfold wrap64; omega
    · rename_i h
      have a1 : 9223372036854775808 ≤ r * 2 ^ d := by rw [e63]; exact Int.mul_le_mul_of_nonneg_right (by omega) (Int.le_of_lt hD)
      have a2 : r * 2 ^ d < 18446744073709551616 := by rw [e64]; exact Int.mul_lt_mul_of_pos_right h2 hD
      rw [Int.sub_mul, ← e64]
      unfold wrap64; omega
  rw [key, Int.mul_ediv_cancel _ (Int.ne_of_gt hD)]
/-- A part laid into a hole of a number. -/
theorem nat_or_mid (lo r hi t s : Nat) (h1 : lo < 2 ^ t) (h2 : r < 2 ^ s) : (lo + 2 ^ (t + s) * hi) ||| (2 ^ t * r) = lo + 2 ^ t * r + 2 ^ (t + s) * hi := by
  have e1 : 2 ^ t * r + lo < 2 ^ (t + s) := by
    rw [Nat.pow_add]
    have : 2 ^ t * (r + 1) ≤ 2 ^ t * 2 ^ s := Nat.mul_le_mul_left _ h2
    rw [Nat.mul_succ] at this
    omega
  have e2 : lo < 2 ^ (t + s) := by omega
  rw [Nat.add_comm lo, Nat.two_pow_add_eq_or_of_lt e2, Nat.or_assoc, Nat.or_comm lo, ← Nat.two_pow_add_eq_or_of_lt h1, ← Nat.two_pow_add_eq_or_of_lt e1]
  omega
theorem or_mid32 {a b : Int} (t s : Nat) (lo hi r : Int) (ha : a = lo + 2 ^ (t + s) * hi) (hb : b = 2 ^ t * r) (h0 : 0 ≤ lo) (h1 : lo < 2 ^ t) (h2 : 0 ≤ r) (h3 : r < 2 ^ s) (h4 : 0 ≤ hi) (ha' : a < 4294967296) (hb' : b < 4294967296) : Go.bits .or .u32 a b = a + b := by
  obtain ⟨lo, rfl⟩ := Int.eq_ofNat_of_zero_le h0
  obtain ⟨hi, rfl⟩ := Int.eq_ofNat_of_zero_le h4
  obtain ⟨r, rfl⟩ := Int.eq_ofNat_of_zero_le h2
  have e1 : a = ((lo + 2 ^ (t + s) * hi : Nat) : Int) := by rw [ha]; simp
  have e2 : b = ((2 ^ t * r : Nat) : Int) := by rw [hb]; simp
  rw [e1] at ha' ⊢
  rw [e2] at hb' ⊢
  rw [u32_or_nat _ _ (by omega) (by omega), nat_or_mid lo r hi t s (by exact_mod_cast h1) (by exact_mod_cast h3)]
  omega
theorem i64_wrap (x : Int) : IntKind.i64.wrap x = (if 9223372036854775808 ≤ x % 18446744073709551616 then x % 18446744073709551616 - 18446744073709551616 else x % 18446744073709551616) := by
  simp [IntKind.wrap, IntKind.signed, IntKind.bits]
theorem i64_or_nat (a b : Nat) (ha : a < 9223372036854775808) (hb : b < 9223372036854775808) : bits .or .i64 (a : Int) (b : Int) = ((a ||| b : Nat) : Int) := by
  have h2 : a ||| b < 9223372036854775808 := Nat.or_lt_two_pow (n := 63) ha hb
  have e : (BitVec.ofInt 64 (a : Int) ||| BitVec.ofInt 64 (b : Int)).toNat = a ||| b := by
    rw [BitVec.toNat_or, ofInt_u64 a (by omega), ofInt_u64 b (by omega)]
  change IntKind.i64.wrap ((BitVec.ofInt 64 (a : Int) ||| BitVec.ofInt 64 (b : Int)).toNat : Int) = _
  rw [e, i64_wrap]
  omega
theorem i64_and1 (a : Int) : bits .and .i64 a 1 = a % 2 := by
  have e : (BitVec.ofInt 64 a &&& BitVec.ofInt 64 1).toNat = (a % 2).toNat := by
    rw [BitVec.toNat_and, show (BitVec.ofInt 64 1).toNat = 1 from rfl, Nat.and_one_is_mod, BitVec.toNat_ofInt]
    omega
  change IntKind.i64.wrap ((BitVec.ofInt 64 a &&& BitVec.ofInt 64 1).toNat : Int) = _
  rw [e, i64_wrap]
  omega
theorem or_mid64 {a b : Int} (t s : Nat) (lo hi r : Int) (ha : a = lo + 2 ^ (t + s) * hi) (hb : b = 2 ^ t * r) (h0 : 0 ≤ lo) (h1 : lo < 2 ^ t) (h2 : 0 ≤ r) (h3 : r < 2 ^ s) (h4 : 0 ≤ hi) (ha' : a < 9223372036854775808) (hb' : b < 9223372036854775808) : Go.bits .or .i64 a b = a + b := by
  obtain ⟨lo, rfl⟩ := Int.eq_ofNat_of_zero_le h0
  obtain ⟨hi, rfl⟩ := Int.eq_ofNat_of_zero_le h4
  obtain ⟨r, rfl⟩ := Int.eq_ofNat_of_zero_le h2
  have e1 : a = ((lo + 2 ^ (t + s) * hi : Nat) : Int) := by rw [ha]; simp
  have e2 : b = ((2 ^ t * r : Nat) : Int) := by rw [hb]; simp
  rw [e1] at ha' ⊢
  rw [e2] at hb' ⊢
  rw [i64_or_nat _ _ (by omega) (by omega), nat_or_mid lo r hi t s (by exact_mod_cast h1) (by exact_mod_cast h3)]
  omega
theorem pow_le32 (m : Nat) (h : m ≤ 32) : (2 : Int) ^ m ≤ 4294967296 := by
  have h1 : (2 : Nat) ^ m ≤ 2 ^ 32 := Nat.pow_le_pow_right (by decide) h
  have h2 : ((2 ^ m : Nat) : Int) ≤ ((2 ^ 32 : Nat) : Int) := Int.ofNat_le.2 h1
  rw [Int.natCast_pow] at h2
  exact h2
theorem bitsN_bd (x f m : Int) : 0 ≤ bitsN x f m ∧ bitsN x f m < 2 ^ m.toNat := by
  have h : (0 : Int) < 2 ^ m.toNat := Int.pow_pos (by decide)
  exact ⟨Int.emod_nonneg _ (Int.ne_of_gt h), Int.emod_lt_of_pos _ h⟩
theorem and127 (a : Int) (h0 : 0 ≤ a) (h1 : a < 4294967296) : Go.bits .and .u32 a 127 = a % 128 := by
  obtain ⟨a, rfl⟩ := Int.eq_ofNat_of_zero_le h0
  rw [show (127 : Int) = ((127 : Nat) : Int) from rfl, u32_and_nat _ _ (by omega) (by omega), nat_mask7]
  rfl
theorem bitsN_wrap (n f m : Int) (hf : 0 ≤ f) (hm : 1 ≤ m) (hfm : f + m ≤ 64) : bitsN (n % 18446744073709551616) f m = bitsN n f m := by
  obtain ⟨f, rfl⟩ := Int.eq_ofNat_of_zero_le hf
  obtain ⟨m, rfl⟩ := Int.eq_ofNat_of_zero_le (show 0 ≤ m by omega)
  unfold bitsN
  simp only [Int.toNat_natCast]
  rw [← mod_div, ← mod_div]
  have hd : (2 : Int) ^ (f + m) ∣ 18446744073709551616 := ⟨2 ^ (64 - (f + m)), p64 (f + m) (64 - (f + m)) (by omega)⟩
  rw [Int.emod_emod_of_dvd _ hd]
theorem sgnN_wrap (n m : Int) (hm : 1 ≤ m) (hfm : m ≤ 64) : sgnN (n % 18446744073709551616) m = sgnN n m := by
  obtain ⟨m, rfl⟩ := Int.eq_ofNat_of_zero_le (show 0 ≤ m by omega)
  have hd : (2 : Int) ^ m ∣ 18446744073709551616 := ⟨2 ^ (64 - m), p64 m (64 - m) (by omega)⟩
  unfold sgnN
  simp only [Int.toNat_natCast]
  rw [Int.emod_emod_of_dvd _ hd]
/-- Has a number so few bits? -/
def fitsB (n m : Int) : Bool := decide (-2 ^ (m.toNat - 1) ≤ n ∧ n < 2 ^ (m.toNat - 1))
theorem emod_two (n p : Int) (hp : 0 < p) : (-p ≤ n ∧ n < p) ↔ (if n % (2 * p) < p then n % (2 * p) else n % (2 * p) - 2 * p) = n := by
  have h1 := Int.emod_nonneg n (show 2 * p ≠ 0 by omega)
  have h2 := Int.emod_lt_of_pos n (show 0 < 2 * p by omega)
  constructor
  · rintro ⟨a, b⟩
    by_cases h : 0 ≤ n
    · have e : n % (2 * p) = n := Int.emod_eq_of_lt h (by omega)
      rw [e, if_pos b]
    · have e : n % (2 * p) = n + 2 * p := by
        rw [← Int.add_emod_right, Int.emod_eq_of_lt (by omega) (by omega)]
      rw [e, if_neg (by omega)]
      omega
  · intro h
    split at h <;> omega
theorem fits_eq (n m : Int) (hm : 1 ≤ m) (hfm : m ≤ 64) (h0 : -9223372036854775808 ≤ n) (h1 : n ≤ 9223372036854775807) : (IntKind.u64.wrap (sgnN (IntKind.u64.wrap n) m) == IntKind.u64.wrap n) = fitsB n m := by
  rw [u64_wrap, u64_wrap, sgnN_wrap n m hm hfm]
  obtain ⟨m, rfl⟩ := Int.eq_ofNat_of_zero_le (show 0 ≤ m by omega)
  obtain ⟨k, rfl⟩ : ∃ k, m = k + 1 := ⟨m - 1, by omega⟩
  unfold fitsB sgnN
  simp only [Int.toNat_natCast, Nat.add_sub_cancel]
  have hp : (0 : Int) < 2 ^ k := Int.pow_pos (by decide)
  have hq : (2 : Int) ^ k ≤ 9223372036854775808 := by
    have h1 : (2 : Nat) ^ k ≤ 2 ^ 63 := Nat.pow_le_pow_right (by decide) (by omega)
    have h2 : ((2 ^ k : Nat) : Int) ≤ ((2 ^ 63 : Nat) : Int) := Int.ofNat_le.2 h1
    rw [Int.natCast_pow] at h2
    exact h2
  rw [Int.pow_succ, Int.mul_comm (2 ^ k) 2]
  have key := emod_two n (2 ^ k) hp
  generalize (2 : Int) ^ k = p at *
  have b1 := Int.emod_nonneg n (show 2 * p ≠ 0 by omega)
  have b2 := Int.emod_lt_of_pos n (show 0 < 2 * p by omega)
  generalize n % (2 * p) = r at *
  have : ((if r < p then r else r - 2 * p) % 18446744073709551616 = n % 18446744073709551616) ↔ (if r < p then r else r - 2 * p) = n := by
    split <;> omega
  rw [Bool.eq_iff_iff, beq_iff_eq, decide_eq_true_eq, key]
  exact this
end Go.Proofs.YtbnmhhbncggjkaaGreatDoor
