/- Layer 4 plainly: operations, instructions and their numbers; no program in sight. Conditions: none. -/
import Derived.Test.YtbnmhhbncggjkaaGreatDoorNum
import Derived.Test.YtbnmhhbncggjkaaGreatDoorIsaL
set_option linter.unusedVariables false
set_option linter.unusedSimpArgs false
namespace Go.Proofs.YtbnmhhbncggjkaaGreatDoor
/-- An operation: its name, kind, code, f3, f7, and how many bits a shift's number has. -/
structure Opn where
  name : List UInt8
  kind : Int
  code : Int
  f3 : Int
  f7 : Int
  shift : Int
def Opn.zero : Opn := ⟨[], 0, 0, 0, 0, 0⟩
def tbl : List Opn := [
  ⟨[97, 100, 100], 1, 51, 0, 0, 0⟩,
  ⟨[115, 117, 98], 1, 51, 0, 32, 0⟩,
  ⟨[115, 108, 108], 1, 51, 1, 0, 0⟩,
  ⟨[115, 108, 116], 1, 51, 2, 0, 0⟩,
  ⟨[115, 108, 116, 117], 1, 51, 3, 0, 0⟩,
  ⟨[120, 111, 114], 1, 51, 4, 0, 0⟩,
  ⟨[115, 114, 108], 1, 51, 5, 0, 0⟩,
  ⟨[115, 114, 97], 1, 51, 5, 32, 0⟩,
  ⟨[111, 114], 1, 51, 6, 0, 0⟩,
  ⟨[97, 110, 100], 1, 51, 7, 0, 0⟩,
  ⟨[109, 117, 108], 1, 51, 0, 1, 0⟩,
  ⟨[109, 117, 108, 104], 1, 51, 1, 1, 0⟩,
  ⟨[109, 117, 108, 104, 115, 117], 1, 51, 2, 1, 0⟩,
  ⟨[109, 117, 108, 104, 117], 1, 51, 3, 1, 0⟩,
  ⟨[100, 105, 118], 1, 51, 4, 1, 0⟩,
  ⟨[100, 105, 118, 117], 1, 51, 5, 1, 0⟩,
  ⟨[114, 101, 109], 1, 51, 6, 1, 0⟩,
  ⟨[114, 101, 109, 117], 1, 51, 7, 1, 0⟩,
  ⟨[97, 100, 100, 119], 1, 59, 0, 0, 0⟩,
  ⟨[115, 117, 98, 119], 1, 59, 0, 32, 0⟩,
  ⟨[115, 108, 108, 119], 1, 59, 1, 0, 0⟩,
  ⟨[115, 114, 108, 119], 1, 59, 5, 0, 0⟩,
  ⟨[115, 114, 97, 119], 1, 59, 5, 32, 0⟩,
  ⟨[109, 117, 108, 119], 1, 59, 0, 1, 0⟩,
  ⟨[100, 105, 118, 119], 1, 59, 4, 1, 0⟩,
  ⟨[100, 105, 118, 117, 119], 1, 59, 5, 1, 0⟩,
  ⟨[114, 101, 109, 119], 1, 59, 6, 1, 0⟩,
  ⟨[114, 101, 109, 117, 119], 1, 59, 7, 1, 0⟩,
  ⟨[97, 100, 100, 105], 2, 19, 0, 0, 0⟩,
  ⟨[115, 108, 116, 105], 2, 19, 2, 0, 0⟩,
  ⟨[115, 108, 116, 105, 117], 2, 19, 3, 0, 0⟩,
  ⟨[120, 111, 114, 105], 2, 19, 4, 0, 0⟩,
  ⟨[111, 114, 105], 2, 19, 6, 0, 0⟩,
  ⟨[97, 110, 100, 105], 2, 19, 7, 0, 0⟩,
  ⟨[115, 108, 108, 105], 2, 19, 1, 0, 6⟩,
  ⟨[115, 114, 108, 105], 2, 19, 5, 0, 6⟩,
  ⟨[115, 114, 97, 105], 2, 19, 5, 16, 6⟩,
  ⟨[97, 100, 100, 105, 119], 2, 27, 0, 0, 0⟩,
  ⟨[115, 108, 108, 105, 119], 2, 27, 1, 0, 5⟩,
  ⟨[115, 114, 108, 105, 119], 2, 27, 5, 0, 5⟩,
  ⟨[115, 114, 97, 105, 119], 2, 27, 5, 32, 5⟩,
  ⟨[108, 98], 3, 3, 0, 0, 0⟩,
  ⟨[108, 104], 3, 3, 1, 0, 0⟩,
  ⟨[108, 119], 3, 3, 2, 0, 0⟩,
  ⟨[108, 100], 3, 3, 3, 0, 0⟩,
  ⟨[108, 98, 117], 3, 3, 4, 0, 0⟩,
  ⟨[108, 104, 117], 3, 3, 5, 0, 0⟩,
  ⟨[108, 119, 117], 3, 3, 6, 0, 0⟩,
  ⟨[99, 108, 99], 3, 15, 2, 0, 0⟩,
  ⟨[115, 98], 4, 35, 0, 0, 0⟩,
  ⟨[115, 104], 4, 35, 1, 0, 0⟩,
  ⟨[115, 119], 4, 35, 2, 0, 0⟩,
  ⟨[115, 100], 4, 35, 3, 0, 0⟩,
  ⟨[99, 115, 99], 4, 35, 4, 0, 0⟩,
  ⟨[98, 101, 113], 5, 99, 0, 0, 0⟩,
  ⟨[98, 110, 101], 5, 99, 1, 0, 0⟩,
  ⟨[98, 108, 116], 5, 99, 4, 0, 0⟩,
  ⟨[98, 103, 101], 5, 99, 5, 0, 0⟩,
  ⟨[98, 108, 116, 117], 5, 99, 6, 0, 0⟩,
  ⟨[98, 103, 101, 117], 5, 99, 7, 0, 0⟩,
  ⟨[108, 117, 105], 6, 55, 0, 0, 0⟩,
  ⟨[97, 117, 105, 112, 99, 99], 6, 23, 0, 0, 0⟩,
  ⟨[99, 106, 97, 108], 7, 111, 0, 0, 0⟩,
  ⟨[99, 106, 97, 108, 114], 3, 103, 0, 0, 0⟩,
  ⟨[101, 99, 97, 108, 108], 9, 115, 0, 0, 0⟩,
  ⟨[101, 98, 114, 101, 97, 107], 9, 115, 0, 1, 0⟩,
  ⟨[99, 115, 101, 116, 98, 111, 117, 110, 100, 115], 1, 91, 0, 8, 0⟩,
  ⟨[99, 97, 110, 100, 112, 101, 114, 109], 1, 91, 0, 13, 0⟩,
  ⟨[99, 115, 101, 97, 108], 1, 91, 0, 11, 0⟩,
  ⟨[99, 117, 110, 115, 101, 97, 108], 1, 91, 0, 12, 0⟩,
  ⟨[99, 115, 101, 116, 97, 100, 100, 114], 1, 91, 0, 16, 0⟩,
  ⟨[99, 105, 110, 99, 97, 100, 100, 114], 1, 91, 0, 17, 0⟩,
  ⟨[99, 116, 101, 115, 116, 115, 117, 98, 115, 101, 116], 1, 91, 0, 32, 0⟩,
  ⟨[99, 105, 110, 118, 111, 107, 101], 10, 91, 0, 126, 0⟩,
  ⟨[99, 103, 101, 116, 112, 101, 114, 109], 8, 91, 0, 0, 0⟩,
  ⟨[99, 103, 101, 116, 116, 121, 112, 101], 8, 91, 0, 1, 0⟩,
  ⟨[99, 103, 101, 116, 98, 97, 115, 101], 8, 91, 0, 2, 0⟩,
  ⟨[99, 103, 101, 116, 108, 101, 110], 8, 91, 0, 3, 0⟩,
  ⟨[99, 103, 101, 116, 116, 97, 103], 8, 91, 0, 4, 0⟩,
  ⟨[99, 109, 111, 118, 101], 8, 91, 0, 10, 0⟩,
  ⟨[99, 99, 108, 101, 97, 114, 116, 97, 103], 8, 91, 0, 11, 0⟩,
  ⟨[99, 103, 101, 116, 97, 100, 100, 114], 8, 91, 0, 15, 0⟩]
theorem tbl_length : tbl.length = 82 := rfl
/-- Operation op, counted from 1 on. -/
def opn (op : Int) : Opn := if 1 ≤ op ∧ op ≤ 82 then tbl.getD (op - 1).toNat Opn.zero else Opn.zero
def hasRd (k : Int) : Bool := k == 1 || k == 2 || k == 3 || k == 6 || k == 7 || k == 8
def hasRs1 (k : Int) : Bool := k == 1 || k == 2 || k == 3 || k == 4 || k == 5 || k == 8 || k == 10
def hasRs2 (k : Int) : Bool := k == 1 || k == 4 || k == 5 || k == 10
def regB (r : Int) (h : Bool) : Bool := decide (0 ≤ r) && decide (r ≤ 31) && (h || r == 0)
def knownB (op : Int) : Bool := decide (1 ≤ op ∧ op ≤ 82)
theorem opn_off (op : Int) (h : knownB op = false) : opn op = Opn.zero := by
  unfold knownB at h
  unfold opn
  rw [if_neg (by simpa using h)]
theorem known_lo (op : Int) (h : knownB op = true) : 1 ≤ op ∧ op ≤ 82 := by simpa [knownB] using h
/-- The form of the table's operations. -/
structure Opn.ok (o : Opn) : Prop where
  k0 : 1 ≤ o.kind
  k1 : o.kind ≤ 10
  c0 : 0 ≤ o.code
  c1 : o.code < 128
  f0 : 0 ≤ o.f3
  f1 : o.f3 < 8
  g0 : 0 ≤ o.f7
  g1 : o.f7 < 128
  s0 : o.shift = 0 ∨ o.shift = 5 ∨ o.shift = 6
  s1 : o.shift ≠ 0 → o.kind = 2
  s6 : o.shift = 6 → o.f7 < 64
  k2 : o.kind = 2 ∨ o.kind = 3 → o.shift = 0 → o.f7 = 0
  k6 : o.kind = 6 ∨ o.kind = 7 → o.f3 = 0
  k8 : o.kind = 8 → o.f7 < 32
/-- May an operation have a number? -/
def mayN (o : Opn) (n : Int) : Bool :=
  if 0 < o.shift then decide (0 ≤ n ∧ n < 2 ^ o.shift.toNat)
  else if o.kind = 2 ∨ o.kind = 3 ∨ o.kind = 4 then decide (-2048 ≤ n ∧ n ≤ 2047)
  else if o.kind = 5 then decide (-4096 ≤ n ∧ n ≤ 4094 ∧ n % 2 = 0)
  else if o.kind = 6 then decide (-2147483648 ≤ n ∧ n ≤ 2147479552 ∧ n % 4096 = 0)
  else if o.kind = 7 then decide (-1048576 ≤ n ∧ n ≤ 1048574 ∧ n % 2 = 0)
  else decide (n = 0)
def restN (o : Opn) (n : Int) : Int :=
  if o.kind = 1 then o.f7 * 33554432
  else if o.kind = 2 ∨ o.kind = 3 then n % 4096 * 1048576 + (if o.shift = 6 then o.f7 * 67108864 else o.f7 * 33554432)
  else if o.kind = 4 then n % 32 * 128 + n / 32 % 128 * 33554432
  else if o.kind = 5 then n / 4096 % 2 * 2147483648 + n / 32 % 64 * 33554432 + n / 2 % 16 * 256 + n / 2048 % 2 * 128
  else if o.kind = 6 then n / 4096 % 1048576 * 4096
  else if o.kind = 7 then n / 1048576 % 2 * 2147483648 + n / 2 % 1024 * 2097152 + n / 2048 % 2 * 1048576 + n / 4096 % 256 * 4096
  else if o.kind = 8 then o.f7 * 1048576 + 4261412864
  else if o.kind = 10 then 128 + o.f7 * 33554432
  else o.f7 * 1048576
def laidN (o : Opn) (n : Int) : Int := o.code + o.f3 * 4096 + restN o n
/-- The number that an operation would have. -/
def immN (o : Opn) (x : Int) : Int :=
  if o.kind = 2 ∨ o.kind = 3 then (if 0 < o.shift then bitsN x 20 o.shift else sgnN (x / 1048576 % 4096) 12)
  else if o.kind = 4 then sgnN (x / 33554432 % 128 * 32 + x / 128 % 32) 12
  else if o.kind = 5 then sgnN (x / 2147483648 % 2 * 4096 + x / 33554432 % 64 * 32 + x / 256 % 16 * 2 + x / 128 % 2 * 2048) 13
  else if o.kind = 6 then sgnN (x / 4096 % 1048576 * 4096) 32
  else if o.kind = 7 then sgnN (x / 2147483648 % 2 * 1048576 + x / 2097152 % 1024 * 2 + x / 1048576 % 2 * 2048 + x / 4096 % 256 * 4096) 21
  else 0
section
variable (c f g n : Int) (c0 : 0 ≤ c) (c1 : c < 128) (f0 : 0 ≤ f) (f1 : f < 8) (g0 : 0 ≤ g) (g1 : g < 128) (nm : List UInt8)
include c0 c1 f0 f1 g0 g1
theorem laidN1 : bits .or .u32 (bits .or .u32 c (f * 4096)) (g * 33554432) = laidN ⟨nm, 1, c, f, g, 0⟩ n := by
  rw [laid1 c f g n c0 c1 f0 f1 g0 g1]; simp [laidN, restN]
theorem laidN4 : bits .or .u32 (bits .or .u32 (bits .or .u32 c (f * 4096)) (bitsN n 0 5 * 128)) (bitsN n 5 7 * 33554432) = laidN ⟨nm, 4, c, f, g, 0⟩ n := by
  rw [laid4 c f g n c0 c1 f0 f1 g0 g1]; simp [laidN, restN]; omega
theorem laidN5 : bits .or .u32 (bits .or .u32 (bits .or .u32 (bits .or .u32 (bits .or .u32 c (f * 4096)) (bitsN n 12 1 * 2147483648)) (bitsN n 5 6 * 33554432)) (bitsN n 1 4 * 256)) (bitsN n 11 1 * 128) = laidN ⟨nm, 5, c, f, g, 0⟩ n := by
  rw [laid5 c f g n c0 c1 f0 f1 g0 g1]; simp [laidN, restN]; omega
theorem laidN6 (hf : f = 0) : bits .or .u32 (bits .or .u32 c (f * 4096)) (bitsN n 12 20 * 4096) = laidN ⟨nm, 6, c, f, g, 0⟩ n := by
  rw [laid6 c f g n c0 c1 f0 f1 g0 g1 hf]; simp [laidN, restN]
theorem laidN7 (hf : f = 0) : bits .or .u32 (bits .or .u32 (bits .or .u32 (bits .or .u32 (bits .or .u32 c (f * 4096)) (bitsN n 20 1 * 2147483648)) (bitsN n 1 10 * 2097152)) (bitsN n 11 1 * 1048576)) (bitsN n 12 8 * 4096) = laidN ⟨nm, 7, c, f, g, 0⟩ n := by
  rw [laid7 c f g n c0 c1 f0 f1 g0 g1 hf]; simp [laidN, restN]; omega
theorem laidN8 (hg : g < 32) : bits .or .u32 (bits .or .u32 (bits .or .u32 c (f * 4096)) (g * 1048576)) 4261412864 = laidN ⟨nm, 8, c, f, g, 0⟩ n := by
  rw [laid8 c f g n c0 c1 f0 f1 g0 g1 hg]; simp [laidN, restN]; omega
theorem laidN9 : bits .or .u32 (bits .or .u32 c (f * 4096)) (g * 1048576) = laidN ⟨nm, 9, c, f, g, 0⟩ n := by
  rw [laid9 c f g n c0 c1 f0 f1 g0 g1]; simp [laidN, restN]
theorem laidN10 : bits .or .u32 (bits .or .u32 (bits .or .u32 c (f * 4096)) 128) (g * 33554432) = laidN ⟨nm, 10, c, f, g, 0⟩ n := by
  rw [laid10 c f g n c0 c1 f0 f1 g0 g1]; simp [laidN, restN]; omega
theorem laidN2 (k : Int) (hk : k = 2 ∨ k = 3) (hg : g = 0) : bits .or .u32 (bits .or .u32 (bits .or .u32 c (f * 4096)) (bitsN n 0 12 * 1048576)) (g * 1048576) = laidN ⟨nm, k, c, f, g, 0⟩ n := by
  subst hg
  have h0 : ∀ a : Int, 0 ≤ a → a < 4294967296 → bits .or .u32 a (0 * 1048576) = a := fun a h1 h2 => by
    rw [or_mid32 (a := a) (b := 0 * 1048576) 32 0 a 0 0 (by omega) (by omega) h1 (by omega) (by omega) (by omega) (by omega) h2 (by omega)]
    omega
  rw [laid2 c f 0 n c0 c1 f0 f1 g0 g1, h0 _ (by omega) (by omega)]
  rcases hk with rfl | rfl <;> simp [laidN, restN]
theorem laidN25 (n0 : 0 ≤ n) (n1 : n < 32) : bits .or .u32 (bits .or .u32 (bits .or .u32 c (f * 4096)) (bitsN n 0 12 * 1048576)) (g * 33554432) = laidN ⟨nm, 2, c, f, g, 5⟩ n := by
  rw [laid25 c f g n c0 c1 f0 f1 g0 g1 n0 n1]; simp [laidN, restN]; omega
theorem laidN26 (n0 : 0 ≤ n) (n1 : n < 64) (hg : g < 64) : bits .or .u32 (bits .or .u32 (bits .or .u32 c (f * 4096)) (bitsN n 0 12 * 1048576)) (g * 67108864) = laidN ⟨nm, 2, c, f, g, 6⟩ n := by
  rw [laid26 c f g n c0 c1 f0 f1 g0 g1 n0 n1 hg]; simp [laidN, restN]; omega
end

theorem may5 (nm : List UInt8) (c f g n : Int) : mayN ⟨nm, 2, c, f, g, 5⟩ n = decide (0 ≤ n ∧ n < 32) := rfl
theorem may6 (nm : List UInt8) (c f g n : Int) : mayN ⟨nm, 2, c, f, g, 6⟩ n = decide (0 ≤ n ∧ n < 64) := rfl
theorem tmod0 (n k : Int) : n.tmod k = 0 ↔ n % k = 0 := by rw [← Int.dvd_iff_tmod_eq_zero, Int.dvd_iff_emod_eq_zero]
/-- Is it an instruction? -/
def encB (op rd rs1 rs2 n : Int) : Bool := knownB op && regB rd (hasRd (opn op).kind) && regB rs1 (hasRs1 (opn op).kind) && regB rs2 (hasRs2 (opn op).kind) && mayN (opn op) n
def encN (op rd rs1 rs2 n : Int) : Int := laidN (opn op) n + rd * 128 + rs1 * 32768 + rs2 * 1048576
theorem tbl_ok : ∀ o ∈ tbl, o.ok := by
  have h : (tbl.all fun o => decide (1 ≤ o.kind ∧ o.kind ≤ 10 ∧ 0 ≤ o.code ∧ o.code < 128 ∧ 0 ≤ o.f3 ∧ o.f3 < 8 ∧ 0 ≤ o.f7 ∧ o.f7 < 128 ∧ (o.shift = 0 ∨ o.shift = 5 ∨ o.shift = 6) ∧ (o.shift ≠ 0 → o.kind = 2) ∧ (o.shift = 6 → o.f7 < 64) ∧ (o.kind = 2 ∨ o.kind = 3 → o.shift = 0 → o.f7 = 0) ∧ (o.kind = 6 ∨ o.kind = 7 → o.f3 = 0) ∧ (o.kind = 8 → o.f7 < 32))) = true := by decide
  intro o ho
  have := of_decide_eq_true (List.all_eq_true.1 h o ho)
  obtain ⟨h1, h2, h3, h4, h5, h6, h7, h8, h9, h10, h11, h12, h13, h14⟩ := this
  exact ⟨h1, h2, h3, h4, h5, h6, h7, h8, h9, h10, h11, h12, h13, h14⟩
theorem opn_ok (op : Int) (h : 1 ≤ op ∧ op ≤ 82) : (opn op).ok := by
  unfold opn
  rw [if_pos h]
  refine tbl_ok _ ?_
  have hl : (op - 1).toNat < tbl.length := by rw [tbl_length]; omega
  rw [List.getD_eq_getElem?_getD, List.getElem?_eq_getElem hl]
  exact List.getElem_mem hl
theorem kind_bd (op : Int) : 0 ≤ (opn op).kind ∧ (opn op).kind ≤ 10 := by
  by_cases h : 1 ≤ op ∧ op ≤ 82
  · have := opn_ok op h; exact ⟨by have := this.k0; omega, this.k1⟩
  · unfold opn; rw [if_neg h]; exact ⟨by decide, by decide⟩
theorem wrapRegs (a b c : Int) (h1 : 0 ≤ a ∧ a ≤ 31) (h2 : 0 ≤ b ∧ b ≤ 31) (h3 : 0 ≤ c ∧ c ≤ 31) : IntKind.u32.wrap a = a ∧ IntKind.u32.wrap b = b ∧ IntKind.u32.wrap c = c ∧ IntKind.u32.wrap (a * 128) = a * 128 ∧ IntKind.u32.wrap (b * 32768) = b * 32768 ∧ IntKind.u32.wrap (c * 1048576) = c * 1048576 := by
  simp only [IntKind.wrap_u32']
  omega
theorem regB_bd (r : Int) (h : Bool) (hr : regB r h = true) : 0 ≤ r ∧ r ≤ 31 := by
  simp only [regB, Bool.and_eq_true, decide_eq_true_eq] at hr
  exact hr.1
theorem regB_zero (r : Int) (hr : regB r false = true) : r = 0 := by
  simp [regB] at hr
  exact hr.2
theorem laid_parts (o : Opn) (n rd rs1 rs2 : Int) (ho : o.ok) (hm : mayN o n = true) (z1 : hasRd o.kind = false → rd = 0) (z2 : hasRs1 o.kind = false → rs1 = 0) (z3 : hasRs2 o.kind = false → rs2 = 0) :
    ∃ a0 a1 a2 a3 a4 : Int, laidN o n = a0 + a1 * 128 + a2 * 4096 + a3 * 1048576 + a4 * 33554432 ∧ 0 ≤ a0 ∧ a0 < 128 ∧ 0 ≤ a1 ∧ a1 < 32 ∧ 0 ≤ a2 ∧ 0 ≤ a3 ∧ 0 ≤ a4 ∧ a4 < 128 ∧ (rd = 0 ∨ a1 = 0) ∧ (rs1 = 0 ∨ a2 < 8) ∧ a2 < 256 ∧ (rs2 = 0 ∨ a3 = 0) ∧ a3 < 32 := by
  obtain ⟨k0, k1, c0, c1, f0, f1, g0, g1, s0, s1, s6, k2, k6, k8⟩ := ho
  obtain ⟨nm, k, c, f, g, s⟩ := o
  dsimp only at *
  rcases s0 with rfl | rfl | rfl
  · obtain rfl | rfl | rfl | rfl | rfl | rfl | rfl | rfl | rfl | rfl : k = 1 ∨ k = 2 ∨ k = 3 ∨ k = 4 ∨ k = 5 ∨ k = 6 ∨ k = 7 ∨ k = 8 ∨ k = 9 ∨ k = 10 := by omega
    · exact ⟨c, 0, f, 0, g, by simp [laidN, restN], by omega, by omega, by omega, by omega, by omega, by omega, by omega, by omega, Or.inr rfl, Or.inr f1, by omega, Or.inr rfl, by omega⟩
    · have hg := k2 (by simp) (by simp)
      exact ⟨c, 0, f, n % 32, n / 32 % 128, by simp [laidN, restN, hg]; omega, by omega, by omega, by omega, by omega, by omega, by omega, by omega, by omega, Or.inr rfl, Or.inr f1, by omega, Or.inl (z3 rfl), by omega⟩
    · have hg := k2 (by simp) (by simp)
      exact ⟨c, 0, f, n % 32, n / 32 % 128, by simp [laidN, restN, hg]; omega, by omega, by omega, by omega, by omega, by omega, by omega, by omega, by omega, Or.inr rfl, Or.inr f1, by omega, Or.inl (z3 rfl), by omega⟩
    · exact ⟨c, n % 32, f, 0, n / 32 % 128, by simp [laidN, restN]; omega, by omega, by omega, by omega, by omega, by omega, by omega, by omega, by omega, Or.inl (z1 rfl), Or.inr f1, by omega, Or.inr rfl, by omega⟩
    · exact ⟨c, n / 2048 % 2 + n / 2 % 16 * 2, f, 0, n / 32 % 64 + n / 4096 % 2 * 64, by simp [laidN, restN]; omega, by omega, by omega, by omega, by omega, by omega, by omega, by omega, by omega, Or.inl (z1 rfl), Or.inr f1, by omega, Or.inr rfl, by omega⟩
    · have hf := k6 (by simp)
      exact ⟨c, 0, n / 4096 % 256, n / 1048576 % 32, n / 33554432 % 128, by simp [laidN, restN, hf]; omega, by omega, by omega, by omega, by omega, by omega, by omega, by omega, by omega, Or.inr rfl, Or.inl (z2 rfl), by omega, Or.inl (z3 rfl), by omega⟩
    · have hf := k6 (by simp)
      exact ⟨c, 0, n / 4096 % 256, n / 2048 % 2 + n / 2 % 16 * 2, n / 32 % 64 + n / 1048576 % 2 * 64, by simp [laidN, restN, hf]; omega, by omega, by omega, by omega, by omega, by omega, by omega, by omega, by omega, Or.inr rfl, Or.inl (z2 rfl), by omega, Or.inl (z3 rfl), by omega⟩
    · have hg := k8 (by simp)
      exact ⟨c, 0, f, g, 127, by simp [laidN, restN]; omega, by omega, by omega, by omega, by omega, by omega, by omega, by omega, by omega, Or.inr rfl, Or.inr f1, by omega, Or.inl (z3 rfl), by omega⟩
    · exact ⟨c, 0, f, g % 32, g / 32, by simp [laidN, restN]; omega, by omega, by omega, by omega, by omega, by omega, by omega, by omega, by omega, Or.inr rfl, Or.inr f1, by omega, Or.inl (z3 rfl), by omega⟩
    · exact ⟨c, 1, f, 0, g, by simp [laidN, restN]; omega, by omega, by omega, by omega, by omega, by omega, by omega, by omega, by omega, Or.inl (z1 rfl), Or.inr f1, by omega, Or.inr rfl, by omega⟩
  · have hk := s1 (by decide)
    subst hk
    have hn : 0 ≤ n ∧ n < 32 := of_decide_eq_true hm
    exact ⟨c, 0, f, n, g, by simp [laidN, restN]; omega, by omega, by omega, by omega, by omega, by omega, by omega, by omega, by omega, Or.inr rfl, Or.inr f1, by omega, Or.inl (z3 rfl), by omega⟩
  · have hk := s1 (by decide)
    subst hk
    have hn : 0 ≤ n ∧ n < 64 := of_decide_eq_true hm
    have hg := s6 rfl
    exact ⟨c, 0, f, n % 32, n / 32 + g * 2, by simp [laidN, restN]; omega, by omega, by omega, by omega, by omega, by omega, by omega, by omega, by omega, Or.inr rfl, Or.inr f1, by omega, Or.inl (z3 rfl), by omega⟩
theorem or_zero32 (a : Int) (h0 : 0 ≤ a) (h1 : a < 4294967296) : Go.bits .or .u32 a 0 = a := by
  have := or_mid32 (a := a) (b := 0) 32 0 a 0 0 (by omega) (by omega) h0 (by omega) (by omega) (by omega) (by omega) h1 (by omega)
  omega
theorem enc_or (o : Opn) (n rd rs1 rs2 : Int) (ho : o.ok) (hm : mayN o n = true) (r1 : regB rd (hasRd o.kind) = true) (r2 : regB rs1 (hasRs1 o.kind) = true) (r3 : regB rs2 (hasRs2 o.kind) = true) :
    Go.bits .or .u32 (Go.bits .or .u32 (Go.bits .or .u32 (laidN o n) (rd * 128)) (rs1 * 32768)) (rs2 * 1048576) = laidN o n + rd * 128 + rs1 * 32768 + rs2 * 1048576 := by
  have b1 := regB_bd _ _ r1
  have b2 := regB_bd _ _ r2
  have b3 := regB_bd _ _ r3
  obtain ⟨a0, a1, a2, a3, a4, e, h1, h2, h3, h4, h5, h6, h7, h8, h9, h10, h11, h12, h13⟩ := laid_parts o n rd rs1 rs2 ho hm (fun h => by rw [h] at r1; exact regB_zero _ r1) (fun h => by rw [h] at r2; exact regB_zero _ r2) (fun h => by rw [h] at r3; exact regB_zero _ r3)
  clear r1 r2 r3 hm ho
  rw [e]
  clear e
  have e1 : Go.bits .or .u32 (a0 + a1 * 128 + a2 * 4096 + a3 * 1048576 + a4 * 33554432) (rd * 128) = a0 + a1 * 128 + a2 * 4096 + a3 * 1048576 + a4 * 33554432 + rd * 128 := by
    rcases h9 with h | h
    · rw [h, Int.zero_mul, or_zero32 _ (by omega) (by omega)]; omega
    · exact or_mid32 7 5 a0 (a2 + a3 * 256 + a4 * 8192) rd (by omega) (by omega) (by omega) (by omega) (by omega) (by omega) (by omega) (by omega) (by omega)
  rw [e1]
  have e2 : Go.bits .or .u32 (a0 + a1 * 128 + a2 * 4096 + a3 * 1048576 + a4 * 33554432 + rd * 128) (rs1 * 32768) = a0 + a1 * 128 + a2 * 4096 + a3 * 1048576 + a4 * 33554432 + rd * 128 + rs1 * 32768 := by
    rcases h10 with h | h
    · rw [h, Int.zero_mul, or_zero32 _ (by omega) (by omega)]; omega
    · refine or_mid32 15 5 (a0 + a1 * 128 + a2 * 4096 + rd * 128) (a3 + a4 * 32) rs1 (by omega) (by omega) (by omega) ?_ (by omega) (by omega) (by omega) (by omega) (by omega)
      rcases h9 with h | h <;> omega
  rw [e2]
  rcases h12 with h | h
  · rw [h, Int.zero_mul, or_zero32 _ (by omega) (by omega)]; omega
  · refine or_mid32 20 5 (a0 + a1 * 128 + a2 * 4096 + rd * 128 + rs1 * 32768) a4 rs2 (by omega) (by omega) (by omega) ?_ (by omega) (by omega) (by omega) (by omega) (by omega)
    rcases h9 with h | h <;> rcases h10 with h' | h' <;> omega
-- ENCODE
def encV (op rd rs1 rs2 n : Int) : Int := if encB op rd rs1 rs2 n = true then encN op rd rs1 rs2 n else 0
def encE (op rd rs1 rs2 n : Int) : Int := if encB op rd rs1 rs2 n = true then 0 else 1
/-- What an instruction's number holds where a register may stand. -/
def fieldN (h : Bool) (x f : Int) : Int := if h = true then bitsN x f 5 else 0
def hitB (op x : Int) : Bool := decide (x % 128 = (opn op).code) && (encE op (fieldN (hasRd (opn op).kind) x 7) (fieldN (hasRs1 (opn op).kind) x 15) (fieldN (hasRs2 (opn op).kind) x 20) (immN (opn op) x) == 0)
  && (encV op (fieldN (hasRd (opn op).kind) x 7) (fieldN (hasRs1 (opn op).kind) x 15) (fieldN (hasRs2 (opn op).kind) x 20) (immN (opn op) x) == x)
theorem imm_bd (o : Opn) (x : Int) (ho : o.ok) : -9223372036854775808 ≤ immN o x ∧ immN o x ≤ 9223372036854775807 := by
  have sg : ∀ (y m : Int), 1 ≤ m → m ≤ 32 → -9223372036854775808 ≤ sgnN y m ∧ sgnN y m ≤ 9223372036854775807 := by
    intro y m h1 h2
    have hp := pow_le32 m.toNat (by omega)
    unfold sgnN
    have h : (0 : Int) < 2 ^ m.toNat := Int.pow_pos (by decide)
    have h3 := Int.emod_nonneg y (Int.ne_of_gt h)
    have h4 := Int.emod_lt_of_pos y h
    split <;> omega
  unfold immN
  have hs : o.shift = 0 ∨ o.shift = 5 ∨ o.shift = 6 := ho.s0
  split
  · split
    · have hb := bitsN_bd x 20 o.shift
      rcases hs with h | h | h <;> rw [h] at hb ⊢ <;> simp at hb <;> omega
    · exact sg _ _ (by decide) (by decide)
  · split
    · exact sg _ _ (by decide) (by decide)
    · split
      · exact sg _ _ (by decide) (by decide)
      · split
        · exact sg _ _ (by decide) (by decide)
        · split
          · exact sg _ _ (by decide) (by decide)
          · decide
theorem opn_nat (j : Nat) (h : j < 82) : opn ((j : Int) + 1) = tbl[j]'(by rw [tbl_length]; exact h) := by
  unfold opn
  rw [if_pos (by omega), List.getD_eq_getElem?_getD, show ((j : Int) + 1 - 1).toNat = j by omega, List.getElem?_eq_getElem (by rw [tbl_length]; exact h)]
  rfl
/-- The number of the name's operation: 0, if there is none. -/
def findN (s : List UInt8) : Int := match tbl.findIdx? (fun o => o.name == s) with | some i => (i : Int) + 1 | none => 0
theorem findN_hit (s : List UInt8) (k : Nat) (hk : k < 82) (h : (opn ((k : Int) + 1)).name = s) (hno : ∀ j : Nat, j < k → (opn ((j : Int) + 1)).name ≠ s) : findN s = (k : Int) + 1 := by
  have e : tbl.findIdx? (fun o => o.name == s) = some k := by
    rw [List.findIdx?_eq_some_iff_getElem]
    refine ⟨by rw [tbl_length]; exact hk, ?_, fun j hj => ?_⟩
    · rw [opn_nat k hk] at h; simpa using h
    · have := hno j hj
      rw [opn_nat j (by omega)] at this
      simpa using this
  unfold findN
  rw [e]
theorem findN_none (s : List UInt8) (hno : ∀ j : Nat, j < 82 → (opn ((j : Int) + 1)).name ≠ s) : findN s = 0 := by
  have e : tbl.findIdx? (fun o => o.name == s) = none := by
    rw [List.findIdx?_eq_none_iff]
    intro o ho
    obtain ⟨j, hj, rfl⟩ := List.getElem_of_mem ho
    rw [tbl_length] at hj
    have := hno j hj
    rw [opn_nat j hj] at this
    simpa using this
  unfold findN
  rw [e]
theorem hit_no {op x : Int} (h : ¬ x % 128 = (opn op).code) : hitB op x = false := by simp [hitB, h]
theorem nohit_step {k : Nat} {x : Int} (h : ∀ j : Nat, j < k → hitB ((j : Int) + 1) x = false) (h1 : hitB ((k : Int) + 1) x = false) : ∀ j : Nat, j < k + 1 → hitB ((j : Int) + 1) x = false := fun j hj => by
  rcases Nat.lt_or_ge j k with h' | h'
  · exact h j h'
  · obtain rfl : j = k := by omega
    exact h1
end Go.Proofs.YtbnmhhbncggjkaaGreatDoor
