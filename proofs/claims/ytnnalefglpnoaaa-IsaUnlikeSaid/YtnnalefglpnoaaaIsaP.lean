/- Layer 4, plain: an instruction's number reads back; no two operations share one. Conditions: it is an instruction. -/
import Derived.Test.YtnnalefglpnoaaaIsaG
set_option linter.unusedVariables false
set_option linter.unusedSimpArgs false
namespace Go.Proofs.Ytnnalefglpnoaaa
open Go.RowKit Wd
def t26 (o : Opn) : Int := if o.kind = 1 ∨ o.kind = 10 then o.f7 / 2 else if o.kind = 8 then 63 else if o.kind = 9 then o.f7 / 64 else if o.kind = 2 ∧ o.shift = 5 then o.f7 / 2 else if o.kind = 2 ∧ o.shift = 6 then o.f7 else -1
def t25 (o : Opn) : Int := if o.kind = 1 ∨ o.kind = 10 then o.f7 else if o.kind = 8 then 127 else if o.kind = 9 then o.f7 / 32 else if o.kind = 2 ∧ o.shift = 5 then o.f7 else -1
def t20 (o : Opn) : Int := if o.kind = 8 then o.f7 else if o.kind = 9 then o.f7 % 32 else -1
theorem sgn12 (y : Int) : sgnN y 12 = if y % 4096 < 2048 then y % 4096 else y % 4096 - 4096 := rfl
theorem sgn13 (y : Int) : sgnN y 13 = if y % 8192 < 4096 then y % 8192 else y % 8192 - 8192 := rfl
theorem sgn21 (y : Int) : sgnN y 21 = if y % 2097152 < 1048576 then y % 2097152 else y % 2097152 - 2097152 := rfl
theorem sgn32 (y : Int) : sgnN y 32 = if y % 4294967296 < 2147483648 then y % 4294967296 else y % 4294967296 - 4294967296 := rfl
theorem field7 (h : Bool) (x : Int) : fieldN h x 7 = if h = true then x / 128 % 32 else 0 := rfl
theorem field15 (h : Bool) (x : Int) : fieldN h x 15 = if h = true then x / 32768 % 32 else 0 := rfl
theorem field20 (h : Bool) (x : Int) : fieldN h x 20 = if h = true then x / 1048576 % 32 else 0 := rfl
theorem bits5 (x : Int) : bitsN x 20 5 = x / 1048576 % 32 := rfl
theorem bits6 (x : Int) : bitsN x 20 6 = x / 1048576 % 64 := rfl
structure Enc (o : Opn) (rd rs1 rs2 n X : Int) : Prop where
  lo : 0 ≤ X
  hi : X < 4294967296
  code : X % 128 = o.code
  f3 : o.kind ≠ 6 → o.kind ≠ 7 → X / 4096 % 8 = o.f3
  b26 : 0 ≤ t26 o → X / 67108864 = t26 o
  b25 : 0 ≤ t25 o → X / 33554432 = t25 o
  b20 : 0 ≤ t20 o → X / 1048576 % 32 = t20 o
  rd : fieldN (hasRd o.kind) X 7 = rd
  rs1 : fieldN (hasRs1 o.kind) X 15 = rs1
  rs2 : fieldN (hasRs2 o.kind) X 20 = rs2
  imm : immN o X = n
set_option maxHeartbeats 4000000 in
theorem enc_props (o : Opn) (rd rs1 rs2 n : Int) (ho : o.ok) (hm : mayN o n = true) (r1 : regB rd (hasRd o.kind) = true) (r2 : regB rs1 (hasRs1 o.kind) = true) (r3 : regB rs2 (hasRs2 o.kind) = true) :
    Enc o rd rs1 rs2 n (laidN o n + rd * 128 + rs1 * 32768 + rs2 * 1048576) := by
  have b1 := regB_bd _ _ r1
  have b2 := regB_bd _ _ r2
  have b3 := regB_bd _ _ r3
  have z1 : hasRd o.kind = false → rd = 0 := fun h => by rw [h] at r1; exact regB_zero _ r1
  have z2 : hasRs1 o.kind = false → rs1 = 0 := fun h => by rw [h] at r2; exact regB_zero _ r2
  have z3 : hasRs2 o.kind = false → rs2 = 0 := fun h => by rw [h] at r3; exact regB_zero _ r3
  clear r1 r2 r3
  obtain ⟨k0, k1, c0, c1, f0, f1, g0, g1, s0, s1, s6, k2, k6, k8⟩ := ho
  obtain ⟨nm, k, c, f, g, s⟩ := o
  dsimp only at *
  have fin : ∀ (kk ss : Int), k = kk → s = ss → True := fun _ _ _ _ => trivial
  rcases s0 with rfl | rfl | rfl
  · obtain rfl | rfl | rfl | rfl | rfl | rfl | rfl | rfl | rfl | rfl : k = 1 ∨ k = 2 ∨ k = 3 ∨ k = 4 ∨ k = 5 ∨ k = 6 ∨ k = 7 ∨ k = 8 ∨ k = 9 ∨ k = 10 := by omega
    · simp [hasRd, hasRs1, hasRs2, mayN] at z1 z2 z3 hm k2 k6 k8
      constructor <;> simp [laidN, restN, t26, t25, t20, field7, field15, field20, hasRd, hasRs1, hasRs2, immN, sgn12, sgn13, sgn21, sgn32] <;> omega
    · simp [hasRd, hasRs1, hasRs2, mayN] at z1 z2 z3 hm k2 k6 k8
      constructor <;> simp [laidN, restN, t26, t25, t20, field7, field15, field20, hasRd, hasRs1, hasRs2, immN, sgn12, sgn13, sgn21, sgn32] <;> omega
    · simp [hasRd, hasRs1, hasRs2, mayN] at z1 z2 z3 hm k2 k6 k8
      constructor <;> simp [laidN, restN, t26, t25, t20, field7, field15, field20, hasRd, hasRs1, hasRs2, immN, sgn12, sgn13, sgn21, sgn32] <;> omega
    · simp [hasRd, hasRs1, hasRs2, mayN] at z1 z2 z3 hm k2 k6 k8
      have e : n % 4096 = n % 32 + 32 * (n / 32 % 128) := by omega
      have p1 : 0 ≤ n % 32 ∧ n % 32 < 32 := by omega
      have q1 : 0 ≤ n / 32 % 128 ∧ n / 32 % 128 < 128 := by omega
      have e2 : n = n % 4096 ∨ n = n % 4096 - 4096 := by omega
      constructor <;> simp [laidN, restN, t26, t25, t20, field7, field15, field20, hasRd, hasRs1, hasRs2, immN, sgn12]
      all_goals
        generalize n % 32 = p at *
        generalize n / 32 % 128 = q at *
        generalize n % 4096 = m at *
        first
          | omega
          | (generalize hX : c + f * 4096 + (p * 128 + q * 33554432) + rd * 128 + rs1 * 32768 + rs2 * 1048576 = X at *; have h0 : X / 33554432 % 128 = q := (by omega); have h1 : X / 128 % 32 = p := (by omega); rw [h0, h1]; omega)
    · simp [hasRd, hasRs1, hasRs2, mayN] at z1 z2 z3 hm k2 k6 k8
      have e : n % 8192 = n / 4096 % 2 * 4096 + n / 2048 % 2 * 2048 + n / 32 % 64 * 32 + n / 2 % 16 * 2 := by omega
      have p1 : 0 ≤ n / 4096 % 2 ∧ n / 4096 % 2 < 2 := by omega
      have p2 : 0 ≤ n / 2048 % 2 ∧ n / 2048 % 2 < 2 := by omega
      have p3 : 0 ≤ n / 32 % 64 ∧ n / 32 % 64 < 64 := by omega
      have p4 : 0 ≤ n / 2 % 16 ∧ n / 2 % 16 < 16 := by omega
      have e2 : n = n % 8192 ∨ n = n % 8192 - 8192 := by omega
      constructor <;> simp [laidN, restN, t26, t25, t20, field7, field15, field20, hasRd, hasRs1, hasRs2, immN, sgn13]
      all_goals
        generalize n / 4096 % 2 = p at *
        generalize n / 2048 % 2 = q at *
        generalize n / 32 % 64 = r at *
        generalize n / 2 % 16 = t at *
        generalize n % 8192 = m at *
        first
          | omega
          | (generalize hX : c + f * 4096 + (p * 2147483648 + r * 33554432 + t * 256 + q * 128) + rd * 128 + rs1 * 32768 + rs2 * 1048576 = X at *; have h0 : X / 2147483648 % 2 = p := (by omega); have h1 : X / 33554432 % 64 = r := (by omega); have h2 : X / 256 % 16 = t := (by omega); have h3 : X / 128 % 2 = q := (by omega); rw [h0, h1, h2, h3]; omega)
    · simp [hasRd, hasRs1, hasRs2, mayN] at z1 z2 z3 hm k2 k6 k8
      constructor <;> simp [laidN, restN, t26, t25, t20, field7, field15, field20, hasRd, hasRs1, hasRs2, immN, sgn12, sgn13, sgn21, sgn32] <;> omega
    · simp [hasRd, hasRs1, hasRs2, mayN] at z1 z2 z3 hm k2 k6 k8
      have e : n % 2097152 = n / 1048576 % 2 * 1048576 + n / 4096 % 256 * 4096 + n / 2048 % 2 * 2048 + n / 2 % 1024 * 2 := by omega
      have p1 : 0 ≤ n / 1048576 % 2 ∧ n / 1048576 % 2 < 2 := by omega
      have p2 : 0 ≤ n / 4096 % 256 ∧ n / 4096 % 256 < 256 := by omega
      have p3 : 0 ≤ n / 2048 % 2 ∧ n / 2048 % 2 < 2 := by omega
      have p4 : 0 ≤ n / 2 % 1024 ∧ n / 2 % 1024 < 1024 := by omega
      have e2 : n = n % 2097152 ∨ n = n % 2097152 - 2097152 := by omega
      constructor <;> simp [laidN, restN, t26, t25, t20, field7, field15, field20, hasRd, hasRs1, hasRs2, immN, sgn21]
      all_goals
        generalize n / 1048576 % 2 = p at *
        generalize n / 4096 % 256 = q at *
        generalize n / 2048 % 2 = r at *
        generalize n / 2 % 1024 = t at *
        generalize n % 2097152 = m at *
        first
          | omega
          | (generalize hX : c + f * 4096 + (p * 2147483648 + t * 2097152 + r * 1048576 + q * 4096) + rd * 128 + rs1 * 32768 + rs2 * 1048576 = X at *; have h0 : X / 2147483648 % 2 = p := (by omega); have h1 : X / 2097152 % 1024 = t := (by omega); have h2 : X / 1048576 % 2 = r := (by omega); have h3 : X / 4096 % 256 = q := (by omega); rw [h0, h1, h2, h3]; omega)
    · simp [hasRd, hasRs1, hasRs2, mayN] at z1 z2 z3 hm k2 k6 k8
      constructor <;> simp [laidN, restN, t26, t25, t20, field7, field15, field20, hasRd, hasRs1, hasRs2, immN, sgn12, sgn13, sgn21, sgn32] <;> omega
    · simp [hasRd, hasRs1, hasRs2, mayN] at z1 z2 z3 hm k2 k6 k8
      constructor <;> simp [laidN, restN, t26, t25, t20, field7, field15, field20, hasRd, hasRs1, hasRs2, immN, sgn12, sgn13, sgn21, sgn32] <;> omega
    · simp [hasRd, hasRs1, hasRs2, mayN] at z1 z2 z3 hm k2 k6 k8
      constructor <;> simp [laidN, restN, t26, t25, t20, field7, field15, field20, hasRd, hasRs1, hasRs2, immN, sgn12, sgn13, sgn21, sgn32] <;> omega
  · have hk := s1 (by decide)
    subst hk
    have hn : 0 ≤ n ∧ n < 32 := of_decide_eq_true hm
    simp [hasRd, hasRs1, hasRs2] at z1 z2 z3
    constructor <;> simp [laidN, restN, t26, t25, t20, field7, field15, field20, hasRd, hasRs1, hasRs2, immN, bits5] <;> omega
  · have hk := s1 (by decide)
    subst hk
    have hn : 0 ≤ n ∧ n < 64 := of_decide_eq_true hm
    have hg := s6 rfl
    simp [hasRd, hasRs1, hasRs2] at z1 z2 z3
    constructor <;> simp [laidN, restN, t26, t25, t20, field7, field15, field20, hasRd, hasRs1, hasRs2, immN, bits6] <;> omega
end Go.Proofs.Ytnnalefglpnoaaa
