/- Layer 4, plain: what is encoded is decoded to itself. Conditions: it is an instruction. -/
import Derived.Test.YtnnalefglpnoaaaIsaP
import Derived.Test.YtnnalefglpnoaaaIsaAw
set_option linter.unusedVariables false
set_option linter.unusedSimpArgs false
namespace Go.Proofs.Ytnnalefglpnoaaa
open Go.RowKit Wd
/-- Two operations are told apart by what is fixed in their numbers. -/
def apartB (a b : Opn) : Bool := (a.code != b.code) || (a.kind != 6 && a.kind != 7 && b.kind != 6 && b.kind != 7 && a.f3 != b.f3) || (decide (0 ≤ t26 a) && decide (0 ≤ t26 b) && t26 a != t26 b) || (decide (0 ≤ t25 a) && decide (0 ≤ t25 b) && t25 a != t25 b) || (decide (0 ≤ t20 a) && decide (0 ≤ t20 b) && t20 a != t20 b)
theorem all_apart : ((List.range 82).all fun i => (List.range 82).all fun j => (i == j) || apartB (opn ((i : Int) + 1)) (opn ((j : Int) + 1))) = true := by decide +kernel
theorem encB_parts {op rd rs1 rs2 n : Int} (h : encB op rd rs1 rs2 n = true) : (1 ≤ op ∧ op ≤ 82) ∧ Enc (opn op) rd rs1 rs2 n (encN op rd rs1 rs2 n) := by
  simp only [encB, Bool.and_eq_true] at h
  obtain ⟨⟨⟨⟨h1, h2⟩, h3⟩, h4⟩, h5⟩ := h
  have hb := known_lo op h1
  exact ⟨hb, enc_props (opn op) rd rs1 rs2 n (opn_ok op hb) h5 h2 h3 h4⟩
theorem enc_unique {op rd rs1 rs2 n op' rd' rs1' rs2' n' : Int} (h : encB op rd rs1 rs2 n = true) (h' : encB op' rd' rs1' rs2' n' = true) (e : encN op rd rs1 rs2 n = encN op' rd' rs1' rs2' n') : op = op' := by
  obtain ⟨b, p⟩ := encB_parts h
  obtain ⟨b', p'⟩ := encB_parts h'
  rw [← e] at p'
  generalize encN op rd rs1 rs2 n = X at *
  have h1 := List.all_eq_true.1 (List.all_eq_true.1 all_apart (op - 1).toNat (List.mem_range.2 (by omega))) (op' - 1).toNat (List.mem_range.2 (by omega))
  rw [show (((op - 1).toNat : Nat) : Int) + 1 = op by omega, show (((op' - 1).toNat : Nat) : Int) + 1 = op' by omega] at h1
  rw [Bool.or_eq_true] at h1
  rcases h1 with h1 | h1
  · have := eq_of_beq h1
    omega
  · exfalso
    simp only [apartB, Bool.or_eq_true, Bool.and_eq_true, bne_iff_ne, ne_eq, decide_eq_true_eq] at h1
    rcases h1 with (((h1 | ⟨⟨⟨⟨a1, a2⟩, a3⟩, a4⟩, a5⟩) | ⟨⟨a1, a2⟩, a3⟩) | ⟨⟨a1, a2⟩, a3⟩) | ⟨⟨a1, a2⟩, a3⟩
    · exact h1 (p.code.symm.trans p'.code)
    · exact a5 ((p.f3 a1 a2).symm.trans (p'.f3 a3 a4))
    · exact a3 ((p.b26 a1).symm.trans (p'.b26 a2))
    · exact a3 ((p.b25 a1).symm.trans (p'.b25 a2))
    · exact a3 ((p.b20 a1).symm.trans (p'.b20 a2))
theorem encE_zero {op rd rs1 rs2 n : Int} : encE op rd rs1 rs2 n = 0 ↔ encB op rd rs1 rs2 n = true := by
  unfold encE
  split <;> simp [*]
theorem encV_of {op rd rs1 rs2 n : Int} (h : encB op rd rs1 rs2 n = true) : encV op rd rs1 rs2 n = encN op rd rs1 rs2 n := by
  unfold encV
  rw [if_pos h]
theorem encV_no {op rd rs1 rs2 n : Int} (h : encB op rd rs1 rs2 n = false) : encV op rd rs1 rs2 n = 0 ∧ encE op rd rs1 rs2 n = 1 := by
  unfold encV encE
  rw [h]
  exact ⟨rfl, rfl⟩
/-- The number hits its own operation, with its own registers and number. -/
theorem hit_self {op rd rs1 rs2 n : Int} (h : encB op rd rs1 rs2 n = true) : hitB op (encN op rd rs1 rs2 n) = true := by
  obtain ⟨b, p⟩ := encB_parts h
  simp only [hitB, Bool.and_eq_true, beq_iff_eq, decide_eq_true_eq]
  rw [p.rd, p.rs1, p.rs2, p.imm]
  exact ⟨⟨p.code, encE_zero.2 h⟩, encV_of h⟩
theorem hit_only {op rd rs1 rs2 n j : Int} (h : encB op rd rs1 rs2 n = true) (hj : hitB j (encN op rd rs1 rs2 n) = true) : j = op := by
  obtain ⟨e1, e2⟩ := hit_enc hj
  have h1 := encE_zero.1 e1
  rw [encV_of h1] at e2
  exact enc_unique h1 h e2
theorem Decode_enc (op rd rs1 rs2 n : Int) (w : World) (h : encB op rd rs1 rs2 n = true) : Calls Try.prog 10 #[.int .u32 (encN op rd rs1 rs2 n)] w fun e w' => e = .returned (.tuple #[.agg #[.int .i64 op, .int .i64 rd, .int .i64 rs1, .int .i64 rs2, .int .i64 n], .int .i64 0]) ∧ Below w.heap.size w w' := by
  obtain ⟨b, p⟩ := encB_parts h
  refine (Decode_calls _ w p.lo p.hi).mono ?_
  rintro e w' (⟨k, hk, hh, hno, rfl, hb⟩ | ⟨hno, rfl, hb⟩)
  · have e1 := hit_only h hh
    rw [e1, p.rd, p.rs1, p.rs2, p.imm]
    exact ⟨rfl, hb⟩
  · have h1 := hno (op - 1).toNat (by omega)
    rw [show (((op - 1).toNat : Nat) : Int) + 1 = op by omega, hit_self h] at h1
    cases h1
end Go.Proofs.Ytnnalefglpnoaaa
