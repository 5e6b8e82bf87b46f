/- Layer 4, walks: Encode told whole; Find; Decode. Conditions: the numbers are of their kinds. -/
import Derived.Test.YtnnalefglpnoaaaIsaF
import Derived.Outline
set_option linter.unusedVariables false
set_option linter.unusedSimpArgs false
namespace Go.Proofs.Ytnnalefglpnoaaa
open Go.RowKit Wd
def encV (op rd rs1 rs2 n : Int) : Int := if encB op rd rs1 rs2 n = true then encN op rd rs1 rs2 n else 0
def encE (op rd rs1 rs2 n : Int) : Int := if encB op rd rs1 rs2 n = true then 0 else 1
theorem Encode_calls (op rd rs1 rs2 n : Int) (w : World) (hn0 : -9223372036854775808 ≤ n) (hn1 : n ≤ 9223372036854775807) :
    Calls Try.prog 12 #[.agg #[.int .i64 op, .int .i64 rd, .int .i64 rs1, .int .i64 rs2, .int .i64 n]] w fun e w' => e = .returned (.tuple #[.int .u32 (encV op rd rs1 rs2 n), .int .i64 (encE op rd rs1 rs2 n)]) ∧ Below w.heap.size w w' := by
  unfold encV encE encB
  cases hk : knownB op
  · simpa using Encode_no1 op rd rs1 rs2 n w hk
  · cases h1 : regB rd (hasRd (opn op).kind)
    · simpa using Encode_no2 op rd rs1 rs2 n w hk h1
    · cases h2 : regB rs1 (hasRs1 (opn op).kind)
      · simpa using Encode_no3 op rd rs1 rs2 n w hk h1 h2
      · cases h3 : regB rs2 (hasRs2 (opn op).kind)
        · simpa using Encode_no4 op rd rs1 rs2 n w hk h1 h2 h3
        · cases hm : mayN (opn op) n
          · simpa using Encode_no5 op rd rs1 rs2 n w hk h1 h2 h3 hn0 hn1 hm
          · simpa using Encode_yes op rd rs1 rs2 n w hk h1 h2 h3 hn0 hn1 hm
/-- What an instruction's number holds where a register may stand. -/
def fieldN (h : Bool) (x f : Int) : Int := if h = true then bitsN x f 5 else 0
def hitB (op x : Int) : Bool := decide (x % 128 = (opn op).code) && (encE op (fieldN (hasRd (opn op).kind) x 7) (fieldN (hasRs1 (opn op).kind) x 15) (fieldN (hasRs2 (opn op).kind) x 20) (immN (opn op) x) == 0)
  && (encV op (fieldN (hasRd (opn op).kind) x 7) (fieldN (hasRs1 (opn op).kind) x 15) (fieldN (hasRs2 (opn op).kind) x 20) (immN (opn op) x) == x)
def zeroInst : List Value := instCells 0 0 0 0 0
theorem imm_bd (o : Opn) (x : Int) (ho : o.ok) : -9223372036854775808 ≤ immN o x ∧ immN o x ≤ 9223372036854775807 := by
  have sg : ∀ (y m : Int), 1 ≤ m → m ≤ 32 → -9223372036854775808 ≤ sgnN y m ∧ sgnN y m ≤ 9223372036854775807 := by
    intro y m h1 h2
    have hp := pow_le32 m.toNat (by omega)
    unfold sgnN
    have h : (0 : Int) < 2 ^ m.toNat := Int.pow_pos (by decide)
    have h3 := Int.emod_nonneg y (Int.ne_of_gt h)
    have h4 := Int.emod_lt_of_pos y h
    split <;> omega
  unfold immN
  have hs : o.shift = 0 ∨ o.shift = 5 ∨ o.shift = 6 := ho.s0
  split
  · split
    · have hb := bitsN_bd x 20 o.shift
      rcases hs with h | h | h <;> rw [h] at hb ⊢ <;> simp at hb <;> omega
    · exact sg _ _ (by decide) (by decide)
  · split
    · exact sg _ _ (by decide) (by decide)
    · split
      · exact sg _ _ (by decide) (by decide)
      · split
        · exact sg _ _ (by decide) (by decide)
        · split
          · exact sg _ _ (by decide) (by decide)
          · decide
theorem opn_nat (j : Nat) (h : j < 82) : opn ((j : Int) + 1) = tbl[j]'(by rw [tbl_length]; exact h) := by
  unfold opn
  rw [if_pos (by omega), List.getD_eq_getElem?_getD, show ((j : Int) + 1 - 1).toNat = j by omega, List.getElem?_eq_getElem (by rw [tbl_length]; exact h)]
  rfl
/-- The number of the name's operation: 0, if there is none. -/
def findN (s : ByteArray) : Int := match tbl.findIdx? (fun o => o.name.toList == s.toList) with | some i => (i : Int) + 1 | none => 0
theorem findN_hit (s : ByteArray) (k : Nat) (hk : k < 82) (h : (opn ((k : Int) + 1)).name.toList = s.toList) (hno : ∀ j : Nat, j < k → (opn ((j : Int) + 1)).name.toList ≠ s.toList) : findN s = (k : Int) + 1 := by
  have e : tbl.findIdx? (fun o => o.name.toList == s.toList) = some k := by
    rw [List.findIdx?_eq_some_iff_getElem]
    refine ⟨by rw [tbl_length]; exact hk, ?_, fun j hj => ?_⟩
    · rw [opn_nat k hk] at h; simpa using h
    · have := hno j hj
      rw [opn_nat j (by omega)] at this
      simpa using this
  unfold findN
  rw [e]
theorem findN_none (s : ByteArray) (hno : ∀ j : Nat, j < 82 → (opn ((j : Int) + 1)).name.toList ≠ s.toList) : findN s = 0 := by
  have e : tbl.findIdx? (fun o => o.name.toList == s.toList) = none := by
    rw [List.findIdx?_eq_none_iff]
    intro o ho
    obtain ⟨j, hj, rfl⟩ := List.getElem_of_mem ho
    rw [tbl_length] at hj
    have := hno j hj
    rw [opn_nat j hj] at this
    simpa using this
  unfold findN
  rw [e]
set_option maxRecDepth 100000 in
set_option maxHeartbeats 1000000 in
theorem Find_calls (s : ByteArray) (w : World) : Calls Try.prog 17 #[.string s] w fun e w' => e = .returned (.int .i64 (findN s)) ∧ Below w.heap.size w w' := by
  go_enter Try.func17, Try.ntmps17
  go_wp2_with (go_at_call 20; refine (operations_calls _).mono ?_; rintro e w1 ⟨rfl, hb1⟩)
  go_loopw [6] (fun i wr => ∃ k : Nat, k ≤ 82 ∧ i = .int .i64 k ∧ Below w.heap.size w wr ∧ ∀ j : Nat, j < k → (opn ((j : Int) + 1)).name.toList ≠ s.toList) (fun i _ => 82 - (intOf i).toNat)
  case atStart => exact ⟨0, by omega, rfl, hb1, fun j hj => absurd hj (by omega)⟩
  case round =>
    obtain ⟨k, hk, rfl, hb, hno⟩ := hrel
    have HN := Lib.hid hno
    clear hno
    by_cases hlt : k < 82
    · have hix := index_tbl (k : Int) (by omega) (by omega)
      go_wp2
      · have h := (by assumption : ((opn ((k : Int) + 1)).name.toList == s.toList) = true)
        go_ret
        exact ⟨ret_int (findN_hit s k hlt (by simpa using h) HN.out).symm, below_alloc hb _⟩
      · have h := (by assumption : ((opn ((k : Int) + 1)).name.toList == s.toList) = false)
        refine ⟨⟨k + 1, by omega, by go_num, below_alloc hb _, fun j hj => ?_⟩, by simp [intOf]; omega⟩
        rcases Nat.lt_or_ge j k with hj' | hj'
        · exact HN.out j hj'
        · obtain rfl : j = k := by omega
          simpa using h
    · obtain rfl : k = 82 := by omega
      go_wp2
      go_ret
      exact ⟨ret_int (findN_none s HN.out).symm, hb⟩
end Go.Proofs.Ytnnalefglpnoaaa
