/- Layer 4, walks: Encode. Conditions: the instruction's number is an int64. -/
import Derived.Test.YtnnalefglpnoaaaIsaE
import Derived.Test.YtnnalefglpnoaaaSeq
set_option linter.unusedVariables false
set_option linter.unusedSimpArgs false
namespace Go.Proofs.Ytnnalefglpnoaaa
open Go.RowKit Wd
/-- Is it an instruction? -/
def encB (op rd rs1 rs2 n : Int) : Bool := knownB op && regB rd (hasRd (opn op).kind) && regB rs1 (hasRs1 (opn op).kind) && regB rs2 (hasRs2 (opn op).kind) && mayN (opn op) n
def encN (op rd rs1 rs2 n : Int) : Int := laidN (opn op) n + rd * 128 + rs1 * 32768 + rs2 * 1048576
theorem tbl_ok : ∀ o ∈ tbl, o.ok := by
  have h : (tbl.all fun o => decide (1 ≤ o.kind ∧ o.kind ≤ 10 ∧ 0 ≤ o.code ∧ o.code < 128 ∧ 0 ≤ o.f3 ∧ o.f3 < 8 ∧ 0 ≤ o.f7 ∧ o.f7 < 128 ∧ (o.shift = 0 ∨ o.shift = 5 ∨ o.shift = 6) ∧ (o.shift ≠ 0 → o.kind = 2) ∧ (o.shift = 6 → o.f7 < 64) ∧ (o.kind = 2 ∨ o.kind = 3 → o.shift = 0 → o.f7 = 0) ∧ (o.kind = 6 ∨ o.kind = 7 → o.f3 = 0) ∧ (o.kind = 8 → o.f7 < 32))) = true := by decide
  intro o ho
  have := of_decide_eq_true (List.all_eq_true.1 h o ho)
  obtain ⟨h1, h2, h3, h4, h5, h6, h7, h8, h9, h10, h11, h12, h13, h14⟩ := this
  exact ⟨h1, h2, h3, h4, h5, h6, h7, h8, h9, h10, h11, h12, h13, h14⟩
theorem opn_ok (op : Int) (h : 1 ≤ op ∧ op ≤ 82) : (opn op).ok := by
  unfold opn
  rw [if_pos h]
  refine tbl_ok _ ?_
  have hl : (op - 1).toNat < tbl.length := by rw [tbl_length]; omega
  rw [List.getD_eq_getElem?_getD, List.getElem?_eq_getElem hl]
  exact List.getElem_mem hl
theorem kind_bd (op : Int) : 0 ≤ (opn op).kind ∧ (opn op).kind ≤ 10 := by
  by_cases h : 1 ≤ op ∧ op ≤ 82
  · have := opn_ok op h; exact ⟨by have := this.k0; omega, this.k1⟩
  · unfold opn; rw [if_neg h]; exact ⟨by decide, by decide⟩
/-- An instruction's cells. -/
def instCells (op rd rs1 rs2 n : Int) : List Value := [.int .i64 op, .int .i64 rd, .int .i64 rs1, .int .i64 rs2, .int .i64 n]
/-- What is held through a walk over an instruction: its box, and that nothing that was there has changed. -/
structure HeldI (g : Nat) (op rd rs1 rs2 n : Int) (w W : World) : Prop where
  box : Blk W g (instCells op rd rs1 rs2 n) 25
  low : Below w.heap.size w W
  new : w.heap.size ≤ g
section
variable {g : Nat} {op rd rs1 rs2 n : Int} {w W W1 : World}
theorem HeldI.step (h : HeldI g op rd rs1 rs2 n w W) (hb : Below W.heap.size W W1) : HeldI g op rd rs1 rs2 n w W1 := ⟨h.box.below hb, below_trans h.low hb, h.new⟩
theorem HeldI.drew (h : HeldI g op rd rs1 rs2 n w W) : HeldI g op rd rs1 rs2 n w W.drew := ⟨h.box.drew, h.low.drew, h.new⟩
theorem HeldI.S (h : HeldI g op rd rs1 rs2 n w W) : W.cell? ⟨g, 0, none⟩ = some (.int .i64 op) ∧ W.cell? ⟨g, 1, none⟩ = some (.int .i64 rd) ∧ W.cell? ⟨g, 2, none⟩ = some (.int .i64 rs1) ∧ W.cell? ⟨g, 3, none⟩ = some (.int .i64 rs2) ∧ W.cell? ⟨g, 4, none⟩ = some (.int .i64 n) ∧ HeldI g op rd rs1 rs2 n w W :=
  ⟨(h.box.cell 0).trans rfl, (h.box.cell 1).trans rfl, (h.box.cell 2).trans rfl, (h.box.cell 3).trans rfl, (h.box.cell 4).trans rfl, h⟩
end
theorem wrapRegs (a b c : Int) (h1 : 0 ≤ a ∧ a ≤ 31) (h2 : 0 ≤ b ∧ b ≤ 31) (h3 : 0 ≤ c ∧ c ≤ 31) : IntKind.u32.wrap a = a ∧ IntKind.u32.wrap b = b ∧ IntKind.u32.wrap c = c ∧ IntKind.u32.wrap (a * 128) = a * 128 ∧ IntKind.u32.wrap (b * 32768) = b * 32768 ∧ IntKind.u32.wrap (c * 1048576) = c * 1048576 := by
  simp only [IntKind.wrap_u32']
  omega
theorem regB_bd (r : Int) (h : Bool) (hr : regB r h = true) : 0 ≤ r ∧ r ≤ 31 := by
  simp only [regB, Bool.and_eq_true, decide_eq_true_eq] at hr
  exact hr.1
theorem regB_zero (r : Int) (hr : regB r false = true) : r = 0 := by
  simp [regB] at hr
  exact hr.2
theorem laid_parts (o : Opn) (n rd rs1 rs2 : Int) (ho : o.ok) (hm : mayN o n = true) (z1 : hasRd o.kind = false → rd = 0) (z2 : hasRs1 o.kind = false → rs1 = 0) (z3 : hasRs2 o.kind = false → rs2 = 0) :
    ∃ a0 a1 a2 a3 a4 : Int, laidN o n = a0 + a1 * 128 + a2 * 4096 + a3 * 1048576 + a4 * 33554432 ∧ 0 ≤ a0 ∧ a0 < 128 ∧ 0 ≤ a1 ∧ a1 < 32 ∧ 0 ≤ a2 ∧ 0 ≤ a3 ∧ 0 ≤ a4 ∧ a4 < 128 ∧ (rd = 0 ∨ a1 = 0) ∧ (rs1 = 0 ∨ a2 < 8) ∧ a2 < 256 ∧ (rs2 = 0 ∨ a3 = 0) ∧ a3 < 32 := by
  obtain ⟨k0, k1, c0, c1, f0, f1, g0, g1, s0, s1, s6, k2, k6, k8⟩ := ho
  obtain ⟨nm, k, c, f, g, s⟩ := o
  dsimp only at *
  rcases s0 with rfl | rfl | rfl
  · obtain rfl | rfl | rfl | rfl | rfl | rfl | rfl | rfl | rfl | rfl : k = 1 ∨ k = 2 ∨ k = 3 ∨ k = 4 ∨ k = 5 ∨ k = 6 ∨ k = 7 ∨ k = 8 ∨ k = 9 ∨ k = 10 := by omega
    · exact ⟨c, 0, f, 0, g, by simp [laidN, restN], by omega, by omega, by omega, by omega, by omega, by omega, by omega, by omega, Or.inr rfl, Or.inr f1, by omega, Or.inr rfl, by omega⟩
    · have hg := k2 (by simp) (by simp)
      exact ⟨c, 0, f, n % 32, n / 32 % 128, by simp [laidN, restN, hg]; omega, by omega, by omega, by omega, by omega, by omega, by omega, by omega, by omega, Or.inr rfl, Or.inr f1, by omega, Or.inl (z3 rfl), by omega⟩
    · have hg := k2 (by simp) (by simp)
      exact ⟨c, 0, f, n % 32, n / 32 % 128, by simp [laidN, restN, hg]; omega, by omega, by omega, by omega, by omega, by omega, by omega, by omega, by omega, Or.inr rfl, Or.inr f1, by omega, Or.inl (z3 rfl), by omega⟩
    · exact ⟨c, n % 32, f, 0, n / 32 % 128, by simp [laidN, restN]; omega, by omega, by omega, by omega, by omega, by omega, by omega, by omega, by omega, Or.inl (z1 rfl), Or.inr f1, by omega, Or.inr rfl, by omega⟩
    · exact ⟨c, n / 2048 % 2 + n / 2 % 16 * 2, f, 0, n / 32 % 64 + n / 4096 % 2 * 64, by simp [laidN, restN]; omega, by omega, by omega, by omega, by omega, by omega, by omega, by omega, by omega, Or.inl (z1 rfl), Or.inr f1, by omega, Or.inr rfl, by omega⟩
    · have hf := k6 (by simp)
      exact ⟨c, 0, n / 4096 % 256, n / 1048576 % 32, n / 33554432 % 128, by simp [laidN, restN, hf]; omega, by omega, by omega, by omega, by omega, by omega, by omega, by omega, by omega, Or.inr rfl, Or.inl (z2 rfl), by omega, Or.inl (z3 rfl), by omega⟩
    · have hf := k6 (by simp)
      exact ⟨c, 0, n / 4096 % 256, n / 2048 % 2 + n / 2 % 16 * 2, n / 32 % 64 + n / 1048576 % 2 * 64, by simp [laidN, restN, hf]; omega, by omega, by omega, by omega, by omega, by omega, by omega, by omega, by omega, Or.inr rfl, Or.inl (z2 rfl), by omega, Or.inl (z3 rfl), by omega⟩
    · have hg := k8 (by simp)
      exact ⟨c, 0, f, g, 127, by simp [laidN, restN]; omega, by omega, by omega, by omega, by omega, by omega, by omega, by omega, by omega, Or.inr rfl, Or.inr f1, by omega, Or.inl (z3 rfl), by omega⟩
    · exact ⟨c, 0, f, g % 32, g / 32, by simp [laidN, restN]; omega, by omega, by omega, by omega, by omega, by omega, by omega, by omega, by omega, Or.inr rfl, Or.inr f1, by omega, Or.inl (z3 rfl), by omega⟩
    · exact ⟨c, 1, f, 0, g, by simp [laidN, restN]; omega, by omega, by omega, by omega, by omega, by omega, by omega, by omega, by omega, Or.inl (z1 rfl), Or.inr f1, by omega, Or.inr rfl, by omega⟩
  · have hk := s1 (by decide)
    subst hk
    have hn : 0 ≤ n ∧ n < 32 := of_decide_eq_true hm
    exact ⟨c, 0, f, n, g, by simp [laidN, restN]; omega, by omega, by omega, by omega, by omega, by omega, by omega, by omega, by omega, Or.inr rfl, Or.inr f1, by omega, Or.inl (z3 rfl), by omega⟩
  · have hk := s1 (by decide)
    subst hk
    have hn : 0 ≤ n ∧ n < 64 := of_decide_eq_true hm
    have hg := s6 rfl
    exact ⟨c, 0, f, n % 32, n / 32 + g * 2, by simp [laidN, restN]; omega, by omega, by omega, by omega, by omega, by omega, by omega, by omega, by omega, Or.inr rfl, Or.inr f1, by omega, Or.inl (z3 rfl), by omega⟩
theorem or_zero32 (a : Int) (h0 : 0 ≤ a) (h1 : a < 4294967296) : Go.bits .or .u32 a 0 = a := by
  have := or_mid32 (a := a) (b := 0) 32 0 a 0 0 (by omega) (by omega) h0 (by omega) (by omega) (by omega) (by omega) h1 (by omega)
  omega
theorem enc_or (o : Opn) (n rd rs1 rs2 : Int) (ho : o.ok) (hm : mayN o n = true) (r1 : regB rd (hasRd o.kind) = true) (r2 : regB rs1 (hasRs1 o.kind) = true) (r3 : regB rs2 (hasRs2 o.kind) = true) :
    Go.bits .or .u32 (Go.bits .or .u32 (Go.bits .or .u32 (laidN o n) (rd * 128)) (rs1 * 32768)) (rs2 * 1048576) = laidN o n + rd * 128 + rs1 * 32768 + rs2 * 1048576 := by
  have b1 := regB_bd _ _ r1
  have b2 := regB_bd _ _ r2
  have b3 := regB_bd _ _ r3
  obtain ⟨a0, a1, a2, a3, a4, e, h1, h2, h3, h4, h5, h6, h7, h8, h9, h10, h11, h12, h13⟩ := laid_parts o n rd rs1 rs2 ho hm (fun h => by rw [h] at r1; exact regB_zero _ r1) (fun h => by rw [h] at r2; exact regB_zero _ r2) (fun h => by rw [h] at r3; exact regB_zero _ r3)
  clear r1 r2 r3 hm ho
  rw [e]
  clear e
  have e1 : Go.bits .or .u32 (a0 + a1 * 128 + a2 * 4096 + a3 * 1048576 + a4 * 33554432) (rd * 128) = a0 + a1 * 128 + a2 * 4096 + a3 * 1048576 + a4 * 33554432 + rd * 128 := by
    rcases h9 with h | h
    · rw [h, Int.zero_mul, or_zero32 _ (by omega) (by omega)]; omega
    · exact or_mid32 7 5 a0 (a2 + a3 * 256 + a4 * 8192) rd (by omega) (by omega) (by omega) (by omega) (by omega) (by omega) (by omega) (by omega) (by omega)
  rw [e1]
  have e2 : Go.bits .or .u32 (a0 + a1 * 128 + a2 * 4096 + a3 * 1048576 + a4 * 33554432 + rd * 128) (rs1 * 32768) = a0 + a1 * 128 + a2 * 4096 + a3 * 1048576 + a4 * 33554432 + rd * 128 + rs1 * 32768 := by
    rcases h10 with h | h
    · rw [h, Int.zero_mul, or_zero32 _ (by omega) (by omega)]; omega
    · refine or_mid32 15 5 (a0 + a1 * 128 + a2 * 4096 + rd * 128) (a3 + a4 * 32) rs1 (by omega) (by omega) (by omega) ?_ (by omega) (by omega) (by omega) (by omega) (by omega)
      rcases h9 with h | h <;> omega
  rw [e2]
  rcases h12 with h | h
  · rw [h, Int.zero_mul, or_zero32 _ (by omega) (by omega)]; omega
  · refine or_mid32 20 5 (a0 + a1 * 128 + a2 * 4096 + rd * 128 + rs1 * 32768) a4 rs2 (by omega) (by omega) (by omega) ?_ (by omega) (by omega) (by omega) (by omega) (by omega)
    rcases h9 with h | h <;> rcases h10 with h' | h' <;> omega
-- ENCODE
set_option maxRecDepth 100000 in
set_option maxHeartbeats 4000000 in
theorem Encode_no1 (op rd rs1 rs2 n : Int) (w : World) (hk : knownB op = false) :
    Calls Try.prog 12 #[.agg #[.int .i64 op, .int .i64 rd, .int .i64 rs1, .int .i64 rs2, .int .i64 n]] w fun e w' => e = .returned (.tuple #[.int .u32 0, .int .i64 1]) ∧ Below w.heap.size w w' := by
  have HK := Lib.hid hk
  clear hk
  have KB := Lib.hid (kind_bd op)
  go_enter Try.func12, Try.ntmps12
  go_wp2_with (first
    | (refine ev_new rfl (N := 1) rfl (instCells op rd rs1 rs2 n) 25 (by kernel_rfl) ?_; intro g w1 hg hB hb hlt; have H1 := HeldI.mk hB hb hg; have c0 : w1.cell? ⟨g, 0, none⟩ = some (.int .i64 op) := (hB.cell 0).trans rfl)
    | (go_at_call 16; refine (Kind_calls _ _).mono ?_; rintro e w2 ⟨rfl, hb2⟩; have H2 := H1.step hb2)
    | (go_at_call 22; refine (has_calls _ _ KB.out.1 KB.out.2).mono ?_; rintro e w3 ⟨rfl, rfl⟩))
  clear c0
  refine region_seq (fun W => HeldI g op rd rs1 rs2 n w W) H2.drew [(0, some 15, true), (1, some 16, true), (2, some 17, false), (3, some 18, true), (4, some 19, true), (5, some 20, true), (6, some 21, true), (7, some 22, true), (8, some 23, false), (9, some 24, true), (10, some 25, true), (11, some 26, true), (12, some 27, true), (13, some 28, true), (14, some 29, true), (15, some 30, false), (16, some 31, true), (17, some 32, true), (18, some 33, true), (19, some 34, true), (20, some 35, true), (21, some 36, true), (22, some 37, false), (23, some 38, true), (24, some 39, true), (25, some 40, true), (27, some 42, true), (28, some 43, true), (29, some 44, true), (31, some 46, true), (32, some 47, true), (26, some 41, false), (30, some 45, true), (33, some 48, false), (34, some 49, true), (35, some 50, true)] (by kernel_rfl) (by kernel_rfl) (fun _ _ d _ _ h => by cases d <;> exact h) (by kernel_rfl) (by kernel_rfl) ?_
  intro w3 H3
  obtain ⟨d0, d1, d2, d3, d4, -⟩ := H3.S
  have hlt3 := H3.box.lt
  have hb0 := Below.refl w3.heap.size w3
  iterate 2 (refine seq_take (v := ?_) rfl ?_ ?_ ?_; rotate_left; rfl; (intro W hW; go_simp; with_reducible rfl); refine seq_norm (a' := ?_) ?_ ?_; rotate_left; (simp only [Act.put, List.setIfInBounds_toArray, List.set_cons_zero, List.set_cons_succ]; rfl))
  (refine seq_call rfl rfl 28 #[.int .i64 op] ?_ ?_ (known_calls op _) (by assumption) ?_ ?_; rfl; go_simp; exact fun _ h => h; intro w4 hb4 hB4; refine seq_norm (a' := ?_) ?_ ?_; rotate_left; (simp only [Act.put, List.setIfInBounds_toArray, List.set_cons_zero, List.set_cons_succ]; rfl))
  rw [HK.out]
  iterate 2 (refine seq_take (v := ?_) rfl ?_ ?_ ?_; rotate_left; rfl; (intro W hW; go_simp; with_reducible rfl); refine seq_norm (a' := ?_) ?_ ?_; rotate_left; (simp only [Act.put, List.setIfInBounds_toArray, List.set_cons_zero, List.set_cons_succ]; rfl))
  iterate 3 (refine seq_skip rfl ?_ ?_; rfl; refine seq_norm (a' := ?_) ?_ ?_; rotate_left; (simp only [Act.put, List.setIfInBounds_toArray, List.set_cons_zero, List.set_cons_succ]; rfl))
  (refine seq_pass rfl ?_ (by assumption) ?_; rfl; refine seq_norm (a' := ?_) ?_ ?_; rotate_left; (simp only [Act.put, List.setIfInBounds_toArray, List.set_cons_zero, List.set_cons_succ]; rfl))
  (refine seq_skip rfl ?_ ?_; rfl; refine seq_norm (a' := ?_) ?_ ?_; rotate_left; (simp only [Act.put, List.setIfInBounds_toArray, List.set_cons_zero, List.set_cons_succ]; rfl))
  iterate 2 (refine seq_take (v := ?_) rfl ?_ ?_ ?_; rotate_left; rfl; (intro W hW; go_simp; with_reducible rfl); refine seq_norm (a' := ?_) ?_ ?_; rotate_left; (simp only [Act.put, List.setIfInBounds_toArray, List.set_cons_zero, List.set_cons_succ]; rfl))
  iterate 3 (refine seq_skip rfl ?_ ?_; rfl; refine seq_norm (a' := ?_) ?_ ?_; rotate_left; (simp only [Act.put, List.setIfInBounds_toArray, List.set_cons_zero, List.set_cons_succ]; rfl))
  (refine seq_pass rfl ?_ (by assumption) ?_; rfl; refine seq_norm (a' := ?_) ?_ ?_; rotate_left; (simp only [Act.put, List.setIfInBounds_toArray, List.set_cons_zero, List.set_cons_succ]; rfl))
  (refine seq_skip rfl ?_ ?_; rfl; refine seq_norm (a' := ?_) ?_ ?_; rotate_left; (simp only [Act.put, List.setIfInBounds_toArray, List.set_cons_zero, List.set_cons_succ]; rfl))
  iterate 2 (refine seq_take (v := ?_) rfl ?_ ?_ ?_; rotate_left; rfl; (intro W hW; go_simp; with_reducible rfl); refine seq_norm (a' := ?_) ?_ ?_; rotate_left; (simp only [Act.put, List.setIfInBounds_toArray, List.set_cons_zero, List.set_cons_succ]; rfl))
  iterate 3 (refine seq_skip rfl ?_ ?_; rfl; refine seq_norm (a' := ?_) ?_ ?_; rotate_left; (simp only [Act.put, List.setIfInBounds_toArray, List.set_cons_zero, List.set_cons_succ]; rfl))
  (refine seq_pass rfl ?_ (by assumption) ?_; rfl; refine seq_norm (a' := ?_) ?_ ?_; rotate_left; (simp only [Act.put, List.setIfInBounds_toArray, List.set_cons_zero, List.set_cons_succ]; rfl))
  (refine seq_skip rfl ?_ ?_; rfl; refine seq_norm (a' := ?_) ?_ ?_; rotate_left; (simp only [Act.put, List.setIfInBounds_toArray, List.set_cons_zero, List.set_cons_succ]; rfl))
  iterate 2 (refine seq_take (v := ?_) rfl ?_ ?_ ?_; rotate_left; rfl; (intro W hW; go_simp; with_reducible rfl); refine seq_norm (a' := ?_) ?_ ?_; rotate_left; (simp only [Act.put, List.setIfInBounds_toArray, List.set_cons_zero, List.set_cons_succ]; rfl))
  iterate 5 (refine seq_skip rfl ?_ ?_; rfl; refine seq_norm (a' := ?_) ?_ ?_; rotate_left; (simp only [Act.put, List.setIfInBounds_toArray, List.set_cons_zero, List.set_cons_succ]; rfl))
  (refine seq_pass rfl ?_ (by assumption) ?_; rfl; refine seq_norm (a' := ?_) ?_ ?_; rotate_left; (simp only [Act.put, List.setIfInBounds_toArray, List.set_cons_zero, List.set_cons_succ]; rfl))
  (refine seq_skip rfl ?_ ?_; rfl; refine seq_norm (a' := ?_) ?_ ?_; rotate_left; (simp only [Act.put, List.setIfInBounds_toArray, List.set_cons_zero, List.set_cons_succ]; rfl))
  (refine seq_pass rfl ?_ (by assumption) ?_; rfl; refine seq_norm (a' := ?_) ?_ ?_; rotate_left; (simp only [Act.put, List.setIfInBounds_toArray, List.set_cons_zero, List.set_cons_succ]; rfl))
  (refine seq_skip rfl ?_ ?_; rfl; refine seq_norm (a' := ?_) ?_ ?_; rotate_left; (simp only [Act.put, List.setIfInBounds_toArray, List.set_cons_zero, List.set_cons_succ]; rfl))
  (refine seq_take (v := ?_) rfl ?_ ?_ ?_; rotate_left; rfl; (intro W hW; go_simp; with_reducible rfl); refine seq_norm (a' := ?_) ?_ ?_; rotate_left; (simp only [Act.put, List.setIfInBounds_toArray, List.set_cons_zero, List.set_cons_succ]; rfl))
  refine seq_done ?_
  go_wp2
  go_ret2
  exact ⟨rfl, below_trans H3.low (by assumption)⟩
set_option maxRecDepth 100000 in
set_option maxHeartbeats 4000000 in
theorem Encode_no2 (op rd rs1 rs2 n : Int) (w : World) (hk : knownB op = true) (r1 : regB rd (hasRd (opn op).kind) = false) :
    Calls Try.prog 12 #[.agg #[.int .i64 op, .int .i64 rd, .int .i64 rs1, .int .i64 rs2, .int .i64 n]] w fun e w' => e = .returned (.tuple #[.int .u32 0, .int .i64 1]) ∧ Below w.heap.size w w' := by
  have HK := Lib.hid hk
  clear hk
  have HR1 := Lib.hid r1
  clear r1
  have KB := Lib.hid (kind_bd op)
  go_enter Try.func12, Try.ntmps12
  go_wp2_with (first
    | (refine ev_new rfl (N := 1) rfl (instCells op rd rs1 rs2 n) 25 (by kernel_rfl) ?_; intro g w1 hg hB hb hlt; have H1 := HeldI.mk hB hb hg; have c0 : w1.cell? ⟨g, 0, none⟩ = some (.int .i64 op) := (hB.cell 0).trans rfl)
    | (go_at_call 16; refine (Kind_calls _ _).mono ?_; rintro e w2 ⟨rfl, hb2⟩; have H2 := H1.step hb2)
    | (go_at_call 22; refine (has_calls _ _ KB.out.1 KB.out.2).mono ?_; rintro e w3 ⟨rfl, rfl⟩))
  clear c0
  refine region_seq (fun W => HeldI g op rd rs1 rs2 n w W) H2.drew [(0, some 15, true), (1, some 16, true), (2, some 17, false), (3, some 18, true), (4, some 19, true), (5, some 20, true), (6, some 21, true), (7, some 22, true), (8, some 23, false), (9, some 24, true), (10, some 25, true), (11, some 26, true), (12, some 27, true), (13, some 28, true), (14, some 29, true), (15, some 30, false), (16, some 31, true), (17, some 32, true), (18, some 33, true), (19, some 34, true), (20, some 35, true), (21, some 36, true), (22, some 37, false), (23, some 38, true), (24, some 39, true), (25, some 40, true), (27, some 42, true), (28, some 43, true), (29, some 44, true), (31, some 46, true), (32, some 47, true), (26, some 41, false), (30, some 45, true), (33, some 48, false), (34, some 49, true), (35, some 50, true)] (by kernel_rfl) (by kernel_rfl) (fun _ _ d _ _ h => by cases d <;> exact h) (by kernel_rfl) (by kernel_rfl) ?_
  intro w3 H3
  obtain ⟨d0, d1, d2, d3, d4, -⟩ := H3.S
  have hlt3 := H3.box.lt
  have hb0 := Below.refl w3.heap.size w3
  iterate 2 (refine seq_take (v := ?_) rfl ?_ ?_ ?_; rotate_left; rfl; (intro W hW; go_simp; with_reducible rfl); refine seq_norm (a' := ?_) ?_ ?_; rotate_left; (simp only [Act.put, List.setIfInBounds_toArray, List.set_cons_zero, List.set_cons_succ]; rfl))
  (refine seq_call rfl rfl 28 #[.int .i64 op] ?_ ?_ (known_calls op _) (by assumption) ?_ ?_; rfl; go_simp; exact fun _ h => h; intro w4 hb4 hB4; refine seq_norm (a' := ?_) ?_ ?_; rotate_left; (simp only [Act.put, List.setIfInBounds_toArray, List.set_cons_zero, List.set_cons_succ]; rfl))
  rw [HK.out]
  iterate 5 (refine seq_take (v := ?_) rfl ?_ ?_ ?_; rotate_left; rfl; (intro W hW; go_simp; with_reducible rfl); refine seq_norm (a' := ?_) ?_ ?_; rotate_left; (simp only [Act.put, List.setIfInBounds_toArray, List.set_cons_zero, List.set_cons_succ]; rfl))
  (refine seq_call rfl rfl 29 #[.int .i64 rd, .bool (hasRd (opn op).kind)] ?_ ?_ (register_calls rd (hasRd (opn op).kind) _) (by assumption) ?_ ?_; rfl; go_simp; (rintro w' rfl; exact Below.refl _ _); rintro w4 rfl hB4; refine seq_norm (a' := ?_) ?_ ?_; rotate_left; (simp only [Act.put, List.setIfInBounds_toArray, List.set_cons_zero, List.set_cons_succ]; rfl))
  rw [HR1.out]
  iterate 3 (refine seq_take (v := ?_) rfl ?_ ?_ ?_; rotate_left; rfl; (intro W hW; go_simp; with_reducible rfl); refine seq_norm (a' := ?_) ?_ ?_; rotate_left; (simp only [Act.put, List.setIfInBounds_toArray, List.set_cons_zero, List.set_cons_succ]; rfl))
  iterate 3 (refine seq_skip rfl ?_ ?_; rfl; refine seq_norm (a' := ?_) ?_ ?_; rotate_left; (simp only [Act.put, List.setIfInBounds_toArray, List.set_cons_zero, List.set_cons_succ]; rfl))
  (refine seq_pass rfl ?_ (by assumption) ?_; rfl; refine seq_norm (a' := ?_) ?_ ?_; rotate_left; (simp only [Act.put, List.setIfInBounds_toArray, List.set_cons_zero, List.set_cons_succ]; rfl))
  (refine seq_skip rfl ?_ ?_; rfl; refine seq_norm (a' := ?_) ?_ ?_; rotate_left; (simp only [Act.put, List.setIfInBounds_toArray, List.set_cons_zero, List.set_cons_succ]; rfl))
  iterate 2 (refine seq_take (v := ?_) rfl ?_ ?_ ?_; rotate_left; rfl; (intro W hW; go_simp; with_reducible rfl); refine seq_norm (a' := ?_) ?_ ?_; rotate_left; (simp only [Act.put, List.setIfInBounds_toArray, List.set_cons_zero, List.set_cons_succ]; rfl))
  iterate 3 (refine seq_skip rfl ?_ ?_; rfl; refine seq_norm (a' := ?_) ?_ ?_; rotate_left; (simp only [Act.put, List.setIfInBounds_toArray, List.set_cons_zero, List.set_cons_succ]; rfl))
  (refine seq_pass rfl ?_ (by assumption) ?_; rfl; refine seq_norm (a' := ?_) ?_ ?_; rotate_left; (simp only [Act.put, List.setIfInBounds_toArray, List.set_cons_zero, List.set_cons_succ]; rfl))
  (refine seq_skip rfl ?_ ?_; rfl; refine seq_norm (a' := ?_) ?_ ?_; rotate_left; (simp only [Act.put, List.setIfInBounds_toArray, List.set_cons_zero, List.set_cons_succ]; rfl))
  iterate 2 (refine seq_take (v := ?_) rfl ?_ ?_ ?_; rotate_left; rfl; (intro W hW; go_simp; with_reducible rfl); refine seq_norm (a' := ?_) ?_ ?_; rotate_left; (simp only [Act.put, List.setIfInBounds_toArray, List.set_cons_zero, List.set_cons_succ]; rfl))
  iterate 5 (refine seq_skip rfl ?_ ?_; rfl; refine seq_norm (a' := ?_) ?_ ?_; rotate_left; (simp only [Act.put, List.setIfInBounds_toArray, List.set_cons_zero, List.set_cons_succ]; rfl))
  (refine seq_pass rfl ?_ (by assumption) ?_; rfl; refine seq_norm (a' := ?_) ?_ ?_; rotate_left; (simp only [Act.put, List.setIfInBounds_toArray, List.set_cons_zero, List.set_cons_succ]; rfl))
  (refine seq_skip rfl ?_ ?_; rfl; refine seq_norm (a' := ?_) ?_ ?_; rotate_left; (simp only [Act.put, List.setIfInBounds_toArray, List.set_cons_zero, List.set_cons_succ]; rfl))
  (refine seq_pass rfl ?_ (by assumption) ?_; rfl; refine seq_norm (a' := ?_) ?_ ?_; rotate_left; (simp only [Act.put, List.setIfInBounds_toArray, List.set_cons_zero, List.set_cons_succ]; rfl))
  (refine seq_skip rfl ?_ ?_; rfl; refine seq_norm (a' := ?_) ?_ ?_; rotate_left; (simp only [Act.put, List.setIfInBounds_toArray, List.set_cons_zero, List.set_cons_succ]; rfl))
  (refine seq_take (v := ?_) rfl ?_ ?_ ?_; rotate_left; rfl; (intro W hW; go_simp; with_reducible rfl); refine seq_norm (a' := ?_) ?_ ?_; rotate_left; (simp only [Act.put, List.setIfInBounds_toArray, List.set_cons_zero, List.set_cons_succ]; rfl))
  refine seq_done ?_
  go_wp2
  go_ret2
  exact ⟨rfl, below_trans H3.low (by assumption)⟩
set_option maxRecDepth 100000 in
set_option maxHeartbeats 4000000 in
theorem Encode_no3 (op rd rs1 rs2 n : Int) (w : World) (hk : knownB op = true) (r1 : regB rd (hasRd (opn op).kind) = true) (r2 : regB rs1 (hasRs1 (opn op).kind) = false) :
    Calls Try.prog 12 #[.agg #[.int .i64 op, .int .i64 rd, .int .i64 rs1, .int .i64 rs2, .int .i64 n]] w fun e w' => e = .returned (.tuple #[.int .u32 0, .int .i64 1]) ∧ Below w.heap.size w w' := by
  have HK := Lib.hid hk
  clear hk
  have HR1 := Lib.hid r1
  clear r1
  have HR2 := Lib.hid r2
  clear r2
  have KB := Lib.hid (kind_bd op)
  go_enter Try.func12, Try.ntmps12
  go_wp2_with (first
    | (refine ev_new rfl (N := 1) rfl (instCells op rd rs1 rs2 n) 25 (by kernel_rfl) ?_; intro g w1 hg hB hb hlt; have H1 := HeldI.mk hB hb hg; have c0 : w1.cell? ⟨g, 0, none⟩ = some (.int .i64 op) := (hB.cell 0).trans rfl)
    | (go_at_call 16; refine (Kind_calls _ _).mono ?_; rintro e w2 ⟨rfl, hb2⟩; have H2 := H1.step hb2)
    | (go_at_call 22; refine (has_calls _ _ KB.out.1 KB.out.2).mono ?_; rintro e w3 ⟨rfl, rfl⟩))
  clear c0
  refine region_seq (fun W => HeldI g op rd rs1 rs2 n w W) H2.drew [(0, some 15, true), (1, some 16, true), (2, some 17, false), (3, some 18, true), (4, some 19, true), (5, some 20, true), (6, some 21, true), (7, some 22, true), (8, some 23, false), (9, some 24, true), (10, some 25, true), (11, some 26, true), (12, some 27, true), (13, some 28, true), (14, some 29, true), (15, some 30, false), (16, some 31, true), (17, some 32, true), (18, some 33, true), (19, some 34, true), (20, some 35, true), (21, some 36, true), (22, some 37, false), (23, some 38, true), (24, some 39, true), (25, some 40, true), (27, some 42, true), (28, some 43, true), (29, some 44, true), (31, some 46, true), (32, some 47, true), (26, some 41, false), (30, some 45, true), (33, some 48, false), (34, some 49, true), (35, some 50, true)] (by kernel_rfl) (by kernel_rfl) (fun _ _ d _ _ h => by cases d <;> exact h) (by kernel_rfl) (by kernel_rfl) ?_
  intro w3 H3
  obtain ⟨d0, d1, d2, d3, d4, -⟩ := H3.S
  have hlt3 := H3.box.lt
  have hb0 := Below.refl w3.heap.size w3
  iterate 2 (refine seq_take (v := ?_) rfl ?_ ?_ ?_; rotate_left; rfl; (intro W hW; go_simp; with_reducible rfl); refine seq_norm (a' := ?_) ?_ ?_; rotate_left; (simp only [Act.put, List.setIfInBounds_toArray, List.set_cons_zero, List.set_cons_succ]; rfl))
  (refine seq_call rfl rfl 28 #[.int .i64 op] ?_ ?_ (known_calls op _) (by assumption) ?_ ?_; rfl; go_simp; exact fun _ h => h; intro w4 hb4 hB4; refine seq_norm (a' := ?_) ?_ ?_; rotate_left; (simp only [Act.put, List.setIfInBounds_toArray, List.set_cons_zero, List.set_cons_succ]; rfl))
  rw [HK.out]
  iterate 5 (refine seq_take (v := ?_) rfl ?_ ?_ ?_; rotate_left; rfl; (intro W hW; go_simp; with_reducible rfl); refine seq_norm (a' := ?_) ?_ ?_; rotate_left; (simp only [Act.put, List.setIfInBounds_toArray, List.set_cons_zero, List.set_cons_succ]; rfl))
  (refine seq_call rfl rfl 29 #[.int .i64 rd, .bool (hasRd (opn op).kind)] ?_ ?_ (register_calls rd (hasRd (opn op).kind) _) (by assumption) ?_ ?_; rfl; go_simp; (rintro w' rfl; exact Below.refl _ _); rintro w4 rfl hB4; refine seq_norm (a' := ?_) ?_ ?_; rotate_left; (simp only [Act.put, List.setIfInBounds_toArray, List.set_cons_zero, List.set_cons_succ]; rfl))
  rw [HR1.out]
  iterate 6 (refine seq_take (v := ?_) rfl ?_ ?_ ?_; rotate_left; rfl; (intro W hW; go_simp; with_reducible rfl); refine seq_norm (a' := ?_) ?_ ?_; rotate_left; (simp only [Act.put, List.setIfInBounds_toArray, List.set_cons_zero, List.set_cons_succ]; rfl))
  (refine seq_call rfl rfl 29 #[.int .i64 rs1, .bool (hasRs1 (opn op).kind)] ?_ ?_ (register_calls rs1 (hasRs1 (opn op).kind) _) (by assumption) ?_ ?_; rfl; go_simp; (rintro w' rfl; exact Below.refl _ _); rintro w4 rfl hB4; refine seq_norm (a' := ?_) ?_ ?_; rotate_left; (simp only [Act.put, List.setIfInBounds_toArray, List.set_cons_zero, List.set_cons_succ]; rfl))
  rw [HR2.out]
  iterate 3 (refine seq_take (v := ?_) rfl ?_ ?_ ?_; rotate_left; rfl; (intro W hW; go_simp; with_reducible rfl); refine seq_norm (a' := ?_) ?_ ?_; rotate_left; (simp only [Act.put, List.setIfInBounds_toArray, List.set_cons_zero, List.set_cons_succ]; rfl))
  iterate 3 (refine seq_skip rfl ?_ ?_; rfl; refine seq_norm (a' := ?_) ?_ ?_; rotate_left; (simp only [Act.put, List.setIfInBounds_toArray, List.set_cons_zero, List.set_cons_succ]; rfl))
  (refine seq_pass rfl ?_ (by assumption) ?_; rfl; refine seq_norm (a' := ?_) ?_ ?_; rotate_left; (simp only [Act.put, List.setIfInBounds_toArray, List.set_cons_zero, List.set_cons_succ]; rfl))
  (refine seq_skip rfl ?_ ?_; rfl; refine seq_norm (a' := ?_) ?_ ?_; rotate_left; (simp only [Act.put, List.setIfInBounds_toArray, List.set_cons_zero, List.set_cons_succ]; rfl))
  iterate 2 (refine seq_take (v := ?_) rfl ?_ ?_ ?_; rotate_left; rfl; (intro W hW; go_simp; with_reducible rfl); refine seq_norm (a' := ?_) ?_ ?_; rotate_left; (simp only [Act.put, List.setIfInBounds_toArray, List.set_cons_zero, List.set_cons_succ]; rfl))
  iterate 5 (refine seq_skip rfl ?_ ?_; rfl; refine seq_norm (a' := ?_) ?_ ?_; rotate_left; (simp only [Act.put, List.setIfInBounds_toArray, List.set_cons_zero, List.set_cons_succ]; rfl))
  (refine seq_pass rfl ?_ (by assumption) ?_; rfl; refine seq_norm (a' := ?_) ?_ ?_; rotate_left; (simp only [Act.put, List.setIfInBounds_toArray, List.set_cons_zero, List.set_cons_succ]; rfl))
  (refine seq_skip rfl ?_ ?_; rfl; refine seq_norm (a' := ?_) ?_ ?_; rotate_left; (simp only [Act.put, List.setIfInBounds_toArray, List.set_cons_zero, List.set_cons_succ]; rfl))
  (refine seq_pass rfl ?_ (by assumption) ?_; rfl; refine seq_norm (a' := ?_) ?_ ?_; rotate_left; (simp only [Act.put, List.setIfInBounds_toArray, List.set_cons_zero, List.set_cons_succ]; rfl))
  (refine seq_skip rfl ?_ ?_; rfl; refine seq_norm (a' := ?_) ?_ ?_; rotate_left; (simp only [Act.put, List.setIfInBounds_toArray, List.set_cons_zero, List.set_cons_succ]; rfl))
  (refine seq_take (v := ?_) rfl ?_ ?_ ?_; rotate_left; rfl; (intro W hW; go_simp; with_reducible rfl); refine seq_norm (a' := ?_) ?_ ?_; rotate_left; (simp only [Act.put, List.setIfInBounds_toArray, List.set_cons_zero, List.set_cons_succ]; rfl))
  refine seq_done ?_
  go_wp2
  go_ret2
  exact ⟨rfl, below_trans H3.low (by assumption)⟩
set_option maxRecDepth 100000 in
set_option maxHeartbeats 4000000 in
theorem Encode_no4 (op rd rs1 rs2 n : Int) (w : World) (hk : knownB op = true) (r1 : regB rd (hasRd (opn op).kind) = true) (r2 : regB rs1 (hasRs1 (opn op).kind) = true) (r3 : regB rs2 (hasRs2 (opn op).kind) = false) :
    Calls Try.prog 12 #[.agg #[.int .i64 op, .int .i64 rd, .int .i64 rs1, .int .i64 rs2, .int .i64 n]] w fun e w' => e = .returned (.tuple #[.int .u32 0, .int .i64 1]) ∧ Below w.heap.size w w' := by
  have HK := Lib.hid hk
  clear hk
  have HR1 := Lib.hid r1
  clear r1
  have HR2 := Lib.hid r2
  clear r2
  have HR3 := Lib.hid r3
  clear r3
  have KB := Lib.hid (kind_bd op)
  go_enter Try.func12, Try.ntmps12
  go_wp2_with (first
    | (refine ev_new rfl (N := 1) rfl (instCells op rd rs1 rs2 n) 25 (by kernel_rfl) ?_; intro g w1 hg hB hb hlt; have H1 := HeldI.mk hB hb hg; have c0 : w1.cell? ⟨g, 0, none⟩ = some (.int .i64 op) := (hB.cell 0).trans rfl)
    | (go_at_call 16; refine (Kind_calls _ _).mono ?_; rintro e w2 ⟨rfl, hb2⟩; have H2 := H1.step hb2)
    | (go_at_call 22; refine (has_calls _ _ KB.out.1 KB.out.2).mono ?_; rintro e w3 ⟨rfl, rfl⟩))
  clear c0
  refine region_seq (fun W => HeldI g op rd rs1 rs2 n w W) H2.drew [(0, some 15, true), (1, some 16, true), (2, some 17, false), (3, some 18, true), (4, some 19, true), (5, some 20, true), (6, some 21, true), (7, some 22, true), (8, some 23, false), (9, some 24, true), (10, some 25, true), (11, some 26, true), (12, some 27, true), (13, some 28, true), (14, some 29, true), (15, some 30, false), (16, some 31, true), (17, some 32, true), (18, some 33, true), (19, some 34, true), (20, some 35, true), (21, some 36, true), (22, some 37, false), (23, some 38, true), (24, some 39, true), (25, some 40, true), (27, some 42, true), (28, some 43, true), (29, some 44, true), (31, some 46, true), (32, some 47, true), (26, some 41, false), (30, some 45, true), (33, some 48, false), (34, some 49, true), (35, some 50, true)] (by kernel_rfl) (by kernel_rfl) (fun _ _ d _ _ h => by cases d <;> exact h) (by kernel_rfl) (by kernel_rfl) ?_
  intro w3 H3
  obtain ⟨d0, d1, d2, d3, d4, -⟩ := H3.S
  have hlt3 := H3.box.lt
  have hb0 := Below.refl w3.heap.size w3
  iterate 2 (refine seq_take (v := ?_) rfl ?_ ?_ ?_; rotate_left; rfl; (intro W hW; go_simp; with_reducible rfl); refine seq_norm (a' := ?_) ?_ ?_; rotate_left; (simp only [Act.put, List.setIfInBounds_toArray, List.set_cons_zero, List.set_cons_succ]; rfl))
  (refine seq_call rfl rfl 28 #[.int .i64 op] ?_ ?_ (known_calls op _) (by assumption) ?_ ?_; rfl; go_simp; exact fun _ h => h; intro w4 hb4 hB4; refine seq_norm (a' := ?_) ?_ ?_; rotate_left; (simp only [Act.put, List.setIfInBounds_toArray, List.set_cons_zero, List.set_cons_succ]; rfl))
  rw [HK.out]
  iterate 5 (refine seq_take (v := ?_) rfl ?_ ?_ ?_; rotate_left; rfl; (intro W hW; go_simp; with_reducible rfl); refine seq_norm (a' := ?_) ?_ ?_; rotate_left; (simp only [Act.put, List.setIfInBounds_toArray, List.set_cons_zero, List.set_cons_succ]; rfl))
  (refine seq_call rfl rfl 29 #[.int .i64 rd, .bool (hasRd (opn op).kind)] ?_ ?_ (register_calls rd (hasRd (opn op).kind) _) (by assumption) ?_ ?_; rfl; go_simp; (rintro w' rfl; exact Below.refl _ _); rintro w4 rfl hB4; refine seq_norm (a' := ?_) ?_ ?_; rotate_left; (simp only [Act.put, List.setIfInBounds_toArray, List.set_cons_zero, List.set_cons_succ]; rfl))
  rw [HR1.out]
  iterate 6 (refine seq_take (v := ?_) rfl ?_ ?_ ?_; rotate_left; rfl; (intro W hW; go_simp; with_reducible rfl); refine seq_norm (a' := ?_) ?_ ?_; rotate_left; (simp only [Act.put, List.setIfInBounds_toArray, List.set_cons_zero, List.set_cons_succ]; rfl))
  (refine seq_call rfl rfl 29 #[.int .i64 rs1, .bool (hasRs1 (opn op).kind)] ?_ ?_ (register_calls rs1 (hasRs1 (opn op).kind) _) (by assumption) ?_ ?_; rfl; go_simp; (rintro w' rfl; exact Below.refl _ _); rintro w4 rfl hB4; refine seq_norm (a' := ?_) ?_ ?_; rotate_left; (simp only [Act.put, List.setIfInBounds_toArray, List.set_cons_zero, List.set_cons_succ]; rfl))
  rw [HR2.out]
  iterate 6 (refine seq_take (v := ?_) rfl ?_ ?_ ?_; rotate_left; rfl; (intro W hW; go_simp; with_reducible rfl); refine seq_norm (a' := ?_) ?_ ?_; rotate_left; (simp only [Act.put, List.setIfInBounds_toArray, List.set_cons_zero, List.set_cons_succ]; rfl))
  (refine seq_call rfl rfl 29 #[.int .i64 rs2, .bool (hasRs2 (opn op).kind)] ?_ ?_ (register_calls rs2 (hasRs2 (opn op).kind) _) (by assumption) ?_ ?_; rfl; go_simp; (rintro w' rfl; exact Below.refl _ _); rintro w4 rfl hB4; refine seq_norm (a' := ?_) ?_ ?_; rotate_left; (simp only [Act.put, List.setIfInBounds_toArray, List.set_cons_zero, List.set_cons_succ]; rfl))
  rw [HR3.out]
  iterate 3 (refine seq_take (v := ?_) rfl ?_ ?_ ?_; rotate_left; rfl; (intro W hW; go_simp; with_reducible rfl); refine seq_norm (a' := ?_) ?_ ?_; rotate_left; (simp only [Act.put, List.setIfInBounds_toArray, List.set_cons_zero, List.set_cons_succ]; rfl))
  iterate 5 (refine seq_skip rfl ?_ ?_; rfl; refine seq_norm (a' := ?_) ?_ ?_; rotate_left; (simp only [Act.put, List.setIfInBounds_toArray, List.set_cons_zero, List.set_cons_succ]; rfl))
  (refine seq_pass rfl ?_ (by assumption) ?_; rfl; refine seq_norm (a' := ?_) ?_ ?_; rotate_left; (simp only [Act.put, List.setIfInBounds_toArray, List.set_cons_zero, List.set_cons_succ]; rfl))
  (refine seq_skip rfl ?_ ?_; rfl; refine seq_norm (a' := ?_) ?_ ?_; rotate_left; (simp only [Act.put, List.setIfInBounds_toArray, List.set_cons_zero, List.set_cons_succ]; rfl))
  (refine seq_pass rfl ?_ (by assumption) ?_; rfl; refine seq_norm (a' := ?_) ?_ ?_; rotate_left; (simp only [Act.put, List.setIfInBounds_toArray, List.set_cons_zero, List.set_cons_succ]; rfl))
  (refine seq_skip rfl ?_ ?_; rfl; refine seq_norm (a' := ?_) ?_ ?_; rotate_left; (simp only [Act.put, List.setIfInBounds_toArray, List.set_cons_zero, List.set_cons_succ]; rfl))
  (refine seq_take (v := ?_) rfl ?_ ?_ ?_; rotate_left; rfl; (intro W hW; go_simp; with_reducible rfl); refine seq_norm (a' := ?_) ?_ ?_; rotate_left; (simp only [Act.put, List.setIfInBounds_toArray, List.set_cons_zero, List.set_cons_succ]; rfl))
  refine seq_done ?_
  go_wp2
  go_ret2
  exact ⟨rfl, below_trans H3.low (by assumption)⟩
set_option maxRecDepth 100000 in
set_option maxHeartbeats 4000000 in
theorem Encode_no5 (op rd rs1 rs2 n : Int) (w : World) (hk : knownB op = true) (r1 : regB rd (hasRd (opn op).kind) = true) (r2 : regB rs1 (hasRs1 (opn op).kind) = true) (r3 : regB rs2 (hasRs2 (opn op).kind) = true) (hn0 : -9223372036854775808 ≤ n) (hn1 : n ≤ 9223372036854775807) (hm : mayN (opn op) n = false) :
    Calls Try.prog 12 #[.agg #[.int .i64 op, .int .i64 rd, .int .i64 rs1, .int .i64 rs2, .int .i64 n]] w fun e w' => e = .returned (.tuple #[.int .u32 0, .int .i64 1]) ∧ Below w.heap.size w w' := by
  have hob := known_lo op hk
  have hix := index_tbl (op - 1) (by omega) (by omega)
  rw [Int.sub_add_cancel] at hix
  have HO := Lib.hid (opn_ok op hob)
  obtain ⟨hob1, hob2⟩ := hob
  have hsub : IntKind.i64.wrap (op - 1) = op - 1 := IntWalk.i64_in _ (by omega)
  have HK := Lib.hid hk
  clear hk
  have HR1 := Lib.hid r1
  clear r1
  have HR2 := Lib.hid r2
  clear r2
  have HR3 := Lib.hid r3
  clear r3
  have HM := Lib.hid hm
  clear hm
  have KB := Lib.hid (kind_bd op)
  go_enter Try.func12, Try.ntmps12
  go_wp2_with (first
    | (refine ev_new rfl (N := 1) rfl (instCells op rd rs1 rs2 n) 25 (by kernel_rfl) ?_; intro g w1 hg hB hb hlt; have H1 := HeldI.mk hB hb hg; have c0 : w1.cell? ⟨g, 0, none⟩ = some (.int .i64 op) := (hB.cell 0).trans rfl)
    | (go_at_call 16; refine (Kind_calls _ _).mono ?_; rintro e w2 ⟨rfl, hb2⟩; have H2 := H1.step hb2)
    | (go_at_call 22; refine (has_calls _ _ KB.out.1 KB.out.2).mono ?_; rintro e w3 ⟨rfl, rfl⟩))
  clear c0
  refine region_seq (fun W => HeldI g op rd rs1 rs2 n w W) H2.drew [(0, some 15, true), (1, some 16, true), (2, some 17, false), (3, some 18, true), (4, some 19, true), (5, some 20, true), (6, some 21, true), (7, some 22, true), (8, some 23, false), (9, some 24, true), (10, some 25, true), (11, some 26, true), (12, some 27, true), (13, some 28, true), (14, some 29, true), (15, some 30, false), (16, some 31, true), (17, some 32, true), (18, some 33, true), (19, some 34, true), (20, some 35, true), (21, some 36, true), (22, some 37, false), (23, some 38, true), (24, some 39, true), (25, some 40, true), (27, some 42, true), (28, some 43, true), (29, some 44, true), (31, some 46, true), (32, some 47, true), (26, some 41, false), (30, some 45, true), (33, some 48, false), (34, some 49, true), (35, some 50, true)] (by kernel_rfl) (by kernel_rfl) (fun _ _ d _ _ h => by cases d <;> exact h) (by kernel_rfl) (by kernel_rfl) ?_
  intro w3 H3
  obtain ⟨d0, d1, d2, d3, d4, -⟩ := H3.S
  have hlt3 := H3.box.lt
  have hb0 := Below.refl w3.heap.size w3
  iterate 2 (refine seq_take (v := ?_) rfl ?_ ?_ ?_; rotate_left; rfl; (intro W hW; go_simp; with_reducible rfl); refine seq_norm (a' := ?_) ?_ ?_; rotate_left; (simp only [Act.put, List.setIfInBounds_toArray, List.set_cons_zero, List.set_cons_succ]; rfl))
  (refine seq_call rfl rfl 28 #[.int .i64 op] ?_ ?_ (known_calls op _) (by assumption) ?_ ?_; rfl; go_simp; exact fun _ h => h; intro w4 hb4 hB4; refine seq_norm (a' := ?_) ?_ ?_; rotate_left; (simp only [Act.put, List.setIfInBounds_toArray, List.set_cons_zero, List.set_cons_succ]; rfl))
  rw [HK.out]
  iterate 5 (refine seq_take (v := ?_) rfl ?_ ?_ ?_; rotate_left; rfl; (intro W hW; go_simp; with_reducible rfl); refine seq_norm (a' := ?_) ?_ ?_; rotate_left; (simp only [Act.put, List.setIfInBounds_toArray, List.set_cons_zero, List.set_cons_succ]; rfl))
  (refine seq_call rfl rfl 29 #[.int .i64 rd, .bool (hasRd (opn op).kind)] ?_ ?_ (register_calls rd (hasRd (opn op).kind) _) (by assumption) ?_ ?_; rfl; go_simp; (rintro w' rfl; exact Below.refl _ _); rintro w4 rfl hB4; refine seq_norm (a' := ?_) ?_ ?_; rotate_left; (simp only [Act.put, List.setIfInBounds_toArray, List.set_cons_zero, List.set_cons_succ]; rfl))
  rw [HR1.out]
  iterate 6 (refine seq_take (v := ?_) rfl ?_ ?_ ?_; rotate_left; rfl; (intro W hW; go_simp; with_reducible rfl); refine seq_norm (a' := ?_) ?_ ?_; rotate_left; (simp only [Act.put, List.setIfInBounds_toArray, List.set_cons_zero, List.set_cons_succ]; rfl))
  (refine seq_call rfl rfl 29 #[.int .i64 rs1, .bool (hasRs1 (opn op).kind)] ?_ ?_ (register_calls rs1 (hasRs1 (opn op).kind) _) (by assumption) ?_ ?_; rfl; go_simp; (rintro w' rfl; exact Below.refl _ _); rintro w4 rfl hB4; refine seq_norm (a' := ?_) ?_ ?_; rotate_left; (simp only [Act.put, List.setIfInBounds_toArray, List.set_cons_zero, List.set_cons_succ]; rfl))
  rw [HR2.out]
  iterate 6 (refine seq_take (v := ?_) rfl ?_ ?_ ?_; rotate_left; rfl; (intro W hW; go_simp; with_reducible rfl); refine seq_norm (a' := ?_) ?_ ?_; rotate_left; (simp only [Act.put, List.setIfInBounds_toArray, List.set_cons_zero, List.set_cons_succ]; rfl))
  (refine seq_call rfl rfl 29 #[.int .i64 rs2, .bool (hasRs2 (opn op).kind)] ?_ ?_ (register_calls rs2 (hasRs2 (opn op).kind) _) (by assumption) ?_ ?_; rfl; go_simp; (rintro w' rfl; exact Below.refl _ _); rintro w4 rfl hB4; refine seq_norm (a' := ?_) ?_ ?_; rotate_left; (simp only [Act.put, List.setIfInBounds_toArray, List.set_cons_zero, List.set_cons_succ]; rfl))
  rw [HR3.out]
  iterate 8 (refine seq_take (v := ?_) rfl ?_ ?_ ?_; rotate_left; rfl; (intro W hW; go_simp; with_reducible rfl); refine seq_norm (a' := ?_) ?_ ?_; rotate_left; (simp only [Act.put, List.setIfInBounds_toArray, List.set_cons_zero, List.set_cons_succ]; rfl))
  (refine seq_call rfl rfl 20 #[] ?_ ?_ (operations_calls _) (by assumption) ?_ ?_; rfl; go_simp; exact fun _ h => h; intro w5 hbw5 hBw5; refine seq_norm (a' := ?_) ?_ ?_; rotate_left; (simp only [Act.put, List.setIfInBounds_toArray, List.set_cons_zero, List.set_cons_succ]; rfl))
  (refine seq_take (v := ?_) rfl ?_ ?_ ?_; rotate_left; rfl; (intro W hW; go_simp; with_reducible rfl); refine seq_norm (a' := ?_) ?_ ?_; rotate_left; (simp only [Act.put, List.setIfInBounds_toArray, List.set_cons_zero, List.set_cons_succ]; rfl))
  (refine seq_call rfl rfl 30 #[.agg #[.string (opn op).name, .int .i64 (opn op).kind, .int .u32 (opn op).code, .int .u32 (opn op).f3, .int .u32 (opn op).f7, .int .i64 (opn op).shift], .int .i64 n] ?_ ?_ (number_calls (opn op) n _ HO.out hn0 hn1) (by assumption) ?_ ?_; rfl; go_simp; exact fun _ h => h; intro w6 hbw6 hBw6; refine seq_norm (a' := ?_) ?_ ?_; rotate_left; (simp only [Act.put, List.setIfInBounds_toArray, List.set_cons_zero, List.set_cons_succ]; rfl))
  rw [HM.out]
  iterate 2 (refine seq_take (v := ?_) rfl ?_ ?_ ?_; rotate_left; rfl; (intro W hW; go_simp; with_reducible rfl); refine seq_norm (a' := ?_) ?_ ?_; rotate_left; (simp only [Act.put, List.setIfInBounds_toArray, List.set_cons_zero, List.set_cons_succ]; rfl))
  refine seq_done ?_
  go_wp2
  go_ret2
  exact ⟨rfl, below_trans H3.low (by assumption)⟩
set_option maxRecDepth 100000 in
set_option maxHeartbeats 4000000 in
theorem Encode_yes (op rd rs1 rs2 n : Int) (w : World) (hk : knownB op = true) (r1 : regB rd (hasRd (opn op).kind) = true) (r2 : regB rs1 (hasRs1 (opn op).kind) = true) (r3 : regB rs2 (hasRs2 (opn op).kind) = true) (hn0 : -9223372036854775808 ≤ n) (hn1 : n ≤ 9223372036854775807) (hm : mayN (opn op) n = true) :
    Calls Try.prog 12 #[.agg #[.int .i64 op, .int .i64 rd, .int .i64 rs1, .int .i64 rs2, .int .i64 n]] w fun e w' => e = .returned (.tuple #[.int .u32 (encN op rd rs1 rs2 n), .int .i64 0]) ∧ Below w.heap.size w w' := by
  have hob := known_lo op hk
  have hix := index_tbl (op - 1) (by omega) (by omega)
  rw [Int.sub_add_cancel] at hix
  have HO := Lib.hid (opn_ok op hob)
  obtain ⟨hob1, hob2⟩ := hob
  have hsub : IntKind.i64.wrap (op - 1) = op - 1 := IntWalk.i64_in _ (by omega)
  have W1 := wrapRegs _ _ _ (regB_bd _ _ r1) (regB_bd _ _ r2) (regB_bd _ _ r3)
  obtain ⟨u1, u2, u3, u4, u5, u6⟩ := W1
  have HE := Lib.hid (enc_or (opn op) n rd rs1 rs2 (opn_ok op (known_lo op hk)) hm r1 r2 r3)
  have HK := Lib.hid hk
  clear hk
  have HR1 := Lib.hid r1
  clear r1
  have HR2 := Lib.hid r2
  clear r2
  have HR3 := Lib.hid r3
  clear r3
  have HM := Lib.hid hm
  clear hm
  have KB := Lib.hid (kind_bd op)
  go_enter Try.func12, Try.ntmps12
  go_wp2_with (first
    | (refine ev_new rfl (N := 1) rfl (instCells op rd rs1 rs2 n) 25 (by kernel_rfl) ?_; intro g w1 hg hB hb hlt; have H1 := HeldI.mk hB hb hg; have c0 : w1.cell? ⟨g, 0, none⟩ = some (.int .i64 op) := (hB.cell 0).trans rfl)
    | (go_at_call 16; refine (Kind_calls _ _).mono ?_; rintro e w2 ⟨rfl, hb2⟩; have H2 := H1.step hb2)
    | (go_at_call 22; refine (has_calls _ _ KB.out.1 KB.out.2).mono ?_; rintro e w3 ⟨rfl, rfl⟩))
  clear c0
  refine region_seq (fun W => HeldI g op rd rs1 rs2 n w W) H2.drew [(0, some 15, true), (1, some 16, true), (2, some 17, false), (3, some 18, true), (4, some 19, true), (5, some 20, true), (6, some 21, true), (7, some 22, true), (8, some 23, false), (9, some 24, true), (10, some 25, true), (11, some 26, true), (12, some 27, true), (13, some 28, true), (14, some 29, true), (15, some 30, false), (16, some 31, true), (17, some 32, true), (18, some 33, true), (19, some 34, true), (20, some 35, true), (21, some 36, true), (22, some 37, false), (23, some 38, true), (24, some 39, true), (25, some 40, true), (27, some 42, true), (28, some 43, true), (29, some 44, true), (31, some 46, true), (32, some 47, true), (26, some 41, false), (30, some 45, true), (33, some 48, false), (34, some 49, true), (35, some 50, true)] (by kernel_rfl) (by kernel_rfl) (fun _ _ d _ _ h => by cases d <;> exact h) (by kernel_rfl) (by kernel_rfl) ?_
  intro w3 H3
  obtain ⟨d0, d1, d2, d3, d4, -⟩ := H3.S
  have hlt3 := H3.box.lt
  have hb0 := Below.refl w3.heap.size w3
  iterate 2 (refine seq_take (v := ?_) rfl ?_ ?_ ?_; rotate_left; rfl; (intro W hW; go_simp; with_reducible rfl); refine seq_norm (a' := ?_) ?_ ?_; rotate_left; (simp only [Act.put, List.setIfInBounds_toArray, List.set_cons_zero, List.set_cons_succ]; rfl))
  (refine seq_call rfl rfl 28 #[.int .i64 op] ?_ ?_ (known_calls op _) (by assumption) ?_ ?_; rfl; go_simp; exact fun _ h => h; intro w4 hb4 hB4; refine seq_norm (a' := ?_) ?_ ?_; rotate_left; (simp only [Act.put, List.setIfInBounds_toArray, List.set_cons_zero, List.set_cons_succ]; rfl))
  rw [HK.out]
  iterate 5 (refine seq_take (v := ?_) rfl ?_ ?_ ?_; rotate_left; rfl; (intro W hW; go_simp; with_reducible rfl); refine seq_norm (a' := ?_) ?_ ?_; rotate_left; (simp only [Act.put, List.setIfInBounds_toArray, List.set_cons_zero, List.set_cons_succ]; rfl))
  (refine seq_call rfl rfl 29 #[.int .i64 rd, .bool (hasRd (opn op).kind)] ?_ ?_ (register_calls rd (hasRd (opn op).kind) _) (by assumption) ?_ ?_; rfl; go_simp; (rintro w' rfl; exact Below.refl _ _); rintro w4 rfl hB4; refine seq_norm (a' := ?_) ?_ ?_; rotate_left; (simp only [Act.put, List.setIfInBounds_toArray, List.set_cons_zero, List.set_cons_succ]; rfl))
  rw [HR1.out]
  iterate 6 (refine seq_take (v := ?_) rfl ?_ ?_ ?_; rotate_left; rfl; (intro W hW; go_simp; with_reducible rfl); refine seq_norm (a' := ?_) ?_ ?_; rotate_left; (simp only [Act.put, List.setIfInBounds_toArray, List.set_cons_zero, List.set_cons_succ]; rfl))
  (refine seq_call rfl rfl 29 #[.int .i64 rs1, .bool (hasRs1 (opn op).kind)] ?_ ?_ (register_calls rs1 (hasRs1 (opn op).kind) _) (by assumption) ?_ ?_; rfl; go_simp; (rintro w' rfl; exact Below.refl _ _); rintro w4 rfl hB4; refine seq_norm (a' := ?_) ?_ ?_; rotate_left; (simp only [Act.put, List.setIfInBounds_toArray, List.set_cons_zero, List.set_cons_succ]; rfl))
  rw [HR2.out]
  iterate 6 (refine seq_take (v := ?_) rfl ?_ ?_ ?_; rotate_left; rfl; (intro W hW; go_simp; with_reducible rfl); refine seq_norm (a' := ?_) ?_ ?_; rotate_left; (simp only [Act.put, List.setIfInBounds_toArray, List.set_cons_zero, List.set_cons_succ]; rfl))
  (refine seq_call rfl rfl 29 #[.int .i64 rs2, .bool (hasRs2 (opn op).kind)] ?_ ?_ (register_calls rs2 (hasRs2 (opn op).kind) _) (by assumption) ?_ ?_; rfl; go_simp; (rintro w' rfl; exact Below.refl _ _); rintro w4 rfl hB4; refine seq_norm (a' := ?_) ?_ ?_; rotate_left; (simp only [Act.put, List.setIfInBounds_toArray, List.set_cons_zero, List.set_cons_succ]; rfl))
  rw [HR3.out]
  iterate 8 (refine seq_take (v := ?_) rfl ?_ ?_ ?_; rotate_left; rfl; (intro W hW; go_simp; with_reducible rfl); refine seq_norm (a' := ?_) ?_ ?_; rotate_left; (simp only [Act.put, List.setIfInBounds_toArray, List.set_cons_zero, List.set_cons_succ]; rfl))
  (refine seq_call rfl rfl 20 #[] ?_ ?_ (operations_calls _) (by assumption) ?_ ?_; rfl; go_simp; exact fun _ h => h; intro w5 hbw5 hBw5; refine seq_norm (a' := ?_) ?_ ?_; rotate_left; (simp only [Act.put, List.setIfInBounds_toArray, List.set_cons_zero, List.set_cons_succ]; rfl))
  (refine seq_take (v := ?_) rfl ?_ ?_ ?_; rotate_left; rfl; (intro W hW; go_simp; with_reducible rfl); refine seq_norm (a' := ?_) ?_ ?_; rotate_left; (simp only [Act.put, List.setIfInBounds_toArray, List.set_cons_zero, List.set_cons_succ]; rfl))
  (refine seq_call rfl rfl 30 #[.agg #[.string (opn op).name, .int .i64 (opn op).kind, .int .u32 (opn op).code, .int .u32 (opn op).f3, .int .u32 (opn op).f7, .int .i64 (opn op).shift], .int .i64 n] ?_ ?_ (number_calls (opn op) n _ HO.out hn0 hn1) (by assumption) ?_ ?_; rfl; go_simp; exact fun _ h => h; intro w6 hbw6 hBw6; refine seq_norm (a' := ?_) ?_ ?_; rotate_left; (simp only [Act.put, List.setIfInBounds_toArray, List.set_cons_zero, List.set_cons_succ]; rfl))
  rw [HM.out]
  iterate 2 (refine seq_take (v := ?_) rfl ?_ ?_ ?_; rotate_left; rfl; (intro W hW; go_simp; with_reducible rfl); refine seq_norm (a' := ?_) ?_ ?_; rotate_left; (simp only [Act.put, List.setIfInBounds_toArray, List.set_cons_zero, List.set_cons_succ]; rfl))
  refine seq_done ?_
  have H6 := H3.step (by assumption : Below w3.heap.size w3 _)
  go_wp2
  refine region_seq (fun W => HeldI g op rd rs1 rs2 n w W) H6.drew [(1, some 52, true), (2, some 53, true), (3, some 54, true), (5, some 56, true), (6, some 57, true), (8, some 59, true), (9, some 60, true), (10, some 61, true), (11, some 62, true), (13, some 64, true), (14, some 65, true), (15, some 66, true), (16, some 67, true), (18, some 69, true), (19, some 70, true), (20, some 71, true), (21, some 72, true), (0, some 51, false), (4, some 55, true), (7, some 58, false), (12, some 63, true), (17, some 68, true), (22, some 73, true), (23, some 2, true), (24, some 3, true)] (by kernel_rfl) (by kernel_rfl) (fun _ _ d _ _ h => by cases d <;> exact h) (by kernel_rfl) (by kernel_rfl) ?_
  clear d0 d1 d2 d3 d4 hlt3
  intro w8 H8
  obtain ⟨d0, d1, d2, d3, d4, -⟩ := H8.S
  have hlt8 := H8.box.lt
  have hb8 := Below.refl w8.heap.size w8
  iterate 17 (refine seq_take (v := ?_) rfl ?_ ?_ ?_; rotate_left; rfl; (intro W hW; go_simp; with_reducible rfl); refine seq_norm (a' := ?_) ?_ ?_; rotate_left; (simp only [Act.put, List.setIfInBounds_toArray, List.set_cons_zero, List.set_cons_succ]; rfl))
  (refine seq_call rfl rfl 20 #[] ?_ ?_ (operations_calls _) (by assumption) ?_ ?_; rfl; go_simp; exact fun _ h => h; intro w9 hbw9 hBw9; refine seq_norm (a' := ?_) ?_ ?_; rotate_left; (simp only [Act.put, List.setIfInBounds_toArray, List.set_cons_zero, List.set_cons_succ]; rfl))
  (refine seq_take (v := ?_) rfl ?_ ?_ ?_; rotate_left; rfl; (intro W hW; go_simp; with_reducible rfl); refine seq_norm (a' := ?_) ?_ ?_; rotate_left; (simp only [Act.put, List.setIfInBounds_toArray, List.set_cons_zero, List.set_cons_succ]; rfl))
  (refine seq_call rfl rfl 31 #[.agg #[.string (opn op).name, .int .i64 (opn op).kind, .int .u32 (opn op).code, .int .u32 (opn op).f3, .int .u32 (opn op).f7, .int .i64 (opn op).shift], .int .i64 n] ?_ ?_ (laid_calls (opn op) n _ HO.out hn0 hn1 HM.out) (by assumption) ?_ ?_; rfl; go_simp; exact fun _ h => h; intro w10 hbw10 hBw10; refine seq_norm (a' := ?_) ?_ ?_; rotate_left; (simp only [Act.put, List.setIfInBounds_toArray, List.set_cons_zero, List.set_cons_succ]; rfl))
  iterate 5 (refine seq_take (v := ?_) rfl ?_ ?_ ?_; rotate_left; rfl; (intro W hW; go_simp; with_reducible rfl); refine seq_norm (a' := ?_) ?_ ?_; rotate_left; (simp only [Act.put, List.setIfInBounds_toArray, List.set_cons_zero, List.set_cons_succ]; rfl))
  refine seq_done ?_
  go_wp2
  go_ret2
  exact ⟨by unfold encN; rw [← HE.out]; rfl, below_trans H8.low (by assumption)⟩
end Go.Proofs.Ytnnalefglpnoaaa
