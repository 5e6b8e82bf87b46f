/- The logical machine: new rows; lengths; copies. Conditions: none. -/
import Derived.Test.YtbnmhhbncggjkaaGreatDoorEngK
set_option linter.unusedVariables false
set_option linter.unusedSimpArgs false
namespace Go.Proofs.Eng
open Go
section
variable {P : Program} {G : Gl} {ρ : Rho} {h h' : Hp} {w : World} {a : Fr} {o : Oper} {v : LV}
theorem lfill_length {place : Nat → Option (Nat × Nat)} : ∀ (ps : List (Nat × LV)) (pos : Nat) (cells r : List LV), lfill place pos cells ps = some r → r.length = cells.length
  | [], pos, cells, r, h => by cases h; rfl
  | (i, x) :: ps, pos, cells, r, h => by
    unfold lfill at h
    obtain ⟨⟨off, size⟩, e1, h⟩ := Option.bind_eq_some_iff.1 h
    obtain ⟨vs, e2, h⟩ := Option.bind_eq_some_iff.1 h
    cases hb : Nat.ble pos off && Nat.beq (len vs) size && Nat.ble (off - pos + size) (len cells) <;> simp only [hb] at h
    · cases h
    · simp only [cond_true] at h
      obtain ⟨r', e3, rfl⟩ := Option.map_eq_some_iff.1 h
      simp only [Bool.and_eq_true] at hb
      have b2 := Nat.eq_of_beq_eq_true hb.1.2
      have b3 := Nat.le_of_ble_eq_true hb.2
      rw [len_eq] at b2 b3
      have := lfill_length ps _ _ _ e3
      rw [drp_eq] at this
      simp only [app_eq, tak_eq, List.length_append, List.length_take, List.length_drop] at this ⊢
      omega
theorem op_buildSlice {t : TypeId} {n : Nat} {ps : Array (Nat × Operand)} (ho : o.op = .buildSlice t n ps) (hv : oBuildSlice P h t n (lparts a ps) = some (.val v h')) : OpS P G h a o v h' := by
  unfold oBuildSlice at hv
  split at hv <;> first | (cases hv; done) | skip
  rename_i el hu
  obtain ⟨s, hs, hv⟩ := Option.bind_eq_some_iff.1 hv
  obtain ⟨z, hz, hv⟩ := Option.bind_eq_some_iff.1 hv
  obtain ⟨zs, hzs, hv⟩ := Option.bind_eq_some_iff.1 hv
  cases hb : Nat.beq (len zs) s && Nat.ble (n * s) 16777216 <;> rw [hb] at hv
  · cases hv
  · simp only [cond_true] at hv
    obtain ⟨cs, hcs, hv⟩ := Option.map_eq_some_iff.1 hv
    cases hv
    simp only [Bool.and_eq_true] at hb
    have b1 := Nat.eq_of_beq_eq_true hb.1
    have b2 := Nat.le_of_ble_eq_true hb.2
    rw [len_eq] at b1
    obtain ⟨i, pz, hi, hz', rfl⟩ := zeroOf_info hz
    intro ρ w pa hr hf
    obtain ⟨l1, l2⟩ := lparts_LR hf ps
    obtain ⟨hl, h1⟩ := cells_LR (ρ := ρ) (ofV_VR 3 pz) hzs
    have hlen := hl.1
    obtain ⟨pr, p1, p2, p3⟩ := fill_LR (lparts a ps) _ 0 (rep zs n) [] _ cs l1 l2 rfl (hl.rep n) (fun u hu => by
      obtain ⟨l, hl', hu⟩ := List.mem_flatten.1 hu
      rw [List.eq_of_mem_replicate hl'] at hu
      exact h1 u hu) hcs
    have hprl : pr.length = n * s := by
      rw [← p1.1, lfill_length _ _ _ _ hcs, rep_eq]
      simp [b1]
    obtain ⟨r1, s1⟩ := new_cells hr p1 p2 el s
    refine ⟨_, _, .slice (some ⟨w.heap.size, 0, none⟩) n n, s1, r1, .slc 0 n (some n) (Rho.add_same _ _) (Nat.le_refl _) (fun k e => by cases e; rfl) (fun _ => by simp [hprl]) (.inr rfl), .inl ?_⟩
    unfold execOp
    simp only [ho]
    refine run_v ?_
    unfold Instr.buildSlice
    have hnot : ¬ (n * s > 2 ^ 24) := by omega
    simp only [List.nil_append] at p3
    simp only [Sem.run_bind, run_underlying hu, Result.andThen, run_sizeOf' hs, hnot, if_false, Sem.run_pure]
    by_cases h0 : n * s = 0
    · have hE : ∀ f : Nat → Value, (Array.range (n * s)).map f = ((List.replicate n pz.cells.toList).flatten).toArray := fun f => by
        have e : pz.cells.size = s := by simpa [b1] using hlen.symm
        have : ((List.replicate n pz.cells.toList).flatten) = [] := List.eq_nil_of_length_eq_zero (by simp [e]; exact h0)
        rw [this, h0]; simp
      simp only [Sem.run_ite, if_pos h0, Sem.run_pure, Result.andThen, hE, p3]
      simp [newRow]
    · simp only [Sem.run_ite, if_neg h0, Sem.run_bind, run_zero hi hz', Sem.run_pure, Result.andThen, zeros_eq pz.cells s n (by simpa [b1] using hlen.symm), p3]
      simp [newRow]
theorem op_makeSlice {t : TypeId} {l c : Operand} (ho : o.op = .makeSlice t l c) (hv : oMakeSlice P h t (aev a l) (aev a c) = some (.val v h')) : OpS P G h a o v h' := by
  unfold oMakeSlice at hv
  split at hv <;> first | (cases hv; done) | skip
  rename_i el k n k' m hu el1 el2
  obtain ⟨i, hi, hv⟩ := Option.bind_eq_some_iff.1 hv
  obtain ⟨z, hz, hv⟩ := Option.bind_eq_some_iff.1 hv
  obtain ⟨zs, hzs, hv⟩ := Option.bind_eq_some_iff.1 hv
  cases hb : (decide (0 ≤ n) && decide (n ≤ m) && decide (m ≤ 140737488355328) && decide (i.bytes * m ≤ 140737488355328) && Nat.beq (len zs) i.size) <;> rw [hb] at hv
  · cases hv
  · simp only [cond_true] at hv
    cases hv
    simp only [Bool.and_eq_true, decide_eq_true_eq] at hb
    obtain ⟨⟨⟨⟨b0, b1⟩, b2⟩, b3⟩, b4⟩ := hb
    have b4 := Nat.eq_of_beq_eq_true b4
    rw [len_eq] at b4
    obtain ⟨i', pz, hi', hz', rfl⟩ := zeroOf_info hz
    rw [hi] at hi'
    cases hi'
    intro ρ w pa hr hf
    have hx := aev_VR hf l
    have hy := aev_VR hf c
    rw [el1] at hx
    rw [el2] at hy
    obtain ⟨hl, h1⟩ := cells_LR (ρ := ρ) (ofV_VR 3 pz) hzs
    have hlen := hl.1
    have hzsz : pz.cells.size = i.size := by simpa [b4] using hlen.symm
    have hsplit : (List.replicate m.toNat pz.cells.toList).flatten = (List.replicate n.toNat pz.cells.toList).flatten ++ (List.replicate (m.toNat - n.toNat) pz.cells.toList).flatten := by
      rw [← List.flatten_append, List.replicate_append_replicate]; congr 2; omega
    obtain ⟨r1, s1⟩ := new_cells' (fz := (0, 0)) (more := (List.replicate (m.toNat - n.toNat) pz.cells.toList).flatten) hr (hl.rep n.toNat) (fun u hu => by
      rw [← hsplit] at hu
      obtain ⟨l, hl', hu⟩ := List.mem_flatten.1 hu
      rw [List.eq_of_mem_replicate hl'] at hu
      exact h1 u hu) (.inr (Nat.le_refl _)) el el i.size h.n false (Nat.le_refl _) rfl (fun e1 => List.eq_nil_of_length_eq_zero (by rw [(hl.rep n.toNat).1]; simp [hzsz, e1]))
    rw [← hsplit] at r1 s1
    have hplen : ((List.replicate m.toNat pz.cells.toList).flatten).length = m.toNat * i.size := by simp [hzsz]
    refine ⟨_, _, .slice (some ⟨w.heap.size, 0, none⟩) n.toNat m.toNat, s1, r1, .slc 0 n.toNat none (Rho.add_same _ _) (by omega) (fun k e => by cases e) (fun _ => by simp only [Nat.zero_add, Nat.add_zero]; exact Nat.le_of_eq hplen.symm) (.inr rfl), .inl ?_⟩
    unfold execOp
    simp only [ho, hx.int_inv, hy.int_inv]
    refine run_v ?_
    have w1 : IntKind.i64.wrap n = n := by rw [← wrapF_eq]; simp only [wrapF, cond_eq_ite, decide_eq_true_eq]; split <;> omega
    have w2 : IntKind.i64.wrap m = m := by rw [← wrapF_eq]; simp only [wrapF, cond_eq_ite, decide_eq_true_eq]; split <;> omega
    have t1 : (decide (m < 0) || decide ((i.bytes : Int) * m > 2 ^ 48)) = false := by
      rw [Bool.or_eq_false_iff]; constructor <;> simp <;> omega
    have t2 : (decide (n < 0) || decide (n > m)) = false := by
      rw [Bool.or_eq_false_iff]; constructor <;> simp <;> omega
    unfold Instr.makeSlice
    simp only [Sem.run_bind, run_underlying hu, Result.andThen, asInt, asIntOf, Sem.run_pure, run_typeInfo' hi, w1, w2, t1, Bool.false_or, run_askRoom, run_sizeOf' (show szOf P el = some i.size by simp [szOf, hi])]
    have t3 : ¬ (n < 0) := by omega
    have t4 : ¬ (n > m) := by omega
    simp only [t3, t4, decide_false, Bool.or_self, Bool.false_eq_true, if_false, Sem.run_pure, run_askRoom, Sem.run_bind, Result.andThen, run_sizeOf' (show szOf P el = some i.size by simp [szOf, hi])]
    by_cases h0 : m.toNat * i.size = 0
    · have hE : ∀ f : Nat → Value, (Array.range (m.toNat * i.size)).map f = ((List.replicate m.toNat pz.cells.toList).flatten).toArray := fun f => by
        have : ((List.replicate m.toNat pz.cells.toList).flatten) = [] := List.eq_nil_of_length_eq_zero (by rw [hplen, h0])
        rw [this, h0]; simp
      simp only [Sem.run_ite, if_pos h0, Sem.run_pure, Result.andThen, hE]
      simp [newRow]
    · simp only [Sem.run_ite, if_neg h0, Sem.run_bind, run_zero hi hz', Sem.run_pure, Result.andThen, zeros_eq pz.cells i.size m.toNat hzsz]
      simp [newRow]
end
end Go.Proofs.Eng
