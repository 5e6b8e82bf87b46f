/- The logical machine: operations, told in a world: addresses within, parts, interfaces, functions. Conditions: none. -/
import Derived.Test.YtbnmhhbncggjkaaGreatDoorEngE
set_option linter.unusedVariables false
set_option linter.unusedSimpArgs false
namespace Go.Proofs.Eng
open Go
section
variable {P : Program} {G : Gl} {ρ : Rho} {h h' : Hp} {w : World} {a : Fr} {o : Oper} {v : LV}
theorem addr_add (b o n : Nat) : (⟨b, o, none⟩ : Addr).add n = ⟨b, o + n, none⟩ := by
  unfold Addr.add
  split
  · rename_i h0; subst h0; rfl
  · rfl
theorem VR.ptr_at {b : Nat} {p : Place} (off n : Nat) (hρ : ρ b = some p) : VR ρ (.ptr b (off + n)) (.pointer (some ⟨p.pb, p.sh + off + n, none⟩)) := by
  have := VR.ptr (ρ := ρ) (off + n) hρ
  rwa [← Nat.add_assoc] at this
theorem op_nil {x : Operand} (ho : o.op = .nilCheck x) (hv : oNil h (aev a x) = some (.val v h')) : OpS P G h a o v h' := by
  have : h' = h ∧ v = aev a x ∧ ((∃ b o, v = .ptr b o) ∨ (∃ b o, v = .gptr b o) ∨ (∃ f x y, v = .fn (.func f) x y) ∨ (∃ f x y, v = .fn (.yield f) x y) ∨ ∃ t y, v = .ifc t y) := by
    unfold oNil at hv
    split at hv <;> cases hv <;> simp_all
  obtain ⟨rfl, e, hk⟩ := this
  refine opS_still fun ρ w pa hr hf => ?_
  have hx := aev_VR hf x
  rw [← e] at hx
  refine ⟨_, hx, ?_⟩
  unfold execOp
  simp only [ho]
  generalize pa.eval x = y at hx
  rcases hk with ⟨b, o, rfl⟩ | ⟨b, o, rfl⟩ | ⟨f, x, y, rfl⟩ | ⟨f, x, y, rfl⟩ | ⟨t, y, rfl⟩ <;> cases hx <;> rfl
theorem op_fieldAddr {s : TypeId} {x : Operand} {f : Nat} (ho : o.op = .fieldAddr s x f) (hv : oFieldAddr P h s (aev a x) f = some (.val v h')) : OpS P G h a o v h' := by
  unfold oFieldAddr at hv
  split at hv
  · rename_i fs hu
    obtain ⟨fd, hfd, hv⟩ := Option.bind_eq_some_iff.1 hv
    obtain ⟨n, hn, hv⟩ := Option.bind_eq_some_iff.1 hv
    cases hb : Nat.beq n 0 <;> rw [hb] at hv
    · simp only [cond_false] at hv
      have hn0 : n ≠ 0 := fun e => by subst e; cases hb
      have run : ∀ (w : World) (b o : Nat), (Instr.fieldAt s (.pointer (some ⟨b, o, none⟩)) f).run P w = .ok (.pointer (some ⟨b, o + fd.offset, none⟩)) w := fun w b o => by
        simp [Instr.fieldAt, Sem.run_bind, run_underlying hu, Result.andThen, hfd, Instr.sureAddr, fieldPlace, run_sizeOf' hn, hn0, addr_add]
      split at hv
      · rename_i b off hx
        cases hv
        refine opS_still fun ρ w pa hr hf => ?_
        have hp := aev_VR hf x
        rw [hx] at hp
        obtain ⟨p, hρ, e⟩ := hp.ptr_inv
        exact ⟨_, VR.ptr_at off fd.offset hρ, by unfold execOp; simp only [ho, e]; exact run_v (run w _ _)⟩
      · rename_i b off hx
        cases hv
        refine opS_still fun ρ w pa hr hf => ?_
        have hp := aev_VR hf x
        rw [hx] at hp
        exact ⟨_, VR.gptr _ _, by unfold execOp; simp only [ho, hp.gptr_inv]; exact run_v (run w _ _)⟩
      · cases hv
    · cases hv
  · cases hv
/-- A part of a value. -/
theorem run_part_LR {t : TypeId} {c : List LV} {off : Nat} {x : LV} {pc : Array Value} (hl : LR ρ c pc.toList) (h1 : ∀ u ∈ pc, u.oneCell' = true) (hx : lpart P t c off = some x) (w : World) : ∃ pv, (part t pc off).run P w = .ok pv w ∧ VR ρ x pv := by
  have hl' : ∀ (i : Nat) v v', c[i]? = some v → pc[0 + i]? = some v' → VR ρ v v' := fun i v v' e e' => hl.2 i v v' e (by simpa using e')
  have h1' : ∀ (i : Nat) u, pc[i]? = some u → u.oneCell' = true := fun i u e => h1 u (Array.mem_of_getElem? e)
  have hs : 0 + c.length ≤ pc.size := by have := hl.1; simp at this; omega
  rcases lpart_inv hx with ⟨ha, n, hn, hb, rfl⟩ | ⟨ha, he⟩
  · refine ⟨_, ?_, VR.take hl' h1' hb hs⟩
    unfold part
    rw [Sem.run_bind, run_isAgg' ha]
    simp only [Result.andThen, if_true, Sem.run_bind, run_sizeOf' hn, Sem.run_pure, Nat.zero_add]
  · have hi : off < pc.size := by have := (List.getElem?_eq_some_iff.1 he).1; omega
    refine ⟨pc[off], ?_, hl' off x _ he (by simp [hi])⟩
    unfold part
    rw [Sem.run_bind, run_isAgg' ha]
    simp [Result.andThen, hi]
theorem VR.agg_parts {l : List LV} {v' : Value} (hv : VR ρ (.agg l) v') : ∃ pc : Array Value, v' = .agg pc ∧ LR ρ l pc.toList ∧ ∀ u ∈ pc, u.oneCell' = true := by
  cases hv with
  | agg h r ho => exact ⟨_, rfl, ⟨by simpa using h, fun i v v' e e' => r i v v' e (by simpa using e')⟩, ho⟩
theorem op_field {t : TypeId} {x : Operand} {f : Nat} (ho : o.op = .field t x f) (hv : oField P h t (aev a x) f = some (.val v h')) : OpS P G h a o v h' := by
  unfold oField at hv
  split at hv
  · rename_i fs cs hu hx
    obtain ⟨fd, hfd, hv⟩ := Option.bind_eq_some_iff.1 hv
    obtain ⟨y, hy, hv⟩ := Option.map_eq_some_iff.1 hv
    cases hv
    refine opS_still fun ρ w pa hr hf => ?_
    have hp := aev_VR hf x
    rw [hx] at hp
    obtain ⟨pc, e, hl, h1⟩ := hp.agg_parts
    obtain ⟨pv, hr, hv⟩ := run_part_LR (P := P) hl h1 hy w
    exact ⟨pv, hv, by unfold execOp; simp only [ho, e]; exact run_v (by simp [Instr.field, Sem.run_bind, run_underlying hu, Result.andThen, hfd, asAgg, hr])⟩
  · cases hv
theorem idx_inv {n j : Nat} {x : LV} (hi : idx n x = some j) : ∃ k i, x = .int k i ∧ 0 ≤ i ∧ i < n ∧ j = i.toNat := by
  unfold idx at hi
  split at hi
  · rename_i k i
    cases hb : decide (0 ≤ i) && Nat.blt i.toNat n <;> rw [hb] at hi
    · cases hi
    · simp only [Bool.and_eq_true, decide_eq_true_eq] at hb
      have hlt : i.toNat < n := Nat.le_of_ble_eq_true hb.2
      simp at hi
      exact ⟨k, i, rfl, hb.1, by omega, hi.symm⟩
  · cases hi
theorem op_indexAddr {t : TypeId} {x i : Operand} (ho : o.op = .indexAddr t x i) (hv : oIndexAddr P h t (aev a x) (aev a i) = some (.val v h')) : OpS P G h a o v h' := by
  unfold oIndexAddr at hv
  split at hv
  · rename_i n el b off hu hx
    obtain ⟨j, hj, hv⟩ := Option.bind_eq_some_iff.1 hv
    obtain ⟨s, hs, hv⟩ := Option.map_eq_some_iff.1 hv
    cases hv
    obtain ⟨k, i', ei, h0, hlt, rfl⟩ := idx_inv hj
    refine opS_still fun ρ w pa hr hf => ?_
    have hp := aev_VR hf x
    rw [hx] at hp
    have hq := aev_VR hf i
    rw [ei] at hq
    obtain ⟨p, hρ, e⟩ := hp.ptr_inv
    refine ⟨_, VR.ptr_at off (i'.toNat * s) hρ, ?_⟩
    unfold execOp
    simp only [ho, e, hq.int_inv]
    refine run_v ?_
    simp [Instr.indexAt, asIntOf, Sem.run_bind, run_underlying hu, Result.andThen, Instr.sureAddr, h0, hlt, run_sizeOf' hs, addr_add]
  · rename_i n el b off hu hx
    obtain ⟨j, hj, hv⟩ := Option.bind_eq_some_iff.1 hv
    obtain ⟨s, hs, hv⟩ := Option.map_eq_some_iff.1 hv
    cases hv
    obtain ⟨k, i', ei, h0, hlt, rfl⟩ := idx_inv hj
    refine opS_still fun ρ w pa hr hf => ?_
    have hp := aev_VR hf x
    rw [hx] at hp
    have hq := aev_VR hf i
    rw [ei] at hq
    refine ⟨_, VR.gptr _ _, ?_⟩
    unfold execOp
    simp only [ho, hp.gptr_inv, hq.int_inv]
    refine run_v ?_
    simp [Instr.indexAt, asIntOf, Sem.run_bind, run_underlying hu, Result.andThen, Instr.sureAddr, h0, hlt, run_sizeOf' hs, addr_add]
  · rename_i el b off n cap hu hx
    obtain ⟨j, hj, hv⟩ := Option.bind_eq_some_iff.1 hv
    obtain ⟨s, hs, hv⟩ := Option.map_eq_some_iff.1 hv
    cases hv
    obtain ⟨k, i', ei, h0, hlt, rfl⟩ := idx_inv hj
    refine opS_still fun ρ w pa hr hf => ?_
    have hp := aev_VR hf x
    rw [hx] at hp
    have hq := aev_VR hf i
    rw [ei] at hq
    obtain ⟨p, c, x', hρ, e, hnc, -, -, hx'⟩ := hp.slc_inv
    obtain rfl : x' = p.sh + off := by omega
    refine ⟨_, VR.ptr_at off (i'.toNat * s) hρ, ?_⟩
    unfold execOp
    simp only [ho, e, hq.int_inv]
    refine run_v ?_
    simp [Instr.indexAt, asIntOf, Sem.run_bind, run_underlying hu, Result.andThen, Instr.sureAddr, h0, hlt, run_sizeOf' hs, addr_add]
  · cases hv
theorem op_index {t : TypeId} {x i : Operand} (ho : o.op = .index t x i) (hv : oIndex P h t (aev a x) (aev a i) = some (.val v h')) : OpS P G h a o v h' := by
  unfold oIndex at hv
  split at hv
  · rename_i n el cs hu hx
    obtain ⟨j, hj, hv⟩ := Option.bind_eq_some_iff.1 hv
    obtain ⟨s, hs, hv⟩ := Option.bind_eq_some_iff.1 hv
    obtain ⟨y, hy, hv⟩ := Option.map_eq_some_iff.1 hv
    cases hv
    obtain ⟨k, i', ei, h0, hlt, rfl⟩ := idx_inv hj
    refine opS_still fun ρ w pa hr hf => ?_
    have hp := aev_VR hf x
    rw [hx] at hp
    have hq := aev_VR hf i
    rw [ei] at hq
    obtain ⟨pc, e, hl, h1⟩ := hp.agg_parts
    obtain ⟨pv, hr, hv⟩ := run_part_LR (P := P) hl h1 hy w
    refine ⟨pv, hv, ?_⟩
    unfold execOp
    simp only [ho, e, hq.int_inv]
    refine run_v ?_
    simp [Instr.index, asIntOf, Sem.run_bind, run_underlying hu, Result.andThen, h0, hlt, run_sizeOf' hs, hr]
  · rename_i s hu hx
    obtain ⟨j, hj, hv⟩ := Option.bind_eq_some_iff.1 hv
    obtain ⟨y, hy, hv⟩ := Option.map_eq_some_iff.1 hv
    cases hv
    obtain ⟨k, i', ei, h0, hlt, rfl⟩ := idx_inv hj
    refine opS_still fun ρ w pa hr hf => ?_
    have hp := aev_VR hf x
    rw [hx] at hp
    have hq := aev_VR hf i
    rw [ei] at hq
    refine ⟨_, VR.int _ _, ?_⟩
    unfold execOp
    simp only [ho, hp.str_inv, hq.int_inv]
    refine run_v ?_
    rw [nth_eq] at hy
    rw [len_eq] at hlt
    have hg : (⟨s.toArray⟩ : ByteArray)[i'.toNat]? = some y := by
      have hl : i'.toNat < s.length := by omega
      have h2 : s[i'.toNat] = y := by rw [List.getElem?_eq_getElem hl] at hy; exact Option.some.inj hy
      rw [getElem?_pos (⟨s.toArray⟩ : ByteArray) i'.toNat (by simpa [ByteArray.size] using hl)]
      exact congrArg some h2
    simp [Instr.index, asIntOf, Sem.run_bind, run_underlying hu, Result.andThen, h0, hg]
  · cases hv
theorem LR.map_aev {pa : Act} (hf : FR ρ a pa.tmps) (l : List Operand) : LR ρ (l.map (aev a)) (l.map pa.eval) := by
  induction l with
  | nil => exact .nil
  | cons x r ih => exact .cons (aev_VR hf x) ih
theorem op_makeFunc {fn : Fn} {f c : Array Operand} (ho : o.op = .makeFunc fn f c) (hk : ∃ g, fn = .func g) : OpS P G h a o (.fn fn (f.toList.map (aev a)) (c.toList.map (aev a))) h := opS_still fun ρ w pa hr hf => by
  obtain ⟨g, rfl⟩ := hk
  have h1 := LR.map_aev hf f.toList
  have h2 := LR.map_aev hf c.toList
  refine ⟨.func (.func g) (f.map pa.eval) (c.map pa.eval), .fn g (by simp) (by simp) (fun i v v' e e' => h1.2 i v v' e ?_) (fun i v v' e e' => h2.2 i v v' e ?_), ?_⟩
  · rw [← Array.toList_map, Array.getElem?_toList]; exact e'
  · rw [← Array.toList_map, Array.getElem?_toList]; exact e'
  · unfold execOp; simp only [ho]; exact run_v rfl
theorem op_iface {t : TypeId} {x : Operand} (ho : o.op = .makeInterface t x) (hv : oIface P h t (aev a x) = some (.val v h')) : OpS P G h a o v h' := by
  unfold oIface at hv
  split at hv
  · cases hv
  · rename_i d hne hu
    cases hv
    refine opS_still fun ρ w pa hr hf => ⟨_, .ifc t (aev_VR hf x), ?_⟩
    unfold execOp
    simp only [ho]
    refine run_v ?_
    unfold Instr.makeInterface
    rw [Sem.run_bind, run_underlying hu]
    cases d <;> first | rfl | exact absurd rfl (hne _)
  · cases hv
theorem VR.tup_parts {l : List LV} {v' : Value} (hv : VR ρ (.tup l) v') : ∃ pc : Array Value, v' = .tuple pc ∧ LR ρ l pc.toList := by
  cases hv with
  | tup h r => exact ⟨_, rfl, by simpa using h, fun i v v' e e' => r i v v' e (by simpa using e')⟩
theorem op_extract {x : Operand} {i : Nat} (ho : o.op = .extract x i) (hv : oExtract h i (aev a x) = some (.val v h')) : OpS P G h a o v h' := by
  unfold oExtract at hv
  split at hv
  · rename_i l hx
    obtain ⟨y, hy, hv⟩ := Option.map_eq_some_iff.1 hv
    cases hv
    rw [nth_eq] at hy
    refine opS_still fun ρ w pa hr hf => ?_
    have hp := aev_VR hf x
    rw [hx] at hp
    obtain ⟨pc, e, hl⟩ := hp.tup_parts
    obtain ⟨y', hy', hv⟩ := hl.get hy
    refine ⟨y', hv, ?_⟩
    unfold execOp
    simp only [ho, e]
    refine run_v ?_
    have : pc[i]? = some y' := by simpa using hy'
    simp [Instr.extract, this]
  · cases hv
theorem run_typeInfo' {t : TypeId} {i : TypeInfo} (hi : P.info? t = some i) (w : World) : (typeInfo t).run P w = .ok i w := by
  simp [typeInfo, hi]
theorem VR.pair {x : LV} {y : Value} (hv : VR ρ x y) (b : Bool) : VR ρ (.tup [x, .bool b]) (.tuple #[y, .bool b]) := VR.mk_tup (.cons hv (.cons (.bool b) .nil))
theorem op_assert {x : Operand} {xT aT : TypeId} {ok : Bool} (ho : o.op = .typeAssert x xT aT ok) (hv : oAssert P h aT ok (aev a x) = some (.val v h')) : OpS P G h a o v h' := by
  unfold oAssert at hv
  split at hv
  · rename_i want t y hu hx
    obtain ⟨i, hi, hv⟩ := Option.bind_eq_some_iff.1 hv
    split at hv
    · rename_i hm
      cases hv
      refine opS_still fun ρ w pa hr hf => ?_
      have hp := aev_VR hf x
      rw [hx] at hp
      obtain ⟨z, e, hz⟩ := hp.ifc_inv
      refine ⟨if ok then .tuple #[.iface t z, .bool true] else .iface t z, by cases ok; exact .ifc t hz; exact VR.pair (.ifc t hz) true, ?_⟩
      unfold execOp
      simp only [ho, e]
      refine run_v ?_
      simp [Instr.typeAssert, Sem.run_bind, run_underlying hu, Result.andThen, run_typeInfo' hi, hm]
    · cases hv
  · cases hv
  · rename_i d t y hni hu hx
    cases hb : Nat.beq t aT <;> rw [hb] at hv
    · cases ok
      · cases hv
      · simp only [cond_false, cond_true] at hv
        obtain ⟨z, hz, hv⟩ := Option.map_eq_some_iff.1 hv
        cases hv
        obtain ⟨i, pz, hi, hz', rfl⟩ := zeroOf_info hz
        refine opS_still fun ρ w pa hr hf => ?_
        have hp := aev_VR hf x
        rw [hx] at hp
        obtain ⟨q, e, hq⟩ := hp.ifc_inv
        refine ⟨.tuple #[pz, .bool false], VR.pair (ofV_VR 3 pz) false, ?_⟩
        unfold execOp
        simp only [ho, e]
        refine run_v ?_
        have hne : t ≠ aT := fun e => by rw [e, Nat.beq_refl] at hb; cases hb
        cases d <;> first | exact (hni _ rfl).elim | simp [Instr.typeAssert, Sem.run_bind, run_underlying hu, Result.andThen, hne, run_zero hi hz']
    · simp only [cond_true] at hv
      cases hv
      have := Nat.eq_of_beq_eq_true hb
      subst this
      refine opS_still fun ρ w pa hr hf => ?_
      have hp := aev_VR hf x
      rw [hx] at hp
      obtain ⟨z, e, hz⟩ := hp.ifc_inv
      refine ⟨if ok then .tuple #[z, .bool true] else z, by cases ok; exact hz; exact VR.pair hz true, ?_⟩
      unfold execOp
      simp only [ho, e]
      refine run_v ?_
      cases d <;> first | exact (hni _ rfl).elim | simp [Instr.typeAssert, Sem.run_bind, run_underlying hu, Result.andThen]
  · rename_i d hni hu hx
    cases ok
    · cases hv
    · simp only [cond_true] at hv
      obtain ⟨z, hz, hv⟩ := Option.map_eq_some_iff.1 hv
      cases hv
      obtain ⟨i, pz, hi, hz', rfl⟩ := zeroOf_info hz
      refine opS_still fun ρ w pa hr hf => ?_
      have hp := aev_VR hf x
      rw [hx] at hp
      refine ⟨.tuple #[pz, .bool false], VR.pair (ofV_VR 3 pz) false, ?_⟩
      unfold execOp
      simp only [ho, hp.nili_inv]
      refine run_v ?_
      cases d <;> first | exact (hni _ rfl).elim | simp [Instr.typeAssert, Sem.run_bind, run_underlying hu, Result.andThen, run_zero hi hz']
  · cases hv
end
end Go.Proofs.Eng
