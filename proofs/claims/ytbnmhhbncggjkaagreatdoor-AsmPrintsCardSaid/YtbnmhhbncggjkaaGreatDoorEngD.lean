/- The logical machine: operations, told in a world: values, addresses, loads, stores, new blocks. Conditions: none. -/
import Derived.Test.YtbnmhhbncggjkaaGreatDoorEngC
import Derived.Laws.IdiomCopy
import Derived.Laws.Rows
import Derived.Laws.Tables
set_option linter.unusedVariables false
set_option linter.unusedSimpArgs false
namespace Go.Proofs.Eng
open Go
section
variable {P : Program} {G : Gl} {ρ : Rho} {h h' : Hp} {w : World} {a : Fr} {o : Oper} {v : LV}
/-- An operation that yields a value, told in every world in which the heap lies. -/
def OpS (P : Program) (G : Gl) (h : Hp) (a : Fr) (o : Oper) (v : LV) (h' : Hp) : Prop :=
  ∀ (ρ : Rho) (w : World) (pa : Act), Real G ρ h w → FR ρ a pa.tmps → ∃ ρ' w' pv, St ρ h w ρ' h' w' ∧ Real G ρ' h' w' ∧ VR ρ' v pv ∧
    ((execOp pa.eval o).run P w = .ok (.value pv) w' ∨ ((execOp pa.eval o).run P w = .ok .skip w' ∧ pv = undef))
theorem aev_VR {pa : Act} (hf : FR ρ a pa.tmps) (x : Operand) : VR ρ (aev a x) (pa.eval x) := by
  cases x with
  | tmp t => exact hf t
  | const c => exact ofV_VR 3 c
  | global g => exact .gptr g 0
  | func f => exact .fn f rfl rfl (fun i v v' e => by simp at e) (fun i v v' e => by simp at e)
theorem run_v {s : Sem Value} {x : Value} {w w' : World} (hr : s.run P w = .ok x w') : (do pure (Next.value (← s)) : Sem Next).run P w = .ok (.value x) w' := by
  rw [Sem.run_bind, hr]; rfl
theorem run_u {s : Sem Unit} {w w' : World} (hr : s.run P w = .ok () w') : (do s; pure Next.skip : Sem Next).run P w = .ok .skip w' := by
  rw [Sem.run_bind, hr]; rfl
/-- A value, the heap as it was. -/
theorem opS_still (hv : ∀ (ρ : Rho) (w : World) (pa : Act), Real G ρ h w → FR ρ a pa.tmps → ∃ pv, VR ρ v pv ∧ (execOp pa.eval o).run P w = .ok (.value pv) w) : OpS P G h a o v h := fun ρ w pa hr hf => by
  obtain ⟨pv, h1, h2⟩ := hv ρ w pa hr hf
  exact ⟨ρ, w, pv, .refl, hr, h1, .inl h2⟩
theorem op_move {x : Operand} (ho : o.op = .move x ∨ o.op = .assign x) : OpS P G h a o (aev a x) h := opS_still fun ρ w pa hr hf =>
  ⟨pa.eval x, aev_VR hf x, by rcases ho with ho | ho <;> (unfold execOp; simp only [ho]; rfl)⟩
theorem op_pick {c x y : Operand} (ho : o.op = .pick c x y) {b : Bool} (hc : aev a c = .bool b) : OpS P G h a o (bif b then aev a x else aev a y) h := opS_still fun ρ w pa hr hf => by
  have h1 := aev_VR hf c
  rw [hc] at h1
  have e := h1.bool_inv
  refine ⟨if b then pa.eval x else pa.eval y, ?_, by unfold execOp; simp only [ho, e, asBool]; cases b <;> rfl⟩
  cases b
  · exact aev_VR hf y
  · exact aev_VR hf x
theorem szOf_info {t : TypeId} {n : Nat} (h : szOf P t = some n) : ∃ i, P.info? t = some i ∧ i.size = n := by
  unfold szOf at h
  exact Option.map_eq_some_iff.1 h
theorem run_sizeOf' {t : TypeId} {n : Nat} (h : szOf P t = some n) (w : World) : (sizeOf t).run P w = .ok n w := by
  obtain ⟨i, hi, rfl⟩ := szOf_info h
  simp [sizeOf, typeInfo, hi]
theorem run_isAgg' {t : TypeId} {b : Bool} (hb : aggT P t = some b) (w : World) : (isAgg t).run P w = .ok b w := by
  unfold aggT at hb
  obtain ⟨d, hu, rfl⟩ := Option.map_eq_some_iff.1 hb
  unfold isAgg
  rw [Sem.run_bind, run_underlying hu]
  cases d <;> rfl
theorem zeroOf_info {t : TypeId} {z : LV} (h : zeroOf P t = some z) : ∃ i pz, P.info? t = some i ∧ i.zero = some pz ∧ z = ofV 3 pz := by
  unfold zeroOf at h
  obtain ⟨pz, h1, rfl⟩ := Option.map_eq_some_iff.1 h
  obtain ⟨i, h2, h3⟩ := Option.bind_eq_some_iff.1 h1
  exact ⟨i, pz, h2, h3, rfl⟩
theorem run_zero {t : TypeId} {i : TypeInfo} {pz : Value} (hi : P.info? t = some i) (hz : i.zero = some pz) (w : World) : (zeroValue t).run P w = .ok pz w := by
  simp [zeroValue, typeInfo, hi, hz]
theorem VR.one {v : LV} {v' : Value} (h : VR ρ v v') (h1 : v ≠ .any) (h2 : ∀ l, v ≠ .agg l) (h3 : ∀ l, v ≠ .tup l) : v'.oneCell' = true := by
  cases h <;> first | rfl | exact absurd rfl h1 | exact absurd rfl (h2 _) | exact absurd rfl (h3 _)
/-- The cells of a known value. -/
theorem cells_LR {v : LV} {v' : Value} {c : List LV} (hv : VR ρ v v') (hc : v.cells = some c) : LR ρ c v'.cells.toList ∧ ∀ u ∈ v'.cells.toList, u.oneCell' = true := by
  cases hv with
  | any v => cases hc
  | tup h r => cases hc
  | agg h r ho =>
    rename_i l b
    cases hc
    obtain ⟨a', e, hl⟩ := VR.agg_iff (.agg h r ho)
    cases e
    exact ⟨by simpa [Value.cells] using hl, fun u hu => ho u (by simpa [Value.cells] using hu)⟩
  | _ =>
    cases hc
    refine ⟨.cons (by first | exact .bool _ | exact .int _ _ | exact .str _ | exact .nilp | exact .ptr _ (by assumption) | exact .gptr _ _ | exact .nils | exact .slc _ _ _ (by assumption) (by assumption) (by assumption) (by assumption) (by assumption) | exact .nilm | exact .map (by assumption) | exact .nilf | exact .fn _ (by assumption) (by assumption) (by assumption) (by assumption) | exact .yield (by assumption) (by assumption) (by assumption) | exact .nili | exact .ifc _ (by assumption)) .nil, fun u hu => ?_⟩
    simp [Value.cells] at hu
    subst hu
    rfl
/-- A new row of cells. -/
theorem CR.new {c : List LV} {pc : List Value} (hl : LR ρ c pc) (h1 : ∀ u ∈ pc, u.oneCell' = true) (w : World) (t : TypeId) (st : Nat) : CR ρ (w.alloc (.cells pc.toArray t)) ⟨w.heap.size, 0, pc.length, st⟩ c :=
  ⟨pc.toArray, t, (0, 0), heap_alloc_at w _, by simp, by simp [hl.1], fun i v v' e e' => hl.2 i v v' e (by simpa using e'), fun i u e => h1 u (List.mem_of_getElem? (by simpa using e)), fun i hi => by simp⟩
theorem new_cells {c : List LV} {pc : List Value} (r : Real G ρ h w) (hl : LR ρ c pc) (h1 : ∀ u ∈ pc, u.oneCell' = true) (t : TypeId) (st : Nat) :
    Real G (ρ.add h.n ⟨w.heap.size, 0, pc.length, st⟩) (newB h c t st) (w.alloc (.cells pc.toArray t)) ∧ St ρ h w (ρ.add h.n ⟨w.heap.size, 0, pc.length, st⟩) (newB h c t st) (w.alloc (.cells pc.toArray t)) :=
  real_new r _ _ _ rfl (fun g e => by simp [grpOf] at e; omega) ⟨_, Rho.add_same _ _, ⟨rfl, _, _, heap_alloc_at w _, fun _ _ => ⟨rfl, by simp [hl.1], rfl⟩⟩, (CR.new hl h1 w t st).mono (Rho.ext_add r _)⟩
theorem op_alloc {t : TypeId} (ho : o.op = .alloc t) {z : LV} {zs : List LV} (hz : zeroOf P t = some z) (hc : z.cells = some zs) : OpS P G h a o (.ptr h.n 0) (newB h zs t 0) := fun ρ w pa hr hf => by
  obtain ⟨i, pz, hi, hz', rfl⟩ := zeroOf_info hz
  obtain ⟨hl, h1⟩ := cells_LR (ρ := ρ) (ofV_VR 3 pz) hc
  obtain ⟨r1, s1⟩ := new_cells hr hl h1 t 0
  refine ⟨_, _, .pointer (some ⟨w.heap.size, 0, none⟩), s1, r1, .ptr 0 (Rho.add_same _ _), .inl ?_⟩
  unfold execOp
  simp only [ho]
  refine run_v ?_
  unfold Instr.alloc
  rw [Sem.run_bind, run_zero hi hz']
  simp [newVar, newRow]
theorem op_box {t : TypeId} {x : Operand} (ho : o.op = .box t x) {c : List LV} (hc : (aev a x).cells = some c) : OpS P G h a o (.ptr h.n 0) (newB h c t 0) := fun ρ w pa hr hf => by
  obtain ⟨hl, h1⟩ := cells_LR (aev_VR hf x) hc
  obtain ⟨r1, s1⟩ := new_cells hr hl h1 t 0
  refine ⟨_, _, .pointer (some ⟨w.heap.size, 0, none⟩), s1, r1, .ptr 0 (Rho.add_same _ _), .inl ?_⟩
  unfold execOp
  simp only [ho]
  refine run_v ?_
  simp [Instr.box, newVar, newRow]
/-- A part of a row. -/
theorem lpart_inv {t : TypeId} {c : List LV} {off : Nat} {x : LV} (h : lpart P t c off = some x) : (aggT P t = some true ∧ ∃ n, szOf P t = some n ∧ off + n ≤ c.length ∧ x = .agg ((c.drop off).take n)) ∨ (aggT P t = some false ∧ c[off]? = some x) := by
  unfold lpart at h
  obtain ⟨b, ha, h⟩ := Option.bind_eq_some_iff.1 h
  cases b
  · exact .inr ⟨ha, by simpa [nth_eq] using h⟩
  · refine .inl ⟨ha, ?_⟩
    simp only [cond_true] at h
    obtain ⟨n, hn, h⟩ := Option.bind_eq_some_iff.1 h
    cases hb : Nat.ble (off + n) (len c) <;> rw [hb] at h
    · cases h
    · simp only [cond_true, Option.some.injEq] at h
      exact ⟨n, hn, by rw [← len_eq]; exact Nat.le_of_ble_eq_true hb, by rw [← h, tak_eq, drp_eq]⟩
theorem VR.take {c : List LV} {pc : Array Value} {sh off n : Nat} (hl : ∀ (i : Nat) v v', c[i]? = some v → pc[sh + i]? = some v' → VR ρ v v') (h1 : ∀ (i : Nat) u, pc[i]? = some u → u.oneCell' = true) (hn : off + n ≤ c.length) (hs : sh + c.length ≤ pc.size) :
    VR ρ (.agg ((c.drop off).take n)) (.agg (pc.extract (sh + off) (sh + off + n))) := by
  have e : pc.extract (sh + off) (sh + off + n) = ((pc.toList.drop (sh + off)).take n).toArray := by
    apply Array.ext'
    simp [Array.toList_extract, List.extract_eq_take_drop]
  rw [e]
  refine VR.mk_agg ⟨by simp; omega, fun i v v' e1 e2 => ?_⟩ (fun u hu => ?_)
  · rw [List.getElem?_take] at e1 e2
    split at e1
    · rename_i hi
      rw [if_pos hi] at e2
      rw [List.getElem?_drop] at e1 e2
      exact hl (off + i) v v' e1 (by rw [← e2, Array.getElem?_toList]; congr 1; omega)
    · cases e1
  · have := List.mem_of_mem_drop (List.mem_of_mem_take hu)
    obtain ⟨i, hi, rfl⟩ := List.getElem_of_mem this
    exact h1 i _ (by simp)
/-- A load out of a row. -/
theorem run_loadVar_cr {w : World} {t : TypeId} {c : List LV} {off : Nat} {x : LV} {pc : Array Value} {e : TypeId} {fz : Nat × Nat} {pb sh : Nat} (hw : w.heap[pb]? = some (.cells pc e fz)) (hs : sh + c.length ≤ pc.size)
    (hl : ∀ (i : Nat) v v', c[i]? = some v → pc[sh + i]? = some v' → VR ρ v v') (h1 : ∀ (i : Nat) u, pc[i]? = some u → u.oneCell' = true) (hx : lpart P t c off = some x) :
    ∃ pv, (loadVar t ⟨pb, sh + off, none⟩).run P w = .ok pv w ∧ VR ρ x pv := by
  rcases lpart_inv hx with ⟨ha, n, hn, hb, rfl⟩ | ⟨ha, he⟩
  · refine ⟨_, ?_, VR.take hl h1 hb hs⟩
    unfold loadVar
    rw [Sem.run_bind, run_isAgg' ha]
    simp only [Result.andThen, if_true]
    simp only [Sem.run_bind, run_sizeOf' hn, Result.andThen]
    have hcs : (pc.extract (sh + off) (sh + off + n)).toList.length = n := by simp; omega
    have hr := run_loadCells_list (P := P) (w := w) ⟨pb, sh + off, none⟩ (pc.extract (sh + off) (sh + off + n)).toList (fun j u hj => by
      have hj' : pc[sh + off + j]? = some u := by
        rw [Array.getElem?_toList, Array.getElem?_extract] at hj
        split at hj
        · exact hj
        · cases hj
      have : (⟨pb, sh + off, none⟩ : Addr).add j = ⟨pb, sh + off + j, none⟩ := by
        unfold Addr.add
        split
        · rename_i h0; subst h0; rfl
        · rfl
      rw [this]
      simp [World.cell?, hw, hj'])
    rw [hcs] at hr
    rw [hr]
    simp only [Sem.run_pure, Array.toArray_toList]
  · have hi : sh + off < pc.size := by have := (List.getElem?_eq_some_iff.1 he).1; omega
    refine ⟨pc[sh + off], ?_, hl off x _ he (by simp [hi])⟩
    unfold loadVar
    rw [Sem.run_bind, run_isAgg' ha]
    simp only [Result.andThen, Bool.false_eq_true, if_false]
    rw [run_load]
    simp [World.cell?, hw, hi]
theorem lload_VR {w : World} {t : TypeId} {p : LV} {pv : Value} {x : LV} (hr : Real G ρ h w) (hp : VR ρ p pv) (hx : lload P G h t p = some x) :
    ∃ ad y, pv = .pointer (some ad) ∧ (loadVar t ad).run P w = .ok y w ∧ VR ρ x y := by
  unfold lload at hx
  split at hx
  · rename_i b off
    split at hx
    · rename_i c t' st g sh ro hb
      cases hp with
      | ptr off hρ =>
        rename_i q
        have ho := hr.obj b
        rw [hb] at ho
        obtain ⟨q', hq, -, ⟨pc, e, fz, hw, -, hs, hl, h1, -⟩⟩ := ho
        rw [hρ] at hq
        cases hq
        obtain ⟨y, hy, hv⟩ := run_loadVar_cr (P := P) (t := t) (ρ := ρ) hw hs hl h1 hx
        exact ⟨_, y, rfl, hy, hv⟩
    · cases hx
  · rename_i g off
    obtain ⟨c, hc, hx⟩ := Option.bind_eq_some_iff.1 hx
    cases hp
    obtain ⟨pc, e, fz, hw, hs, hl, h1⟩ := hr.glob g c hc
    obtain ⟨y, hy, hv⟩ := run_loadVar_cr (P := P) (t := t) (ρ := fun _ => none) (sh := 0) hw (by omega) (fun i v v' a b => hl i v v' a (by simpa using b)) h1 hx
    exact ⟨_, y, rfl, by simpa using hy, hv.mono (fun i p e => by cases e)⟩
  · cases hx
theorem op_load {t : TypeId} {p : Operand} (ho : o.op = .load t p) {x : LV} (hx : lload P G h t (aev a p) = some x) : OpS P G h a o x h := opS_still fun ρ w pa hr hf => by
  obtain ⟨ad, y, e, hy, hv⟩ := lload_VR hr (aev_VR hf p) hx
  refine ⟨y, hv, ?_⟩
  unfold execOp
  simp only [ho, e]
  exact run_v (by unfold Instr.loadAt Instr.sureAddr; simp; exact hy)
end
end Go.Proofs.Eng
