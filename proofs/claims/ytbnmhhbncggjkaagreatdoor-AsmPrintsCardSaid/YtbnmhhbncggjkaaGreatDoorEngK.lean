/- The logical machine: composites built out of parts. Conditions: none. -/
import Derived.Test.YtbnmhhbncggjkaaGreatDoorEngJ
set_option linter.unusedVariables false
set_option linter.unusedSimpArgs false
namespace Go.Proofs.Eng
open Go
theorem setRow_list (vs : List Value) (pc : Array Value) (o : Nat) (h : o + vs.length ≤ pc.size) : (setRow pc o vs).toList = pc.toList.take o ++ vs ++ pc.toList.drop (o + vs.length) := by
  apply List.ext_getElem?
  intro i
  rw [Array.getElem?_toList, setRow_get vs pc o i h]
  by_cases h1 : i < o
  · rw [if_neg (by omega), List.append_assoc, List.getElem?_append_left (by simp; omega), List.getElem?_take_of_lt h1, Array.getElem?_toList]
  · by_cases h2 : i < o + vs.length
    · rw [if_pos (by omega), List.append_assoc, List.getElem?_append_right (by simp; omega), List.getElem?_append_left (by simp; omega)]
      congr 1
      simp; omega
    · rw [if_neg (by omega), List.getElem?_append_right (by simp; omega), List.getElem?_drop, Array.getElem?_toList]
      congr 1
      simp; omega
theorem foldl_setRow : ∀ (l : List Value) (k : Nat) (cs : Array Value) (off : Nat), (l.zipIdx k).foldl (fun (cs : Array Value) (p : Value × Nat) => cs.setIfInBounds (off + p.2) p.1) cs = setRow cs (off + k) l
  | [], _, _, _ => rfl
  | x :: r, k, cs, off => by
    rw [List.zipIdx_cons, List.foldl_cons, setRow]
    exact foldl_setRow r (k + 1) _ off
theorem fill_step (cells vs : Array Value) (off : Nat) : vs.zipIdx.foldl (fun (cs : Array Value) (x : Value × Nat) => match x with | (c, j) => cs.setIfInBounds (off + j) c) cells = setRow cells off vs.toList := by
  rw [← Array.foldl_toList]
  have : vs.zipIdx.toList = vs.toList.zipIdx := by simp
  rw [this]
  exact foldl_setRow vs.toList 0 cells off
section
variable {P : Program} {G : Gl} {ρ : Rho} {h h' : Hp} {w : World} {a : Fr} {o : Oper} {v : LV}
/-- Parts laid in, in both. -/
theorem fill_LR {place : Nat → Option (Nat × Nat)} : ∀ (ps : List (Nat × LV)) (pps : List (Nat × Value)) (pos : Nat) (cells : List LV) (pre rest : List Value) (r : List LV), ps.length = pps.length → (∀ (i : Nat) x y, ps[i]? = some x → pps[i]? = some y → x.1 = y.1 ∧ VR ρ x.2 y.2) →
    pre.length = pos → LR ρ cells rest → (∀ u ∈ rest, u.oneCell' = true) → lfill place pos cells ps = some r →
    ∃ pr, LR ρ r pr ∧ (∀ u ∈ pr, u.oneCell' = true) ∧ Instr.fill place (pre ++ rest).toArray pps = some (pre ++ pr).toArray
  | [], pps, pos, cells, pre, rest, r, hl, hp, hpre, hc, h1, hr => by
    cases pps with
    | nil => cases hr; exact ⟨rest, hc, h1, rfl⟩
    | cons => simp at hl
  | (i, x) :: ps, pps, pos, cells, pre, rest, r, hl, hp, hpre, hc, h1, hr => by
    cases pps with
    | nil => simp at hl
    | cons y pps =>
      obtain ⟨j, y⟩ := y
      obtain ⟨e, hv⟩ := hp 0 (i, x) (j, y) rfl rfl
      simp only at e hv
      subst e
      unfold lfill at hr
      obtain ⟨⟨off, size⟩, e1, hr⟩ := Option.bind_eq_some_iff.1 hr
      obtain ⟨vs, e2, hr⟩ := Option.bind_eq_some_iff.1 hr
      cases hb : Nat.ble pos off && Nat.beq (len vs) size && Nat.ble (off - pos + size) (len cells) <;> simp only [hb] at hr
      · cases hr
      · simp only [cond_true] at hr
        obtain ⟨r', e3, rfl⟩ := Option.map_eq_some_iff.1 hr
        simp only [Bool.and_eq_true] at hb
        have b1 := Nat.le_of_ble_eq_true hb.1.1
        have b2 := Nat.eq_of_beq_eq_true hb.1.2
        have b3 := Nat.le_of_ble_eq_true hb.2
        rw [len_eq] at b2 b3
        rw [drp_eq] at e3
        obtain ⟨lv', ov⟩ := cells_LR hv e2
        have hlen : y.cells.toList.length = size := by rw [← lv'.1, b2]
        have hcl := hc.1
        have ih := fill_LR (place := place) ps pps (off + size) (cells.drop (off - pos + size)) (pre ++ rest.take (off - pos) ++ y.cells.toList) (rest.drop (off - pos + size)) r' (by simpa using hl) (fun k x' y' a b => hp (k + 1) x' y' (by simpa using a) (by simpa using b))
          (by simp only [List.length_append, List.length_take, hlen]; omega) (hc.drop _) (fun u hu => h1 u (List.mem_of_mem_drop hu)) e3
        obtain ⟨pr, p1, p2, p3⟩ := ih
        refine ⟨rest.take (off - pos) ++ y.cells.toList ++ pr, ?_, ?_, ?_⟩
        · rw [app_eq, app_eq, tak_eq, ← List.append_assoc]
          exact ((hc.take _).append lv').append p1
        · intro u hu
          rcases List.mem_append.1 hu with hu | hu
          · rcases List.mem_append.1 hu with hu | hu
            · exact h1 u (List.mem_of_mem_take hu)
            · exact ov u hu
          · exact p2 u hu
        · unfold Instr.fill
          have hsz : y.cells.size = size := by simpa using hlen
          have hin : off + y.cells.size ≤ (pre ++ rest).toArray.size := by simp; omega
          simp only [e1, hsz]
          rw [if_neg (by simp; omega), fill_step]
          have : setRow (pre ++ rest).toArray off y.cells.toList = ((pre ++ rest.take (off - pos) ++ y.cells.toList) ++ rest.drop (off - pos + size)).toArray := by
            apply Array.ext'
            rw [setRow_list _ _ _ (by rw [hlen]; rw [hsz] at hin; exact hin)]
            simp only [List.toList_toArray]
            rw [List.take_append, List.take_of_length_le (by omega), hlen, List.drop_append, List.drop_of_length_le (by omega)]
            simp only [List.nil_append]
            congr 1
            · congr 2
              congr 1
              omega
            · congr 1
              omega
          rw [this, p3]
          simp [List.append_assoc]
theorem run_mapM {α β : Type} (f : α → Sem β) (g : α → β) (w : World) : ∀ (l : List α), (∀ x ∈ l, (f x).run P w = .ok (g x) w) → (l.mapM f).run P w = .ok (l.map g) w
  | [], _ => by simp
  | x :: r, h => by
    rw [List.mapM_cons]
    simp only [Sem.run_bind, h x (by simp), Result.andThen, run_mapM f g w r (fun y hy => h y (by simp [hy])), Sem.run_pure, List.map_cons]
theorem run_amapM {α β : Type} (f : α → Sem β) (g : α → β) (w : World) (l : Array α) (h : ∀ x ∈ l.toList, (f x).run P w = .ok (g x) w) : (l.mapM f).run P w = .ok (l.toList.map g).toArray w := by
  rw [Array.mapM_eq_mapM_toList]
  rw [← bind_pure_comp, Sem.run_bind, run_mapM f g w _ h]
  rfl
theorem lparts_LR {pa : Act} (hf : FR ρ a pa.tmps) (ps : Array (Nat × Operand)) : (lparts a ps).length = (ps.map fun (i, x) => (i, pa.eval x)).toList.length ∧ ∀ (i : Nat) x y, (lparts a ps)[i]? = some x → (ps.map fun (i, x) => (i, pa.eval x)).toList[i]? = some y → x.1 = y.1 ∧ VR ρ x.2 y.2 := by
  unfold lparts
  refine ⟨by simp, fun i x y e1 e2 => ?_⟩
  rw [List.getElem?_map] at e1
  rw [Array.toList_map, List.getElem?_map] at e2
  cases hq : ps.toList[i]? with
  | none => rw [hq] at e1; cases e1
  | some q =>
    rw [hq] at e1 e2
    simp at e1 e2
    subst e1; subst e2
    exact ⟨rfl, aev_VR hf _⟩
theorem op_build {t : TypeId} {ps : Array (Nat × Operand)} (ho : o.op = .build t ps) (hv : oBuild P h t (lparts a ps) = some (.val v h')) : OpS P G h a o v h' := by
  unfold oBuild at hv
  obtain ⟨z, hz, hv⟩ := Option.bind_eq_some_iff.1 hv
  obtain ⟨i, pz, hi, hz', rfl⟩ := zeroOf_info hz
  split at hv <;> first | (cases hv; done) | skip
  · rename_i fs hu
    cases hsz : allSized P fs.toList <;> rw [hsz] at hv
    · cases hv
    · simp only [cond_true] at hv
      obtain ⟨zs, hzs, hv⟩ := Option.bind_eq_some_iff.1 hv
      obtain ⟨cs, hcs, hv⟩ := Option.map_eq_some_iff.1 hv
      cases hv
      refine opS_still fun ρ w pa hr hf => ?_
      obtain ⟨l1, l2⟩ := lparts_LR hf ps
      obtain ⟨hl, h1⟩ := cells_LR (ρ := ρ) (ofV_VR 3 pz) hzs
      obtain ⟨pr, p1, p2, p3⟩ := fill_LR (lparts a ps) _ 0 zs [] pz.cells.toList cs l1 l2 rfl hl h1 hcs
      refine ⟨.agg pr.toArray, VR.mk_agg p1 p2, ?_⟩
      unfold execOp
      simp only [ho]
      refine run_v ?_
      unfold Instr.build
      have hmap := run_amapM (P := P) (fun f : Field => do pure (f.offset, ← sizeOf f.type)) (fun f => (f.offset, (szOf P f.type).getD 0)) w fs (fun f hfm => by
        have := List.all_eq_true.1 hsz f hfm
        obtain ⟨n, hn⟩ := Option.isSome_iff_exists.1 this
        simp [Sem.run_bind, run_sizeOf' hn, hn])
      have hpl : (fun i => ((fs.toList.map fun f => (f.offset, (szOf P f.type).getD 0)).toArray)[i]?) = fldPlace P fs := by
        funext i
        simp only [fldPlace]
        rw [List.getElem?_toArray, List.getElem?_map, Array.getElem?_toList]
        cases hq : fs[i]? with
        | none => rfl
        | some f =>
          have := List.all_eq_true.1 hsz f (by simpa using Array.mem_of_getElem? hq)
          obtain ⟨n, hn⟩ := Option.isSome_iff_exists.1 this
          simp [hn]
      simp only [Sem.run_bind, run_zero hi hz', Result.andThen, run_underlying hu, hmap]
      simp only [List.nil_append, Array.toArray_toList] at p3
      rw [hpl, p3]
      rfl
  · rename_i n el hu
    obtain ⟨s, hs, hv⟩ := Option.bind_eq_some_iff.1 hv
    obtain ⟨zs, hzs, hv⟩ := Option.bind_eq_some_iff.1 hv
    obtain ⟨cs, hcs, hv⟩ := Option.map_eq_some_iff.1 hv
    cases hv
    refine opS_still fun ρ w pa hr hf => ?_
    obtain ⟨l1, l2⟩ := lparts_LR hf ps
    obtain ⟨hl, h1⟩ := cells_LR (ρ := ρ) (ofV_VR 3 pz) hzs
    obtain ⟨pr, p1, p2, p3⟩ := fill_LR (lparts a ps) _ 0 zs [] pz.cells.toList cs l1 l2 rfl hl h1 hcs
    refine ⟨.agg pr.toArray, VR.mk_agg p1 p2, ?_⟩
    unfold execOp
    simp only [ho]
    refine run_v ?_
    unfold Instr.build
    simp only [Sem.run_bind, run_zero hi hz', Result.andThen, run_underlying hu, run_sizeOf' hs]
    simp only [List.nil_append, Array.toArray_toList] at p3
    rw [p3]
    rfl
/-- Zeros, so many times. -/
theorem zeros_eq (z : Array Value) (s n : Nat) (hz : z.size = s) : (Array.range (n * s)).map (fun i => z[i % z.size]!) = ((List.replicate n z.toList).flatten).toArray := by
  apply Array.ext'
  subst hz
  simp only [Array.toList_map, Array.toList_range, List.toList_toArray]
  induction n with
  | zero => simp
  | succ n ih =>
    rw [List.replicate_succ', List.flatten_append, ← ih, Nat.succ_mul, List.range_add]
    simp only [List.map_append, List.map_map, List.flatten_cons, List.flatten_nil, List.append_nil]
    congr 1
    apply List.ext_getElem?
    intro i
    simp only [List.getElem?_map, List.getElem?_range, Function.comp]
    by_cases hi : i < z.size
    · simp [hi, Nat.mod_eq_of_lt hi, Nat.add_mod]
    · simp [hi]
theorem LR.rep {zs : List LV} {pz : List Value} (hl : LR ρ zs pz) : ∀ n, LR ρ (rep zs n) (List.replicate n pz).flatten
  | 0 => .nil
  | n + 1 => by
    rw [rep_eq, List.replicate_succ, List.replicate_succ, List.flatten_cons, List.flatten_cons, ← rep_eq]
    exact hl.append (LR.rep hl n)
end
end Go.Proofs.Eng
