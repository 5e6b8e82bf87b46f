/- The logical machine: maps. Conditions: none. -/
import Derived.Test.YtbnmhhbncggjkaaGreatDoorEngO
import Derived.MapKept
set_option linter.unusedVariables false
set_option linter.unusedSimpArgs false
namespace Go.Proofs.Eng
open Go
section
variable {P : Program} {G : Gl} {ρ : Rho} {h h' h1 : Hp} {w : World} {a : Fr} {o : Oper} {v : LV}
theorem keySame_spec {d : TypeDesc} {x y : LV} {px py : Value} {b : Bool} (hx : VR ρ x px) (hy : VR ρ y py) (hk : keySame d x y = some b) : Instr.sameNow d px py = some b ∧ (b = true → py = px) := by
  unfold keySame at hk
  split at hk
  · cases hx; cases hy
    split at hk
    · rename_i e
      cases hk
      refine ⟨by simp only [Instr.sameNow, e, if_true]; congr 1, fun e' => ?_⟩
      simp at e'
      rw [e, e']
    · cases hk
  · cases hx; cases hy
    rw [beqS_eq] at hk
    cases hk
    rename_i s t
    constructor
    · show some ((⟨s.toArray⟩ : ByteArray) == ⟨t.toArray⟩) = _
      congr 1
      by_cases e : s = t
      · subst e; simp [MapKept.bytes_beq]
      · simp only [e, decide_false]
        cases hb : ((⟨s.toArray⟩ : ByteArray) == ⟨t.toArray⟩)
        · rfl
        · have := (MapKept.bytes_beq _ _).1 hb
          simp at this
          exact absurd this e
    · intro e
      simp at e
      rw [e]
  · cases hx; cases hy; cases hk
    exact ⟨rfl, fun e => by simp at e; rw [e]⟩
  · cases hk
def FoundR (ρ : Rho) (i : Nat) (pk : Value) (es : List (LV × LV × Nat)) (es' : List MapEntry) : Found → Option (Nat × Value) → Prop
  | .no, r => r = none
  | .yes j v b, r => ∃ m e e', j = i + m ∧ es[m]? = some e ∧ e.2 = (v, b) ∧ es'[m]? = some e' ∧ r = some (j, e'.val) ∧ e'.key = pk ∧ VR ρ v e'.val ∧ b = e'.born
def ER (ρ : Rho) (es : List (LV × LV × Nat)) (es' : List MapEntry) : Prop := es.length = es'.length ∧ ∀ (i : Nat) x y, es[i]? = some x → es'[i]? = some y → VR ρ x.1 y.key ∧ VR ρ x.2.1 y.val ∧ x.2.2 = y.born
theorem find_spec {d : TypeDesc} {k : LV} {pk : Value} (hk : VR ρ k pk) : ∀ (es : List (LV × LV × Nat)) (es' : List MapEntry) (i : Nat) (r : Found), ER ρ es es' → keyFind d k es i = some r → ∃ r', Instr.findNow d pk es' i = some r' ∧ FoundR ρ i pk es es' r r'
  | [], es', i, r, hr, h => by
    have : es' = [] := List.eq_nil_of_length_eq_zero hr.1.symm
    subst this
    cases h
    exact ⟨none, rfl, rfl⟩
  | e :: es, [], i, r, hr, h => by simp [ER] at hr
  | e :: es, e' :: es', i, r, hr, h => by
    obtain ⟨b, hb, h⟩ := Option.bind_eq_some_iff.1 (show (keySame d k e.1).bind (fun b => bif b then some (Found.yes i e.2.1 e.2.2) else keyFind d k es (i + 1)) = some r from h)
    obtain ⟨k1, k2, k3⟩ := hr.2 0 e e' rfl rfl
    obtain ⟨s1, s2⟩ := keySame_spec hk k1 hb
    cases b with
    | true =>
      cases h
      exact ⟨some (i, e'.val), by simp [Instr.findNow, s1], 0, e, e', rfl, rfl, rfl, rfl, rfl, s2 rfl, k2, k3⟩
    | false =>
      have hr' : ER ρ es es' := ⟨by simpa [ER] using hr.1, fun j x y e1 e2 => hr.2 (j + 1) x y e1 e2⟩
      obtain ⟨r', f1, f2⟩ := find_spec hk es es' (i + 1) r hr' h
      refine ⟨r', by simp [Instr.findNow, s1, f1], ?_⟩
      cases r with
      | no => exact f2
      | yes j v b =>
        obtain ⟨m, x, x', g1, g2⟩ := f2
        exact ⟨m + 1, x, x', by omega, g2⟩
theorem keyT_inv {t : TypeId} {d : TypeDesc} (hk : keyT P t = some d) : P.underlying t = some d ∧ keyD d = true := by
  unfold keyT at hk
  obtain ⟨e, h1, h2⟩ := Option.bind_eq_some_iff.1 hk
  cases hd : keyD e <;> rw [hd] at h2
  · cases h2
  · cases h2
    exact ⟨h1, hd⟩
theorem mapD_inv {d : Option TypeDesc} {kv : TypeId × TypeId} (hd : mapD d = some kv) : d = some (.map kv.1 kv.2) := by
  unfold mapD at hd
  split at hd
  · cases hd; rfl
  · cases hd
theorem run_checkKey' {t : TypeId} {d : TypeDesc} {k : Value} (hu : P.underlying t = some d) (hd : keyD d = true) (e : Bool) (n : Nat) (w : World) : (Instr.checkKey e (n + 1) t k).run P w = .ok () w := by
  unfold Instr.checkKey
  simp only [Sem.run_bind, run_underlying hu, Result.andThen]
  cases d <;> simp_all [keyD]
theorem run_findKey' {t : TypeId} {d : TypeDesc} {k : Value} {l : List MapEntry} {r : Option (Nat × Value)} (hu : P.underlying t = some d) (hf : Instr.findNow d k l 0 = some r) (w : World) : (Instr.findKey t k l).run P w = .ok r w := by
  simp [Instr.findKey, run_underlying hu, Result.andThen, hf]
/-- A map's entries, there and here. -/
theorem map_ER (hr : Real G ρ h w) {r : Nat} {p : Place} {es : List (LV × LV × Nat)} {k : Nat} (hρ : ρ r = some p) (hb : h.at r = .map es k) :
    ∃ es' : Array MapEntry, w.heap[p.pb]? = some (.map es' k) ∧ ER ρ es es'.toList := by
  obtain ⟨es', h1, h2, h3⟩ := map_obj hr hρ hb
  exact ⟨es', h1, by simpa using h2, fun i x y e1 e2 => h3 i x y e1 (by simpa using e2)⟩
theorem op_lookup {t : TypeId} {x k : Operand} {ok : Bool} (ho : o.op = .lookup t x k ok) (hv : oLookup P h t (aev a x) (aev a k) ok = some (.val v h')) : OpS P G h a o v h' := by
  unfold oLookup at hv
  obtain ⟨⟨kT, vT⟩, hm, hv⟩ := Option.bind_eq_some_iff.1 hv
  obtain ⟨d, hd, hv⟩ := Option.bind_eq_some_iff.1 hv
  obtain ⟨es, hes, hv⟩ := Option.bind_eq_some_iff.1 hv
  obtain ⟨f, hf, hv⟩ := Option.bind_eq_some_iff.1 hv
  have hmu := mapD_inv hm
  obtain ⟨hku, hkd⟩ := keyT_inv hd
  have hh : h' = h := by
    cases f with
    | no => obtain ⟨z, -, e⟩ := Option.map_eq_some_iff.1 hv; cases e; rfl
    | yes => cases hv; rfl
  subst hh
  refine opS_still fun ρ w pa hr hfr => ?_
  have hx := aev_VR hfr x
  have hk := aev_VR hfr k
  -- the entries that the operation looks through
  obtain ⟨es', he, hsrc⟩ : ∃ es' : Array MapEntry, ER ρ es es'.toList ∧ ((pa.eval x = .map none ∧ es' = #[]) ∨ ∃ pb c, pa.eval x = .map (some pb) ∧ (getObj pb).run P w = .ok (.map es' c) w) := by
    unfold mapAt at hes
    split at hes
    · rename_i e
      rw [e] at hx
      cases hes
      exact ⟨#[], ⟨rfl, fun i x y e => by simp at e⟩, .inl ⟨hx.nilm_inv, rfl⟩⟩
    · rename_i r e
      rw [e] at hx
      split at hes
      · rename_i es0 c hb
        cases hes
        obtain ⟨p, hρ, e'⟩ := hx.map_inv
        obtain ⟨es', hw, he⟩ := map_ER hr hρ hb
        exact ⟨es', he, .inr ⟨p.pb, c, e', by simp [getObj, Sem.run, hw]⟩⟩
      · cases hes
    · cases hes
  obtain ⟨r', f1, f2⟩ := find_spec hk es es'.toList 0 f he hf
  have key : ∀ pv, VR ρ v pv → (Instr.lookup t (pa.eval x) (pa.eval k) ok).run P w = .ok pv w → ∃ pv, VR ρ v pv ∧ (execOp pa.eval o).run P w = .ok (.value pv) w := fun pv h1 h2 => ⟨pv, h1, by
    unfold execOp; simp only [ho]; exact run_v h2⟩
  cases f with
  | no =>
    have f3 : r' = none := f2
    subst f3
    obtain ⟨z, hz, e⟩ := Option.map_eq_some_iff.1 hv
    obtain ⟨i, pz, hi, hz', rfl⟩ := zeroOf_info hz
    refine key (if ok then .tuple #[pz, .bool false] else pz) ?_ ?_
    · cases e
      cases ok
      · exact ofV_VR 3 pz
      · exact (ofV_VR 3 pz).pair false
    · unfold Instr.lookup
      rcases hsrc with ⟨e, rfl⟩ | ⟨pb, c, e, hg⟩
      · rw [e]
        simp only [Sem.run_bind, run_underlying hmu, Sem.run_pure, Result.andThen, run_checkKey' hku hkd, run_findKey' hku f1, run_zero hi hz']
      · rw [e]
        simp only [Sem.run_bind, run_underlying hmu, hg, Sem.run_pure, Result.andThen, run_checkKey' hku hkd, run_findKey' hku f1, run_zero hi hz']
  | yes j y b =>
    obtain ⟨m, e1, e2, g1, g2, g3, g4, g5, g6, g7, g8⟩ := f2
    subst g5
    refine key (if ok then .tuple #[e2.val, .bool true] else e2.val) ?_ ?_
    · cases hv
      cases ok
      · exact g7
      · exact g7.pair true
    · unfold Instr.lookup
      rcases hsrc with ⟨e, rfl⟩ | ⟨pb, c, e, hg⟩
      · rw [e]
        simp only [Sem.run_bind, run_underlying hmu, Sem.run_pure, Result.andThen, run_checkKey' hku hkd, run_findKey' hku f1]
      · rw [e]
        simp only [Sem.run_bind, run_underlying hmu, hg, Sem.run_pure, Result.andThen, run_checkKey' hku hkd, run_findKey' hku f1]
theorem sameBits_same {d : TypeDesc} {x y : LV} {px py : Value} (hx : VR ρ x px) (hy : VR ρ y py) (hk : keySame d x y = some true) (n : Nat) : Instr.sameBits n px px = true := by
  unfold keySame at hk
  split at hk
  · cases hx; simp [Instr.sameBits]
  · cases hx; simp [Instr.sameBits, MapKept.bytes_beq]
  · cases hx; simp [Instr.sameBits]
  · cases hk
theorem find_same {d : TypeDesc} {k : LV} {pk : Value} (hk : VR ρ k pk) : ∀ (es : List (LV × LV × Nat)) (es' : List MapEntry) (i : Nat) (r : Found), ER ρ es es' → keyFind d k es i = some r → r ≠ .no → ∀ n, Instr.sameBits n pk pk = true
  | [], es', i, r, hr, h, hne, n => by cases h; exact absurd rfl hne
  | e :: es, [], i, r, hr, h, hne, n => by simp [ER] at hr
  | e :: es, e' :: es', i, r, hr, h, hne, n => by
    obtain ⟨b, hb, h⟩ := Option.bind_eq_some_iff.1 (show (keySame d k e.1).bind (fun b => bif b then some (Found.yes i e.2.1 e.2.2) else keyFind d k es (i + 1)) = some r from h)
    obtain ⟨k1, k2, k3⟩ := hr.2 0 e e' rfl rfl
    cases b with
    | true => exact sameBits_same hk k1 hb n
    | false =>
      have hr' : ER ρ es es' := ⟨by simpa [ER] using hr.1, fun j x y e1 e2 => hr.2 (j + 1) x y e1 e2⟩
      exact find_same hk es es' (i + 1) r hr' h hne n
/-- A map's entries turned, in both. -/
theorem map_turn (hr : Real G ρ h w) {r : Nat} {p : Place} {es es2 : List (LV × LV × Nat)} {k k2 : Nat} {es' es2' : Array MapEntry} (hρ : ρ r = some p) (hb : h.at r = .map es k) (hw : w.heap[p.pb]? = some (.map es' k)) (he : ER ρ es2 es2'.toList) (m : Nat) (hct : ∀ n, m ≤ n → ER (ρ.cut n) es es'.toList → ER (ρ.cut n) es2 es2'.toList) :
    (setObj p.pb (.map es2' k2)).run P w = .ok () { w with heap := w.heap.setIfInBounds p.pb (.map es2' k2) } ∧ Real G ρ ((h.put r (.map es2 k2)).tell r m) { w with heap := w.heap.setIfInBounds p.pb (.map es2' k2) } ∧ St ρ h w ρ ((h.put r (.map es2 k2)).tell r m) { w with heap := w.heap.setIfInBounds p.pb (.map es2' k2) } := by
  have hlt := hr.fresh r p hρ
  have hin : p.pb < w.heap.size := (Array.getElem?_eq_some_iff.1 hw).1
  have mk : ∀ ρ1 : Rho, ρ1 r = some p → ER ρ1 es2 es2'.toList → OR ρ1 { w with heap := w.heap.setIfInBounds p.pb (.map es2' k2) } r (.map es2 k2) := fun ρ1 h1 h2 => ⟨p, es2', h1, by simp [hin], by simpa using h2.1, fun i x y e1 e2 => h2.2 i x y e1 (by simpa using e2)⟩
  refine ⟨by simp [setObj, Sem.run, hw], real_turn hr hlt (by rw [hb]; rfl) hρ (x := .map es2 k2) (by rw [Hp.n_tell, Hp.n_put]) (fun u hu => Hp.ups_tell (h := h.put r _) hu) (fun i => by rw [Hp.at_tell, Hp.at_put _ _ _ _ hlt]) (fun g e => by simp [grpOf] at e) (fun j q hj hl hq e => ?_) (fun k hk => by simp [Ne.symm hk]) (by simp) rfl rfl rfl (mk ρ hρ he) (fun n hbn hun => ?_)⟩
  rotate_left
  · have ht := hr.told r n hbn (fun u hu => hun u (Hp.ups_tell (h := h.put r _) hu))
    rw [hb] at ht
    obtain ⟨p', es3, g1, g2, g3, g4⟩ := ht
    have hp' := Rho.cut_ext n _ _ g1
    rw [hρ] at hp'
    cases hp'
    rw [hw] at g2
    cases g2
    exact mk _ g1 (hct n (Hp.tell_le hbn hun) ⟨by simpa using g3, fun i x y e1 e2 => g4 i x y e1 (by simpa using e2)⟩)
  have := hr.sep j r q p hj hl (by rw [hb]; rfl) hq hρ e
  rw [hb] at this
  cases h.at j <;> simp [SameG] at this
theorem ER.set {es : List (LV × LV × Nat)} {es' : Array MapEntry} (he : ER ρ es es'.toList) {m b : Nat} {k x : LV} {e' : MapEntry} {pk px : Value} (hk : VR ρ k pk) (hx : VR ρ x px) (hm : es'.toList[m]? = some e') (hb : b = e'.born) :
    ER ρ (es.set m (k, x, b)) (es'.modify m fun e => { e with key := pk, val := px }).toList := by
  refine ⟨by simpa using he.1, fun i u y e1 e2 => ?_⟩
  rw [Array.getElem?_toList, Array.getElem?_modify] at e2
  have hm' : es'[m]? = some e' := by simpa using hm
  by_cases hi : m = i
  · subst hi
    rw [hm', if_pos rfl] at e2
    have hlt : m < es.length := by rw [he.1]; exact (List.getElem?_eq_some_iff.1 hm).1
    rw [List.getElem?_set_self hlt] at e1
    cases e1
    cases e2
    exact ⟨hk, hx, hb⟩
  · rw [if_neg hi] at e2
    rw [List.getElem?_set_ne hi] at e1
    exact he.2 i u y e1 (by simpa using e2)
theorem ER.push {es : List (LV × LV × Nat)} {es' : Array MapEntry} (he : ER ρ es es'.toList) {c : Nat} {k x : LV} {pk px : Value} (hk : VR ρ k pk) (hx : VR ρ x px) :
    ER ρ (es ++ [(k, x, c)]) (es'.push { key := pk, val := px, born := c }).toList := by
  have hl : es.length = es'.size := by simpa using he.1
  refine ⟨by simp [hl], fun i u y e1 e2 => ?_⟩
  rw [Array.toList_push] at e2
  by_cases hi : i < es.length
  · rw [List.getElem?_append_left hi] at e1
    rw [List.getElem?_append_left (by simp; omega)] at e2
    exact he.2 i u y e1 e2
  · rw [List.getElem?_append_right (by omega)] at e1
    rw [List.getElem?_append_right (by simp; omega)] at e2
    have h0 : i - es.length = 0 := by have := (List.getElem?_eq_some_iff.1 e1).1; simp at this; omega
    rw [h0] at e1
    rw [show i - es'.toList.length = 0 by simp; omega] at e2
    cases e1
    cases e2
    exact ⟨hk, hx, rfl⟩
theorem op_mapUpdate {t : TypeId} {m k x : Operand} (ho : o.op = .mapUpdate t m k x ∨ o.op = .insert t m k x) (hv : oMapUpdate P h t (aev a m) (aev a k) (aev a x) = some (.val v h')) : OpS P G h a o v h' := by
  intro ρ w pa hr hfr
  unfold oMapUpdate at hv
  split at hv
  · rename_i r er
    obtain ⟨⟨kT, vT⟩, hm, hv⟩ := Option.bind_eq_some_iff.1 hv
    obtain ⟨d, hd, hv⟩ := Option.bind_eq_some_iff.1 hv
    have hmu := mapD_inv hm
    obtain ⟨hku, hkd⟩ := keyT_inv hd
    generalize hb : h.at r = ob at hv
    unfold updAt at hv
    split at hv
    · rename_i es c
      obtain ⟨f, hf, hv⟩ := Option.map_eq_some_iff.1 hv
      have hk := aev_VR hfr k
      have hx := aev_VR hfr x
      have hmv := aev_VR hfr m
      rw [er] at hmv
      obtain ⟨p, hρ, e'⟩ := hmv.map_inv
      obtain ⟨es', hw, he⟩ := map_ER hr hρ hb
      obtain ⟨r', f1, f2⟩ := find_spec hk es es'.toList 0 f he hf
      have hg : (getObj p.pb).run P w = .ok (.map es' c) w := by simp [getObj, Sem.run, hw]
      have key : ∀ w', (Instr.mapUpdate t (pa.eval m) (pa.eval k) (pa.eval x)).run P w = .ok () w' → (execOp pa.eval o).run P w = .ok .skip w' := fun w' h2 => by
        unfold execOp
        rcases ho with ho | ho <;> simp only [ho] <;> exact run_u h2
      cases f with
      | no =>
        have f3 : r' = none := f2
        subst f3
        cases hv
        obtain ⟨t1, t2, t3⟩ := map_turn (P := P) hr hρ hb hw (he.push (c := c) hk hx) (topL [aev a k, aev a x]) (k2 := c + 1) (fun n hn e => by simp only [topL] at hn; exact e.push (hk.cut (by omega)) (hx.cut (by omega)))
        rw [app_eq]
        refine ⟨ρ, _, undef, t3, t2, .any _, .inr ⟨key _ ?_, rfl⟩⟩
        rw [e']
        unfold Instr.mapUpdate
        simp only [Sem.run_bind, run_underlying hmu, Result.andThen, hg, run_checkKey' hku hkd, run_findKey' hku f1, t1]
      | yes j y b =>
        have hsb := find_same hk es es'.toList 0 _ he hf (by intro e; cases e) 10000
        obtain ⟨m', e1, e2, g1, g2, g3, g4, g5, g6, g7, g8⟩ := f2
        subst g5
        simp only [Nat.zero_add] at g1
        subst g1
        cases hv
        obtain ⟨t1, t2, t3⟩ := map_turn (P := P) hr hρ hb hw (he.set hk hx g4 g8) (topL [aev a k, aev a x]) (k2 := c) (fun n hn e => by simp only [topL] at hn; exact e.set (hk.cut (by omega)) (hx.cut (by omega)) g4 g8)
        refine ⟨ρ, _, undef, t3, t2, .any _, .inr ⟨key _ ?_, rfl⟩⟩
        rw [e']
        have g4' : es'[j]? = some e2 := by simpa using g4
        have hst : (Instr.keyThatStays (pa.eval k) (pa.eval k)).run P w = .ok (pa.eval k) w := by simp [Instr.keyThatStays, hsb]
        unfold Instr.mapUpdate
        simp only [Sem.run_bind, run_underlying hmu, Result.andThen, hg, run_checkKey' hku hkd, run_findKey' hku f1, g4', Option.map_some, Option.getD_some, g6, hst, t1]
    · cases hv
  · cases hv
theorem op_makeMap {t : TypeId} (ho : o.op = .makeMap t none) : OpS P G h a o (.map h.n) (h.new (.map [] 0)) := fun ρ w pa hr hf => by
  obtain ⟨r1, s1⟩ := real_new hr (.map #[] 0) (.map [] 0) ⟨w.heap.size, 0, 0, 0⟩ rfl (fun g e => by simp [grpOf] at e) ⟨_, #[], Rho.add_same _ _, heap_alloc_at w _, rfl, fun i x y e => by simp at e⟩
  refine ⟨_, _, .map (some w.heap.size), s1, r1, .map (Rho.add_same _ _), .inl ?_⟩
  unfold execOp
  simp only [ho]
  exact run_v rfl
end
end Go.Proofs.Eng
