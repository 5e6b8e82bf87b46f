/- The logical machine: stores, and what else turns a row of cells. Conditions: none. -/
import Derived.Test.YtbnmhhbncggjkaaGreatDoorEngD
set_option linter.unusedVariables false
set_option linter.unusedSimpArgs false
namespace Go.Proofs.Eng
open Go
/-- Cells laid into a row, one behind the other. -/
def setRow (pc : Array Value) : Nat → List Value → Array Value
  | _, [] => pc
  | o, v :: r => setRow (pc.setIfInBounds o v) (o + 1) r
theorem setRow_size : ∀ (vs : List Value) (pc : Array Value) (o : Nat), (setRow pc o vs).size = pc.size
  | [], _, _ => rfl
  | v :: r, pc, o => by rw [setRow, setRow_size r]; simp
theorem setRow_get : ∀ (vs : List Value) (pc : Array Value) (o i : Nat), o + vs.length ≤ pc.size → (setRow pc o vs)[i]? = if o ≤ i ∧ i < o + vs.length then vs[i - o]? else pc[i]?
  | [], pc, o, i, h => by rw [setRow, if_neg (by simp only [List.length_nil]; omega)]
  | v :: r, pc, o, i, h => by
    simp only [List.length_cons] at h
    rw [setRow, setRow_get r _ _ _ (by simp; omega)]
    simp only [List.length_cons]
    by_cases h1 : i = o
    · subst h1
      rw [if_neg (by omega), if_pos (by omega), Nat.sub_self]
      simp only [List.getElem?_cons_zero]
      rw [Array.getElem?_setIfInBounds_self_of_lt (by omega)]
    · by_cases h2 : o + 1 ≤ i ∧ i < o + 1 + r.length
      · rw [if_pos h2, if_pos (by omega), show i - o = (i - (o + 1)) + 1 by omega]; rfl
      · rw [if_neg h2, if_neg (by omega), Array.getElem?_setIfInBounds_ne (Ne.symm h1)]
theorem setCells_heap (g : Nat) : ∀ (vs : List Value) (o : Nat) (w : World) (pc : Array Value) (e : TypeId) (fz : Nat × Nat), w.heap[g]? = some (.cells pc e fz) → (w.setCells g o vs).heap[g]? = some (.cells (setRow pc o vs) e fz)
  | [], _, _, _, _, _, h => h
  | v :: r, o, w, pc, e, fz, h => by
    rw [World.setCells, setRow]
    refine setCells_heap g r (o + 1) _ _ e fz ?_
    simp [World.setCell, Array.getElem?_modify, h]
theorem setCells_else (g : Nat) : ∀ (vs : List Value) (o : Nat) (w : World), (∀ k, k ≠ g → (w.setCells g o vs).heap[k]? = w.heap[k]?) ∧ (w.setCells g o vs).heap.size = w.heap.size ∧ (w.setCells g o vs).os = w.os ∧ (w.setCells g o vs).tape = w.tape ∧ (w.setCells g o vs).output = w.output
  | [], _, _ => ⟨fun _ _ => rfl, rfl, rfl, rfl, rfl⟩
  | v :: r, o, w => by
    obtain ⟨h1, h2, h3, h4, h5⟩ := setCells_else g r (o + 1) (w.setCell ⟨g, o, none⟩ v)
    rw [World.setCells]
    refine ⟨fun k hk => (h1 k hk).trans ?_, h2.trans ?_, h3, h4, h5⟩
    · simp [World.setCell, Array.getElem?_modify, hk.symm]
    · simp [World.setCell]
section
variable {P : Program} {G : Gl} {ρ : Rho} {h h' : Hp} {w : World} {a : Fr} {o : Oper} {v : LV}
/-- The other members of the group gone, nobody else lies there. -/
theorem alone_of (r : Real G ρ h w) {b : Nat} {p : Place} {c : List LV} {t : TypeId} {st g : Nat} {sh ro : Bool} (hb : h.at b = .cells c t st g sh ro) (hρ : ρ b = some p) (keep : Nat → Bool) (hk : keep b = true) :
    ∃ h1 : Hp, (bif sh then killG keep g (h.n - g) h else h) = h1 ∧ h1.n = h.n ∧ h1.ups = h.ups ∧ (∀ i, h1.at i = h.at i ∨ h1.at i = .dead) ∧ h1.at b = h.at b ∧
      (∀ j q, j ≠ b → keep j = false → lv (h1.at j) = true → ρ j = some q → q.pb ≠ p.pb) := by
  have hlb : lv (h.at b) = true := by rw [hb]; rfl
  cases sh with
  | false =>
    refine ⟨h, rfl, rfl, rfl, fun i => .inl rfl, rfl, fun j q hj _ hl hq e => ?_⟩
    have := r.sep j b q p hj hl hlb hq hρ e
    rw [hb] at this
    cases h.at j <;> simp [SameG] at this
  | true =>
    obtain ⟨k1, k2, k3, k4, k5⟩ := killG_spec keep g (h.n - g) h
    refine ⟨_, rfl, k1, k2, k3, k4 b hk, fun j q hj hkj hl hq e => ?_⟩
    simp only [cond_true] at hl
    have hlj : lv (h.at j) = true := by
      rcases k3 j with e1 | e1
      · rw [e1] at hl; exact hl
      · rw [e1] at hl; cases hl
    have hs := r.sep j b q p hj hlj hlb hq hρ e
    rw [hb] at hs
    have hg : grpOf (h.at j) = some g := by
      cases hoj : h.at j with
      | cells c' t' st' g' sh' ro' => rw [hoj] at hs; cases sh' <;> simp [SameG] at hs; simp [grpOf, hs]
      | _ => rw [hoj] at hs; simp [SameG] at hs
    have hlo := r.grp j g hg
    have hhi : j < h.n := Hp.lt_of_at (by intro e'; rw [e'] at hlj; cases hlj)
    have := k5 j hlo (by omega) hg hkj
    rw [this] at hl
    cases hl
theorem putCells_inv {b off : Nat} {vs : List LV} (hp : putCells h b off vs = some h') : ∃ c t st g sh, h.at b = .cells c t st g sh false ∧ off + vs.length ≤ c.length ∧
    h' = ((bif sh then killG (Nat.beq b) g (h.n - g) h else h).put b (.cells (c.take off ++ vs ++ c.drop (off + vs.length)) t st g sh false)).tell b (topL vs) := by
  unfold putCells at hp
  split at hp
  · rename_i c t st g sh hb
    cases hc : Nat.ble (off + len vs) (len c) <;> rw [hc] at hp
    · cases hp
    · simp only [cond_true, Option.some.injEq] at hp
      refine ⟨c, t, st, g, sh, hb, by rw [← len_eq, ← len_eq]; exact Nat.le_of_ble_eq_true hc, ?_⟩
      rw [← hp, app_eq, app_eq, tak_eq, drp_eq, len_eq, List.append_assoc]
  · cases hp
theorem mem_setRow {pc : Array Value} {o i : Nat} {vs : List Value} {u : Value} (hl : o + vs.length ≤ pc.size) (e : (setRow pc o vs)[i]? = some u) : u ∈ vs ∨ pc[i]? = some u := by
  rw [setRow_get vs pc o i hl] at e
  split at e
  · exact .inl (List.mem_of_getElem? e)
  · exact .inr e
/-- Cells turned, in both. -/
theorem put_real (r : Real G ρ h w) {b off : Nat} {vs : List LV} {pvs : List Value} (hp : putCells h b off vs = some h') (hl : LR ρ vs pvs) (h1 : ∀ u ∈ pvs, u.oneCell' = true) :
    ∃ p, ρ b = some p ∧ (storeCells ⟨p.pb, p.sh + off, none⟩ pvs).run P w = .ok () (w.setCells p.pb (p.sh + off) pvs) ∧ Real G ρ h' (w.setCells p.pb (p.sh + off) pvs) ∧ St ρ h w ρ h' (w.setCells p.pb (p.sh + off) pvs) := by
  obtain ⟨c, t, st, g, sh, hb, hoff, rfl⟩ := putCells_inv hp
  have ho := r.obj b
  rw [hb] at ho
  obtain ⟨p, hρ, hst, ⟨pc, e, fz, hw, hsz, hs, hlc, hone, hfz⟩⟩ := ho
  have hbn : b < h.n := r.fresh b p hρ
  obtain ⟨h2, e2, n2, u2, k2, b2, alone⟩ := alone_of r hb hρ (Nat.beq b) (Nat.beq_refl b)
  rw [e2]
  obtain ⟨r2, s2⟩ := real_kill r n2 u2 k2
  have hlen := hl.1
  have hin : p.sh + off + pvs.length ≤ pc.size := by omega
  obtain ⟨f1, f2, f3, f4, f5⟩ := setCells_else p.pb pvs (p.sh + off) w
  refine ⟨p, hρ, ?_, ?_⟩
  · have := run_storeCells_cells (P := P) p.pb (p.sh + off) pvs 0 w (fun j hj => by
      simp [World.cell?, hw]; omega) (fun j hj => by
      have hf := hfz (p.sh + off + 0 + j) (by omega)
      simp only [World.frozen?, hw]
      exact hf) h1
    simpa using this
  · have mk : ∀ ρ1 : Rho, ρ1 b = some p → (∀ (i : Nat) v v', c[i]? = some v → pc[p.sh + i]? = some v' → VR ρ1 v v') → LR ρ1 vs pvs → OR ρ1 (w.setCells p.pb (p.sh + off) pvs) b (.cells (c.take off ++ vs ++ c.drop (off + vs.length)) t st g sh false) := fun ρ1 hρ1 hlc hl => by
      refine ⟨p, hρ1, ⟨hst.1, hst.2.cells hw (setCells_heap p.pb pvs (p.sh + off) w pc e fz hw) (by rw [setRow_size]) (by simp; omega)⟩, ⟨_, e, fz, setCells_heap p.pb pvs (p.sh + off) w pc e fz hw, by rw [setRow_size]; exact hsz, by rw [setRow_size]; simp; omega, fun i v v' e1 e2 => ?_, fun i u e1 => ?_, fun i hi => by rw [setRow_size] at hi; exact hfz i hi⟩⟩
      · rw [setRow_get _ _ _ _ hin] at e2
        by_cases h3 : i < off
        · rw [if_neg (by omega)] at e2
          rw [List.append_assoc, List.getElem?_append_left (by simp; omega), List.getElem?_take_of_lt h3] at e1
          exact hlc i v v' e1 e2
        · by_cases h4 : i < off + vs.length
          · rw [if_pos (by omega)] at e2
            rw [List.append_assoc, List.getElem?_append_right (by simp; omega), List.getElem?_append_left (by simp; omega)] at e1
            refine hl.2 (i - off) v v' ?_ ?_
            · rw [← e1]; congr 1; simp; omega
            · rw [← e2]; congr 1; omega
          · rw [if_neg (by omega)] at e2
            rw [List.getElem?_append_right (by simp; omega), List.getElem?_drop] at e1
            refine hlc i v v' ?_ e2
            rw [← e1]; congr 1; simp; omega
      · rcases mem_setRow hin e1 with hu | hu
        · exact h1 u hu
        · exact hone i u hu
    have key := real_turn (G := G) (ρ := ρ) (h := h2) (h' := (h2.put b (.cells (c.take off ++ vs ++ c.drop (off + vs.length)) t st g sh false)).tell b (topL vs)) (w := w) (w' := w.setCells p.pb (p.sh + off) pvs) (b := b) (p := p)
      (x := .cells (c.take off ++ vs ++ c.drop (off + vs.length)) t st g sh false) r2 (by omega) (by rw [b2, hb]; rfl) hρ (by rw [Hp.n_tell, Hp.n_put]) (fun u hu => Hp.ups_tell (h := h2.put b _) hu) (fun i => by rw [Hp.at_tell, Hp.at_put _ _ _ _ (by omega)]) (fun g' e' => by simp [grpOf] at e'; subst e'; exact r.grp b g (by rw [hb]; rfl))
      (fun j q hj hlj hq => alone j q hj (by cases hc : Nat.beq b j; rfl; exact absurd (Nat.eq_of_beq_eq_true hc).symm hj) hlj hq) f1 (by rw [f2]; exact Nat.le_refl _) f3 f4 f5
      (mk ρ hρ hlc hl) (fun n hbn hun => by
        have ht := r2.told b n hbn (fun u hu => hun u (Hp.ups_tell (h := h2.put b _) hu))
        rw [b2, hb] at ht
        obtain ⟨p', hρ', -, ⟨pc', e', fz', hw', -, -, hlc', -⟩⟩ := ht
        have hp' := Rho.cut_ext n _ _ hρ'
        rw [hρ] at hp'
        cases hp'
        rw [hw] at hw'
        cases hw'
        exact mk _ hρ' hlc' (hl.cut (Hp.tell_le hbn hun)))
    exact ⟨key.1, s2.trans key.2⟩
theorem op_store {t : TypeId} {p x : Operand} (ho : o.op = .store t p x) (hs : lstore P h t (aev a p) (aev a x) = some h') : OpS P G h a o .any h' := fun ρ w pa hr hf => by
  unfold lstore at hs
  split at hs
  · rename_i b off hp
    obtain ⟨n, hn, hs⟩ := Option.bind_eq_some_iff.1 hs
    obtain ⟨vs, hvs, hs⟩ := Option.bind_eq_some_iff.1 hs
    cases hc : Nat.beq n (len vs) <;> rw [hc] at hs
    · cases hs
    · simp only [cond_true] at hs
      have hc := Nat.eq_of_beq_eq_true hc
      rw [len_eq] at hc
      obtain ⟨hl, h1⟩ := cells_LR (aev_VR hf x) hvs
      have hpv := aev_VR hf p
      rw [hp] at hpv
      obtain ⟨q, hq, hrun, r', s'⟩ := put_real (P := P) hr hs hl h1
      refine ⟨ρ, _, undef, s', r', .any _, .inr ⟨?_, rfl⟩⟩
      generalize he : pa.eval p = pp at hpv
      cases hpv with
      | ptr off hρ =>
        rw [hq] at hρ
        cases hρ
        unfold execOp
        simp only [ho, he]
        refine run_u ?_
        unfold Instr.storeAt Instr.sureAddr storeVar
        have hsz : (pa.eval x).cells.size = n := by rw [hc, hl.1]; simp
        simp [run_sizeOf' hn, hsz, hrun]
  · cases hs
end
end Go.Proofs.Eng
