/- Names of blocks turned: from one logical heap to another one of the same world. Conditions: none. -/
import Derived.Test.YtbnmhhbncggjkaaGreatDoorEngCr
set_option linter.unusedVariables false
set_option linter.unusedSimpArgs false
namespace Go.Proofs.Eng
open Go
section
variable {P : Program} {G : Gl} {ρ ρ' ρ1 : Rho} {h h' H : Hp} {w w' : World} {f : Nat → Option Nat}
/-- What some names are by others. -/
def Tr (f : Nat → Option Nat) (ρ ρ' : Rho) : Prop := ∀ b j p, f b = some j → ρ b = some p → ρ' j = some p
mutual
def reV (f : Nat → Option Nat) : LV → LV
  | .ptr b o => match f b with
    | some j => .ptr j o
    | none => .any
  | .slc b o n c => match f b with
    | some j => .slc j o n c
    | none => .any
  | .map b => match f b with
    | some j => .map j
    | none => .any
  | .fn (.func g) a c => .fn (.func g) (reL f a) (reL f c)
  | .fn (.yield l) a c => match f l with
    | some j => .fn (.yield j) (reL f a) (reL f c)
    | none => .any
  | .fn g a c => .fn g (reL f a) (reL f c)
  | .ifc t v => .ifc t (reV f v)
  | .agg l => .agg (reL f l)
  | .tup l => .tup (reL f l)
  | v => v
def reL (f : Nat → Option Nat) : List LV → List LV
  | [] => []
  | v :: l => reV f v :: reL f l
end
theorem reL_map : ∀ l : List LV, reL f l = l.map (reV f)
  | [] => by simp [reL]
  | v :: l => by rw [reL, reL_map l]; rfl
theorem VR.re (ht : Tr f ρ ρ') {v : LV} {v' : Value} (k : VR ρ v v') : VR ρ' (reV f v) v' := by
  have row : ∀ {l : List LV} {a : Array Value}, (∀ (i : Nat) v v', l[i]? = some v → a[i]? = some v' → VR ρ' (reV f v) v') → ∀ (i : Nat) v v', (reL f l)[i]? = some v → a[i]? = some v' → VR ρ' v v' := fun {l a} ih i v v' e e' => by
    rw [reL_map, List.getElem?_map] at e
    cases hl : l[i]? with
    | none => rw [hl] at e; cases e
    | some u => rw [hl] at e; cases e; exact ih i u v' hl e'
  induction k with
  | any v => simp only [reV]; exact .any v
  | bool b => simp only [reV]; exact .bool b
  | int k n => simp only [reV]; exact .int k n
  | str l => simp only [reV]; exact .str l
  | nilp => simp only [reV]; exact .nilp
  | ptr off h =>
    simp only [reV]
    split
    · rename_i hf; exact .ptr off (ht _ _ _ hf h)
    · exact .any _
  | gptr g off => simp only [reV]; exact .gptr g off
  | nils => simp only [reV]; exact .nils
  | slc off n cap h hc hk hs hx =>
    simp only [reV]
    split
    · rename_i hf; exact .slc off n cap (ht _ _ _ hf h) hc hk hs hx
    · exact .any _
  | nilm => simp only [reV]; exact .nilm
  | map h =>
    simp only [reV]
    split
    · rename_i hf; exact .map (ht _ _ _ hf h)
    · exact .any _
  | nilf => simp only [reV]; exact .nilf
  | fn g h1 h2 r1 r2 i1 i2 => simp only [reV]; exact .fn g (by rw [reL_map]; simpa using h1) (by rw [reL_map]; simpa using h2) (row i1) (row i2)
  | yield h h1 r1 i1 =>
    simp only [reV]
    split
    · rename_i hf; exact .yield (ht _ _ _ hf h) (by rw [reL_map]; simpa using h1) (row i1)
    · exact .any _
  | nili => simp only [reV]; exact .nili
  | ifc t h ih => simp only [reV]; exact .ifc t ih
  | agg h r ho ih => simp only [reV]; exact .agg (by rw [reL_map]; simpa using h) (row ih) ho
  | tup h r ih => simp only [reV]; exact .tup (by rw [reL_map]; simpa using h) (row ih)
mutual
theorem reV_same {n : Nat} (hf : ∀ b, b < n → f b = some b) : ∀ v : LV, topV v ≤ n → reV f v = v
  | .ptr b o, h => by simp only [topV] at h; simp only [reV, hf b (by omega)]
  | .slc b o k c, h => by simp only [topV] at h; simp only [reV, hf b (by omega)]
  | .map b, h => by simp only [topV] at h; simp only [reV, hf b (by omega)]
  | .fn g a c, h => by
    cases g with
    | func g =>
      simp only [topV] at h
      simp only [reV]
      rw [reL_same hf a (by omega), reL_same hf c (by omega)]
    | yield l =>
      simp only [topV] at h
      simp only [reV, hf l (by omega)]
      rw [reL_same hf a (by omega), reL_same hf c (by omega)]
    | _ =>
      simp only [topV] at h
      simp only [reV]
      rw [reL_same hf a (by omega), reL_same hf c (by omega)]
  | .ifc t v, h => by simp only [topV] at h; simp only [reV]; rw [reV_same hf v h]
  | .agg l, h => by simp only [topV] at h; simp only [reV]; rw [reL_same hf l h]
  | .tup l, h => by simp only [topV] at h; simp only [reV]; rw [reL_same hf l h]
  | .any, _ | .bool _, _ | .int _ _, _ | .str _, _ | .nilp, _ | .gptr _ _, _ | .nils, _ | .nilm, _ | .nilf, _ | .nili, _ => by simp only [reV]
theorem reL_same {n : Nat} (hf : ∀ b, b < n → f b = some b) : ∀ l : List LV, topL l ≤ n → reL f l = l
  | [], _ => by simp only [reL]
  | v :: l, h => by simp only [topL] at h; simp only [reL]; rw [reV_same hf v (by omega), reL_same hf l (by omega)]
end
def VLe (f : Nat → Option Nat) (v v' : LV) : Prop := ∀ (ρ ρ' : Rho) (pv : Value), Tr f ρ ρ' → VR ρ v pv → VR ρ' v' pv
theorem VLe.re (v : LV) : VLe f v (reV f v) := fun ρ ρ' pv ht k => k.re ht
theorem VLe.any (v : LV) : VLe f v .any := fun ρ ρ' pv ht k => .any _
theorem VLe.same {v : LV} (hv : topV v = 0) : VLe f v v := fun ρ ρ' pv ht k => by
  have e := reV_same (f := f) (n := 0) (fun b hb => by omega) v (by omega)
  have := k.re ht
  rwa [e] at this
def LLe (f : Nat → Option Nat) (c c' : List LV) : Prop := c'.length ≤ c.length ∧ ∀ (i : Nat) v', c'[i]? = some v' → ∃ v, c[i]? = some v ∧ VLe f v v'
theorem LLe.re (c : List LV) : LLe f c (reL f c) := ⟨by rw [reL_map]; simp, fun i v' e => by
  rw [reL_map, List.getElem?_map] at e
  cases hl : c[i]? with
  | none => rw [hl] at e; cases e
  | some u => rw [hl] at e; cases e; exact ⟨u, rfl, .re u⟩⟩
theorem LLe.same {c : List LV} (hc : topL c = 0) : LLe f c c := ⟨Nat.le_refl _, fun i v e => ⟨v, e, .same (by have := topL_get e; omega)⟩⟩
theorem LR.le {c c' : List LV} (l : LLe f c c') (hl : c'.length = c.length) (ht : Tr f ρ ρ') {a : List Value} (k : LR ρ c a) : LR ρ' c' a := ⟨by rw [hl]; exact k.1, fun i v' pv e e' => by
  obtain ⟨v, h1, h2⟩ := l.2 i v' e
  exact h2 ρ ρ' pv ht (k.2 i v pv h1 e')⟩
def OLe (f : Nat → Option Nat) (o o' : LObj) : Prop := ∀ (ρ ρ' : Rho) (w : World) (b j : Nat), Tr f ρ ρ' → f b = some j → OR ρ w b o → OR ρ' w j o'
theorem OLe.dead (o : LObj) : OLe f o .dead := fun _ _ _ _ _ _ _ _ => trivial
theorem OLe.cells {c c' : List LV} {t t' : TypeId} {st g g' : Nat} {sh sh' ro ro' : Bool} (l : LLe f c c') (het : t' = t) (hc : c'.length = c.length) : OLe f (.cells c t st g sh ro) (.cells c' t' st g' sh' ro') := fun ρ ρ' w b j ht hb k => by
  obtain ⟨p, h1, h2, pc, e, fz, h3, h4, h5, h6, h7, h8⟩ := k
  have h2' : Tie w p t' st c' := by
    subst het
    exact h2.2.cells h3 h3 rfl hc
  refine ⟨p, ht _ _ _ hb h1, ⟨h2.1, h2'⟩, ⟨pc, e, fz, h3, h4, by have := l.1; omega, fun i v' pv e1 e2 => ?_, h7, h8⟩⟩
  obtain ⟨v, h9, h10⟩ := l.2 i v' e1
  exact h10 ρ ρ' pv ht (h6 i v pv h9 e2)
theorem OLe.map {es es' : List (LV × LV × Nat)} {k : Nat} (hl : es'.length = es.length) (he : ∀ (i : Nat) x x', es[i]? = some x → es'[i]? = some x' → VLe f x.1 x'.1 ∧ VLe f x.2.1 x'.2.1 ∧ x'.2.2 = x.2.2) : OLe f (.map es k) (.map es' k) := fun ρ ρ' w b j ht hb q => by
  obtain ⟨p, ps, h1, h2, h3, h4⟩ := q
  refine ⟨p, ps, ht _ _ _ hb h1, h2, hl.trans h3, fun i x' y e1 e2 => ?_⟩
  have hi : i < es.length := by rw [← hl]; exact (List.getElem?_eq_some_iff.1 e1).1
  obtain ⟨a1, a2, a3⟩ := he i es[i] x' (List.getElem?_eq_getElem hi) e1
  obtain ⟨b1, b2, b3⟩ := h4 i es[i] y (List.getElem?_eq_getElem hi) e2
  exact ⟨a1 ρ ρ' _ ht b1, a2 ρ ρ' _ ht b2, a3.trans b3⟩
def FLe (f : Nat → Option Nat) (a a' : Fr) : Prop := ∀ i, VLe f (a.get i) (a'.get i)
theorem FR.le {a a' : Fr} {t : Array Value} (l : FLe f a a') (ht : Tr f ρ ρ') (k : FR ρ a t) : FR ρ' a' t := fun i => l i ρ ρ' _ ht (k i)
theorem OLe.loop {s : LoopState} {pd : Option Code} {fn : FuncId} {tmps tmps' : Fr} {size : Nat} {params : List Tmp} {assign body : Code} {d d' : Nat} (l : FLe f tmps tmps') (hd : f d = some d') : OLe f (.loop s pd fn tmps size params assign body d) (.loop s pd fn tmps' size params assign body d') := fun ρ ρ' w b j ht hb k => by
  obtain ⟨p, q, r, h1, h2, h3, h4, h5, h6, h7, h8⟩ := k
  exact ⟨p, q, r, ht _ _ _ hb h1, ht _ _ _ hd h2, h3, h4, h5, h6, FR.le l ht h7, h8⟩
theorem OLe.defd : OLe f .defd .defd := fun ρ ρ' w b j ht hb k => by
  obtain ⟨p, h1, h2⟩ := k
  exact ⟨p, ht _ _ _ hb h1, h2⟩
/-- Names in an object are below a number. -/
def OTop (n : Nat) : LObj → Prop
  | .dead => True
  | .cells c _ _ _ _ _ => topL c ≤ n
  | .map es _ => ∀ x ∈ es, topV x.1 ≤ n ∧ topV x.2.1 ≤ n
  | .loop _ _ _ tmps _ _ _ _ d => (∀ i, topV (tmps.get i) ≤ n) ∧ d < n
  | .defd => True
theorem OTop.mono {n m : Nat} (hnm : n ≤ m) {o : LObj} (k : OTop n o) : OTop m o := by
  cases o with
  | dead => trivial
  | cells => exact Nat.le_trans k hnm
  | map es c => exact fun x hx => ⟨Nat.le_trans (k x hx).1 hnm, Nat.le_trans (k x hx).2 hnm⟩
  | loop => exact ⟨fun i => Nat.le_trans (k.1 i) hnm, by have := k.2; omega⟩
  | defd => trivial
theorem OR.cutO {b n : Nat} {o : LObj} (k : OR ρ w b o) (hb : b < n) (ht : OTop n o) : OR (ρ.cut n) w b o := by
  cases o with
  | dead => trivial
  | cells c t st g sh ro =>
    obtain ⟨p, h1, h2, pc, e, fz, h3, h4, h5, h6, h7, h8⟩ := k
    exact ⟨p, Rho.cut_same hb h1, h2, ⟨pc, e, fz, h3, h4, h5, fun i v v' e1 e2 => (h6 i v v' e1 e2).cut (Nat.le_trans (topL_get e1) ht), h7, h8⟩⟩
  | map es c =>
    obtain ⟨p, ps, h1, h2, h3, h4⟩ := k
    refine ⟨p, ps, Rho.cut_same hb h1, h2, h3, fun i x y e1 e2 => ?_⟩
    obtain ⟨t1, t2⟩ := ht x (List.mem_of_getElem? e1)
    exact ⟨(h4 i x y e1 e2).1.cut t1, (h4 i x y e1 e2).2.1.cut t2, (h4 i x y e1 e2).2.2⟩
  | loop s pd fn tmps size params assign body d =>
    obtain ⟨p, q, r, h1, h2, h3, h4, h5, h6, h7, h8⟩ := k
    exact ⟨p, q, r, Rho.cut_same hb h1, Rho.cut_same ht.2 h2, h3, h4, h5, h6, fun i => (h7 i).cut (ht.1 i), h8⟩
  | defd =>
    obtain ⟨p, h1, h2⟩ := k
    exact ⟨p, Rho.cut_same hb h1, h2⟩
/-- A smaller heap, its blocks some of another one's. -/
structure Emb (H h : Hp) (src : Nat → Nat) (f : Nat → Option Nat) : Prop where
  inv : ∀ b j, f b = some j → b = src j ∧ j < h.n
  obj : ∀ j, j < h.n → h.at j = .dead ∨ (f (src j) = some j ∧ OLe f (H.at (src j)) (h.at j) ∧ lv (H.at (src j)) = true)
  sep : ∀ i j, i < h.n → j < h.n → i ≠ j → lv (h.at i) = true → lv (h.at j) = true → ¬ SameG (H.at (src i)) (H.at (src j))
  grp : ∀ j g, grpOf (h.at j) = some g → g ≤ j
  told : ∀ b, b < h.n → (b, h.n) ∈ h.ups ∨ OTop (b + 1) (h.at b)
def Rho.via (ρ : Rho) (n : Nat) (src : Nat → Nat) : Rho := fun j => if j < n then ρ (src j) else none
theorem Rho.via_lt {n j : Nat} {src : Nat → Nat} (hj : j < n) : ρ.via n src j = ρ (src j) := if_pos hj
theorem Rho.via_some {n j : Nat} {src : Nat → Nat} {p : Place} (e : ρ.via n src j = some p) : j < n ∧ ρ (src j) = some p := by
  unfold Rho.via at e
  split at e
  · exact ⟨by assumption, e⟩
  · cases e
theorem lv_lt {b : Nat} (hl : lv (h.at b) = true) : b < h.n := Hp.lt_of_at fun e => by rw [e] at hl; cases hl
theorem Emb.tr {src : Nat → Nat} (e : Emb H h src f) : Tr f ρ (ρ.via h.n src) := fun b j p hf hp => by
  obtain ⟨rfl, hj⟩ := e.inv b j hf
  rw [Rho.via_lt hj, hp]
theorem Emb.ne {src : Nat → Nat} (e : Emb H h src f) {i j : Nat} (hij : i ≠ j) (hi : lv (h.at i) = true) (hj : lv (h.at j) = true) : src i ≠ src j := fun hs => by
  rcases e.obj i (lv_lt hi) with hd | ⟨h1, -⟩
  · rw [hd] at hi; cases hi
  · rcases e.obj j (lv_lt hj) with hd | ⟨h2, -⟩
    · rw [hd] at hj; cases hj
    · rw [hs, h2] at h1
      cases h1
      exact hij rfl
theorem Emb.live {src : Nat → Nat} (e : Emb H h src f) {i : Nat} (hi : lv (h.at i) = true) : f (src i) = some i ∧ OLe f (H.at (src i)) (h.at i) ∧ lv (H.at (src i)) = true := by
  rcases e.obj i (lv_lt hi) with hd | k
  · rw [hd] at hi; cases hi
  · exact k
theorem Real.restrict {src : Nat → Nat} (e : Emb H h src f) (r : Real G ρ H w) : Real G (ρ.via h.n src) h w := by
  have obj : ∀ b, OR (ρ.via h.n src) w b (h.at b) := fun b => by
    by_cases hl : lv (h.at b) = true
    · obtain ⟨h1, h2, -⟩ := e.live hl
      exact h2 ρ _ w _ _ e.tr h1 (r.obj (src b))
    · cases ho : h.at b <;> rw [ho] at hl <;> first | trivial | exact absurd rfl hl
  have away : ∀ i j p q, i ≠ j → lv (h.at i) = true → lv (h.at j) = true → ρ.via h.n src i = some p → ρ.via h.n src j = some q → p.pb ≠ q.pb := fun i j p q hij hi hj hp hq hpq => by
    exact e.sep i j (lv_lt hi) (lv_lt hj) hij hi hj (r.sep _ _ p q (e.ne hij hi hj) (e.live hi).2.2 (e.live hj).2.2 (Rho.via_some hp).2 (Rho.via_some hq).2 hpq)
  refine ⟨obj, fun b p hp => (Rho.via_some hp).1, fun i j p q hij hi hj hp hq hpq => absurd hpq (away i j p q hij hi hj hp hq), r.glob, fun i p g hi hp hg => r.gsep _ p g (e.live hi).2.2 (Rho.via_some hp).2 hg, e.grp, fun b n hb hu => ?_, fun i j p q hij hi hj hp hq hpq => absurd hpq (away i j p q (by omega) hi hj hp hq)⟩
  by_cases hl : b < h.n
  · rcases e.told b hl with hm | ht
    · have := hu _ hm
      simp only at this
      have hn : h.n ≤ n := by omega
      rw [Rho.cut_all fun b p hp => Nat.lt_of_lt_of_le (Rho.via_some hp).1 hn]
      exact obj b
    · exact (obj b).cutO hb (ht.mono (by omega))
  · rw [Hp.at_eq, if_neg hl]
    trivial
/-- What is kept of a step's world: all but names from a number on. -/
structure StM (m : Nat) (ρ : Rho) (h : Hp) (w : World) (ρ' : Rho) (h' : Hp) (w' : World) : Prop where
  ext : ∀ i p, i < m → ρ i = some p → ρ' i = some p
  img : ∀ i p, wr (h'.at i) = true → ρ' i = some p → (∃ j q, wr (h.at j) = true ∧ ρ j = some q ∧ q.pb = p.pb) ∨ w.heap.size ≤ p.pb
  frame : ∀ b, b < w.heap.size → (∀ j q, wr (h.at j) = true → ρ j = some q → q.pb ≠ b) → w'.heap[b]? = w.heap[b]?
  size : w.heap.size ≤ w'.heap.size
  os : w'.os = w.os
  tape : w'.tape = w.tape
  output : w'.output = w.output
theorem St.toM (s : St ρ h w ρ' h' w') (m : Nat) : StM m ρ h w ρ' h' w' := ⟨fun i p _ e => s.ext i p e, s.img, s.frame, s.size, s.os, s.tape, s.output⟩
theorem StM.toS {m : Nat} (s : StM m ρ h w ρ' h' w') (r : Real G ρ h w) (hm : h.n ≤ m) : St ρ h w ρ' h' w' := ⟨fun i p e => s.ext i p (Nat.lt_of_lt_of_le (r.fresh i p e) hm) e, s.img, s.frame, s.size, s.os, s.tape, s.output⟩
theorem StM.trans {m : Nat} {h1 : Hp} {w1 : World} (s : StM m ρ h w ρ1 h1 w1) (t : StM m ρ1 h1 w1 ρ' h' w') : StM m ρ h w ρ' h' w' where
  ext := fun i p hi e => t.ext i p hi (s.ext i p hi e)
  img := fun i p hi hp => by
    rcases t.img i p hi hp with ⟨j, q, hj, hq, e⟩ | hlt
    · rcases s.img j q hj hq with ⟨k, r, hk, hr, e'⟩ | hlt
      · exact .inl ⟨k, r, hk, hr, e'.trans e⟩
      · exact .inr (e ▸ hlt)
    · exact .inr (Nat.le_trans s.size hlt)
  frame := fun b hb hno => by
    rw [t.frame b (Nat.lt_of_lt_of_le hb s.size) (fun j q hj hq e => by
      rcases s.img j q hj hq with ⟨k, r, hk, hr, e'⟩ | hlt
      · exact hno k r hk hr (e'.trans e)
      · omega), s.frame b hb hno]
  size := Nat.le_trans s.size t.size
  os := t.os.trans s.os
  tape := t.tape.trans s.tape
  output := t.output.trans s.output
/-- Blocks named anew, those below a number as they were. -/
structure Ren (m : Nat) (H h : Hp) (src : Nat → Nat) (f : Nat → Option Nat) : Prop extends Emb H h src f where
  le : m ≤ h.n
  id : ∀ j, j < m → src j = j
  wrt : ∀ j, wr (h.at j) = true → wr (H.at (src j)) = true
theorem Ren.step {m : Nat} {src : Nat → Nat} (e : Ren m H h src f) (r : Real G ρ H w) : StM m ρ H w (ρ.via h.n src) h w where
  ext := fun i p hi hp => by rw [Rho.via_lt (Nat.lt_of_lt_of_le hi e.le), e.id i hi, hp]
  img := fun i p hi hp => .inl ⟨_, p, e.wrt i hi, (Rho.via_some hp).2, rfl⟩
  frame := fun b hb hno => rfl
  size := Nat.le_refl _
  os := rfl
  tape := rfl
  output := rfl
theorem CallE.ren {g : FuncId} {args : List LV} {v v' : LV} {src : Nat → Nat} (k : CallE P G g args h v H) (e : Ren h.n H h' src f) (hv : VLe f v v') : CallE P G g args h v' h' := fun ρ w pargs hR hl => by
  obtain ⟨k1, k2⟩ := k ρ w pargs hR hl
  refine ⟨k1, k2.mono fun x w' ⟨ρ', pv, h1, h2, h3, h4⟩ => ?_⟩
  exact ⟨_, pv, h1, (((h2.toM h.n).trans (e.step h3)).toS hR (Nat.le_refl _)), h3.restrict e.toEmb, hv _ _ _ e.toEmb.tr h4⟩
/-- Code that keeps names below a number. -/
def CodeM (m : Nat) (P : Program) (G : Gl) (c : Code) (fn : FuncId) (size : Nat) (a : Fr) (ds : List Nat) (h : Hp) (e : Ex) (a' : Fr) (h' : Hp) : Prop :=
  ∀ (ρ : Rho) (w : World) (b : Frame) (k : List Item) (cs : List Frame) (pa : Act), b.fn = fn → b.roundOf = none → Real G ρ h w → FR ρ a pa.tmps → pa.tmps.size = size → DR ρ ds pa.defers →
    ∃ ρ' w' pa', StM m ρ h w ρ' h' w' ∧ Real G ρ' h' w' ∧ FR ρ' a' pa'.tmps ∧ pa'.tmps.size = size ∧ DR ρ' ds pa'.defers ∧ Arr P (lone (b.atR pa (startOf c k)) cs w) b k cs e pa' w'
section
variable {m : Nat} {c : Code} {fn : FuncId} {size : Nat} {a a' a1 a2 : Fr} {ds : List Nat} {h1 h2 : Hp} {e : Ex} {src : Nat → Nat}
theorem CodeS.toM (m : Nat) (k : CodeS P G c none fn size a ds h e a' ds h') : CodeM m P G c fn size a ds h e a' h' := fun ρ w b q cs pa hb hr hR hf hs hd => by
  obtain ⟨ρ', w', pa', s, r, x⟩ := k ρ w b q cs pa hb (by rw [hr]; rfl) hR hf hs hd
  exact ⟨ρ', w', pa', s.toM m, r, x⟩
theorem CodeM.toS (k : CodeM h.n P G c fn size a ds h e a' h') : CodeS P G c none fn size a ds h e a' ds h' := fun ρ w b q cs pa hb hr hR hf hs hd => by
  obtain ⟨ρ', w', pa', s, r, x⟩ := k ρ w b q cs pa hb hr hR hf hs hd
  exact ⟨ρ', w', pa', s.toS hR (Nat.le_refl _), r, x⟩
theorem DR.to {xs : List Deferred} (hd : ∀ d ∈ ds, ∀ p, ρ d = some p → ρ' d = some p) (k : DR ρ ds xs) : DR ρ' ds xs := ⟨k.1, fun i d x e1 e2 => by
  obtain ⟨q, h1, h2⟩ := k.2 i d x e1 e2
  exact ⟨q, hd d (List.mem_of_getElem? e1) q h1, h2⟩⟩
/-- Ahead: what is known is told anew. -/
theorem CodeM.pre (hd : ∀ d ∈ ds, d < m) (e1 : Ren m h h1 src f) (hf1 : FLe f a a1) (k : CodeM m P G c fn size a1 ds h1 e a' h') : CodeM m P G c fn size a ds h e a' h' := fun ρ w b q cs pa hb hr hR hf hs hdr => by
  have s1 := e1.step hR
  obtain ⟨ρ', w', pa', s, r, x⟩ := k _ w b q cs pa hb hr (hR.restrict e1.toEmb) (hf.le hf1 e1.toEmb.tr) hs (hdr.to fun d hd' p hp => s1.ext d p (hd d hd') hp)
  exact ⟨ρ', w', pa', s1.trans s, r, x⟩
/-- Behind. -/
theorem CodeM.post (hd : ∀ d ∈ ds, d < m) (k : CodeM m P G c fn size a ds h e a1 h1) (e1 : Ren m h1 h' src f) (hf1 : FLe f a1 a') : CodeM m P G c fn size a ds h e a' h' := fun ρ w b q cs pa hb hr hR hf hs hdr => by
  obtain ⟨ρ', w', pa', s, r, x1, x2, x3, x4⟩ := k ρ w b q cs pa hb hr hR hf hs hdr
  have s1 := e1.step r
  exact ⟨_, w', pa', s.trans s1, r.restrict e1.toEmb, x1.le hf1 e1.toEmb.tr, x2, x3.to fun d hd' p hp => s1.ext d p (hd d hd') hp, x4⟩
theorem CodeM.loop {x : Code} (hx : CodeM m P G x fn size a ds h .normal a1 h1) (hy : CodeM m P G (.loop x) fn size a1 ds h1 e a' h') : CodeM m P G (.loop x) fn size a ds h e a' h' := fun ρ w b k cs pa hb hr hR hf hs hd => by
  obtain ⟨ρ1, w1, pa1, s1, R1, f1, z1, d1, t1⟩ := hx ρ w b (.inLoop x :: k) cs pa hb hr hR hf hs hd
  obtain ⟨ρ2, w2, pa2, s2, R2, f2, z2, d2, t2⟩ := hy ρ1 w1 b k cs pa1 hb hr R1 f1 z1 d1
  exact ⟨ρ2, w2, pa2, s1.trans s2, R2, f2, z2, d2, t2.of ((start_steps _ _ x _ _ _).trans (Steps.trans t1 (.one stepR_inLoop)))⟩
theorem CodeM.loop_out {x : Code} (he : e ≠ .normal) (hx : CodeM m P G x fn size a ds h e a' h') : CodeM m P G (.loop x) fn size a ds h e a' h' := fun ρ w b k cs pa hb hr hR hf hs hd => by
  obtain ⟨ρ1, w1, pa1, s1, R1, f1, z1, d1, t1⟩ := hx ρ w b (.inLoop x :: k) cs pa hb hr hR hf hs hd
  exact ⟨ρ1, w1, pa1, s1, R1, f1, z1, d1, (t1.pass (fun _ => rfl) he).of (start_steps _ _ x _ _ _)⟩
end
end
end Go.Proofs.Eng
