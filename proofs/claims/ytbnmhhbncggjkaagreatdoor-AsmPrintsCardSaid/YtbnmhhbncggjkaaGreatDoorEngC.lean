/- The logical machine: a logical heap and the world it lies in; a step of both. Conditions: none. -/
import Derived.Test.YtbnmhhbncggjkaaGreatDoorEngB
set_option linter.unusedVariables false
set_option linter.unusedSimpArgs false
namespace Go.Proofs.Eng
open Go
def lv : LObj → Bool
  | .dead => false
  | _ => true
def wr : LObj → Bool
  | .dead => false
  | .cells _ _ _ _ _ ro => !ro
  | _ => true
theorem lv_of_wr {o : LObj} (h : wr o = true) : lv o = true := by cases o <;> simp_all [wr, lv]
def FR (ρ : Rho) (a : Fr) (tmps : Array Value) : Prop := ∀ i, VR ρ (a.get i) (tmps.getD i undef)
/-- A row of cells lies from a place on. -/
structure CR (ρ : Rho) (w : World) (p : Place) (c : List LV) : Prop where
  mk' ::
  out : ∃ pc e fz, w.heap[p.pb]? = some (.cells pc e fz) ∧ p.sz = pc.size ∧ p.sh + c.length ≤ pc.size ∧ (∀ (i : Nat) v v', c[i]? = some v → pc[p.sh + i]? = some v' → VR ρ v v') ∧ (∀ (i : Nat) u, pc[i]? = some u → u.oneCell' = true) ∧ (∀ i, i < pc.size → (decide (fz.1 ≤ i) && decide (i < fz.2)) = false)
/-- A block is of its type; a variable's has its cells alone. -/
def Tie (w : World) (p : Place) (t : TypeId) (st : Nat) (c : List LV) : Prop := ∃ pc fz, w.heap[p.pb]? = some (.cells pc t fz) ∧ (st = 0 → c ≠ [] → p.sh = 0 ∧ pc.size = c.length ∧ fz = (0, 0))
def OR (ρ : Rho) (w : World) (b : Nat) : LObj → Prop
  | .dead => True
  | .cells c t st g sh ro => ∃ p, ρ b = some p ∧ (p.st = st ∧ Tie w p t st c) ∧ CR ρ w p c
  | .map es k => ∃ p es', ρ b = some p ∧ w.heap[p.pb]? = some (.map es' k) ∧ es.length = es'.size ∧ ∀ (i : Nat) x y, es[i]? = some x → es'[i]? = some y → VR ρ x.1 y.key ∧ VR ρ x.2.1 y.val ∧ x.2.2 = y.born
  | .loop s pd fn tmps size params assign body d => ∃ p q r, ρ b = some p ∧ ρ d = some q ∧ w.heap[p.pb]? = some (.loop r) ∧ r.state = s ∧ r.pending = pd ∧ r.fn = fn ∧ FR ρ tmps r.tmps ∧ r.tmps.size = size ∧ r.params.toList = params ∧ r.assign = assign ∧ r.body = body ∧ r.defers = q.pb
  | .defd => ∃ p, ρ b = some p ∧ w.heap[p.pb]? = some (.deferred (some []))
def SameG : LObj → LObj → Prop
  | .cells _ _ _ g true _, .cells _ _ _ g' true _ => g = g'
  | _, _ => False
def GR (G : Gl) (w : World) : Prop := ∀ g c, G g = some c → ∃ pc e fz, w.heap[g]? = some (.cells pc e fz) ∧ c.length = pc.size ∧ (∀ (i : Nat) v v', c[i]? = some v → pc[i]? = some v' → VR (fun _ => none) v v') ∧ ∀ (i : Nat) u, pc[i]? = some u → u.oneCell' = true
def grpOf : LObj → Option Nat
  | .cells _ _ _ g _ _ => some g
  | _ => none
def lenO : LObj → Nat
  | .cells c _ _ _ _ _ => c.length
  | _ => 0
/-- Only the blocks below a number. -/
def Rho.cut (ρ : Rho) (n : Nat) : Rho := fun i => if i < n then ρ i else none
structure Real (G : Gl) (ρ : Rho) (h : Hp) (w : World) : Prop where
  obj : ∀ b, OR ρ w b (h.at b)
  fresh : ∀ b p, ρ b = some p → b < h.n
  sep : ∀ i j p q, i ≠ j → lv (h.at i) = true → lv (h.at j) = true → ρ i = some p → ρ j = some q → p.pb = q.pb → SameG (h.at i) (h.at j)
  glob : GR G w
  gsep : ∀ i p g, lv (h.at i) = true → ρ i = some p → (G g).isSome = true → p.pb ≠ g
  grp : ∀ i g, grpOf (h.at i) = some g → g ≤ i
  told : ∀ b n, b < n → (∀ u ∈ h.ups, n ≤ u.1 ∨ u.2 ≤ n) → OR (ρ.cut n) w b (h.at b)
  mono : ∀ i j p q, i < j → lv (h.at i) = true → lv (h.at j) = true → ρ i = some p → ρ j = some q → p.pb = q.pb → p.sh + lenO (h.at i) ≤ q.sh + lenO (h.at j)
/-- From one to the other nothing is touched but what is told. -/
structure St (ρ : Rho) (h : Hp) (w : World) (ρ' : Rho) (h' : Hp) (w' : World) : Prop where
  ext : Ext ρ ρ'
  img : ∀ i p, wr (h'.at i) = true → ρ' i = some p → (∃ j q, wr (h.at j) = true ∧ ρ j = some q ∧ q.pb = p.pb) ∨ w.heap.size ≤ p.pb
  frame : ∀ b, b < w.heap.size → (∀ j q, wr (h.at j) = true → ρ j = some q → q.pb ≠ b) → w'.heap[b]? = w.heap[b]?
  size : w.heap.size ≤ w'.heap.size
  os : w'.os = w.os
  tape : w'.tape = w.tape
  output : w'.output = w.output
section
variable {G : Gl} {ρ ρ' ρ1 : Rho} {h h' h1 : Hp} {w w' w1 : World}
theorem St.refl : St ρ h w ρ h w := ⟨.refl _, fun i p hi hp => .inl ⟨i, p, hi, hp, rfl⟩, fun _ _ _ => rfl, Nat.le_refl _, rfl, rfl, rfl⟩
theorem St.trans (s : St ρ h w ρ1 h1 w1) (t : St ρ1 h1 w1 ρ' h' w') : St ρ h w ρ' h' w' where
  ext := s.ext.trans t.ext
  img := fun i p hi hp => by
    rcases t.img i p hi hp with ⟨j, q, hj, hq, e⟩ | hlt
    · rcases s.img j q hj hq with ⟨k, r, hk, hr, e'⟩ | hlt
      · exact .inl ⟨k, r, hk, hr, e'.trans e⟩
      · exact .inr (e ▸ hlt)
    · exact .inr (Nat.le_trans s.size hlt)
  frame := fun b hb hno => by
    rw [t.frame b (Nat.lt_of_lt_of_le hb s.size) (fun j q hj hq e => by
      rcases s.img j q hj hq with ⟨k, r, hk, hr, e'⟩ | hlt
      · exact hno k r hk hr (e'.trans e)
      · omega), s.frame b hb hno]
  size := Nat.le_trans s.size t.size
  os := t.os.trans s.os
  tape := t.tape.trans s.tape
  output := t.output.trans s.output
theorem St.drew (s : St ρ h w ρ' h' w') : St ρ h w ρ' h' w'.drew := ⟨s.ext, s.img, s.frame, s.size, s.os, s.tape, s.output⟩
theorem OR.drew {b : Nat} {o : LObj} (k : OR ρ w b o) : OR ρ w.drew b o := by
  cases o with
  | cells => obtain ⟨p, h1, h2, ⟨h3⟩⟩ := k; exact ⟨p, h1, h2, ⟨h3⟩⟩
  | _ => exact k
theorem Real.drew (r : Real G ρ h w) : Real G ρ h w.drew := ⟨fun b => (r.obj b).drew, r.fresh, r.sep, r.glob, r.gsep, r.grp, fun b n h1 h2 => (r.told b n h1 h2).drew, r.mono⟩
theorem Rho.cut_ext (n : Nat) : Ext (ρ.cut n) ρ := fun i p e => by
  unfold Rho.cut at e
  split at e
  · exact e
  · cases e
theorem Rho.cut_mono (he : Ext ρ ρ') (n : Nat) : Ext (ρ.cut n) (ρ'.cut n) := fun i p e => by
  unfold Rho.cut at e ⊢
  split at e
  · rename_i h; rw [if_pos h]; exact he _ _ e
  · cases e
theorem Rho.cut_all {n : Nat} (hf : ∀ b p, ρ b = some p → b < n) : ρ.cut n = ρ := by
  funext i
  unfold Rho.cut
  split
  · rfl
  · cases hi : ρ i with
    | none => rfl
    | some p => exact absurd (hf i p hi) (by assumption)
/-- Where a live block lies, the world has one. -/
theorem Real.low (r : Real G ρ h w) {b : Nat} {p : Place} (hl : lv (h.at b) = true) (hp : ρ b = some p) : p.pb < w.heap.size := by
  have := r.obj b
  have key : ∀ {o : Obj}, w.heap[p.pb]? = some o → p.pb < w.heap.size := fun e => (Array.getElem?_eq_some_iff.1 e).1
  cases ho : h.at b <;> rw [ho] at this hl
  · cases hl
  · obtain ⟨q, h1, -, ⟨pc, e, fz, h3, -⟩⟩ := this; rw [hp] at h1; cases h1; exact key h3
  · obtain ⟨q, _, h1, h2, -⟩ := this; rw [hp] at h1; cases h1; exact key h2
  · obtain ⟨q, _, _, h1, -, h2, -⟩ := this; rw [hp] at h1; cases h1; exact key h2
  · obtain ⟨q, h1, h2⟩ := this; rw [hp] at h1; cases h1; exact key h2
theorem CR.mono (he : Ext ρ ρ') {p : Place} {c : List LV} (k : CR ρ w p c) : CR ρ' w p c := by
  obtain ⟨pc, e, fz, h1, h2, h3, h4, h5, h6⟩ := k
  exact ⟨pc, e, fz, h1, h2, h3, fun i v v' a b => (h4 i v v' a b).mono he, h5, h6⟩
theorem CR.world {p : Place} {c : List LV} (k : CR ρ w p c) (e : w'.heap[p.pb]? = w.heap[p.pb]?) : CR ρ w' p c := by
  obtain ⟨pc, e', fz, h1, h2⟩ := k
  exact ⟨pc, e', fz, e.trans h1, h2⟩
theorem FR.mono (he : Ext ρ ρ') {a : Fr} {t : Array Value} (k : FR ρ a t) : FR ρ' a t := fun i => (k i).mono he
/-- A block that nobody touched. -/
theorem Tie.world {p : Place} {t : TypeId} {st : Nat} {c : List LV} (k : Tie w p t st c) (e : w'.heap[p.pb]? = w.heap[p.pb]?) : Tie w' p t st c := by
  obtain ⟨pc, fz, h1, h2⟩ := k
  exact ⟨pc, fz, e.trans h1, h2⟩
theorem Tie.cells {p : Place} {t : TypeId} {st : Nat} {c c' : List LV} {pc pc' : Array Value} {e : TypeId} {fz : Nat × Nat} (k : Tie w p t st c) (h1 : w.heap[p.pb]? = some (.cells pc e fz)) (h2 : w'.heap[p.pb]? = some (.cells pc' e fz)) (h3 : pc'.size = pc.size) (h4 : c'.length = c.length) : Tie w' p t st c' := by
  obtain ⟨qc, qz, h5, h6⟩ := k
  rw [h1] at h5
  cases h5
  refine ⟨pc', fz, h2, fun a b => ?_⟩
  obtain ⟨h7, h8, h9⟩ := h6 a (fun e => by subst e; simp at h4; exact b h4)
  exact ⟨h7, by omega, h9⟩
theorem OR.keep (he : Ext ρ ρ') {b : Nat} {o : LObj} (k : OR ρ w b o) (hw : ∀ p, lv o = true → ρ b = some p → w'.heap[p.pb]? = w.heap[p.pb]?) : OR ρ' w' b o := by
  cases o with
  | dead => trivial
  | cells c t st g sh ro =>
    obtain ⟨p, h1, h2, h3⟩ := k
    exact ⟨p, he _ _ h1, ⟨h2.1, h2.2.world (hw p rfl h1)⟩, (h3.world (hw p rfl h1)).mono he⟩
  | map es k' =>
    obtain ⟨p, es', h1, h2, h3, h4⟩ := k
    exact ⟨p, es', he _ _ h1, (hw p rfl h1).trans h2, h3, fun i x y a b => ⟨(h4 i x y a b).1.mono he, (h4 i x y a b).2.1.mono he, (h4 i x y a b).2.2⟩⟩
  | loop s pd fn tmps size params assign body d =>
    obtain ⟨p, q, r, h1, h2, h3, h4, h5, h6, h7, h8⟩ := k
    exact ⟨p, q, r, he _ _ h1, he _ _ h2, (hw p rfl h1).trans h3, h4, h5, h6, h7.mono he, h8⟩
  | defd =>
    obtain ⟨p, h1, h2⟩ := k
    exact ⟨p, he _ _ h1, (hw p rfl h1).trans h2⟩
/-- A new block. -/
def Rho.add (ρ : Rho) (b : Nat) (p : Place) : Rho := fun i => if i = b then some p else ρ i
theorem Rho.add_same (b : Nat) (p : Place) : ρ.add b p b = some p := by simp [Rho.add]
theorem Rho.ext_add (r : Real G ρ h w) (p : Place) : Ext ρ (ρ.add h.n p) := fun i q e => by
  have := r.fresh i q e
  simp [Rho.add, show ¬ i = h.n by omega, e]
theorem heap_alloc_old (w : World) (o : Obj) {k : Nat} (h : k < w.heap.size) : (w.alloc o).heap[k]? = w.heap[k]? := by
  show (w.heap.push o)[k]? = _
  rw [Array.getElem?_push, if_neg (by omega)]
theorem heap_alloc_at (w : World) (o : Obj) : (w.alloc o).heap[w.heap.size]? = some o := by
  show (w.heap.push o)[w.heap.size]? = _
  rw [Array.getElem?_push, if_pos rfl]
theorem size_alloc (w : World) (o : Obj) : (w.alloc o).heap.size = w.heap.size + 1 := Array.size_push ..
theorem GR.keep (k : GR G w) (hw : ∀ g, (G g).isSome = true → w'.heap[g]? = w.heap[g]?) : GR G w' := fun g c e => by
  obtain ⟨pc, e', fz, h1, h2⟩ := k g c e
  exact ⟨pc, e', fz, (hw g (by rw [e]; rfl)).trans h1, h2⟩
theorem GR.low (k : GR G w) {g : Nat} (hg : (G g).isSome = true) : g < w.heap.size := by
  obtain ⟨c, e⟩ := Option.isSome_iff_exists.1 hg
  obtain ⟨pc, e', fz, h1, h2⟩ := k g c e
  exact (Array.getElem?_eq_some_iff.1 h1).1
theorem real_new (r : Real G ρ h w) (o : Obj) (x : LObj) (p : Place) (hp : p.pb = w.heap.size) (hg : ∀ g, grpOf x = some g → g ≤ h.n) (hx : OR (ρ.add h.n p) (w.alloc o) h.n x) :
    Real G (ρ.add h.n p) (h.new x) (w.alloc o) ∧ St ρ h w (ρ.add h.n p) (h.new x) (w.alloc o) := by
  have he := Rho.ext_add r p
  have hobj : ∀ b, OR (ρ.add h.n p) (w.alloc o) b ((h.new x).at b) := fun b => by
    rw [Hp.at_new]
    by_cases hb : b = h.n
    · rw [if_pos hb]; subst hb; exact hx
    · rw [if_neg hb]
      exact (r.obj b).keep he (fun q hl hq => heap_alloc_old w o (r.low hl hq))
  refine ⟨⟨hobj, fun b q e => ?_, ?_, ?_, ?_, ?_, fun b n hbn hu => ?_, ?_⟩, ⟨he, ?_, ?_, ?_, rfl, rfl, rfl⟩⟩
  · simp only [Rho.add] at e
    rw [Hp.n_new]
    split at e
    · omega
    · have := r.fresh b q e; omega
  · intro i j pi pj hne hi hj ei ej epb
    rw [Hp.at_new] at hi hj ⊢
    rw [Hp.at_new]
    simp only [Rho.add] at ei ej
    by_cases h1 : i = h.n <;> by_cases h2 : j = h.n
    · omega
    · rw [if_neg h2] at hj ej
      rw [if_pos h1] at ei
      cases ei
      have := r.low hj ej
      omega
    · rw [if_neg h1] at hi ei
      rw [if_pos h2] at ej
      cases ej
      have := r.low hi ei
      omega
    · rw [if_neg h1] at hi ei ⊢
      rw [if_neg h2] at hj ej ⊢
      exact r.sep i j pi pj hne hi hj ei ej epb
  · exact r.glob.keep fun g hg => heap_alloc_old w o (r.glob.low hg)
  · intro i q g hi hq hg
    rw [Hp.at_new] at hi
    simp only [Rho.add] at hq
    by_cases h1 : i = h.n
    · rw [if_pos h1] at hq
      cases hq
      have := r.glob.low hg
      omega
    · rw [if_neg h1] at hi hq
      exact r.gsep i q g hi hq hg
  · intro i g hi
    rw [Hp.at_new] at hi
    by_cases h1 : i = h.n
    · rw [if_pos h1] at hi; rw [h1]; exact hg g hi
    · rw [if_neg h1] at hi; exact r.grp i g hi
  · by_cases hn : h.n < n
    · rw [Rho.cut_all (fun i q e => ?_)]
      · exact hobj b
      · simp only [Rho.add] at e
        split at e
        · omega
        · have := r.fresh i q e; omega
    · rw [Hp.at_new, if_neg (by omega)]
      exact (r.told b n hbn hu).keep (Rho.cut_mono he n) (fun q hl hq => heap_alloc_old w o (r.low hl (Rho.cut_ext n _ _ hq)))
  · intro i j pi pj hlt hi hj ei ej epb
    rw [Hp.at_new] at hi hj ⊢
    rw [Hp.at_new]
    simp only [Rho.add] at ei ej
    have h1 : i ≠ h.n := fun e => by
      rw [if_pos e] at ei
      by_cases h2 : j = h.n
      · omega
      · rw [if_neg h2] at ej
        have := r.fresh j pj ej
        omega
    rw [if_neg h1] at hi ei ⊢
    by_cases h2 : j = h.n
    · rw [if_pos h2] at ej
      cases ej
      have := r.low hi ei
      omega
    · rw [if_neg h2] at hj ej ⊢
      exact r.mono i j pi pj hlt hi hj ei ej epb
  · intro i q hi hq
    rw [Hp.at_new] at hi
    simp only [Rho.add] at hq
    by_cases h1 : i = h.n
    · rw [if_pos h1] at hq; cases hq; exact .inr (by omega)
    · rw [if_neg h1] at hi hq
      exact .inl ⟨i, q, hi, hq, rfl⟩
  · intro b hb _
    exact heap_alloc_old w o hb
  · rw [size_alloc]; omega
/-- Blocks may be forgotten. -/
theorem real_kill (r : Real G ρ h w) (hn : h'.n = h.n) (hu : h'.ups = h.ups) (hk : ∀ i, h'.at i = h.at i ∨ h'.at i = .dead) : Real G ρ h' w ∧ St ρ h w ρ h' w := by
  have key : ∀ j, lv (h'.at j) = true → h'.at j = h.at j := fun j hj => by
    rcases hk j with e | e
    · exact e
    · rw [e] at hj; cases hj
  refine ⟨⟨fun b => ?_, fun b p e => hn ▸ r.fresh b p e, ?_, r.glob, ?_, ?_, fun b n h1 h2 => ?_, ?_⟩, ⟨.refl _, ?_, fun _ _ _ => rfl, Nat.le_refl _, rfl, rfl, rfl⟩⟩
  · rcases hk b with e | e
    · rw [e]; exact r.obj b
    · rw [e]; trivial
  · intro a b p q hne ha hb
    rw [key a ha, key b hb]
    rw [key a ha] at ha
    rw [key b hb] at hb
    exact r.sep a b p q hne ha hb
  · intro a p g ha
    rw [key a ha] at ha
    exact r.gsep a p g ha
  · intro i g e
    rcases hk i with e' | e'
    · rw [e'] at e; exact r.grp i g e
    · rw [e'] at e; cases e
  · rcases hk b with e | e
    · rw [e]; exact r.told b n h1 (hu ▸ h2)
    · rw [e]; trivial
  · intro a b p q hlt ha hb
    rw [key a ha, key b hb]
    rw [key a ha] at ha
    rw [key b hb] at hb
    exact r.mono a b p q hlt ha hb
  · intro a p ha hp
    rw [key a (lv_of_wr ha)] at ha
    exact .inl ⟨a, p, ha, hp, rfl⟩
/-- One block turned, and nobody else lies there. -/
theorem real_turn (r : Real G ρ h w) {b : Nat} {p : Place} {x : LObj} (hb : b < h.n) (hw : wr (h.at b) = true) (hρ : ρ b = some p) (hn : h'.n = h.n) (hu : ∀ u ∈ h.ups, u ∈ h'.ups) (ha : ∀ i, h'.at i = if i = b then x else h.at i) (hgx : ∀ g, grpOf x = some g → g ≤ b)
    (alone : ∀ j q, j ≠ b → lv (h.at j) = true → ρ j = some q → q.pb ≠ p.pb) (far : ∀ k, k ≠ p.pb → w'.heap[k]? = w.heap[k]?) (hsz : w.heap.size ≤ w'.heap.size) (hos : w'.os = w.os) (htape : w'.tape = w.tape) (hout : w'.output = w.output) (hx : OR ρ w' b x) (hxt : ∀ n, b < n → (∀ u ∈ h'.ups, n ≤ u.1 ∨ u.2 ≤ n) → OR (ρ.cut n) w' b x) :
    Real G ρ h' w' ∧ St ρ h w ρ h' w' := by
  have hlb := lv_of_wr hw
  refine ⟨⟨fun i => ?_, fun i q e => hn ▸ r.fresh i q e, ?_, ?_, ?_, ?_, fun i n hin hun => ?_, ?_⟩, ⟨.refl _, ?_, ?_, hsz, hos, htape, hout⟩⟩
  · rw [ha]
    by_cases e : i = b
    · rw [if_pos e, e]; exact hx
    · rw [if_neg e]
      exact (r.obj i).keep (.refl _) (fun q hl hq => far _ (alone i q e hl hq))
  · intro i j pi pj hne hi hj ei ej epb
    rw [ha] at hi hj ⊢
    rw [ha]
    by_cases h1 : i = b <;> by_cases h2 : j = b
    · omega
    · rw [if_neg h2] at hj
      subst h1
      rw [hρ] at ei; cases ei
      exact absurd epb.symm (alone j pj h2 hj ej)
    · rw [if_neg h1] at hi
      subst h2
      rw [hρ] at ej; cases ej
      exact absurd epb (alone i pi h1 hi ei)
    · rw [if_neg h1] at hi ⊢
      rw [if_neg h2] at hj ⊢
      exact r.sep i j pi pj hne hi hj ei ej epb
  · exact r.glob.keep fun g hg => far g (fun e => r.gsep b p g hlb hρ hg e.symm)
  · intro i q g hi hq hg
    rw [ha] at hi
    by_cases e : i = b
    · subst e; rw [hρ] at hq; cases hq; exact r.gsep i p g hlb hρ hg
    · rw [if_neg e] at hi; exact r.gsep i q g hi hq hg
  · intro i g hi
    rw [ha] at hi
    by_cases e : i = b
    · rw [if_pos e] at hi; rw [e]; exact hgx g hi
    · rw [if_neg e] at hi; exact r.grp i g hi
  · rw [ha]
    by_cases e : i = b
    · rw [if_pos e, e]; exact hxt n (e ▸ hin) hun
    · rw [if_neg e]
      exact (r.told i n hin (fun u hu' => hun u (hu u hu'))).keep (.refl _) (fun q hl hq => far _ (alone i q e hl (Rho.cut_ext n _ _ hq)))
  · intro i j pi pj hlt hi hj ei ej epb
    rw [ha] at hi hj ⊢
    rw [ha]
    by_cases h1 : i = b
    · have h2 : j ≠ b := by omega
      rw [if_neg h2] at hj
      subst h1
      rw [hρ] at ei; cases ei
      exact absurd epb.symm (alone j pj h2 hj ej)
    · rw [if_neg h1] at hi ⊢
      by_cases h2 : j = b
      · subst h2
        rw [hρ] at ej; cases ej
        exact absurd epb (alone i pi h1 hi ei)
      · rw [if_neg h2] at hj ⊢
        exact r.mono i j pi pj hlt hi hj ei ej epb
  · intro i q hi hq
    rw [ha] at hi
    by_cases e : i = b
    · exact .inl ⟨b, p, hw, hρ, by subst e; rw [hρ] at hq; cases hq; rfl⟩
    · rw [if_neg e] at hi; exact .inl ⟨i, q, hi, hq, rfl⟩
  · intro k hk hno
    exact far k (fun e => hno b p hw hρ e.symm)
end
/-- What killG does. -/
theorem killG_spec (keep : Nat → Bool) (g : Nat) : ∀ (k : Nat) (h : Hp), (killG keep g k h).n = h.n ∧ (killG keep g k h).ups = h.ups ∧ (∀ i, (killG keep g k h).at i = h.at i ∨ (killG keep g k h).at i = .dead) ∧ (∀ i, keep i = true → (killG keep g k h).at i = h.at i) ∧
    (∀ i, g ≤ i → i < g + k → grpOf (h.at i) = some g → keep i = false → (killG keep g k h).at i = .dead)
  | 0, h => ⟨rfl, rfl, fun i => .inl rfl, fun i _ => rfl, fun i h1 h2 => by omega⟩
  | k + 1, h => by
    unfold killG
    have hstep : ∃ h1 : Hp, kill1 keep g (g + k) h (h.at (g + k)) = h1 ∧ h1.n = h.n ∧ h1.ups = h.ups ∧ (∀ i, h1.at i = h.at i ∨ h1.at i = .dead) ∧ (∀ i, keep i = true → h1.at i = h.at i) ∧
        (grpOf (h.at (g + k)) = some g → keep (g + k) = false → h1.at (g + k) = .dead) := by
      cases ho : h.at (g + k) with
      | cells c t st g' sh ro =>
        have hlt : g + k < h.n := Hp.lt_of_at (by rw [ho]; simp)
        unfold kill1
        cases hc : Nat.beq g g' && !keep (g + k) with
        | true =>
          simp only [Bool.and_eq_true, Bool.not_eq_true'] at hc
          refine ⟨h.put (g + k) .dead, by simp [hc.1, hc.2], rfl, rfl, fun i => ?_, fun i hi => ?_, fun _ _ => ?_⟩
          · rw [Hp.at_put _ _ _ _ hlt]; by_cases e : i = g + k
            · rw [if_pos e]; exact .inr rfl
            · rw [if_neg e]; exact .inl rfl
          · rw [Hp.at_put _ _ _ _ hlt]; by_cases e : i = g + k
            · subst e; rw [hi] at hc; cases hc.2
            · rw [if_neg e]
          · rw [Hp.at_put _ _ _ _ hlt, if_pos rfl]
        | false =>
          refine ⟨h, by simp only [hc, cond_false], rfl, rfl, fun i => .inl rfl, fun i _ => rfl, fun h1 h2 => ?_⟩
          simp only [grpOf, Option.some.injEq] at h1
          subst h1
          rw [h2] at hc
          simp [Nat.beq_refl] at hc
      | _ => exact ⟨h, rfl, rfl, rfl, fun i => .inl rfl, fun i _ => rfl, fun h1 _ => by simp [grpOf] at h1⟩
    obtain ⟨h1, e, hn, hu, ha, hb, hc⟩ := hstep
    rw [e]
    obtain ⟨i1, i2, i3, i4, i5⟩ := killG_spec keep g k h1
    refine ⟨i1.trans hn, i2.trans hu, fun i => ?_, fun i hi => (i4 i hi).trans (hb i hi), fun i k1 k2 k3 k4 => ?_⟩
    · rcases i3 i with e1 | e1
      · rcases ha i with e2 | e2
        · exact .inl (e1.trans e2)
        · exact .inr (e1.trans e2)
      · exact .inr e1
    · by_cases hik : i = g + k
      · subst hik
        rcases i3 (g + k) with e1 | e1
        · rw [e1]; exact hc k3 k4
        · exact e1
      · rcases ha i with e2 | e2
        · exact i5 i k1 (by omega) (by rw [e2]; exact k3) k4
        · rcases i3 i with e1 | e1
          · rw [e1]; exact e2
          · exact e1
theorem Hp.ups_tell {h : Hp} {b m : Nat} {u : Nat × Nat} (hu : u ∈ h.ups) : u ∈ (h.tell b m).ups := by
  unfold Hp.tell
  cases Nat.ble m b
  · exact .tail _ hu
  · exact hu
theorem Hp.tell_le {h : Hp} {b m n : Nat} (hb : b < n) (hu : ∀ u ∈ (h.tell b m).ups, n ≤ u.1 ∨ u.2 ≤ n) : m ≤ n := by
  unfold Hp.tell at hu
  cases hc : Nat.ble m b <;> rw [hc] at hu
  · rcases hu (b, m) (.head _) with h | h
    · simp at h; omega
    · exact h
  · have := Nat.le_of_ble_eq_true hc
    omega
theorem topL_get : ∀ {l : List LV} {i : Nat} {v : LV}, l[i]? = some v → topV v ≤ topL l
  | [], i, v, h => by simp at h
  | x :: l, 0, v, h => by simp at h; subst h; simp only [topL]; exact Nat.le_max_left _ _
  | x :: l, i + 1, v, h => by
    simp only [topL]
    exact Nat.le_trans (topL_get (l := l) (i := i) (by simpa using h)) (Nat.le_max_right _ _)
/-- A value that names only early blocks. -/
theorem VR.cut {ρ : Rho} {v : LV} {v' : Value} {n : Nat} (k : VR ρ v v') (ht : topV v ≤ n) : VR (ρ.cut n) v v' := by
  have cut : ∀ {b : Nat} {p : Place}, b + 1 ≤ n → ρ b = some p → ρ.cut n b = some p := fun hb h => by unfold Rho.cut; rw [if_pos (by omega)]; exact h
  revert ht
  induction k with
  | any v => exact fun _ => .any v
  | bool b => exact fun _ => .bool b
  | int k n => exact fun _ => .int k n
  | str l => exact fun _ => .str l
  | nilp => exact fun _ => .nilp
  | ptr off h => exact fun ht => .ptr off (cut (by simpa only [topV] using ht) h)
  | gptr g off => exact fun _ => .gptr g off
  | nils => exact fun _ => .nils
  | slc off n cap h hc hk hs hx => exact fun ht => .slc off n cap (cut (by simpa only [topV] using ht) h) hc hk hs hx
  | nilm => exact fun _ => .nilm
  | map h => exact fun ht => .map (cut (by simpa only [topV] using ht) h)
  | nilf => exact fun _ => .nilf
  | fn f h1 h2 r1 r2 i1 i2 =>
    intro ht
    simp only [topV] at ht
    exact .fn f h1 h2 (fun i v v' e e' => i1 i v v' e e' (by have := topL_get e; omega)) (fun i v v' e e' => i2 i v v' e e' (by have := topL_get e; omega))
  | yield h h1 r1 i1 =>
    intro ht
    simp only [topV] at ht
    exact .yield (cut (by omega) h) h1 (fun i v v' e e' => i1 i v v' e e' (by have := topL_get e; omega))
  | nili => exact fun _ => .nili
  | ifc t h ih => exact fun ht => .ifc t (ih (by simpa only [topV] using ht))
  | agg h r ho ih =>
    intro ht
    simp only [topV] at ht
    exact .agg h (fun i v v' e e' => ih i v v' e e' (by have := topL_get e; omega)) ho
  | tup h r ih =>
    intro ht
    simp only [topV] at ht
    exact .tup h (fun i v v' e e' => ih i v v' e e' (by have := topL_get e; omega))
theorem LR.cut {ρ : Rho} {l : List LV} {a : List Value} {n : Nat} (k : LR ρ l a) (ht : topL l ≤ n) : LR (ρ.cut n) l a := ⟨k.1, fun i v v' e e' => (k.2 i v v' e e').cut (by have := topL_get e; omega)⟩
theorem Rho.cut_same {ρ : Rho} {b n : Nat} {p : Place} (hb : b < n) (h : ρ b = some p) : ρ.cut n b = some p := by unfold Rho.cut; rw [if_pos hb]; exact h
/-- What a call leaves behind is forgotten. -/
theorem real_gc {G : Gl} {ρ0 ρ : Rho} {h0 h : Hp} {w0 w : World} (r0 : Real G ρ0 h0 w0) (s : St ρ0 h0 w0 ρ h w) (r : Real G ρ h w) (hle : h0.n ≤ h.n) (hu : ∀ u ∈ h.ups, h0.n ≤ u.1 ∨ u.2 ≤ h0.n) {us : List (Nat × Nat)} (hus : ∀ u ∈ h.ups, u.1 < h0.n → u ∈ us) :
    Real G (ρ.cut h0.n) ⟨h0.n, h.t, us⟩ w ∧ St ρ0 h0 w0 (ρ.cut h0.n) ⟨h0.n, h.t, us⟩ w := by
  have hat : ∀ b, Hp.at ⟨h0.n, h.t, us⟩ b = if b < h0.n then h.at b else .dead := fun b => by
    rw [Hp.at_eq, Hp.at_eq]
    by_cases hb : b < h0.n
    · rw [if_pos hb, if_pos hb, if_pos (show b < h.n by omega)]
    · rw [if_neg hb, if_neg hb]
  have hlv : ∀ b, lv (Hp.at ⟨h0.n, h.t, us⟩ b) = true → b < h0.n ∧ Hp.at ⟨h0.n, h.t, us⟩ b = h.at b := fun b hb => by
    rw [hat] at hb ⊢
    split at hb
    · rename_i hlt; exact ⟨hlt, by rw [if_pos hlt]⟩
    · cases hb
  have he : Ext ρ0 (ρ.cut h0.n) := fun i p e => Rho.cut_same (r0.fresh i p e) (s.ext i p e)
  refine ⟨⟨fun b => ?_, fun b p e => ?_, ?_, r.glob, ?_, ?_, fun b n hb hn => ?_, ?_⟩, ⟨he, fun i p hi hp => ?_, s.frame, s.size, s.os, s.tape, s.output⟩⟩
  · rw [hat]
    split
    · rename_i hb; exact r.told b h0.n hb hu
    · trivial
  · unfold Rho.cut at e
    split at e
    · assumption
    · cases e
  · intro i j p q hne hi hj ei ej epb
    obtain ⟨hi1, hi2⟩ := hlv i hi
    obtain ⟨hj1, hj2⟩ := hlv j hj
    rw [hi2] at hi ⊢
    rw [hj2] at hj ⊢
    exact r.sep i j p q hne hi hj (Rho.cut_ext _ _ _ ei) (Rho.cut_ext _ _ _ ej) epb
  · intro i p g hi hp
    obtain ⟨hi1, hi2⟩ := hlv i hi
    rw [hi2] at hi
    exact r.gsep i p g hi (Rho.cut_ext _ _ _ hp)
  · intro i g hi
    rw [hat] at hi
    split at hi
    · exact r.grp i g hi
    · cases hi
  · rw [hat]
    split
    · rename_i hb0
      by_cases hn0 : h0.n ≤ n
      · have : (ρ.cut h0.n).cut n = ρ.cut h0.n := Rho.cut_all fun i q e => by
          unfold Rho.cut at e
          split at e
          · omega
          · cases e
        rw [this]
        exact r.told b h0.n hb0 hu
      · have : (ρ.cut h0.n).cut n = ρ.cut n := by
          funext i
          unfold Rho.cut
          by_cases h1 : i < n
          · rw [if_pos h1, if_pos h1, if_pos (by omega)]
          · rw [if_neg h1, if_neg h1]
        rw [this]
        refine r.told b n hb fun u hu' => ?_
        by_cases h1 : u.1 < h0.n
        · exact hn u (hus u hu' h1)
        · left; omega
    · trivial
  · intro i j p q hlt hi hj ei ej epb
    obtain ⟨hi1, hi2⟩ := hlv i hi
    obtain ⟨hj1, hj2⟩ := hlv j hj
    rw [hi2] at hi ⊢
    rw [hj2] at hj ⊢
    exact r.mono i j p q hlt hi hj (Rho.cut_ext _ _ _ ei) (Rho.cut_ext _ _ _ ej) epb
  · have := hlv i (lv_of_wr hi)
    rw [this.2] at hi
    exact s.img i p hi (Rho.cut_ext _ _ _ hp)
end Go.Proofs.Eng