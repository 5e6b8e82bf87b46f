/- From the machine to the logical machine: what a library's function is proved to answer. Conditions: none. -/
import Derived.Test.YtbnmhhbncggjkaaGreatDoorEngBe
import Derived.Deep.Draws
set_option linter.unusedVariables false
set_option linter.unusedSimpArgs false
namespace Go.Proofs.Eng
open Go Go.RowKit
section
variable {P : Program} {G : Gl} {ρ : Rho} {h : Hp} {w w' : World}
theorem GR.keepB (g : GR G w) (k : ∀ b, b < w.heap.size → w'.heap[b]? = w.heap[b]?) : GR G w' := fun b c e => by
  obtain ⟨pc, e', fz, h1, h2⟩ := g b c e
  exact ⟨pc, e', fz, by rw [k b (Array.getElem?_eq_some_iff.1 h1).1]; exact h1, h2⟩
/-- Nothing that was there is touched. -/
theorem real_below (hR : Real G ρ h w) (bel : Below w.heap.size w w') : Real G ρ h w' ∧ St ρ h w ρ h w' := by
  have keep : ∀ i p, lv (h.at i) = true → ρ i = some p → w'.heap[p.pb]? = w.heap[p.pb]? := fun i p hl hp => bel.block _ (hR.low hl hp)
  exact ⟨⟨fun b => (hR.obj b).keep (.refl _) (fun p hl hp => keep b p hl hp), hR.fresh, hR.sep, hR.glob.keepB bel.block, hR.gsep, hR.grp, fun b n hb hu => (hR.told b n hb hu).keep (.refl _) (fun p hl hp => keep b p hl (Rho.cut_ext n _ _ hp)), hR.mono⟩,
    ⟨.refl _, fun i p hi hp => .inl ⟨i, p, hi, hp, rfl⟩, fun b hb _ => bel.block b hb, bel.size, bel.os, bel.tape, bel.output⟩⟩
theorem call_enter {f : FuncId} {fn : Func} {c : Code} (hf : P.funcs[f]? = some fn) (hb : fn.body = some c) (hn : (fn.name == "runtime.NumGoroutine") = false) (pargs : Array Value) (w : World) : (callFunc f pargs).run P w = .ok (.enter f pargs) w := by
  unfold callFunc
  have hn' : ¬ fn.name = "runtime.NumGoroutine" := by simpa using hn
  simp [hf, hn', hb]
theorem VR.plain {v : LV} {v' : Value} (k : VR (fun _ => none) v v') : VR ρ v v' := k.mono fun i p e => by cases e
/-- A contract that is proved of the machine, which touches nothing that was there. -/
theorem fromBelow {f : FuncId} {fn : Func} {c : Code} {args : List LV} {v : LV} (hf : P.funcs[f]? = some fn) (hb : fn.body = some c) (hn : (fn.name == "runtime.NumGoroutine") = false)
    (k : ∀ (ρ : Rho) (w : World) (pargs : Array Value), Real G ρ h w → LR ρ args pargs.toList → Calls P f pargs w fun e w' => ∃ pv, e = .returned pv ∧ VR (fun _ => none) v pv ∧ Below w.heap.size w w') : CallS P G f args h v h := fun ρ w pargs hR hl => by
  refine .inr ⟨call_enter hf hb hn pargs w, (k ρ w pargs hR hl).mono fun e w' ⟨pv, h1, h2, h3⟩ => ?_⟩
  obtain ⟨r, s⟩ := real_below hR h3
  exact ⟨ρ, pv, h1, s, r, h2.plain⟩
/-! what the arguments are -/
theorem lr_inv {v : LV} {l : List LV} {a : List Value} (k : LR ρ (v :: l) a) : ∃ v' a', a = v' :: a' ∧ VR ρ v v' ∧ LR ρ l a' := by
  obtain ⟨h1, h2⟩ := k
  match a, h1 with
  | v' :: a', h1 => exact ⟨v', a', rfl, h2 0 _ _ rfl rfl, by simpa using h1, fun i x x' e1 e2 => h2 (i + 1) x x' (by simpa using e1) (by simpa using e2)⟩
theorem lr_inv0 {a : List Value} (k : LR ρ [] a) : a = [] := by
  have := k.1
  cases a <;> simp_all
theorem vr_str {l : List UInt8} {v : Value} (k : VR ρ (.str l) v) : v = .string ⟨l.toArray⟩ := by cases k; rfl
theorem vr_int {q : IntKind} {n : Int} {v : Value} (k : VR ρ (.int q n) v) : v = .int q n := by cases k; rfl
theorem args1 {v : LV} {a : Array Value} (k : LR ρ [v] a.toList) : ∃ v', a = #[v'] ∧ VR ρ v v' := by
  obtain ⟨v', a', h1, h2, h3⟩ := lr_inv k
  obtain rfl := lr_inv0 h3
  exact ⟨v', by cases a; simp_all, h2⟩
theorem args2 {v u : LV} {a : Array Value} (k : LR ρ [v, u] a.toList) : ∃ v' u', a = #[v', u'] ∧ VR ρ v v' ∧ VR ρ u u' := by
  obtain ⟨v', a', h1, h2, h3⟩ := lr_inv k
  obtain ⟨u', b', rfl, h4, h5⟩ := lr_inv h3
  obtain rfl := lr_inv0 h5
  exact ⟨v', u', by cases a; simp_all, h2, h4⟩
theorem args3 {v u x : LV} {a : Array Value} (k : LR ρ [v, u, x] a.toList) : ∃ v' u' x', a = #[v', u', x'] ∧ VR ρ v v' ∧ VR ρ u u' ∧ VR ρ x x' := by
  obtain ⟨v', a', h1, h2, h3⟩ := lr_inv k
  obtain ⟨u', b', rfl, h4, h5⟩ := lr_inv h3
  obtain ⟨x', c', rfl, h6, h7⟩ := lr_inv h5
  obtain rfl := lr_inv0 h7
  exact ⟨v', u', x', by cases a; simp_all, h2, h4, h6⟩
theorem vr_tup {l : List LV} {a : Array Value} (k : LR ρ l a.toList) : VR ρ (.tup l) (.tuple a) := .tup (by simpa using k.1) fun i v v' e1 e2 => k.2 i v v' e1 (by simpa using e2)
theorem below_drew (B : Nat) (w : World) (n : Nat) : Below B w (w.drewN n) := ⟨rfl, rfl, rfl, Nat.le_refl _, fun _ _ => rfl⟩
theorem glob_int {g : Nat} {q : IntKind} {n : Int} {l : List LV} (r : GR G w) (e : G g = some (.int q n :: l)) : w.cell? ⟨g, 0, none⟩ = some (.int q n) := by
  obtain ⟨pc, t, fz, h1, h2, h3, h4⟩ := r g _ e
  have hlt : 0 < pc.size := by simp only [List.length_cons] at h2; omega
  have := h3 0 _ _ rfl (Array.getElem?_eq_getElem hlt)
  have e0 := vr_int this
  simp [World.cell?, h1, e0, hlt]
/-- A block that no live object has may be turned. -/
theorem real_away {H : Hp} (r : Real G ρ h w) (hn : ∀ i, wr (h.at i) = true → h.at i = H.at i) {B : Nat} (hb : ∀ b, b ≠ B → w'.heap[b]? = w.heap[b]?) (hs : w.heap.size ≤ w'.heap.size) (h1 : w'.os = w.os) (h2 : w'.tape = w.tape) (h3 : w'.output = w.output)
    (alone : ∀ i p, lv (h.at i) = true → ρ i = some p → p.pb ≠ B) (hg : (G B).isSome = false) (hB : ∃ j q, wr (H.at j) = true ∧ ρ j = some q ∧ q.pb = B) : Real G ρ h w' ∧ St ρ H w ρ h w' := by
  have keep : ∀ i p, lv (h.at i) = true → ρ i = some p → w'.heap[p.pb]? = w.heap[p.pb]? := fun i p hl hp => hb _ (alone i p hl hp)
  refine ⟨⟨fun b => (r.obj b).keep (.refl _) (fun p hl hp => keep b p hl hp), r.fresh, r.sep, r.glob.keep (fun g hg' => hb g fun e => by subst e; rw [hg] at hg'; cases hg'), r.gsep, r.grp, fun b n hb' hu => (r.told b n hb' hu).keep (.refl _) (fun p hl hp => keep b p hl (Rho.cut_ext n _ _ hp)), r.mono⟩,
    ⟨.refl _, fun i p hi hp => .inl ⟨i, p, by rw [← hn i hi]; exact hi, hp, rfl⟩, fun b _ hj => hb b fun e => ?_, hs, h1, h2, h3⟩⟩
  subst e
  obtain ⟨j, q, hw, hq, e⟩ := hB
  exact hj j q hw hq e
/-- Package variables, in a table. -/
noncomputable def tabG (l : List (Nat × List LV)) : Nat → Option (List LV) := List.rec (fun _ => none) (fun x _ ih g => Bool.rec (ih g) (some x.2) (Nat.beq g x.1)) l
theorem glob_cells {g : Nat} {l : List LV} (r : GR G w) (e : G g = some l) : ∃ pc t fz, w.heap[g]? = some (.cells pc t fz) ∧ pc.size = l.length ∧ ∀ (i : Nat) v, l[i]? = some v → ∃ v', pc[i]? = some v' ∧ VR (fun _ => none) v v' := by
  obtain ⟨pc, t, fz, h1, h2, h3, h4⟩ := r g _ e
  refine ⟨pc, t, fz, h1, h2.symm, fun i v hv => ?_⟩
  have hi := (List.getElem?_eq_some_iff.1 hv).1
  exact ⟨pc[i], Array.getElem?_eq_getElem (by omega), h3 i v _ hv (Array.getElem?_eq_getElem (by omega))⟩
theorem glob_tab {g : Nat} {q : IntKind} {zs : List Int} (r : GR G w) (e : G g = some (zs.map fun z => .int q z)) : ∃ t fz, w.heap[g]? = some (.cells (zs.map fun z => Value.int q z).toArray t fz) := by
  obtain ⟨pc, t, fz, h1, h2, h3⟩ := glob_cells r e
  refine ⟨t, fz, ?_⟩
  rw [h1]
  congr 2
  apply Array.ext
  · simpa using h2
  · intro i hi hj
    simp at hj
    obtain ⟨v', e1, e2⟩ := h3 i (.int q zs[i]) (by simp [hj])
    rw [Array.getElem?_eq_getElem hi] at e1
    have := vr_int e2
    simp_all
theorem OR.named {b : Nat} {o : LObj} (k : OR ρ w b o) (hl : lv o = true) : ∃ p, ρ b = some p := by
  cases o with
  | dead => cases hl
  | cells => obtain ⟨p, h, _⟩ := k; exact ⟨p, h⟩
  | map => obtain ⟨p, _, h, _⟩ := k; exact ⟨p, h⟩
  | loop => obtain ⟨p, _, _, h, _⟩ := k; exact ⟨p, h⟩
  | defd => obtain ⟨p, h, _⟩ := k; exact ⟨p, h⟩
/-- What sees no package variable does so where there are some. -/
theorem PConS.glob {b : Bool} {f : FuncId} {c : PCon} (hb : G.weak = b) (k : PConS P ⟨fun _ => none, b⟩ f c) : PConS P G f c := fun args v e h ρ w pargs hR hl => by
  have R0 : Real ⟨fun _ => none, b⟩ ρ h w := ⟨hR.obj, hR.fresh, hR.sep, (fun g c e => by cases e), (fun i p g _ _ e => by cases e), hR.grp, hR.told, hR.mono⟩
  have up : ∀ {ρ' w'}, St ρ h w ρ' h w' → Real ⟨fun _ => none, b⟩ ρ' h w' → Real G ρ' h w' := fun {ρ' w'} s r => by
    have same : ∀ i p, lv (h.at i) = true → ρ' i = some p → ρ i = some p := fun i p hl hp => by
      obtain ⟨p0, h0⟩ := OR.named (hR.obj i) hl
      rw [s.ext i p0 h0] at hp
      exact hp ▸ h0
    refine ⟨r.obj, r.fresh, r.sep, ?_, fun i p g hl hp hg => hR.gsep i p g hl (same i p hl hp) hg, r.grp, r.told, r.mono⟩
    intro g l e
    have hg : (G g).isSome = true := by rw [e]; rfl
    obtain ⟨pc, t, fz, h1, h2⟩ := hR.glob g l e
    exact ⟨pc, t, fz, by rw [s.frame g (Array.getElem?_eq_some_iff.1 h1).1 fun j q hj hq => hR.gsep j q g (lv_of_wr hj) hq hg]; exact h1, h2⟩
  rcases k args v e h ρ w pargs R0 hl with ⟨ρ', w', pv, h1, h2, h3, h4⟩ | ⟨h0, h1⟩
  · exact .inl ⟨ρ', w', pv, h1, h2, up h2 h3, h4⟩
  · exact .inr ⟨h0, h1.mono fun e w' ⟨ρ', pv, h1, h2, h3, h4⟩ => ⟨ρ', pv, h1, h2, up h2 h3, h4⟩⟩
theorem PConsS.glob {b : Bool} {M : List (FuncId × PCon)} (hb : G.weak = b) (k : PConsS P ⟨fun _ => none, b⟩ M) : PConsS P G M := fun x hx => (k x hx).glob hb
end
end Go.Proofs.Eng
