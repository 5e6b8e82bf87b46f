/- A region whose order is open, told in one order: what only reads what was there before the region, or reckons, comes when it may; whatever calls or makes memory comes alone. Conditions: those of the theorem. -/
import Derived.Test.YtnnalefglpnoaaaW
import Derived.OrdersHeld
set_option linter.unusedVariables false
set_option linter.unusedSimpArgs false
namespace Go.Proofs.Ytnnalefglpnoaaa.Wd
open Go.RowKit
/-- The region in one order: (number, taken?). What is taken yields its value in every world in which the old memory is as it was. -/
def seqB (P : Program) (ops : Array Oper) (Q : Exit → Act → World → Prop) (w0 : World) : List (Nat × Option Nat × Bool) → Act → World → Prop
  | [], a, w => Q .normal a w
  | (i, d, true) :: r, a, w => ∃ o v, ops[i]? = some o ∧ YieldsIf P ops (fun W => Below w0.heap.size w0 W) o v a ∧ seqB P ops Q w0 r (a.put d v) w
  | (i, d, false) :: r, a, w => ∃ o, ops[i]? = some o ∧ ∀ K : Act → World → Prop, (∀ a' w', Below w0.heap.size w0 w' → seqB P ops Q w0 r a' w' → K a' w') →
      if Region.wanted o (yielded ops a.tmps) = true then Oper.wp P o a w K Q else K (a.put d undef) w
/-- The order's check: by the region's edges alone. -/
def chkB (ops : Array Oper) : List (Nat × Option Nat × Bool) → Array Bool → Bool
  | [], listed => Region.ready .any ops listed == []
  | (i, d, true) :: r, listed => (ops[i]?).any (·.dst == d) && Region.free .any ops listed i && (Region.ready .any ops listed).contains i && chkB ops r (listed.setIfInBounds i true)
  | (i, d, false) :: r, listed => (ops[i]?).any (·.dst == d) && Region.ready .any ops listed == [i] && chkB ops r (listed.setIfInBounds i true)
section
variable {P : Program} {ops : Array Oper} {Q : Exit → Act → World → Prop} {w0 : World}
theorem seqB_any (hs : Region.noSelect ops = true) (hQ : ∀ c (a : Act) d v w, Q (.panic c) (a.put d v) w → Q (.panic c) a w) :
    ∀ (L : List (Nat × Option Nat × Bool)) (listed : Array Bool) (a : Act) (w : World), chkB ops L listed = true → Below w0.heap.size w0 w →
      seqB P ops Q w0 L a w → wpAnyH P .any ops Q (fun W => Below w0.heap.size w0 W) L.length listed a w
  | [], listed, a, w, hc, _, h => wpAnyH_done (by simpa [chkB] using hc) h _
  | (i, d, true) :: L, listed, a, w, hc, hb, h => by
    simp only [chkB, Bool.and_eq_true] at hc
    obtain ⟨o, v, hi, hy, h⟩ := h
    have hd : o.dst = d := by have := hc.1.1.1; rw [hi] at this; simpa using this
    subst hd
    exact wpAnyH_take hi hs hc.1.1.2 hc.1.2 (fun c a w => hQ c a _ _ w) hy hb (seqB_any hs hQ L _ _ _ hc.2 hb h)
  | (i, d, false) :: L, listed, a, w, hc, hb, h => by
    simp only [chkB, Bool.and_eq_true, beq_iff_eq] at hc
    obtain ⟨o, hi, h⟩ := h
    have hd : o.dst = d := by have := hc.1.1; rw [hi] at this; simpa using this
    subst hd
    refine wpAnyH_all (rs := [i]) hc.1.2 (by simp) ?_
    intro j hj
    rw [List.mem_singleton] at hj
    subst hj
    refine wpOp_step hi (fun K hK => ?_)
    exact h K (fun a' w' hb' hs' => hK a' w' ⟨hb', seqB_any hs hQ L _ _ _ hc.2 hb' hs'⟩)
/-- THE REGION. F: what is known of the world. -/
theorem region_seq {id : Nat} {a : Act} {w : World} (F : World → Prop) (hF : F w.drew) (L : List (Nat × Option Nat × Bool)) (hm : P.follows .mixedOrders = true) (hs : Region.noSelect ops = true)
    (hQ : ∀ c (a : Act) d v w, Q (.panic c) (a.put d v) w → Q (.panic c) a w) (hsz : ops.size = L.length) (hc : chkB ops L (Array.replicate ops.size false) = true)
    (h : ∀ w1, F w1 → seqB P ops Q w1 L a w1) : (Code.region id ops true).wp P Q a w := by
  refine wp_region_held (S := fun W => Below w.drew.heap.size w.drew W) hm ?_
  rw [hsz]
  exact seqB_any hs hQ L _ _ _ (by rwa [hsz] at hc) (Below.refl _ _) (h _ hF)
theorem seq_skip {i : Nat} {d : Option Nat} {o : Oper} {r : List (Nat × Option Nat × Bool)} {a : Act} {w : World} (hi : ops[i]? = some o) (hw : Region.wanted o (yielded ops a.tmps) = false) (h : seqB P ops Q w0 r (a.put d undef) w) : seqB P ops Q w0 ((i, d, true) :: r) a w :=
  ⟨o, undef, hi, Or.inr ⟨hw, rfl⟩, h⟩
theorem seq_take {i : Nat} {d : Option Nat} {o : Oper} {r : List (Nat × Option Nat × Bool)} {a : Act} {w : World} {v : Value} (hi : ops[i]? = some o) (hw : Region.wanted o (yielded ops a.tmps) = true)
    (hrun : ∀ W, (∀ b x, b < w0.heap.size → W.cell? ⟨b, x, none⟩ = w0.cell? ⟨b, x, none⟩) → (execOp a.eval o).run P W = .ok (.value v) W) (h : seqB P ops Q w0 r (a.put d v) w) : seqB P ops Q w0 ((i, d, true) :: r) a w :=
  ⟨o, v, hi, Or.inl ⟨hw, fun W hW => hrun W (bcell hW).1⟩, h⟩
theorem seq_pass {i : Nat} {d : Option Nat} {o : Oper} {r : List (Nat × Option Nat × Bool)} {a : Act} {w : World} (hi : ops[i]? = some o) (hw : Region.wanted o (yielded ops a.tmps) = false) (hb : Below w0.heap.size w0 w) (h : seqB P ops Q w0 r (a.put d undef) w) : seqB P ops Q w0 ((i, d, false) :: r) a w := by
  refine ⟨o, hi, fun K hK => ?_⟩
  rw [if_neg (by rw [hw]; exact Bool.false_ne_true)]
  exact hK _ _ hb h
/-- A call of a Go function, by its contract. -/
theorem seq_call {i : Nat} {d : Option Nat} {o : Oper} {r : List (Nat × Option Nat × Bool)} {a : Act} {w : World} (hi : ops[i]? = some o) (hd : o.dst = d) (f : FuncId) (args : Array Value) (hw : Region.wanted o (yielded ops a.tmps) = true)
    (hrun : (execOp a.eval o).run P w = .ok (.enter f args) w) {v : Value} {R : World → Prop} (hc : Calls P f args w fun e w' => e = .returned v ∧ R w') (hb : Below w0.heap.size w0 w)
    (hR : ∀ w', R w' → Below w.heap.size w w') (h : ∀ w', R w' → Below w0.heap.size w0 w' → seqB P ops Q w0 r (a.put d v) w') : seqB P ops Q w0 ((i, d, false) :: r) a w := by
  subst hd
  refine ⟨o, hi, fun K hK => ?_⟩
  rw [if_pos hw]
  unfold Oper.wp
  rw [hrun, Oper.upon_enter]
  refine hc.mono ?_
  rintro e w' ⟨rfl, hr⟩
  exact hK _ _ (below_trans hb (hR _ hr)) (h _ hr (below_trans hb (hR _ hr)))
theorem seq_norm {L : List (Nat × Option Nat × Bool)} {a a' : Act} {w : World} (ha : a = a') (h : seqB P ops Q w0 L a' w) : seqB P ops Q w0 L a w := ha ▸ h
theorem seq_done {a : Act} {w : World} (h : Q .normal a w) : seqB P ops Q w0 [] a w := h
end
end Go.Proofs.Ytnnalefglpnoaaa.Wd
