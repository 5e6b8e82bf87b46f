/- From the logical machine to the machine: what a function answers wherever it is called. Conditions: none. -/
import Derived.Test.YtbnmhhbncggjkaaGreatDoorEngLp
import Derived.Below
set_option linter.unusedVariables false
set_option linter.unusedSimpArgs false
namespace Go.Proofs.Eng
open Go Go.RowKit
section
variable {P : Program} {G : Gl}
theorem hpOf_nil (b : Nat) : (hpOf P []).at b = .dead := by rw [hpOf_at]; rfl
theorem real_empty {w : World} (hg : GR G w) : Real G (fun _ => none) (hpOf P []) w where
  obj := fun b => by rw [hpOf_nil]; trivial
  fresh := fun b p e => by cases e
  sep := fun i j p q _ hi => by rw [hpOf_nil] at hi; cases hi
  glob := hg
  gsep := fun i p g hi => by rw [hpOf_nil] at hi; cases hi
  grp := fun i g hi => by rw [hpOf_nil] at hi; cases hi
  told := fun b n _ _ => by rw [hpOf_nil]; trivial
  mono := fun i j p q _ hi => by rw [hpOf_nil] at hi; cases hi
theorem gr_none {b : Bool} (w : World) : GR ⟨fun _ => none, b⟩ w := fun g c e => by cases e
theorem vr_bool {ρ : Rho} {b : Bool} {v : Value} (h : VR ρ (.bool b) v) : v = .bool b := by cases h; rfl
/-- A law that the logical machine answers with true. -/
theorem toBelow {f : FuncId} {args : List LV} {b : Bool} {h' : Hp} (k : CallE P G f args (hpOf P []) (.bool b) h') {w : World} (hg : GR G w) {pargs : Array Value} (hl : LR (fun _ => none) args pargs.toList) :
    Calls P f pargs w fun e w' => e = .returned (.bool b) ∧ Below w.heap.size w w' := by
  obtain ⟨-, k2⟩ := k _ w pargs (real_empty hg) hl
  refine k2.mono fun e w' ⟨ρ', pv, h1, s, r, hv⟩ => ?_
  rw [vr_bool hv] at h1
  exact ⟨h1, s.os, s.tape, s.output, s.size, fun b hb => s.frame b hb fun j q hj => by rw [hpOf_nil] at hj; cases hj⟩
theorem lr_nil {ρ : Rho} : LR ρ [] [] := ⟨rfl, fun i v v' e => by simp at e⟩
theorem lr_cons {ρ : Rho} {v : LV} {v' : Value} {l : List LV} {a : List Value} (h : VR ρ v v') (k : LR ρ l a) : LR ρ (v :: l) (v' :: a) := ⟨by simp [k.1], fun i x x' e1 e2 => by
  cases i with
  | zero => simp at e1 e2; subst e1 e2; exact h
  | succ i => exact k.2 i x x' (by simpa using e1) (by simpa using e2)⟩
theorem vr_agg {ρ : Rho} {l : List LV} {a : Array Value} (h : LR ρ l a.toList) (ho : ∀ u ∈ a, u.oneCell' = true) : VR ρ (.agg l) (.agg a) := .agg (by simpa using h.1) (fun i v v' e1 e2 => h.2 i v v' e1 (by simpa using e2)) ho
theorem PConsS.append {M N : List (FuncId × PCon)} (h : PConsS P G M) (k : PConsS P G N) : PConsS P G (M ++ N) := fun x hx => by
  rcases List.mem_append.1 hx with hx | hx
  · exact h x hx
  · exact k x hx
end
end Go.Proofs.Eng
