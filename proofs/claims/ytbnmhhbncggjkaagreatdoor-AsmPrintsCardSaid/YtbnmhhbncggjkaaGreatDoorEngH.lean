/- The logical machine: binary and unary operations, conversions, slices of texts and rows. Conditions: none. -/
import Derived.Test.YtbnmhhbncggjkaaGreatDoorEngG
import Derived.Laws.Slices
set_option linter.unusedVariables false
set_option linter.unusedSimpArgs false
namespace Go.Proofs.Eng
open Go
section
variable {P : Program} {G : Gl} {ρ : Rho} {h h' : Hp} {w : World} {a : Fr} {o : Oper} {v : LV}
theorem eqGuardIn_nil (d : Nat) {t : TypeId} {ms : Array (String × TypeId)} (hu : P.underlying t = some (.interface ms)) (w : World) : (Op.eqGuardIn (d + 1) t .nilIface .nilIface).run P w = .ok (!ms.isEmpty) w := by
  simp [Op.eqGuardIn, Sem.run_bind, run_underlying hu, Result.andThen]
theorem guard_run {op : BinOp} {t : TypeId} {x y : Operand} {lx ly : LV} {px py : Value} (hok : eqOk P t (isC x) (isC y) lx ly = true) (hx : VR ρ lx px) (hy : VR ρ ly py) (h1 : lx ≠ .any) (h2 : ly ≠ .any) (w : World) : (eqGuard op t x y px py).run P w = .ok () w := by
  unfold eqGuard
  split <;> simp only [Bool.not_true, Bool.not_false, if_true, Bool.false_eq_true, if_false, Sem.run_pure]
  all_goals
    split
    · have e1 : lx = .nili := by cases hx <;> first | rfl | exact absurd rfl h1
      have e2 : ly = .nili := by cases hy <;> first | rfl | exact absurd rfl h2
      subst e1; subst e2
      have fin : (isC x || isC y) = false → (do
          if ← Op.eqGuardIn Op.maxDepth t .nilIface .nilIface then unsupported (.noEntry "binop/eql: two nil values of an interface type with methods, neither of them the literal nil") : Sem Unit).run P w = .ok () w := fun hc => by
        simp only [eqOk, hc, Bool.false_or] at hok
        split at hok
        · rename_i ms hu
          have := eqGuardIn_nil 9999 hu w
          rw [hok] at this
          rw [Sem.run_bind]
          exact (congrArg (fun r => Result.andThen r _) this).trans rfl
        · cases hok
      cases x <;> cases y <;> first | rfl | exact fin rfl
    · have e1 : ∃ l, lx = .agg l := by cases hx <;> first | exact ⟨_, rfl⟩ | exact absurd rfl h1
      have e2 : ∃ l, ly = .agg l := by cases hy <;> first | exact ⟨_, rfl⟩ | exact absurd rfl h2
      obtain ⟨l1, rfl⟩ := e1
      obtain ⟨l2, rfl⟩ := e2
      simp only [eqOk, Bool.not_eq_true'] at hok
      simp [Sem.run_bind, run_program, Result.andThen, hok]
    · rfl
theorem run_bin {op : BinOp} {t u : TypeId} {x y : Operand} {px py pv : Value} (ho : o.op = .binOp op t x y u) {pa : Act} (ex : pa.eval x = px) (ey : pa.eval y = py) (hg : (eqGuard op t x y px py).run P w = .ok () w) (hr : (binOp op t px py).run P w = .ok pv w) : (execOp pa.eval o).run P w = .ok (.value pv) w := by
  unfold execOp
  simp only [ho, ex, ey]
  refine run_v ?_
  rw [Sem.run_bind, hg]
  exact hr
theorem guard_int (op : BinOp) (t : TypeId) (x y : Operand) (k k' : IntKind) (m n : Int) (w : World) : (eqGuard op t x y (.int k m) (.int k' n)).run P w = .ok () w := by cases op <;> rfl
theorem guard_str (op : BinOp) (t : TypeId) (x y : Operand) (m n : ByteArray) (w : World) : (eqGuard op t x y (.string m) (.string n)).run P w = .ok () w := by cases op <;> rfl
def plainPair : Value → Value → Bool
  | .int _ _, .int _ _ | .float _ _, .float _ _ | .complex _ _ _, .complex _ _ _ | .string _, .string _ => false
  | _, _ => true
theorem bin_eql (t : TypeId) (px py : Value) (h : plainPair px py = true) : binOp .eql t px py = (do pure (.bool (← Op.equal t px py))) := by
  cases px <;> cases py <;> first | rfl | cases h
theorem bin_neq (t : TypeId) (px py : Value) (h : plainPair px py = true) : binOp .neq t px py = (do pure (.bool (!(← Op.equal t px py)))) := by
  cases px <;> cases py <;> first | rfl | cases h
theorem op_bin {op : BinOp} {t u : TypeId} {x y : Operand} (ho : o.op = .binOp op t x y u) (hv : lbin P op t (isC x) (isC y) (aev a x) (aev a y) = some v) : OpS P G h a o v h := opS_still fun ρ w pa hr hf => by
  have hx := aev_VR hf x
  have hy := aev_VR hf y
  unfold lbin at hv
  split at hv
  · rename_i k m k' n e1 e2
    rw [e1] at hx
    rw [e2] at hy
    have ex := hx.int_inv
    have ey := hy.int_inv
    split at hv
    · unfold lshl at hv
      by_cases hn : n < 0
      · simp [hn] at hv
      · simp only [hn, decide_false, cond_false, Option.some.injEq] at hv
        subst hv
        refine ⟨.int k (k.wrap (m * 2 ^ (min n.toNat k.bits))), by rw [wrapF_eq]; exact .int _ _, run_bin ho ex ey (guard_int _ _ _ _ _ _ _ _ _) ?_⟩
        simp [binOp, Op.shift, hn]
    · unfold lshr at hv
      by_cases hn : n < 0
      · simp [hn] at hv
      · simp only [hn, decide_false, cond_false, Option.some.injEq] at hv
        subst hv
        refine ⟨.int k (m.fdiv (2 ^ (min n.toNat k.bits))), .int _ _, run_bin ho ex ey (guard_int _ _ _ _ _ _ _ _ _) ?_⟩
        simp [binOp, Op.shift, hn]
    · rename_i hne hne'
      split at hv
      · rename_i hk
        subst hk
        obtain ⟨pv, h1, h2⟩ := lint_run (P := P) (ρ := ρ) hv hne hne' t w
        exact ⟨pv, h2, run_bin ho ex ey (guard_int _ _ _ _ _ _ _ _ _) h1⟩
      · cases hv
  · rename_i l m e1 e2
    rw [e1] at hx
    rw [e2] at hy
    obtain ⟨pv, h1, h2⟩ := lstr_run (P := P) (ρ := ρ) hv t w
    exact ⟨pv, h2, run_bin ho hx.str_inv hy.str_inv (guard_str _ _ _ _ _ _ _) h1⟩
  · have key : ∀ b, leq P 50 t (aev a x) (aev a y) = some b → eqOk P t (isC x) (isC y) (aev a x) (aev a y) = true → (eqGuard op t x y (pa.eval x) (pa.eval y)).run P w = .ok () w ∧ (Op.equal t (pa.eval x) (pa.eval y)).run P w = .ok b w := by
      intro b hb hok
      have n1 : aev a x ≠ .any := fun e => by rw [e] at hb; unfold leq at hb; split at hb <;> first | (cases hb; done) | simp_all
      have n2 : aev a y ≠ .any := fun e => by rw [e] at hb; unfold leq at hb; split at hb <;> first | (cases hb; done) | simp_all
      exact ⟨guard_run hok hx hy n1 n2 w, leq_run (P := P) 50 Op.maxDepth (by decide) ρ t _ _ b _ _ w hb hx hy⟩
    have n1 : aev a x ≠ .any := fun e => by
      rw [e] at hv
      split at hv <;> first | (cases hv; done) | skip
      all_goals
        cases hok : eqOk P t (isC x) (isC y) .any (aev a y) <;> rw [hok] at hv <;> first | (cases hv; done) | skip
        simp only [cond_true] at hv
        obtain ⟨b, hb, -⟩ := Option.map_eq_some_iff.1 hv
        unfold leq at hb
        split at hb <;> first | (cases hb; done) | simp_all
    have n2 : aev a y ≠ .any := fun e => by
      rw [e] at hv
      split at hv <;> first | (cases hv; done) | skip
      all_goals
        cases hok : eqOk P t (isC x) (isC y) (aev a x) .any <;> rw [hok] at hv <;> first | (cases hv; done) | skip
        simp only [cond_true] at hv
        obtain ⟨b, hb, -⟩ := Option.map_eq_some_iff.1 hv
        unfold leq at hb
        split at hb <;> first | (cases hb; done) | simp_all
    rename_i hni hns
    have hpp : plainPair (pa.eval x) (pa.eval y) = true := by
      generalize pa.eval x = px at hx
      generalize pa.eval y = py at hy
      generalize aev a x = lx at hx hni hns n1
      generalize aev a y = ly at hy hni hns n2
      cases hx <;> first
        | rfl
        | exact absurd rfl n1
        | (cases hy <;> first | rfl | exact absurd rfl n2 | exact (hni _ _ _ _ rfl rfl).elim | exact (hns _ _ rfl rfl).elim)
    split at hv
    · cases hok : eqOk P t (isC x) (isC y) (aev a x) (aev a y) <;> rw [hok] at hv
      · cases hv
      · simp only [cond_true] at hv
        obtain ⟨b, hb, rfl⟩ := Option.map_eq_some_iff.1 hv
        obtain ⟨g1, g2⟩ := key b hb hok
        refine ⟨.bool b, .bool b, run_bin ho rfl rfl g1 ?_⟩
        rw [bin_eql _ _ _ hpp, Sem.run_bind, g2]
        rfl
    · cases hok : eqOk P t (isC x) (isC y) (aev a x) (aev a y) <;> rw [hok] at hv
      · cases hv
      · simp only [cond_true] at hv
        obtain ⟨b, hb, rfl⟩ := Option.map_eq_some_iff.1 hv
        obtain ⟨g1, g2⟩ := key b hb hok
        refine ⟨.bool (!b), .bool _, run_bin ho rfl rfl g1 ?_⟩
        rw [bin_neq _ _ _ hpp, Sem.run_bind, g2]
        rfl
    · cases hv
end
end Go.Proofs.Eng
