/- The logical machine: operations on numbers, texts, truths; what is one. Conditions: none. -/
import Derived.Test.YtbnmhhbncggjkaaGreatDoorEngF
import Derived.Laws.StructEq
import Derived.DeepKeys
set_option linter.unusedVariables false
set_option linter.unusedSimpArgs false
namespace Go.Proofs.Eng
open Go
theorem wrapF_eq (k : IntKind) (n : Int) : wrapF k n = k.wrap n := by
  cases k with
  | i64 =>
    simp only [wrapF, IntKind.wrap, IntKind.signed, IntKind.bits]
    have e : (2 ^ 64 : Int) = 18446744073709551616 := by decide
    have e' : (2 ^ (64 - 1) : Int) = 9223372036854775808 := by decide
    simp only [e, e', Bool.true_and, cond_eq_ite, decide_eq_true_eq]
    split <;> split <;> omega
  | u64 => simp [wrapF, IntKind.wrap, IntKind.signed, IntKind.bits]
  | u32 => simp [wrapF, IntKind.wrap, IntKind.signed, IntKind.bits]
  | u8 => simp [wrapF, IntKind.wrap, IntKind.signed, IntKind.bits]
  | _ => rfl
section
variable {P : Program} {G : Gl} {ρ : Rho} {h h' : Hp} {w : World} {a : Fr} {o : Oper} {v : LV}
theorem lint_run {op : BinOp} {k : IntKind} {x y : Int} (hl : lint op k x y = some v) (hne : op ≠ .shl) (hne' : op ≠ .shr) (t : TypeId) (w : World) : ∃ pv, (binOp op t (.int k x) (.int k y)).run P w = .ok pv w ∧ VR ρ v pv := by
  have run : ∀ {op : BinOp} {s : Sem Value} {pv : Value}, (binOp op t (.int k x) (.int k y)) = s → s.run P w = .ok pv w → VR ρ v pv → ∃ pv, (binOp op t (.int k x) (.int k y)).run P w = .ok pv w ∧ VR ρ v pv :=
    fun e h1 h2 => ⟨_, by rw [e]; exact h1, h2⟩
  unfold lint at hl
  cases op <;> simp only [lbits, Option.map_some, Option.some.injEq] at hl
  case quo =>
    by_cases h0 : y = 0
    · simp [h0] at hl
    · simp only [h0, decide_false, cond_false, Option.some.injEq] at hl
      subst hl
      refine run (s := Op.intDiv .quo k x y) (pv := .int k (k.wrap (x.tdiv y))) (by simp [binOp]) ?_ (by rw [wrapF_eq]; exact .int _ _)
      unfold Op.intDiv; rw [if_neg h0]; rfl
  case rem =>
    by_cases h0 : y = 0
    · simp [h0] at hl
    · simp only [h0, decide_false, cond_false, Option.some.injEq] at hl
      subst hl
      refine run (s := Op.intDiv .rem k x y) (pv := .int k (x.tmod y)) (by simp [binOp]) ?_ (.int _ _)
      unfold Op.intDiv; rw [if_neg h0]; rfl
  case shl => exact absurd rfl hne
  case shr => exact absurd rfl hne'
  case add => subst hl; exact run (s := Op.intArith .add k x y) (by simp [binOp]) rfl (by rw [wrapF_eq]; exact .int _ _)
  case sub => subst hl; exact run (s := Op.intArith .sub k x y) (by simp [binOp]) rfl (by rw [wrapF_eq]; exact .int _ _)
  case mul => subst hl; exact run (s := Op.intArith .mul k x y) (by simp [binOp]) rfl (by rw [wrapF_eq]; exact .int _ _)
  case and => subst hl; exact run (s := Op.intBits .and k x y) (by simp [binOp]) rfl (by rw [wrapF_eq]; exact .int _ _)
  case or => subst hl; exact run (s := Op.intBits .or k x y) (by simp [binOp]) rfl (by rw [wrapF_eq]; exact .int _ _)
  case xor => subst hl; exact run (s := Op.intBits .xor k x y) (by simp [binOp]) rfl (by rw [wrapF_eq]; exact .int _ _)
  case andNot => subst hl; exact run (s := Op.intBits .andNot k x y) (by simp [binOp]) rfl (by rw [wrapF_eq]; exact .int _ _)
  case eql => subst hl; exact run (s := Op.intCmp .eql x y) (pv := .bool (decide (x = y))) (by simp [binOp]) (by simp only [Op.intCmp, Sem.run_pure]; congr 2) (.bool _)
  case neq => subst hl; exact run (s := Op.intCmp .neq x y) (pv := .bool (!decide (x = y))) (by simp [binOp]) (by simp only [Op.intCmp, Sem.run_pure]; congr 2) (.bool _)
  case lss => subst hl; exact run (s := Op.intCmp .lss x y) (by simp [binOp]) rfl (.bool _)
  case leq => subst hl; exact run (s := Op.intCmp .leq x y) (by simp [binOp]) rfl (.bool _)
  case gtr => subst hl; exact run (s := Op.intCmp .gtr x y) (by simp [binOp]) rfl (.bool _)
  case geq => subst hl; exact run (s := Op.intCmp .geq x y) (by simp [binOp]) rfl (.bool _)
theorem toList_mk (l : List UInt8) : (⟨l.toArray⟩ : ByteArray).toList = l := by rw [ByteArray.toList_eq]
theorem beq_dec (x y : List UInt8) : (x == y) = decide (x = y) := by rw [Bool.eq_iff_iff]; simp
theorem lstr_run {op : BinOp} {x y : List UInt8} (hl : lstr op x y = some v) (t : TypeId) (w : World) : ∃ pv, (binOp op t (.string ⟨x.toArray⟩) (.string ⟨y.toArray⟩)).run P w = .ok pv w ∧ VR ρ v pv := by
  have eb : ∀ op, binOp op t (.string ⟨x.toArray⟩) (.string ⟨y.toArray⟩) = Op.stringOp op ⟨x.toArray⟩ ⟨y.toArray⟩ := fun op => by cases op <;> rfl
  rw [eb]
  unfold lstr at hl
  cases op <;> simp only [Option.some.injEq, beqS_eq] at hl
  case add =>
    cases hb : Nat.ble (len x + len y) 9223372036854775807 <;> rw [hb] at hl
    · cases hl
    · simp only [cond_true, Option.some.injEq] at hl
      have hle := Nat.le_of_ble_eq_true hb
      rw [len_eq, len_eq] at hle
      subst hl
      refine ⟨.string ⟨(x ++ y).toArray⟩, ?_, by rw [app_eq]; exact .str _⟩
      have e : (⟨x.toArray⟩ : ByteArray) ++ ⟨y.toArray⟩ = ⟨(x ++ y).toArray⟩ := by
        apply ByteArray.ext
        rw [ByteArray.data_append]
        simp
      have hs : ¬ (((⟨x.toArray⟩ : ByteArray).size + (⟨y.toArray⟩ : ByteArray).size : Nat) : Int) > IntKind.i64.max := by
        show ¬ (((x.length + y.length : Nat) : Int) > 9223372036854775807)
        omega
      simp only [Op.stringOp, hs, if_false, e, Sem.run_pure]
  case eql => subst hl; exact ⟨_, by simp only [Op.stringOp, toList_mk, Sem.run_pure, beq_dec], .bool _⟩
  case neq => subst hl; exact ⟨_, by simp only [Op.stringOp, toList_mk, Sem.run_pure, beq_dec], .bool _⟩
  case lss => subst hl; exact ⟨_, by simp only [Op.stringOp, toList_mk, Sem.run_pure, beq_dec], .bool _⟩
  case leq => subst hl; exact ⟨_, by simp only [Op.stringOp, toList_mk, Sem.run_pure, beq_dec], .bool _⟩
  case gtr => subst hl; exact ⟨_, by simp only [Op.stringOp, toList_mk, Sem.run_pure, beq_dec], .bool _⟩
  case geq => subst hl; exact ⟨_, by simp only [Op.stringOp, toList_mk, Sem.run_pure, beq_dec], .bool _⟩
  all_goals cases hl
/-- What leq tells is what Go's == tells. -/
def EqR (P : Program) (eq : TypeId → LV → LV → Option Bool) (D : Nat) : Prop := ∀ (ρ : Rho) t x y b px py w, eq t x y = some b → VR ρ x px → VR ρ y py → (Op.equalIn D t px py).run P w = .ok b w
theorem leqF_run {eq : TypeId → LV → LV → Option Bool} {D : Nat} (he : EqR P eq D) {xs ys : List LV} {pxs pys : Array Value} (hx : LR ρ xs pxs.toList) (h1 : ∀ u ∈ pxs, u.oneCell' = true) (hy : LR ρ ys pys.toList) (h2 : ∀ u ∈ pys, u.oneCell' = true) (w : World) :
    ∀ (fs : List Field) (b : Bool), leqF P eq xs ys fs = some b → (Op.eqFields D pxs pys fs).run P w = .ok b w
  | [], b, h => by cases h; rfl
  | f :: r, b, h => by
    unfold leqF at h
    split at h
    · cases h
    · rename_i hn
      obtain ⟨x, ex, h⟩ := Option.bind_eq_some_iff.1 h
      obtain ⟨y, ey, h⟩ := Option.bind_eq_some_iff.1 h
      obtain ⟨c, ec, h⟩ := Option.bind_eq_some_iff.1 h
      obtain ⟨px, rx, vx⟩ := run_part_LR (P := P) hx h1 ex w
      obtain ⟨py, ry, vy⟩ := run_part_LR (P := P) hy h2 ey w
      have hc := he ρ f.type x y c px py w ec vx vy
      unfold Op.eqFields
      have hn' : f.name ≠ "_" := fun e => hn (by rw [e]; rfl)
      rw [if_pos hn']
      simp only [Sem.run_bind, rx, ry, hc, Result.andThen_ok]
      cases c
      · cases h; rfl
      · simpa using leqF_run he hx h1 hy h2 w r b h
theorem leqA_run {eq : TypeId → LV → LV → Option Bool} {D : Nat} (he : EqR P eq D) {e : TypeId} {n : Nat} {xs ys : List LV} {pxs pys : Array Value} (hx : LR ρ xs pxs.toList) (h1 : ∀ u ∈ pxs, u.oneCell' = true) (hy : LR ρ ys pys.toList) (h2 : ∀ u ∈ pys, u.oneCell' = true) (w : World) :
    ∀ (k i : Nat) (b : Bool), leqA P eq e n xs ys k i = some b → (Op.eqItems D e n pxs pys (List.range' i k)).run P w = .ok b w
  | 0, i, b, h => by cases h; rfl
  | k + 1, i, b, h => by
    unfold leqA at h
    obtain ⟨x, ex, h⟩ := Option.bind_eq_some_iff.1 h
    obtain ⟨y, ey, h⟩ := Option.bind_eq_some_iff.1 h
    obtain ⟨c, ec, h⟩ := Option.bind_eq_some_iff.1 h
    obtain ⟨px, rx, vx⟩ := run_part_LR (P := P) hx h1 ex w
    obtain ⟨py, ry, vy⟩ := run_part_LR (P := P) hy h2 ey w
    have hc := he ρ e x y c px py w ec vx vy
    rw [List.range'_succ]
    unfold Op.eqItems
    simp only [Sem.run_bind, rx, ry, hc, Result.andThen_ok]
    cases c
    · cases h; rfl
    · simpa using leqA_run he hx h1 hy h2 w k (i + 1) b h
theorem leq_run : ∀ (d D : Nat), d ≤ D → EqR P (leq P d) D
  | 0, _, _ => fun ρ t x y b px py w h => by cases h
  | d + 1, 0, hD => by omega
  | d + 1, D + 1, hD => fun ρ t x y b px py w h hx hy => by
    have ih := leq_run d D (by omega)
    unfold leq at h
    split at h <;> first | (cases h; done) | skip
    · rename_i hu
      cases h
      rw [hx.bool_inv, hy.bool_inv]
      simp [Op.equalIn, Sem.run_bind, run_underlying hu, Result.andThen]
    · rename_i hu
      split at h
      · rename_i hk
        cases h
        subst hk
        rw [hx.int_inv, hy.int_inv]
        simp [Op.equalIn, Sem.run_bind, run_underlying hu, Result.andThen]
        rfl
      · cases h
    · rename_i hu
      cases h
      rw [hx.str_inv, hy.str_inv, run_equalIn_string w D t _ _ hu, toList_mk, toList_mk, beqS_eq, beq_dec]
    · rename_i hu
      cases h
      rw [hx.nilp_inv, hy.nilp_inv]
      simp [Op.equalIn, Sem.run_bind, run_underlying hu, Result.andThen]
    · rename_i hu
      cases h
      obtain ⟨p, -, e⟩ := hy.ptr_inv
      rw [hx.nilp_inv, e]
      simp [Op.equalIn, Sem.run_bind, run_underlying hu, Result.andThen]
    · rename_i hu
      cases h
      obtain ⟨p, -, e⟩ := hx.ptr_inv
      rw [hy.nilp_inv, e]
      simp [Op.equalIn, Sem.run_bind, run_underlying hu, Result.andThen]
    · rename_i hu
      cases h
      rw [hx.nili_inv, hy.nili_inv]
      simp [Op.equalIn, Sem.run_bind, run_underlying hu, Result.andThen]
    · rename_i hu
      cases h
      obtain ⟨p, e, -⟩ := hy.ifc_inv
      rw [hx.nili_inv, e]
      simp [Op.equalIn, Sem.run_bind, run_underlying hu, Result.andThen]
    · rename_i hu
      cases h
      obtain ⟨p, e, -⟩ := hx.ifc_inv
      rw [hy.nili_inv, e]
      simp [Op.equalIn, Sem.run_bind, run_underlying hu, Result.andThen]
    · rename_i fs xs ys hu
      split at h
      · cases h
      · rename_i hst
        obtain ⟨pxs, ex, lx, ox⟩ := hx.agg_parts
        obtain ⟨pys, ey, ly, oy⟩ := hy.agg_parts
        rw [ex, ey]
        have hf : P.fieldsOf t = fs := by simp [Program.fieldsOf, hu]
        rw [run_equalIn_struct w D t pxs pys (by rw [hf]; exact hu) (by simpa using hst), hf]
        exact leqF_run ih lx ox ly oy w _ b h
    · rename_i n e xs ys hu
      obtain ⟨m, hm, h⟩ := Option.bind_eq_some_iff.1 h
      obtain ⟨i, hi, hsz⟩ := szOf_info hm
      obtain ⟨pxs, ex, lx, ox⟩ := hx.agg_parts
      obtain ⟨pys, ey, ly, oy⟩ := hy.agg_parts
      rw [ex, ey, run_equalIn_array w D pxs pys hu hi]
      have : P.cellsOf e = m := by simp [Program.cellsOf, hi, hsz]
      rw [this, List.range_eq_range']
      exact leqA_run ih lx ox ly oy w n 0 b h
    · rename_i hu
      cases h
      rw [hx.nils_inv, hy.nils_inv]
      simp [Op.equalIn, Sem.run_bind, run_underlying hu, Result.andThen]
    · rename_i hu
      cases h
      obtain ⟨p, c, x', -, e, -⟩ := hy.slc_inv
      rw [hx.nils_inv, e]
      simp [Op.equalIn, Sem.run_bind, run_underlying hu, Result.andThen]
    · rename_i hu
      cases h
      obtain ⟨p, c, x', -, e, -⟩ := hx.slc_inv
      rw [hy.nils_inv, e]
      simp [Op.equalIn, Sem.run_bind, run_underlying hu, Result.andThen]
    · rename_i hu
      cases h
      rw [hx.nilm_inv, hy.nilm_inv]
      simp [Op.equalIn, Sem.run_bind, run_underlying hu, Result.andThen]
    · rename_i hu
      cases h
      obtain ⟨p, -, e⟩ := hy.map_inv
      rw [hx.nilm_inv, e]
      simp [Op.equalIn, Sem.run_bind, run_underlying hu, Result.andThen]
    · rename_i hu
      cases h
      obtain ⟨p, -, e⟩ := hx.map_inv
      rw [hy.nilm_inv, e]
      simp [Op.equalIn, Sem.run_bind, run_underlying hu, Result.andThen]
    · rename_i hu
      cases h
      rw [hx.nilf_inv, hy.nilf_inv]
      simp [Op.equalIn, Sem.run_bind, run_underlying hu, Result.andThen]
    · rename_i hu
      cases h
      rw [hx.nilf_inv]
      cases hy <;> simp [Op.equalIn, Sem.run_bind, run_underlying hu, Result.andThen]
    · rename_i hu
      cases h
      rw [hy.nilf_inv]
      cases hx <;> simp [Op.equalIn, Sem.run_bind, run_underlying hu, Result.andThen]
end
end Go.Proofs.Eng
