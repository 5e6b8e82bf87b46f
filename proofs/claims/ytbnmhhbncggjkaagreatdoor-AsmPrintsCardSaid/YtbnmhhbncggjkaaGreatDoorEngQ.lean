/- The logical machine: one operation. Conditions: none. -/
import Derived.Test.YtbnmhhbncggjkaaGreatDoorEngP
import Derived.Test.YtbnmhhbncggjkaaGreatDoorEngH
set_option linter.unusedVariables false
set_option linter.unusedSimpArgs false
namespace Go.Proofs.Eng
open Go
section
variable {P : Program} {G : Gl} {ρ : Rho} {h h' h1 : Hp} {w : World} {a : Fr} {o : Oper} {v : LV}
/-- What an operation comes to. -/
def NxS (P : Program) (G : Gl) (h : Hp) (a : Fr) (o : Oper) : Nx → Prop
  | .val v h' => OpS P G h a o v h'
  | .call f args h' => h' = h ∧ ∀ (ρ : Rho) (w : World) (pa : Act), FR ρ a pa.tmps → ∃ pargs : Array Value, LR ρ args pargs.toList ∧ (execOp pa.eval o).run P w = (callFunc f pargs).run P w
  | .yield l args h' => h' = h ∧ ∀ (ρ : Rho) (w : World) (pa : Act), FR ρ a pa.tmps → ∃ (p : Place) (pargs : Array Value), ρ l = some p ∧ LR ρ args pargs.toList ∧ (execOp pa.eval o).run P w = (Instr.yield p.pb pargs).run P w
theorem oVal_inv {x : Option LV} {nx : Nx} (hv : oVal h x = some nx) : ∃ v, x = some v ∧ nx = .val v h := by
  obtain ⟨v, h1, h2⟩ := Option.map_eq_some_iff.1 hv
  exact ⟨v, h1, h2.symm⟩
theorem LR.map_arr {pa : Act} (hf : FR ρ a pa.tmps) (l : Array Operand) : LR ρ (l.toList.map (aev a)) (l.map pa.eval).toList := by
  rw [Array.toList_map]
  exact LR.map_aev hf l.toList
theorem LR.of_fn {fs : List LV} {fs' : Array Value} (h1 : fs.length = fs'.size) (r1 : ∀ (i : Nat) v v', fs[i]? = some v → fs'[i]? = some v' → VR ρ v v') : LR ρ fs fs'.toList := ⟨by simpa using h1, fun i v v' e e' => r1 i v v' e (by simpa using e')⟩
theorem op_call_nx {c : Call} {nx : Nx} (ho : o.op = .call c) (hv : oCall P G h a c = some nx) : NxS P G h a o nx := by
  unfold oCall at hv
  split at hv
  · rename_i f ec
    unfold ltarget at hv
    split at hv
    · rename_i g first cap ef
      cases hv
      refine ⟨rfl, fun ρ w pa hf => ?_⟩
      have hv := aev_VR hf f
      rw [ef] at hv
      generalize he : pa.eval f = pf at hv
      cases hv with
      | @fn _ _ _ fs' cs' h1 h2 r1 r2 =>
        refine ⟨fs' ++ c.args.map pa.eval ++ cs', ?_, ?_⟩
        · rw [app_eq, app_eq, Array.toList_append, Array.toList_append, List.append_assoc]
          exact (LR.of_fn h1 r1).append ((LR.map_arr hf c.args).append (LR.of_fn h2 r2))
        · unfold execOp
          simp only [ho, resolve, ec, he, Deferred.ofValue, Sem.run_bind, Sem.run_pure, Result.andThen, invoke]
    · rename_i l first cap ef
      cases hv
      refine ⟨rfl, fun ρ w pa hf => ?_⟩
      have hv := aev_VR hf f
      rw [ef] at hv
      generalize he : pa.eval f = pf at hv
      cases hv with
      | @yield _ p _ _ fs' cs' hρ h1 r1 =>
        refine ⟨p, fs' ++ c.args.map pa.eval, hρ, ?_, ?_⟩
        · rw [app_eq, Array.toList_append]
          exact (LR.of_fn h1 r1).append (LR.map_arr hf c.args)
        · unfold execOp
          simp only [ho, resolve, ec, he, Deferred.ofValue, Sem.run_bind, Sem.run_pure, Result.andThen, invoke]
    · cases hv
  · rename_i b ec
    obtain ⟨⟨v, h'⟩, h1, h2⟩ := Option.map_eq_some_iff.1 hv
    cases h2
    intro ρ w pa hr hf
    obtain ⟨ρ', w', pv, s, r, vr, run⟩ := built_of (G := G) h1 ρ w o.type (c.args.map fun | .const _ => true | _ => false) (c.args.map pa.eval) hr (LR.map_arr hf c.args)
    refine ⟨ρ', w', pv, s, r, vr, .inl ?_⟩
    unfold execOp
    simp only [ho, resolve, ec, Sem.run_bind, Sem.run_pure, Result.andThen, invoke]
    exact run
  · cases hv
theorem vOnly_inv {x : Option Nx} {nx : Nx} (hv : vOnly x = some nx) : ∃ v h', nx = .val v h' ∧ x = some (.val v h') := by
  unfold vOnly at hv
  split at hv
  · cases hv; exact ⟨_, _, rfl, rfl⟩
  · cases hv
theorem lop_sound {nx : Nx} (hv : lop P G h a o = some nx) : NxS P G h a o nx ∧ ∀ c, o.op ≠ .defer c := by
  refine ⟨?_, fun c e => by unfold lop at hv; simp only [e] at hv; cases hv⟩
  unfold lop at hv
  split at hv
  case h_1 x ho => cases hv; exact op_move (.inl ho)
  case h_2 x ho => cases hv; exact op_move (.inr ho)
  case h_3 c x y ho => 
    obtain ⟨v, h', rfl, hv2⟩ := vOnly_inv hv; clear hv; have hv := hv2; clear hv2
    generalize hc : aev a c = vc at hv
    unfold oPick at hv
    split at hv
    · cases hv; exact op_pick ho hc
    · cases hv
  case h_4 t ho => 
    obtain ⟨z, h1, h2⟩ := Option.bind_eq_some_iff.1 hv
    obtain ⟨zs, h3, h4⟩ := Option.map_eq_some_iff.1 h2
    cases h4
    exact op_alloc ho h1 h3
  case h_5 t x ho => 
    obtain ⟨zs, h3, h4⟩ := Option.map_eq_some_iff.1 hv
    cases h4
    exact op_box ho h3
  case h_6 t ps ho => obtain ⟨v, h', rfl, hv2⟩ := vOnly_inv hv; exact op_build ho hv2
  case h_7 t n ps ho => obtain ⟨v, h', rfl, hv2⟩ := vOnly_inv hv; exact op_buildSlice ho hv2
  case h_8 t p ho => obtain ⟨v, h1, rfl⟩ := oVal_inv hv; exact op_load ho h1
  case h_9 t p x ho => 
    obtain ⟨h2, h1, e⟩ := Option.map_eq_some_iff.1 hv
    cases e
    exact op_store ho h1
  case h_10 x ho => obtain ⟨v, h', rfl, hv2⟩ := vOnly_inv hv; exact op_nil ho hv2
  case h_11 op t x y u ho => obtain ⟨v, h1, rfl⟩ := oVal_inv hv; exact op_bin ho h1
  case h_12 op t x ho => obtain ⟨v, h1, rfl⟩ := oVal_inv hv; exact op_un ho h1
  case h_13 s d x ho => obtain ⟨v, h', rfl, hv2⟩ := vOnly_inv hv; exact op_conv ho hv2
  case h_14 t x ho => obtain ⟨v, h', rfl, hv2⟩ := vOnly_inv hv; exact op_iface ho hv2
  case h_15 fn f c ho => 
    obtain ⟨v, h', rfl, hv2⟩ := vOnly_inv hv; clear hv; have hv := hv2; clear hv2
    unfold oMakeFunc at hv
    split at hv
    · cases hv; exact op_makeFunc ho ⟨_, rfl⟩
    · cases hv
  case h_16 t ho => cases hv; exact op_makeMap ho
  case h_17 t l c ho => obtain ⟨v, h', rfl, hv2⟩ := vOnly_inv hv; exact op_makeSlice ho hv2
  case h_18 t x lo hi mx ho => 
    cases mx with
    | none => obtain ⟨v, h1, rfl⟩ := oVal_inv hv; exact op_slice ho h1
    | some _ => cases hv
  case h_19 s x f ho => obtain ⟨v, h', rfl, hv2⟩ := vOnly_inv hv; exact op_fieldAddr ho hv2
  case h_20 t x f ho => obtain ⟨v, h', rfl, hv2⟩ := vOnly_inv hv; exact op_field ho hv2
  case h_21 t x i ho => obtain ⟨v, h', rfl, hv2⟩ := vOnly_inv hv; exact op_indexAddr ho hv2
  case h_22 t x i ho => obtain ⟨v, h', rfl, hv2⟩ := vOnly_inv hv; exact op_index ho hv2
  case h_23 t x k ok ho => obtain ⟨v, h', rfl, hv2⟩ := vOnly_inv hv; exact op_lookup ho hv2
  case h_24 t m k x ho => obtain ⟨v, h', rfl, hv2⟩ := vOnly_inv hv; exact op_mapUpdate (.inl ho) hv2
  case h_25 t m k x ho => obtain ⟨v, h', rfl, hv2⟩ := vOnly_inv hv; exact op_mapUpdate (.inr ho) hv2
  case h_26 x xT aT ok ho => obtain ⟨v, h', rfl, hv2⟩ := vOnly_inv hv; exact op_assert ho hv2
  case h_27 t i ho => obtain ⟨v, h', rfl, hv2⟩ := vOnly_inv hv; exact op_extract ho hv2
  case h_28 c ho => exact op_call_nx ho hv
  case h_29  ho => cases hv
end
end Go.Proofs.Eng
