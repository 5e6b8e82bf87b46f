/- The logical machine: a call. Conditions: none. -/
import Derived.Test.YtbnmhhbncggjkaaGreatDoorEngQ
import Derived.Test.YtbnmhhbncggjkaaGreatDoorEngM
set_option linter.unusedVariables false
set_option linter.unusedSimpArgs false
namespace Go.Proofs.Eng
open Go
section
variable {P : Program} {G : Gl} {ρ : Rho} {h h' h1 : Hp} {w : World} {a : Fr} {v : LV}
theorem frOf_get : ∀ (l : List LV) (a : Fr) (i j : Nat), (frOf a i l).get j = if i ≤ j ∧ j < i + l.length then (l[j - i]?).getD .any else a.get j
  | [], a, i, j => by rw [frOf, if_neg (by simp only [List.length_nil]; omega)]
  | v :: r, a, i, j => by
    rw [frOf, frOf_get r]
    simp only [List.length_cons]
    by_cases h1 : i + 1 ≤ j ∧ j < i + 1 + r.length
    · rw [if_pos h1, if_pos (by omega), show j - i = (j - (i + 1)) + 1 by omega]
      rfl
    · rw [if_neg h1, Fr.get_put]
      by_cases h2 : j = i
      · subst h2
        rw [if_pos rfl, if_pos (by omega), Nat.sub_self]
        rfl
      · rw [if_neg h2, if_neg (by omega)]
theorem FR.start {args : List LV} {pargs : Array Value} (hl : LR ρ args pargs.toList) (n : Nat) : FR ρ (frOf .lf 0 args) (pargs ++ Array.replicate n undef) := fun j => by
  rw [frOf_get]
  by_cases hj : j < args.length
  · rw [if_pos (by omega), Nat.sub_zero]
    have h2 : j < pargs.size := by have := hl.1; simp at this; omega
    have e1 : args[j]? = some args[j] := List.getElem?_eq_getElem hj
    have e2 : (pargs ++ Array.replicate n undef).getD j undef = pargs[j] := by
      rw [Array.getD_eq_getD_getElem?, Array.getElem?_append_left h2, Array.getElem?_eq_getElem h2]; rfl
    rw [e1, e2]
    exact hl.2 j _ _ e1 (by simp [h2])
  · rw [if_neg (by omega)]
    exact .any _
/-- The marks of loops over functions, taken as the frame leaves. -/
theorem unmark_run : ∀ (ds : List Nat) (h h2 : Hp) (xs : List Deferred) (w : World), unmark ds h = some h2 → DR ρ ds xs → Real G ρ h w →
    ∃ w', St ρ h w ρ h2 w' ∧ Real G ρ h2 w' ∧ ∀ (fr : Frame) (cs : List Frame), fr.mode = .returning → fr.defers = xs → Steps P (lone fr cs w) (lone { fr with defers := [] } cs w')
  | [], h, h2, xs, w, hu, hd, hr => by
    have : xs = [] := List.eq_nil_of_length_eq_zero hd.1.symm
    subst this
    cases hu
    exact ⟨w, .refl, hr, fun fr cs _ e => by rw [← e]; exact .refl _ _⟩
  | d :: ds, h, h2, xs, w, hu, hd, hr => by
    cases xs with
    | nil => have := hd.1; simp at this
    | cons x xs =>
      obtain ⟨q, hq, ht⟩ := hd.2 0 d x rfl rfl
      have hd' : DR ρ ds xs := ⟨by have := hd.1; simpa using this, fun i y z e1 e2 => hd.2 (i + 1) y z e1 e2⟩
      unfold unmark at hu
      split at hu
      · rename_i hb
        have hlt := hr.fresh d q hq
        have ho := hr.obj d
        rw [hb] at ho
        obtain ⟨q', hq', hw⟩ := ho
        rw [hq] at hq'
        cases hq'
        have htake := run_takeDeferred (P := P) hw
        obtain ⟨r1, s1⟩ := real_turn (h' := h.put d .dead) (x := .dead) (w' := w.putObj q.pb (.deferred none)) hr hlt (by rw [hb]; rfl) hq rfl (fun u hu => hu) (fun i => Hp.at_put _ _ _ _ hlt) (fun g e => by simp [grpOf] at e) (fun j p hj hl hp e => by
          have := hr.sep j d p q hj hl (by rw [hb]; rfl) hp hq e
          rw [hb] at this
          cases h.at j <;> simp [SameG] at this) (fun k hk => World.putObj_heap_other hk) (by simp) rfl rfl rfl trivial (fun _ _ _ => trivial)
        obtain ⟨w', s2, r2, st⟩ := unmark_run ds _ h2 xs _ hu hd' r1
        refine ⟨w', s1.trans s2, r2, fun fr cs hm e => ?_⟩
        refine Steps.head (step_collected (by rw [hm]; simp) e ht htake) ?_
        exact st { fr with defers := [] ++ xs } cs hm rfl
      · cases hu
theorem run_resultL (f : ResultVar → Sem Value) {tmps : Array Value} (f1 : ∀ t, f (.tmp t) = pure (tmps.getD t undef)) (f2 : ∀ c t, f (.cell c t) = (do loadVar t (← asAddr (tmps.getD c undef)))) (hr : Real G ρ h w) (hf : FR ρ a tmps) :
    ∀ (l : List ResultVar) (vs : List LV), lresultL P G h a l = some vs → ∃ pvs : List Value, LR ρ vs pvs ∧ (l.mapM f).run P w = .ok pvs w
  | [], vs, e => by cases e; exact ⟨[], .nil, rfl⟩
  | x :: l, vs, e => by
    obtain ⟨v, e1, e⟩ := Option.bind_eq_some_iff.1 (show (lresult P G h a x).bind (fun v => (lresultL P G h a l).map (v :: ·)) = some vs from e)
    obtain ⟨r, e2, rfl⟩ := Option.map_eq_some_iff.1 e
    obtain ⟨pvs, l1, l2⟩ := run_resultL f f1 f2 hr hf l r e2
    rw [List.mapM_cons]
    cases x with
    | tmp t =>
      cases e1
      refine ⟨_ :: pvs, .cons (hf t) l1, ?_⟩
      simp only [Sem.run_bind, f1, Sem.run_pure, Result.andThen, l2]
    | cell p t =>
      obtain ⟨ad, y, g1, g2, g3⟩ := lload_VR (P := P) hr (hf p) e1
      refine ⟨y :: pvs, .cons g3 l1, ?_⟩
      have ga : (asAddr (tmps.getD p undef)).run P w = .ok ad w := by rw [g1]; rfl
      simp only [Sem.run_bind, f2, ga, g2, Sem.run_pure, Result.andThen, l2]
theorem run_results {fn : Func} {vs : List LV} {tmps : Array Value} (hr : Real G ρ h w) (hf : FR ρ a tmps) (hv : lresultL P G h a fn.results.toList = some vs) : ∃ pv, (results fn tmps).run P w = .ok pv w ∧ VR ρ (oneOf vs) pv := by
  unfold results
  rw [Sem.run_bind, Array.mapM_eq_mapM_toList, ← bind_pure_comp, Sem.run_bind]
  generalize hg : (fun x : ResultVar => (match x with
    | .tmp t => pure (tmps.getD t undef)
    | .cell a t => do loadVar t (← asAddr (tmps.getD a undef)) : Sem Value)) = f
  obtain ⟨pvs, l1, l2⟩ := run_resultL (P := P) f (fun t => by rw [← hg]) (fun c t => by rw [← hg]) hr hf _ _ hv
  rw [l2]
  simp only [Result.andThen, Sem.run_pure]
  refine ⟨_, rfl, ?_⟩
  unfold oneOf
  split
  · obtain ⟨y, b, e, h1, h2⟩ := l1.cons_inv
    have : b = [] := List.eq_nil_of_length_eq_zero h2.1.symm
    subst this e
    exact h1
  · rename_i hne
    have : ¬ pvs.toArray.size = 1 := fun e => by
      have e' : pvs.length = 1 := by simpa using e
      rw [← l1.1] at e'
      obtain ⟨v, hv⟩ := List.length_eq_one_iff.1 e'
      exact hne v hv
    rw [dif_neg this]
    exact VR.mk_tup l1
theorem gc_inv {n : Nat} : gc n v h = h ∨ (n ≤ h.n ∧ topV v ≤ n ∧ (∀ u ∈ h.ups, n ≤ u.1 ∨ u.2 ≤ n) ∧ gc n v h = ⟨n, h.t, h.ups.filter fun u => !Nat.ble n u.1⟩) := by
  unfold gc
  cases hb : (Nat.ble n h.n && Nat.ble (topV v) n && h.ups.all fun u => Nat.ble n u.1 || Nat.ble u.2 n)
  · exact .inl rfl
  · right
    simp only [Bool.and_eq_true] at hb
    refine ⟨Nat.le_of_ble_eq_true hb.1.1, Nat.le_of_ble_eq_true hb.1.2, fun u hu => ?_, rfl⟩
    have := List.all_eq_true.1 hb.2 u hu
    simp only [Bool.or_eq_true] at this
    exact this.imp Nat.le_of_ble_eq_true Nat.le_of_ble_eq_true
theorem gc_real {ρ0 : Rho} {h0 : Hp} {w0 : World} {pv : Value} (r0 : Real G ρ0 h0 w0) (s : St ρ0 h0 w0 ρ h w) (r : Real G ρ h w) (hv : VR ρ v pv) : ∃ ρ', St ρ0 h0 w0 ρ' (gc h0.n v h) w ∧ Real G ρ' (gc h0.n v h) w ∧ VR ρ' v pv := by
  rcases gc_inv (v := v) (h := h) (n := h0.n) with e | ⟨h1, h2, h3, e⟩
  · rw [e]; exact ⟨ρ, s, r, hv⟩
  · rw [e]
    obtain ⟨r', s'⟩ := real_gc r0 s r h1 h3 (us := h.ups.filter fun u => !Nat.ble h0.n u.1) (fun u hu hlt => List.mem_filter.2 ⟨hu, by
      cases hc : Nat.ble h0.n u.1
      · rfl
      · have := Nat.le_of_ble_eq_true hc; omega⟩)
    exact ⟨_, s', r', hv.cut h2⟩
/-- A call of a function in Lean: it is entered. -/
def CallE (P : Program) (G : Gl) (f : FuncId) (args : List LV) (h : Hp) (v : LV) (h' : Hp) : Prop :=
  ∀ (ρ : Rho) (w : World) (pargs : Array Value), Real G ρ h w → LR ρ args pargs.toList → (callFunc f pargs).run P w = .ok (.enter f pargs) w ∧ Calls P f pargs w fun e w' => ∃ ρ' pv, e = .returned pv ∧ St ρ h w ρ' h' w' ∧ Real G ρ' h' w' ∧ VR ρ' v pv
theorem CallE.toS {f : FuncId} {args : List LV} (k : CallE P G f args h v h') : CallS P G f args h v h' := fun ρ w pargs hR hl => .inr (k ρ w pargs hR hl)
/-- A function's contract from its body. -/
theorem call_body {f : FuncId} {fn : Func} {c : Code} {args : List LV} {e : Ex} {a' : Fr} {ds : List Nat} {h2 : Hp} {vs : List LV} (hf : P.funcs[f]? = some fn) (hb : fn.body = some c) (hn : (fn.name == "runtime.NumGoroutine") = false) (he : e = .normal ∨ e = .ret)
    (hc : CodeS P G c none f (max fn.ntmps args.length) (frOf .lf 0 args) [] h e a' ds h1) (hu : unmark ds h1 = some h2) (hr : lresultL P G h2 a' fn.results.toList = some vs) : CallE P G f args h (oneOf vs) (gc h.n (oneOf vs) h2) := fun ρ w pargs hR hl => by
  refine ⟨?_, fun cs => ?_⟩
  · unfold callFunc
    have hn' : ¬ fn.name = "runtime.NumGoroutine" := by simpa using hn
    simp [hf, hn', hb]
  let b : Frame := { (default : Frame) with fn := f, kind := .normal, roundOf := none }
  have henter : Frame.enter P f pargs .normal = b.atR { tmps := pargs ++ Array.replicate (fn.ntmps - pargs.size) undef, defers := [] } [.code c] := by
    simp [Frame.enter, Frame.atR, hf, hb, b]
  have hsz : args.length = pargs.size := by simpa using hl.1
  obtain ⟨ρ1, w1, pa1, s1, R1, f1, z1, d1, t1⟩ := hc ρ w b [] cs { tmps := pargs ++ Array.replicate (fn.ntmps - pargs.size) undef, defers := [] } rfl rfl hR (FR.start hl _) (by simp; omega) ⟨rfl, fun i d x e => by simp at e⟩
  obtain ⟨w2, s2, R2, t2⟩ := unmark_run (P := P) ds h1 h2 pa1.defers w1 hu d1 R1
  obtain ⟨pv, q1, q2⟩ := run_results (P := P) R2 f1 hr
  obtain ⟨ρ3, s3, R3, q3⟩ := gc_real hR (s1.trans s2) R2 q2
  rw [henter]
  have t0 := start_steps (P := P) b { tmps := pargs ++ Array.replicate (fn.ntmps - pargs.size) undef, defers := [] } c [] cs w
  rcases he with rfl | rfl
  · refine ⟨.returned pv, w2, { { b.atR pa1 [] with mode := .returning } with defers := [] }, ⟨ρ3, pv, rfl, s3, R3, q3⟩, ?_, rfl, rfl, rfl, rfl, fn, hf, q1⟩
    exact Steps.trans t0 (Steps.trans t1 (Steps.head (stepR_end rfl) (t2 _ cs rfl rfl)))
  · obtain ⟨k2, t1⟩ := t1
    refine ⟨.returned pv, w2, { { b.atR pa1 (.code .ret :: k2) with mode := .returning } with defers := [] }, ⟨ρ3, pv, rfl, s3, R3, q3⟩, ?_, rfl, rfl, rfl, rfl, fn, hf, q1⟩
    exact Steps.trans t0 (Steps.trans t1 (Steps.head (stepR_ret rfl) (t2 _ cs rfl rfl)))
end
end Go.Proofs.Eng
