/- The logical machine: loops over functions. Conditions: none. -/
import Derived.Test.YtbnmhhbncggjkaaGreatDoorEngR
import Derived.RangeFuncNested
set_option linter.unusedVariables false
set_option linter.unusedSimpArgs false
namespace Go.Proofs.Eng
open Go
section
variable {P : Program} {G : Gl} {ρ : Rho} {h h' h1 : Hp} {w : World} {a : Fr} {v : LV}
theorem loop_obj (hr : Real G ρ h w) {l : Nat} {p : Place} {s : LoopState} {pd : Option Code} {fn : FuncId} {tmps : Fr} {size : Nat} {params : List Tmp} {assign body : Code} {d : Nat} (hb : h.at l = .loop s pd fn tmps size params assign body d) (hρ : ρ l = some p) :
    ∃ (q : Place) (r : Loop), ρ d = some q ∧ w.heap[p.pb]? = some (.loop r) ∧ r.state = s ∧ r.pending = pd ∧ r.fn = fn ∧ FR ρ tmps r.tmps ∧ r.tmps.size = size ∧ r.params.toList = params ∧ r.assign = assign ∧ r.body = body ∧ r.defers = q.pb := by
  have := hr.obj l
  rw [hb] at this
  obtain ⟨p', q, r, h1, h2⟩ := this
  rw [hρ] at h1
  cases h1
  exact ⟨q, r, h2⟩
/-- A loop's record turned, in both. -/
theorem loop_turn (hr : Real G ρ h w) {l : Nat} {p : Place} {s : LoopState} {pd : Option Code} {fn : FuncId} {tmps : Fr} {size : Nat} {params : List Tmp} {assign body : Code} {d : Nat} (hb : h.at l = .loop s pd fn tmps size params assign body d) (hρ : ρ l = some p) {r : Loop} (hw : w.heap[p.pb]? = some (.loop r)) (s' : LoopState) (pd' : Option Code) :
    Real G ρ (h.put l (.loop s' pd' fn tmps size params assign body d)) (w.putObj p.pb (.loop { r with state := s', pending := pd' })) ∧ St ρ h w ρ (h.put l (.loop s' pd' fn tmps size params assign body d)) (w.putObj p.pb (.loop { r with state := s', pending := pd' })) := by
  have hlt := hr.fresh l p hρ
  have hin : p.pb < w.heap.size := (Array.getElem?_eq_some_iff.1 hw).1
  have mk : ∀ ρ1 : Rho, Ext ρ1 ρ → OR ρ1 w l (.loop s pd fn tmps size params assign body d) → OR ρ1 (w.putObj p.pb (.loop { r with state := s', pending := pd' })) l (.loop s' pd' fn tmps size params assign body d) := fun ρ1 e1 k => by
    obtain ⟨p', q, r', h1, h2, h3, h4, h5, h6, h7, h8, h9, h10, h11, h12⟩ := k
    have := e1 _ _ h1
    rw [hρ] at this
    cases this
    rw [hw] at h3
    cases h3
    exact ⟨p, q, _, h1, h2, World.putObj_heap_same hin, rfl, rfl, h6, h7, h8, h9, h10, h11, h12⟩
  have ho := hr.obj l
  rw [hb] at ho
  refine real_turn hr hlt (by rw [hb]; rfl) hρ rfl (fun u hu => hu) (fun i => Hp.at_put _ _ _ _ hlt) (fun g e => by simp [grpOf] at e) (fun j q hj hl hq e => ?_) (fun k hk => World.putObj_heap_other hk) (by simp) rfl rfl rfl (mk ρ (.refl _) ho) (fun n hn hu => mk _ (Rho.cut_ext n) (by
    have := hr.told l n hn hu
    rw [hb] at this
    exact this))
  have := hr.sep j l q p hj hl (by rw [hb]; rfl) hq hρ e
  rw [hb] at this
  cases h.at j <;> simp [SameG] at this
theorem loop_dead (hr : Real G ρ h w) {l : Nat} {p : Place} {s : LoopState} {pd : Option Code} {fn : FuncId} {tmps : Fr} {size : Nat} {params : List Tmp} {assign body : Code} {d : Nat} (hb : h.at l = .loop s pd fn tmps size params assign body d) (hρ : ρ l = some p) (o : Obj) :
    Real G ρ (h.put l .dead) (w.putObj p.pb o) ∧ St ρ h w ρ (h.put l .dead) (w.putObj p.pb o) := by
  have hlt := hr.fresh l p hρ
  refine real_turn hr hlt (by rw [hb]; rfl) hρ (x := .dead) rfl (fun u hu => hu) (fun i => Hp.at_put _ _ _ _ hlt) (fun g e => by simp [grpOf] at e) (fun j q hj hl hq e => ?_) (fun k hk => World.putObj_heap_other hk) (by simp) rfl rfl rfl trivial (fun _ _ _ => trivial)
  have := hr.sep j l q p hj hl (by rw [hb]; rfl) hq hρ e
  rw [hb] at this
  cases h.at j <;> simp [SameG] at this
theorem setAll_FR : ∀ (ps : List Tmp) (args : List LV) (pargs : List Value) (t t' : Fr) (tmps : Array Value) (size : Nat), setAll size t ps args = some t' → LR ρ args pargs → FR ρ t tmps → tmps.size = size →
    FR ρ t' ((ps.zip pargs).foldl (fun tmps (x : Tmp × Value) => tmps.setIfInBounds x.1 x.2) tmps) ∧ ((ps.zip pargs).foldl (fun tmps (x : Tmp × Value) => tmps.setIfInBounds x.1 x.2) tmps).size = size ∧ ps.length = args.length
  | [], [], pargs, t, t', tmps, size, hs, hl, hf, hz => by cases hs; exact ⟨hf, hz, rfl⟩
  | [], _ :: _, pargs, t, t', tmps, size, hs, hl, hf, hz => by cases hs
  | _ :: _, [], pargs, t, t', tmps, size, hs, hl, hf, hz => by cases hs
  | i :: is, x :: xs, pargs, t, t', tmps, size, hs, hl, hf, hz => by
    obtain ⟨y, ys, rfl, hy, hl'⟩ := hl.cons_inv
    change (bif Nat.blt i size then setAll size (t.put i x) is xs else none) = some t' at hs
    cases hb : Nat.blt i size <;> rw [hb] at hs
    · cases hs
    · have hlt : i < size := Nat.le_of_ble_eq_true hb
      have hf' : FR ρ (t.put i x) (tmps.setIfInBounds i y) := fun j => by
        rw [Fr.get_put]
        by_cases e : j = i
        · subst e
          rw [if_pos rfl, Array.getD_eq_getD_getElem?, Array.getElem?_setIfInBounds_self_of_lt (by rw [hz]; exact hlt)]
          exact hy
        · rw [if_neg e, Array.getD_eq_getD_getElem?, Array.getElem?_setIfInBounds_ne (Ne.symm e), ← Array.getD_eq_getD_getElem?]
          exact hf j
      obtain ⟨g1, g2, g3⟩ := setAll_FR is xs ys _ t' _ size hs hl' hf' (by simpa using hz)
      exact ⟨g1, g2, by simp [g3]⟩
/-- A round. -/
theorem yield_round {l : Nat} {args : List LV} {s : LoopState} {pd pd1 pd2 : Option Code} {fn fn1 fn2 : FuncId} {tmps t t1 tmps1 tmps2 a2 : Fr} {size size1 size2 : Nat} {params params1 params2 : List Tmp} {assign assign1 assign2 body body1 body2 : Code} {d d1 d2 : Nat} {ds ds2 : List Nat} {h2 : Hp} {e : Ex}
    (hb : h.at l = .loop s pd fn tmps size params assign body d) (ht : setAll size tmps params args = some t) (hA : CodeS P G assign (some l) fn size t [] h .normal t1 ds h1) (hb1 : h1.at l = .loop .ready pd1 fn1 tmps1 size1 params1 assign1 body1 d1)
    (hB : CodeS P G body (some l) fn size t1 ds (h1.put l (.loop .busy pd1 fn1 tmps1 size1 params1 assign1 body1 d1)) e a2 ds2 h2) (hb2 : h2.at l = .loop .busy pd2 fn2 tmps2 size2 params2 assign2 body2 d2) :
    YieldS P G l args h (.bool (jumpOf e).isNone) (h2.put l (.loop (bif (jumpOf e).isNone then .ready else .done) (jumpOf e) fn2 tmps2 size2 params2 assign2 body2 d2)) := fun ρ w p pargs c cs hρ hR hl => by
  obtain ⟨q, r, -, hw, r1, r2, r3, r4, r5, r6, r7, r8, r9⟩ := loop_obj hR hb hρ
  obtain ⟨f1, z1, n1⟩ := setAll_FR (ρ := ρ) params args pargs.toList tmps t r.tmps size ht hl r4 r5
  have hsz : pargs.size = r.params.size := by have h1 := hl.1; have := congrArg List.length r6; simp at h1 this; omega
  have hy := run_yield (P := P) hw hsz
  have hfold : (r.params.zip pargs).foldl (fun tmps (t, a) => tmps.setIfInBounds t a) r.tmps = (params.zip pargs.toList).foldl (fun tmps (x : Tmp × Value) => tmps.setIfInBounds x.1 x.2) r.tmps := by
    rw [← r6, ← Array.toList_zip, Array.foldl_toList]
  rw [hfold] at hy
  generalize hT : (params.zip pargs.toList).foldl (fun tmps (x : Tmp × Value) => tmps.setIfInBounds x.1 x.2) r.tmps = T at hy f1 z1
  let b : Frame := { (default : Frame) with fn := fn, kind := .normal, roundOf := some p.pb }
  have hstart : Frame.round p.pb fn T assign body .normal = b.atR { tmps := T, defers := [] } [.code assign, .beginRound, .code body] := rfl
  have hrr : ∀ {ρ' : Rho}, ρ' l = some p → RR ρ' (some l) b.roundOf := fun e => ⟨p, e, rfl⟩
  obtain ⟨ρ1, w1, pa1, s1, R1, f1', z1', d1', t1'⟩ := hA ρ w b [.beginRound, .code body] (c :: cs) { tmps := T, defers := [] } rfl (hrr hρ) hR f1 z1 ⟨rfl, fun i d x e => by simp at e⟩
  have hρ1 := s1.ext _ _ hρ
  obtain ⟨q1, k1, -, hw1, k2, k3, k4⟩ := loop_obj R1 hb1 hρ1
  obtain ⟨R2, s2⟩ := loop_turn R1 hb1 hρ1 hw1 .busy pd1
  have hbeg := run_beginRound (P := P) hw1 k2
  have heq : ({ k1 with state := .busy } : Loop) = { k1 with state := .busy, pending := pd1 } := by rw [← k3]
  rw [heq] at hbeg
  obtain ⟨ρ3, w3, pa3, s3, R3, f3, z3, d3, t3⟩ := hB ρ1 _ b [] (c :: cs) pa1 rfl (hrr hρ1) R2 f1' z1' d1'
  have hρ3 := s3.ext _ _ hρ1
  obtain ⟨q3, k5, -, hw3, k6, k7, k8⟩ := loop_obj R3 hb2 hρ3
  obtain ⟨R4, s4⟩ := loop_turn R3 hb2 hρ3 hw3 (bif (jumpOf e).isNone then .ready else .done) (jumpOf e)
  have hend := run_endRound (P := P) (jumpOf e) hw3
  have hcond : (if (jumpOf e).isNone then LoopState.ready else .done) = (bif (jumpOf e).isNone then .ready else .done) := by cases (jumpOf e).isNone <;> rfl
  rw [hcond] at hend
  refine ⟨fn, T, assign, body, ρ3, _, .bool (jumpOf e).isNone, by rw [hy, r3, r7, r8], ((s1.trans s2).trans s3).trans s4, R4, .bool _, ?_⟩
  rw [hstart]
  refine Steps.trans (start_steps _ _ _ _ _ _) (Steps.trans t1' (Steps.head (stepR_beginRound rfl hbeg) (Steps.trans (start_steps _ _ _ _ _ _) ?_)))
  cases e with
  | normal => exact Steps.trans t3 (.one (stepR_round_end rfl rfl hend))
  | ret =>
    obtain ⟨k2, t3⟩ := t3
    exact Steps.trans t3 (.one (stepR_round_ret rfl rfl hend))
  | exit i =>
    obtain ⟨k2, hx, t3⟩ := t3.2 rfl
    exact Steps.trans t3 (.one (stepR_round_exit rfl rfl hx hend))
/-- What entering a loop over a function lays. -/
def EnterS (P : Program) (G : Gl) (ps : Array Tmp) (assign body : Code) (rnd : Option Nat) (fn : FuncId) (size : Nat) (a : Fr) (ds : List Nat) (h : Hp) (l : Nat) (ds1 : List Nat) (h1 : Hp) : Prop :=
  ∀ (ρ : Rho) (w : World) (pa : Act) (ro : Option Nat), RR ρ rnd ro → Real G ρ h w → FR ρ a pa.tmps → pa.tmps.size = size → DR ρ ds pa.defers →
    ∃ ρ1 w1 mark p, (Instr.enterLoop fn pa.tmps ps assign body ro).run P w = .ok (p.pb, mark) w1 ∧ St ρ h w ρ1 h1 w1 ∧ Real G ρ1 h1 w1 ∧ ρ1 l = some p ∧ DR ρ1 ds1 (mark ++ pa.defers)
theorem enter_new (hr : Real G ρ h w) {d : Nat} {q : Place} (hd : ρ d = some q) {fn : FuncId} {tmps : Array Value} {ps : Array Tmp} {assign body : Code} (hf : FR ρ a tmps) :
    Real G (ρ.add h.n ⟨w.heap.size, 0, 0, 0⟩) (h.new (.loop .ready none fn a tmps.size ps.toList assign body d)) (w.alloc (.loop { state := .ready, pending := none, fn, tmps, params := ps, assign, body, defers := q.pb })) ∧
    St ρ h w (ρ.add h.n ⟨w.heap.size, 0, 0, 0⟩) (h.new (.loop .ready none fn a tmps.size ps.toList assign body d)) (w.alloc (.loop { state := .ready, pending := none, fn, tmps, params := ps, assign, body, defers := q.pb })) := by
  have he := Rho.ext_add hr ⟨w.heap.size, 0, 0, 0⟩
  exact real_new hr _ _ ⟨w.heap.size, 0, 0, 0⟩ rfl (fun g e => by simp [grpOf] at e) ⟨_, q, _, Rho.add_same _ _, he _ _ hd, heap_alloc_at w _, rfl, rfl, rfl, hf.mono he, rfl, rfl, rfl, rfl, rfl⟩
theorem enter_outer {ps : Array Tmp} {assign body : Code} {fn : FuncId} {size : Nat} {ds : List Nat} :
    EnterS P G ps assign body none fn size a ds h (h.n + 1) (h.n :: ds) ((h.new .defd).new (.loop .ready none fn a size ps.toList assign body h.n)) := fun ρ w pa ro hrr hR hf hs hd => by
  have hro : ro = none := hrr
  subst hro hs
  obtain ⟨R1, s1⟩ := real_new hR (.deferred (some [])) .defd ⟨w.heap.size, 0, 0, 0⟩ rfl (fun g e => by simp [grpOf] at e) ⟨_, Rho.add_same _ _, heap_alloc_at w _⟩
  obtain ⟨R2, s2⟩ := enter_new (fn := fn) (tmps := pa.tmps) (ps := ps) (assign := assign) (body := body) R1 (Rho.add_same _ _) (hf.mono s1.ext)
  have hsz : (w.alloc (.deferred (some []))).heap.size = w.heap.size + 1 := size_alloc _ _
  refine ⟨_, _, _, ⟨w.heap.size + 1, 0, 0, 0⟩, run_enterLoop_outer fn pa.tmps ps assign body, s1.trans s2, R2, ?_, ?_⟩
  · rw [← hsz]
    exact Rho.add_same _ _
  · refine ⟨by have := hd.1; simp [this], fun i d x e1 e2 => ?_⟩
    cases i with
    | zero =>
      cases e1
      cases e2
      exact ⟨_, s2.ext _ _ (Rho.add_same _ _), rfl⟩
    | succ i => exact (hd.mono (s1.trans s2).ext).2 i d x (by simpa using e1) (by simpa using e2)
theorem enter_inner {ps : Array Tmp} {assign body : Code} {fn : FuncId} {size : Nat} {ds : List Nat} {l0 d : Nat} {s : LoopState} {pd : Option Code} {fn' : FuncId} {tmps' : Fr} {size' : Nat} {params' : List Tmp} {assign' body' : Code} (hb : h.at l0 = .loop s pd fn' tmps' size' params' assign' body' d) :
    EnterS P G ps assign body (some l0) fn size a ds h h.n ds (h.new (.loop .ready none fn a size ps.toList assign body d)) := fun ρ w pa ro hrr hR hf hs hd => by
  obtain ⟨p0, hp0, rfl⟩ := hrr
  subst hs
  obtain ⟨q, r, hq, hw, -, -, -, -, -, -, -, -, hdf⟩ := loop_obj hR hb hp0
  obtain ⟨R2, s2⟩ := enter_new (fn := fn) (tmps := pa.tmps) (ps := ps) (assign := assign) (body := body) hR hq hf
  refine ⟨_, _, [], ⟨w.heap.size, 0, 0, 0⟩, by rw [run_enterLoop_inner hw, hdf], s2, R2, Rho.add_same _ _, hd.mono s2.ext⟩
/-- What comes behind a loop over a function. -/
def NextS (P : Program) (G : Gl) (rnd : Option Nat) (fn : FuncId) (size : Nat) (a : Fr) (ds : List Nat) (h : Hp) (e : Ex) (a' : Fr) (ds' : List Nat) (h' : Hp) : Option Code → Prop
  | none => e = .normal ∧ a' = a ∧ ds' = ds ∧ h' = h
  | some c => CodeS P G c rnd fn size a ds h e a' ds' h'
theorem code_range {g : Operand} {ps : Array Tmp} {assign body : Code} {rnd : Option Nat} {fn f : FuncId} {size : Nat} {ds ds1 ds' : List Nat} {l : Nat} {args : List LV} {h4 : Hp} {s : LoopState} {pd : Option Code} {fn' : FuncId} {tmps' a' : Fr} {size' : Nat} {params' : List Tmp} {assign' body' : Code} {d : Nat} {e : Ex}
    (hE : EnterS P G ps assign body rnd fn size a ds h l ds1 h1) (ht : ltarget h1 [.fn (.yield l) [] []] (aev a g) = some (.call f args h1)) (hc : CallE P G f args h1 v h4) (hb : h4.at l = .loop s pd fn' tmps' size' params' assign' body' d) (hs : s ≠ .busy)
    (hnext : NextS P G rnd fn size a ds1 (h4.put l .dead) e a' ds' h' pd) : CodeS P G (.rangeFunc g ps assign body) rnd fn size a ds h e a' ds' h' := fun ρ w b k cs pa hbf hrr hR hf hsz hd => by
  obtain ⟨ρ1, w1, mark, p, e1, s1, R1, hp, hd1⟩ := hE ρ w pa b.roundOf hrr hR hf hsz hd
  rw [← hbf] at e1
  -- the call
  have hcall : ∃ (dd : Deferred) (pargs : Array Value), (resolve pa.eval (rangeCall g p.pb) 0).run P w1 = .ok dd w1 ∧ LR ρ1 args pargs.toList ∧ (invoke dd.target dd.args).run P w1 = (callFunc f pargs).run P w1 := by
    unfold ltarget at ht
    split at ht
    · rename_i g' first cap ef
      cases ht
      have hv := aev_VR (hf.mono s1.ext) g
      rw [ef] at hv
      generalize he : pa.eval g = pf at hv
      cases hv with
      | @fn _ _ _ fs' cs' h1 h2 r1 r2 =>
        refine ⟨{ target := .fn (.func f) cs', args := fs' ++ #[.func (.yield p.pb) #[] #[]] }, fs' ++ #[.func (.yield p.pb) #[] #[]] ++ cs', ?_, ?_, ?_⟩
        · unfold resolve
          have hm : (#[Operand.const (.func (.yield p.pb) #[] #[])] : Array Operand).map pa.eval = #[.func (.yield p.pb) #[] #[]] := by rw [List.map_toArray]; rfl
          simp only [he, Deferred.ofValue, Sem.run_pure, hm]
        · rw [app_eq, app_eq, Array.toList_append, Array.toList_append, List.append_assoc]
          exact (LR.of_fn h1 r1).append ((LR.cons (VR.yield hp rfl (fun i v v' e => by simp at e)) .nil).append (LR.of_fn h2 r2))
        · simp [invoke]
    · cases ht
    · cases ht
  obtain ⟨dd, pargs, c1, c2, c3⟩ := hcall
  obtain ⟨g1, g2⟩ := hc ρ1 w1 pargs R1 c2
  have st := stepR_rangeFunc (k := k) (cs := cs) e1 c1 (c3.trans g1)
  obtain ⟨e2, w4, fr, ⟨ρ4, pv, rfl, s4, R4, v4⟩, t4, _, hleave⟩ := g2 (b.atR { pa with defers := mark ++ pa.defers } (.inRangeFunc p.pb :: k) :: cs)
  have hp4 := s4.ext _ _ hp
  obtain ⟨q, r, -, hw4, r1, r2, -⟩ := loop_obj R4 hb hp4
  have hend := run_endLoop (P := P) hw4 (by rw [r1]; exact hs)
  obtain ⟨R5, s5⟩ := loop_dead R4 hb hp4 (.loop { r with state := .exhausted })
  have t5 : Steps P (lone (b.atR pa (.code (.rangeFunc g ps assign body) :: k)) cs w) (lone (b.atR { pa with defers := mark ++ pa.defers } ((pd.map Item.code).toList ++ k)) cs (w4.putObj p.pb (.loop { r with state := .exhausted }))) := by
    refine Steps.head st (Steps.trans t4 (Steps.head (step_leave_returned hleave) ?_))
    rw [finish_atR_inRangeFunc, ← r2]
    exact .one (stepR_endRangeFunc hend)
  cases pd with
  | none =>
    obtain ⟨rfl, rfl, rfl, rfl⟩ := hnext
    exact ⟨ρ4, _, { pa with defers := mark ++ pa.defers }, (s1.trans s4).trans s5, R5, (hf.mono s1.ext).mono s4.ext, hsz, hd1.mono s4.ext, t5⟩
  | some c =>
    obtain ⟨ρ6, w6, pa6, s6, R6, f6, z6, d6, t6⟩ := hnext ρ4 _ b k cs { pa with defers := mark ++ pa.defers } hbf (hrr.mono (s1.trans s4).ext) R5 ((hf.mono s1.ext).mono s4.ext) hsz (hd1.mono s4.ext)
    exact ⟨ρ6, w6, pa6, ((s1.trans s4).trans s5).trans s6, R6, f6, z6, d6, t6.of (Steps.trans t5 (start_steps _ _ _ _ _ _))⟩
end
end Go.Proofs.Eng
