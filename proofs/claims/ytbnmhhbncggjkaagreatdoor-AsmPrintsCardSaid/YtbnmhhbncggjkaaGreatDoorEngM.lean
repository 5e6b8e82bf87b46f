/- The logical machine: what a command comes to, told of the machine itself; the rules, one a construct. Conditions: none. -/
import Derived.Test.YtbnmhhbncggjkaaGreatDoorEngE
import Derived.AtR
import Derived.RangeFuncIn
import Derived.RangeFuncRecord
set_option linter.unusedVariables false
set_option linter.unusedSimpArgs false
namespace Go.Proofs.Eng
open Go
/-- A call, by a contract or by Lean. -/
def CallS (P : Program) (G : Gl) (f : FuncId) (args : List LV) (h : Hp) (v : LV) (h' : Hp) : Prop :=
  ∀ (ρ : Rho) (w : World) (pargs : Array Value), Real G ρ h w → LR ρ args pargs.toList →
    (∃ ρ' w' pv, (callFunc f pargs).run P w = .ok (.value pv) w' ∧ St ρ h w ρ' h' w' ∧ Real G ρ' h' w' ∧ VR ρ' v pv) ∨
    ((callFunc f pargs).run P w = .ok (.enter f pargs) w ∧ Calls P f pargs w fun e w' => ∃ ρ' pv, e = .returned pv ∧ St ρ h w ρ' h' w' ∧ Real G ρ' h' w' ∧ VR ρ' v pv)
def RR (ρ : Rho) : Option Nat → Option Nat → Prop
  | none, ro => ro = none
  | some l, ro => ∃ p, ρ l = some p ∧ ro = some p.pb
def DR (ρ : Rho) (ds : List Nat) (xs : List Deferred) : Prop := ds.length = xs.length ∧ ∀ (i : Nat) d x, ds[i]? = some d → xs[i]? = some x → ∃ q, ρ d = some q ∧ x.target = .collected q.pb
theorem RR.mono {ρ ρ' : Rho} (he : Ext ρ ρ') {rnd ro : Option Nat} (k : RR ρ rnd ro) : RR ρ' rnd ro := by
  cases rnd with
  | none => exact k
  | some l => obtain ⟨p, h1, h2⟩ := k; exact ⟨p, he _ _ h1, h2⟩
theorem DR.mono {ρ ρ' : Rho} (he : Ext ρ ρ') {ds : List Nat} {xs : List Deferred} (k : DR ρ ds xs) : DR ρ' ds xs :=
  ⟨k.1, fun i d x e1 e2 => by obtain ⟨q, h1, h2⟩ := k.2 i d x e1 e2; exact ⟨q, he _ _ h1, h2⟩⟩
def Arr (P : Program) (m : Machine) (b : Frame) (k : List Item) (cs : List Frame) : Ex → Act → World → Prop
  | .normal, pa, w => Steps P m (lone (b.atR pa k) cs w)
  | .exit id, pa, w => (∀ k', exitTo id k = some k' → Steps P m (lone (b.atR pa k') cs w)) ∧ (exitTo id k = none → ∃ k2, exitTo id k2 = none ∧ Steps P m (lone (b.atR pa (.code (.exit id) :: k2)) cs w))
  | .ret, pa, w => ∃ k2, Steps P m (lone (b.atR pa (.code .ret :: k2)) cs w)
def startOf (c : Code) (k : List Item) : List Item := match c with
  | .loop x => .code x :: .inLoop x :: k
  | c => .code c :: k
/-- Code, run by a frame. -/
def CodeS (P : Program) (G : Gl) (c : Code) (rnd : Option Nat) (fn : FuncId) (size : Nat) (a : Fr) (ds : List Nat) (h : Hp) (e : Ex) (a' : Fr) (ds' : List Nat) (h' : Hp) : Prop :=
  ∀ (ρ : Rho) (w : World) (b : Frame) (k : List Item) (cs : List Frame) (pa : Act), b.fn = fn → RR ρ rnd b.roundOf → Real G ρ h w → FR ρ a pa.tmps → pa.tmps.size = size → DR ρ ds pa.defers →
    ∃ ρ' w' pa', St ρ h w ρ' h' w' ∧ Real G ρ' h' w' ∧ FR ρ' a' pa'.tmps ∧ pa'.tmps.size = size ∧ DR ρ' ds' pa'.defers ∧ Arr P (lone (b.atR pa (startOf c k)) cs w) b k cs e pa' w'
/-- A region's operations from some place on. -/
def OpsS (P : Program) (G : Gl) (ops : Array Oper) (r : List Oper) (size : Nat) (a : Fr) (h : Hp) (a' : Fr) (h' : Hp) : Prop :=
  ∀ (i : Nat), r = ops.toList.drop i → ∀ (ρ : Rho) (w : World) (b : Frame) (k : List Item) (cs : List Frame) (pa : Act), Real G ρ h w → FR ρ a pa.tmps → pa.tmps.size = size →
    ∃ ρ' w' pa', St ρ h w ρ' h' w' ∧ Real G ρ' h' w' ∧ FR ρ' a' pa'.tmps ∧ pa'.tmps.size = size ∧ pa'.defers = pa.defers ∧
      Steps P (lone (b.atR pa (.inRegion ops (List.range' i (ops.size - i)) :: k)) cs w) (lone (b.atR pa' k) cs w')
/-- A round of a loop over a function, called. -/
def YieldS (P : Program) (G : Gl) (l : Nat) (args : List LV) (h : Hp) (v : LV) (h' : Hp) : Prop :=
  ∀ (ρ : Rho) (w : World) (p : Place) (pargs : Array Value) (c : Frame) (cs : List Frame), ρ l = some p → Real G ρ h w → LR ρ args pargs.toList →
    ∃ f tmps assign body ρ' w' pv, (Instr.yield p.pb pargs).run P w = .ok (.round p.pb f tmps assign body) w ∧ St ρ h w ρ' h' w' ∧ Real G ρ' h' w' ∧ VR ρ' v pv ∧
      Steps P (lone (Frame.round p.pb f tmps assign body .normal) (c :: cs) w) (lone (c.finish pv) cs w')
section
variable {P : Program} {G : Gl} {ρ : Rho} {h h' h1 : Hp} {w : World} {a a' a1 : Fr} {rnd : Option Nat} {fn : FuncId} {size : Nat} {ds ds' ds1 : List Nat} {e : Ex}
theorem start_steps (b : Frame) (pa : Act) (c : Code) (k : List Item) (cs : List Frame) (w : World) : Steps P (lone (b.atR pa (.code c :: k)) cs w) (lone (b.atR pa (startOf c k)) cs w) := by
  cases c with
  | loop x => exact .one stepR_loop
  | _ => exact .refl _ _
theorem Arr.of {m m1 : Machine} {b : Frame} {k : List Item} {cs : List Frame} {pa : Act} {w : World} (s : Steps P m m1) (t : Arr P m1 b k cs e pa w) : Arr P m b k cs e pa w := by
  cases e with
  | normal => exact s.trans t
  | exit id => exact ⟨fun k' hk => s.trans (t.1 k' hk), fun hk => (t.2 hk).imp fun k2 q => ⟨q.1, s.trans q.2⟩⟩
  | ret => exact t.imp fun k2 q => s.trans q
/-- Past an item that catches nothing. -/
theorem Arr.pass {m : Machine} {b : Frame} {x : Item} {k : List Item} {cs : List Frame} {pa : Act} {w : World} (hx : ∀ id, exitTo id (x :: k) = exitTo id k) (he : e ≠ .normal) (t : Arr P m b (x :: k) cs e pa w) : Arr P m b k cs e pa w := by
  cases e with
  | normal => exact absurd rfl he
  | exit id => exact ⟨fun k' hk => t.1 k' ((hx id).trans hk), fun hk => t.2 ((hx id).trans hk)⟩
  | ret => exact t
theorem code_skip (c : Code) (hc : c = .skip ∨ ∃ l, c = .label l) : CodeS P G c rnd fn size a ds h .normal a ds h := fun ρ w b k cs pa hb hr hR hf hs hd =>
  ⟨ρ, w, pa, .refl, hR, hf, hs, hd, by rcases hc with rfl | ⟨l, rfl⟩ <;> first | exact .one stepR_skip | exact .one stepR_label⟩
theorem code_ret : CodeS P G .ret rnd fn size a ds h .ret a ds h := fun ρ w b k cs pa hb hr hR hf hs hd => ⟨ρ, w, pa, .refl, hR, hf, hs, hd, k, .refl _ _⟩
theorem code_exit (i : Nat) : CodeS P G (.exit i) rnd fn size a ds h (.exit i) a ds h := fun ρ w b k cs pa hb hr hR hf hs hd =>
  ⟨ρ, w, pa, .refl, hR, hf, hs, hd, fun k' hk => .one (stepR_exit hk), fun hk => ⟨k, hk, .refl _ _⟩⟩
theorem code_seq {x y : Code} (hx : CodeS P G x rnd fn size a ds h .normal a1 ds1 h1) (hy : CodeS P G y rnd fn size a1 ds1 h1 e a' ds' h') : CodeS P G (.seq x y) rnd fn size a ds h e a' ds' h' := fun ρ w b k cs pa hb hr hR hf hs hd => by
  obtain ⟨ρ1, w1, pa1, s1, R1, f1, z1, d1, t1⟩ := hx ρ w b (.code y :: k) cs pa hb hr hR hf hs hd
  obtain ⟨ρ2, w2, pa2, s2, R2, f2, z2, d2, t2⟩ := hy ρ1 w1 b k cs pa1 hb (hr.mono s1.ext) R1 f1 z1 d1
  exact ⟨ρ2, w2, pa2, s1.trans s2, R2, f2, z2, d2, t2.of ((Steps.one stepR_seq).trans ((start_steps _ _ _ _ _ _).trans (Steps.trans t1 (start_steps _ _ _ _ _ _))))⟩
theorem code_seq_out {x y : Code} (he : e ≠ .normal) (hx : CodeS P G x rnd fn size a ds h e a' ds' h') : CodeS P G (.seq x y) rnd fn size a ds h e a' ds' h' := fun ρ w b k cs pa hb hr hR hf hs hd => by
  obtain ⟨ρ1, w1, pa1, s1, R1, f1, z1, d1, t1⟩ := hx ρ w b (.code y :: k) cs pa hb hr hR hf hs hd
  exact ⟨ρ1, w1, pa1, s1, R1, f1, z1, d1, (t1.pass (fun _ => rfl) he).of ((Steps.one stepR_seq).trans (start_steps _ _ _ _ _ _))⟩
theorem code_loop {x : Code} (hx : CodeS P G x rnd fn size a ds h .normal a1 ds1 h1) (hy : CodeS P G (.loop x) rnd fn size a1 ds1 h1 e a' ds' h') : CodeS P G (.loop x) rnd fn size a ds h e a' ds' h' := fun ρ w b k cs pa hb hr hR hf hs hd => by
  obtain ⟨ρ1, w1, pa1, s1, R1, f1, z1, d1, t1⟩ := hx ρ w b (.inLoop x :: k) cs pa hb hr hR hf hs hd
  obtain ⟨ρ2, w2, pa2, s2, R2, f2, z2, d2, t2⟩ := hy ρ1 w1 b k cs pa1 hb (hr.mono s1.ext) R1 f1 z1 d1
  exact ⟨ρ2, w2, pa2, s1.trans s2, R2, f2, z2, d2, t2.of ((start_steps _ _ x _ _ _).trans (Steps.trans t1 (.one stepR_inLoop)))⟩
theorem code_loop_out {x : Code} (he : e ≠ .normal) (hx : CodeS P G x rnd fn size a ds h e a' ds' h') : CodeS P G (.loop x) rnd fn size a ds h e a' ds' h' := fun ρ w b k cs pa hb hr hR hf hs hd => by
  obtain ⟨ρ1, w1, pa1, s1, R1, f1, z1, d1, t1⟩ := hx ρ w b (.inLoop x :: k) cs pa hb hr hR hf hs hd
  exact ⟨ρ1, w1, pa1, s1, R1, f1, z1, d1, (t1.pass (fun _ => rfl) he).of (start_steps _ _ x _ _ _)⟩
theorem code_cond {c : Operand} {x y : Code} {t : Bool} (hc : aev a c = .bool t) (hx : CodeS P G (if t then x else y) rnd fn size a ds h e a' ds' h') : CodeS P G (.cond c x y) rnd fn size a ds h e a' ds' h' := fun ρ w b k cs pa hb hr hR hf hs hd => by
  obtain ⟨ρ1, w1, pa1, s1, R1, f1, z1, d1, t1⟩ := hx ρ w b k cs pa hb hr hR hf hs hd
  have hv := aev_VR hf c
  rw [hc] at hv
  have e' := hv.bool_inv
  exact ⟨ρ1, w1, pa1, s1, R1, f1, z1, d1, t1.of ((Steps.one (stepR_cond e')).trans (start_steps _ _ _ _ _ _))⟩
theorem code_block {i : Nat} {x : Code} {e2 : Ex} (he : e2 = match e with | .exit j => if j = i then .normal else .exit j | e => e) (hx : CodeS P G x rnd fn size a ds h e a' ds' h') : CodeS P G (.block i x) rnd fn size a ds h e2 a' ds' h' := fun ρ w b k cs pa hb hr hR hf hs hd => by
  obtain ⟨ρ1, w1, pa1, s1, R1, f1, z1, d1, t1⟩ := hx ρ w b (.inBlock i :: k) cs pa hb hr hR hf hs hd
  refine ⟨ρ1, w1, pa1, s1, R1, f1, z1, d1, Arr.of ((Steps.one stepR_block).trans (start_steps _ _ _ _ _ _)) ?_⟩
  cases e with
  | normal => subst he; exact Steps.trans t1 (.one stepR_inBlock)
  | ret => subst he; exact t1
  | exit j =>
    by_cases hj : j = i
    · simp only [hj, if_true] at he
      subst he
      exact t1.1 k (by simp [exitTo, hj])
    · simp only [hj, if_false] at he
      subst he
      have hne : (i == j) = false := by simp; exact fun h => hj h.symm
      have hx : exitTo j (.inBlock i :: k) = exitTo j k := by simp [exitTo, hne]
      exact ⟨fun k' hk => t1.1 k' (hx.trans hk), fun hk => t1.2 (hx.trans hk)⟩
theorem code_region {id : Nat} {ops : Array Oper} (ho : OpsS P G ops ops.toList size a h a' h') : CodeS P G (.region id ops false) rnd fn size a ds h .normal a' ds h' := fun ρ w b k cs pa hb hr hR hf hs hd => by
  obtain ⟨ρ1, w1, pa1, s1, R1, f1, z1, d1, t1⟩ := ho 0 rfl ρ w b k cs pa hR hf hs
  refine ⟨ρ1, w1, pa1, s1, R1, f1, z1, d1 ▸ hd.mono s1.ext, (Steps.one stepR_region).trans ?_⟩
  rw [Nat.sub_zero, ← List.range_eq_range'] at t1
  exact t1
theorem ops_nil {ops : Array Oper} : OpsS P G ops [] size a h a h := fun i hi ρ w b k cs pa hR hf hs => by
  have hl : ops.size ≤ i := by
    have := congrArg List.length hi
    simp at this
    omega
  refine ⟨ρ, w, pa, .refl, hR, hf, hs, rfl, ?_⟩
  rw [show ops.size - i = 0 by omega]
  exact .one stepR_region_end
theorem FR.put {pa : Act} (hf : FR ρ a pa.tmps) {v : LV} {pv : Value} (hv : VR ρ v pv) {d : Option Tmp} {size : Nat} (hs : pa.tmps.size = size) {a1 : Fr} (hp : putL size a d v = some a1) : FR ρ a1 (pa.put d pv).tmps ∧ (pa.put d pv).tmps.size = size ∧ (pa.put d pv).defers = pa.defers := by
  cases d with
  | none => cases hp; exact ⟨hf, hs, rfl⟩
  | some d =>
    change (bif Nat.blt d size then some (a.put d v) else none) = some a1 at hp
    cases hb : Nat.blt d size <;> rw [hb] at hp
    · cases hp
    · simp only [cond_true, Option.some.injEq] at hp
      have hlt : d < size := Nat.le_of_ble_eq_true hb
      subst hp
      refine ⟨fun i => ?_, by simp [Act.put, hs], rfl⟩
      rw [Fr.get_put]
      by_cases e : i = d
      · rw [if_pos e, e]
        simp [Act.put, hs, hlt]; exact hv
      · rw [if_neg e]
        have := hf i
        simp only [Act.put]
        rw [Array.getD_eq_getD_getElem?, Array.getElem?_setIfInBounds_ne (Ne.symm e), ← Array.getD_eq_getD_getElem?]
        exact this
theorem drop_get {ops : Array Oper} {o : Oper} {r : List Oper} {i : Nat} (hi : o :: r = ops.toList.drop i) : ops[i]? = some o ∧ r = ops.toList.drop (i + 1) ∧ i < ops.size := by
  have h1 : (ops.toList.drop i)[0]? = some o := by rw [← hi]; rfl
  rw [List.getElem?_drop] at h1
  have h2 : ops[i]? = some o := by simpa using h1
  refine ⟨h2, ?_, (Array.getElem?_eq_some_iff.1 h2).1⟩
  have := congrArg List.tail hi
  simpa using this
theorem range_cons {n i : Nat} (h : i < n) : List.range' i (n - i) = i :: List.range' (i + 1) (n - (i + 1)) := by
  rw [show n - i = (n - (i + 1)) + 1 by omega, List.range'_succ]
/-- An operation not wanted. -/
theorem ops_skip {ops : Array Oper} {o : Oper} {r : List Oper} (hw : ∀ (ρ : Rho) (pa : Act), FR ρ a pa.tmps → Region.wanted o (yielded ops pa.tmps) = false) (hp : putL size a o.dst (.tup []) = some a1) (hr : OpsS P G ops r size a1 h a' h') : OpsS P G ops (o :: r) size a h a' h' := fun i hi ρ w b k cs pa hR hf hs => by
  obtain ⟨ho, hi', hlt⟩ := drop_get hi
  obtain ⟨f1, z1, d1⟩ := hf.put (v := .tup []) (pv := undef) (VR.mk_tup LR.nil) hs hp
  obtain ⟨ρ2, w2, pa2, s2, R2, f2, z2, d2, t2⟩ := hr (i + 1) hi' ρ w b k cs (pa.put o.dst undef) hR f1 z1
  refine ⟨ρ2, w2, pa2, s2, R2, f2, z2, d2.trans d1, ?_⟩
  rw [range_cons hlt]
  refine Steps.head (stepR_op_skip (by rw [ho]; simpa using hw ρ pa hf)) ?_
  rw [ho]
  exact t2
theorem fin_put {ops : Array Oper} {o : Oper} {i : Nat} (ho : ops[i]? = some o) (b : Frame) (pa : Act) (rest : List Nat) (k : List Item) (pv : Value) : (b.atR pa (.inRegion ops (i :: rest) :: k)).finish pv = b.atR (pa.put o.dst pv) (.inRegion ops rest :: k) := by
  rw [Frame.finish_atR, ho]; rfl
/-- An operation that yields. -/
theorem ops_val {ops : Array Oper} {o : Oper} {r : List Oper} {v : LV} (hw : ∀ (ρ : Rho) (pa : Act), FR ρ a pa.tmps → Region.wanted o (yielded ops pa.tmps) = true) (hnd : ∀ c, o.op ≠ .defer c) (hv : OpS P G h a o v h1) (hp : putL size a o.dst v = some a1) (hr : OpsS P G ops r size a1 h1 a' h') : OpsS P G ops (o :: r) size a h a' h' := fun i hi ρ w b k cs pa hR hf hs => by
  obtain ⟨ho, hi', hlt⟩ := drop_get hi
  obtain ⟨ρ1, w1, pv, s1, R1, v1, hrun⟩ := hv ρ w pa hR hf
  obtain ⟨f1, z1, d1⟩ := (hf.mono s1.ext).put v1 hs hp
  obtain ⟨ρ2, w2, pa2, s2, R2, f2, z2, d2, t2⟩ := hr (i + 1) hi' ρ1 w1 b k cs (pa.put o.dst pv) R1 f1 z1
  refine ⟨ρ2, w2, pa2, s1.trans s2, R2, f2, z2, d2.trans d1, ?_⟩
  rw [range_cons hlt]
  refine Steps.head (step_lone_go ?_) t2
  rw [stepGR_op ho (hw ρ pa hf), Oper.semAt_eq _ _ _ hnd, ← fin_put ho]
  rcases hrun with hrun | ⟨hrun, rfl⟩ <;> simp [stepG.apply, hrun]
/-- An operation that calls. -/
theorem ops_call {ops : Array Oper} {o : Oper} {r : List Oper} {f : FuncId} {args : List LV} {v : LV} {h2 : Hp} (hw : ∀ (ρ : Rho) (pa : Act), FR ρ a pa.tmps → Region.wanted o (yielded ops pa.tmps) = true) (hnd : ∀ c, o.op ≠ .defer c)
    (hrun : ∀ (ρ : Rho) (w : World) (pa : Act), FR ρ a pa.tmps → ∃ pargs : Array Value, LR ρ args pargs.toList ∧ (execOp pa.eval o).run P w = (callFunc f pargs).run P w) (hc : CallS P G f args h v h1) (hp : putL size a o.dst v = some a1) (hr : OpsS P G ops r size a1 h1 a' h') : OpsS P G ops (o :: r) size a h a' h' := fun i hi ρ w b k cs pa hR hf hs => by
  obtain ⟨ho, hi', hlt⟩ := drop_get hi
  obtain ⟨pargs, hl, hx⟩ := hrun ρ w pa hf
  have fin : ∀ ρ1 w1 pv, St ρ h w ρ1 h1 w1 → Real G ρ1 h1 w1 → VR ρ1 v pv → Steps P (lone (b.atR pa (.inRegion ops (i :: List.range' (i + 1) (ops.size - (i + 1))) :: k)) cs w) (lone ((b.atR pa (.inRegion ops (i :: List.range' (i + 1) (ops.size - (i + 1))) :: k)).finish pv) cs w1) →
      ∃ ρ' w' pa', St ρ h w ρ' h' w' ∧ Real G ρ' h' w' ∧ FR ρ' a' pa'.tmps ∧ pa'.tmps.size = size ∧ pa'.defers = pa.defers ∧ Steps P (lone (b.atR pa (.inRegion ops (List.range' i (ops.size - i)) :: k)) cs w) (lone (b.atR pa' k) cs w') := by
    intro ρ1 w1 pv s1 R1 v1 t1
    obtain ⟨f1, z1, d1⟩ := (hf.mono s1.ext).put v1 hs hp
    obtain ⟨ρ2, w2, pa2, s2, R2, f2, z2, d2, t2⟩ := hr (i + 1) hi' ρ1 w1 b k cs (pa.put o.dst pv) R1 f1 z1
    refine ⟨ρ2, w2, pa2, s1.trans s2, R2, f2, z2, d2.trans d1, ?_⟩
    rw [range_cons hlt]
    rw [fin_put ho] at t1
    exact t1.trans t2
  have hg := stepGR_op (P := P) (b := b) (a := pa) (k := k) (cs := cs) (w := w) (rest := List.range' (i + 1) (ops.size - (i + 1))) ho (hw ρ pa hf)
  rw [Oper.semAt_eq _ _ _ hnd] at hg
  rcases hc ρ w pargs hR hl with ⟨ρ1, w1, pv, e1, s1, R1, v1⟩ | ⟨e1, hcall⟩
  · refine fin ρ1 w1 pv s1 R1 v1 (.one (step_lone_go ?_))
    rw [hg]
    simp [stepG.apply, hx, e1]
  · obtain ⟨e, w1, fr, ⟨ρ1, pv, rfl, s1, R1, v1⟩, hsteps, _, hleave⟩ := hcall (b.atR pa (.inRegion ops (i :: List.range' (i + 1) (ops.size - (i + 1))) :: k) :: cs)
    refine fin ρ1 w1 pv s1 R1 v1 (.head (m₁ := lone (Frame.enter P f pargs .normal) (b.atR pa (.inRegion ops (i :: List.range' (i + 1) (ops.size - (i + 1))) :: k) :: cs) w) (step_lone_go ?_) (Steps.trans hsteps (.one (step_leave_returned hleave))))
    rw [hg]
    simp [stepG.apply, hx, e1, Frame.atR]
/-- An operation that calls a round. -/
theorem ops_yield {ops : Array Oper} {o : Oper} {r : List Oper} {l : Nat} {args : List LV} {v : LV} {h2 : Hp} (hw : ∀ (ρ : Rho) (pa : Act), FR ρ a pa.tmps → Region.wanted o (yielded ops pa.tmps) = true) (hnd : ∀ c, o.op ≠ .defer c)
    (hrun : ∀ (ρ : Rho) (w : World) (pa : Act), FR ρ a pa.tmps → ∃ (p : Place) (pargs : Array Value), ρ l = some p ∧ LR ρ args pargs.toList ∧ (execOp pa.eval o).run P w = (Instr.yield p.pb pargs).run P w) (hc : YieldS P G l args h v h1) (hp : putL size a o.dst v = some a1) (hr : OpsS P G ops r size a1 h1 a' h') : OpsS P G ops (o :: r) size a h a' h' := fun i hi ρ w b k cs pa hR hf hs => by
  obtain ⟨ho, hi', hlt⟩ := drop_get hi
  obtain ⟨p, pargs, hρ, hl, hx⟩ := hrun ρ w pa hf
  obtain ⟨f, tmps, assign, body, ρ1, w1, pv, e1, s1, R1, v1, t1⟩ := hc ρ w p pargs (b.atR pa (.inRegion ops (i :: List.range' (i + 1) (ops.size - (i + 1))) :: k)) cs hρ hR hl
  obtain ⟨f1, z1, d1⟩ := (hf.mono s1.ext).put v1 hs hp
  obtain ⟨ρ2, w2, pa2, s2, R2, f2, z2, d2, t2⟩ := hr (i + 1) hi' ρ1 w1 b k cs (pa.put o.dst pv) R1 f1 z1
  refine ⟨ρ2, w2, pa2, s1.trans s2, R2, f2, z2, d2.trans d1, ?_⟩
  rw [range_cons hlt]
  rw [fin_put ho] at t1
  refine Steps.head (step_lone_go ?_) (t1.trans t2)
  rw [stepGR_op ho (hw ρ pa hf), Oper.semAt_eq _ _ _ hnd]
  simp [stepG.apply, hx, e1, Frame.atR]
end
end Go.Proofs.Eng
