/- The logical machine: its run is the machine's. Conditions: none. -/
import Derived.Test.YtbnmhhbncggjkaaGreatDoorEngW
set_option linter.unusedVariables false
set_option linter.unusedSimpArgs false
namespace Go.Proofs.Eng
open Go
section
variable {P : Program} {G : Gl} {C : Orc}
/-- Whatever blocks of this code have a contract, it holds. -/
def Good (P : Program) (G : Gl) (C : Orc) (fn : FuncId) : Code → Prop
  | .seq x y => Good P G C fn x ∧ Good P G C fn y
  | .cond _ x y => Good P G C fn x ∧ Good P G C fn y
  | .block i b => (∀ c, C.cut fn i = some c → ∀ (size : Nat) (a : Fr) (h : Hp) (e : Ex) (a' : Fr) (h' : Hp), c size a h = some (e, a', h') → CodeS P G (.block i b) none fn size a [] h e a' [] h') ∧ Good P G C fn b
  | .loop b => Good P G C fn b
  | _ => True
theorem Good.none {fn : FuncId} (hn : ∀ i, C.cut fn i = .none) : ∀ c, Good P G C fn c
  | .seq x y => ⟨Good.none hn x, Good.none hn y⟩
  | .cond _ x y => ⟨Good.none hn x, Good.none hn y⟩
  | .block i b => ⟨fun c e => (by rw [hn] at e; cases e), Good.none hn b⟩
  | .loop b => Good.none (fn := fn) hn b
  | .skip | .region _ _ _ | .rangeFunc _ _ _ _ | .exit _ | .scope _ | .label _ | .goto _ | .ret | .refuse _ => trivial
def ResS (P : Program) (G : Gl) (C : Orc) : Cmd → Hp → Res → Prop
  | .call f args, h, .val v h' => CallE P G f args h v h'
  | .code c rnd fn size a ds, h, .ex e a' ds' h' => (rnd = none → Good P G C fn c) → CodeS P G c rnd fn size a ds h e a' ds' h'
  | .ops ops r size a, h, .ex e a' _ h' => e = .normal ∧ OpsS P G ops r size a h a' h'
  | .yield l args, h, .val v h' => YieldS P G l args h v h'
  | _, _, _ => False
/-- What an evaluator of commands promises. -/
def IHS (P : Program) (G : Gl) (C : Orc) (ih : IH) : Prop := ∀ c h r, ih c h = some r → ResS P G C c h r
/-- What is asked of the program and of what is told of functions from outside. -/
structure Told (P : Program) (G : Gl) (C : Orc) : Prop where
  name : ∀ (f : FuncId) (fn : Func), P.funcs[f]? = some fn → fn.body.isSome = true → (fn.name == "runtime.NumGoroutine") = false
  good : ∀ (f : FuncId) (fn : Func) (c : Code), P.funcs[f]? = some fn → fn.body = some c → Good P G C f c
  mix : P.follows .mixedOrders = true
  con : ∀ (f : FuncId) c, C f = some c → ∀ args h v h', c args h = some (v, h') → CallS P G f args h v h'
variable {ih : IH} {h : Hp} {r : Res}
theorem call_inv {f : FuncId} {args : List LV} (k : ResS P G C (.call f args) h r) : ∃ v h', r = .val v h' ∧ CallE P G f args h v h' := by
  cases r with
  | val v h' => exact ⟨v, h', rfl, k⟩
  | ex => exact k.elim
theorem code_inv {c : Code} {rnd : Option Nat} {fn : FuncId} {size : Nat} {a : Fr} {ds : List Nat} (k : ResS P G C (.code c rnd fn size a ds) h r) : ∃ e a' ds' h', r = .ex e a' ds' h' ∧ ((rnd = none → Good P G C fn c) → CodeS P G c rnd fn size a ds h e a' ds' h') := by
  cases r with
  | val v h' => exact k.elim
  | ex e a' ds' h' => exact ⟨e, a', ds', h', rfl, k⟩
theorem ops_inv {ops : Array Oper} {l : List Oper} {size : Nat} {a : Fr} (k : ResS P G C (.ops ops l size a) h r) : ∃ a' ds' h', r = .ex .normal a' ds' h' ∧ OpsS P G ops l size a h a' h' := by
  cases r with
  | val v h' => exact k.elim
  | ex e a' ds' h' => obtain ⟨rfl, k⟩ := k; exact ⟨a', ds', h', rfl, k⟩
theorem yield_inv {l : Nat} {args : List LV} (k : ResS P G C (.yield l args) h r) : ∃ v h', r = .val v h' ∧ YieldS P G l args h v h' := by
  cases r with
  | val v h' => exact ⟨v, h', rfl, k⟩
  | ex => exact k.elim
theorem sound_call (HT : Told P G C) (hi : IHS P G C ih) {f : FuncId} {args : List LV} (hv : evCall P G ih f args h = some r) : ResS P G C (.call f args) h r := by
  obtain ⟨fn, hf, hv⟩ := Option.bind_eq_some_iff.1 hv
  cases hb : fn.body with
  | none => rw [hb] at hv; cases hv
  | some c =>
    rw [hb] at hv
    simp only [evBody] at hv
    generalize hg : ih _ h = q at hv
    have fin : ∀ e a' ds h1, (e = .normal ∨ e = .ret) → q = some (.ex e a' ds h1) → ((unmark ds h1).bind fun h2 => (lresultL P G h2 a' fn.results.toList).map fun vs => Res.val (oneOf vs) (gc h.n (oneOf vs) h2)) = some r → ResS P G C (.call f args) h r := by
      intro e a' ds h1 he hq hv
      obtain ⟨h2, e1, hv⟩ := Option.bind_eq_some_iff.1 hv
      obtain ⟨vs, e2, rfl⟩ := Option.map_eq_some_iff.1 hv
      have k := hi _ _ _ (hg.trans hq)
      replace k := k (fun _ => HT.good f fn c hf hb)
      rw [len_eq] at k
      exact call_body hf hb (HT.name f fn hf (by rw [hb]; rfl)) he k e1 e2
    unfold evRet at hv
    split at hv
    · exact fin _ _ _ _ (.inl rfl) rfl hv
    · exact fin _ _ _ _ (.inr rfl) rfl hv
    · cases hv
theorem sound_yield (hi : IHS P G C ih) {l : Nat} {args : List LV} (hv : evYield ih l args h = some r) : ResS P G C (.yield l args) h r := by
  unfold evYield at hv
  generalize hb : h.at l = ob at hv
  unfold evYieldO at hv
  split at hv
  · rename_i s pd fn tmps size params assign body d
    obtain ⟨t, ht, hv⟩ := Option.bind_eq_some_iff.1 hv
    generalize hg : ih (.code assign (some l) fn size t []) h = q at hv
    unfold evYieldA at hv
    split at hv
    · rename_i t1 ds h1
      have kA : CodeS P G assign (some l) fn size t [] h .normal t1 ds h1 := hi _ _ _ hg (fun e => by cases e)
      generalize hb1 : h1.at l = ob1 at hv
      unfold evYieldM at hv
      split at hv
      · rename_i pd1 fn1 tmps1 size1 params1 assign1 body1 d1
        generalize hg2 : ih (.code body (some l) fn size t1 ds) (h1.put l (.loop .busy pd1 fn1 tmps1 size1 params1 assign1 body1 d1)) = q2 at hv
        unfold evYieldB at hv
        split at hv
        · rename_i e a2 ds2 h2
          have kB : CodeS P G body (some l) fn size t1 ds _ e a2 ds2 h2 := hi _ _ _ hg2 (fun e => by cases e)
          generalize hb2 : h2.at l = ob2 at hv
          unfold endRd at hv
          split at hv
          · cases hv
            exact yield_round hb ht kA hb1 kB hb2
          · cases hv
        · cases hv
      · cases hv
    · cases hv
  · cases hv
theorem sound_next (hi : IHS P G C ih) {ops : Array Oper} {o : Oper} {l : List Oper} {size : Nat} {a : Fr} {v : LV} {h1 : Hp} (hv : evNext ih ops o l size a v h1 = some r) :
    ∃ a1 a' ds' h', r = .ex .normal a' ds' h' ∧ putL size a o.dst v = some a1 ∧ OpsS P G ops l size a1 h1 a' h' := by
  obtain ⟨a1, e1, hv⟩ := Option.bind_eq_some_iff.1 hv
  obtain ⟨a', ds', h', rfl, k⟩ := ops_inv (hi _ _ _ hv)
  exact ⟨a1, a', ds', h', rfl, e1, k⟩
theorem wanted_none {ops : Array Oper} {o : Oper} (hg : o.guard = none) {tmps : Array Value} : Region.wanted o (yielded ops tmps) = true := by
  unfold Region.wanted; rw [hg]
theorem sound_run (HT : Told P G C) (hi : IHS P G C ih) {ops : Array Oper} {o : Oper} {l : List Oper} {size : Nat} {a : Fr} (hw : ∀ (ρ : Rho) (pa : Act), FR ρ a pa.tmps → Region.wanted o (yielded ops pa.tmps) = true) (hv : evRun P G C ih ops o l size a h = some r) : ResS P G C (.ops ops (o :: l) size a) h r := by
  unfold evRun at hv
  generalize hl : lop P G h a o = nx at hv
  unfold evNx at hv
  split at hv
  · rename_i v h1
    obtain ⟨k1, k2⟩ := lop_sound hl
    obtain ⟨a1, a', ds', h', rfl, e1, k⟩ := sound_next hi hv
    exact ⟨rfl, ops_val hw k2 k1 e1 k⟩
  · rename_i f args h1
    obtain ⟨⟨rfl, k1⟩, k2⟩ := lop_sound hl
    generalize hc : evC C ih f args h1 = q at hv
    unfold evCont at hv
    split at hv
    · rename_i v h2
      obtain ⟨a1, a', ds', h', rfl, e1, k⟩ := sound_next hi hv
      have kc : CallS P G f args h1 v h2 := by
        unfold evC at hc
        split at hc
        · rename_i c ec
          obtain ⟨⟨v', h3⟩, e3, e4⟩ := Option.map_eq_some_iff.1 hc
          cases e4
          exact HT.con f c ec _ _ _ _ e3
        · have := hi _ _ _ hc
          exact CallE.toS this
      exact ⟨rfl, ops_call (h2 := h2) hw k2 k1 kc e1 k⟩
    · cases hv
  · rename_i y args h1
    obtain ⟨⟨rfl, k1⟩, k2⟩ := lop_sound hl
    generalize hc : ih (.yield y args) h1 = q at hv
    unfold evCont at hv
    split at hv
    · rename_i v h2
      obtain ⟨a1, a', ds', h', rfl, e1, k⟩ := sound_next hi hv
      have kc : YieldS P G y args h1 v h2 := hi _ _ _ hc
      exact ⟨rfl, ops_yield (h2 := h2) hw k2 k1 kc e1 k⟩
    · cases hv
  · cases hv
theorem sound_op (HT : Told P G C) (hi : IHS P G C ih) {ops : Array Oper} {o : Oper} {l : List Oper} {size : Nat} {a : Fr} (hv : evOp P G C ih ops o l size a h = some r) : ResS P G C (.ops ops (o :: l) size a) h r := by
  have skip : (∀ (ρ : Rho) (pa : Act), FR ρ a pa.tmps → Region.wanted o (yielded ops pa.tmps) = false) → evSkip ih ops o l size a h = some r → ResS P G C (.ops ops (o :: l) size a) h r := fun hw hv => by
    obtain ⟨a1, a', ds', h', rfl, e1, k⟩ := sound_next hi hv
    exact ⟨rfl, ops_skip hw e1 k⟩
  unfold evOp at hv
  split at hv
  · rename_i hg
    exact sound_run HT hi (fun ρ pa hf => wanted_none hg) hv
  · rename_i j w hg
    have hwt : ∀ (tmps : Array Value), Region.wanted o (yielded ops tmps) = (yielded ops tmps j == some w) := fun tmps => by unfold Region.wanted; rw [hg]
    split at hv
    · rename_i d hd
      have hyl : ∀ (tmps : Array Value), yielded ops tmps j = match tmps.getD d undef with | .bool b => some b | _ => none := fun tmps => by
        unfold yielded
        rw [hd, Option.bind_some, Array.getD_eq_getD_getElem?]
        cases tmps[d]? with
        | none => rfl
        | some x => cases x <;> rfl
      generalize hx : a.get d = x at hv
      unfold evG at hv
      split at hv
      · rename_i b
        cases hb : bxor b w <;> rw [hb] at hv
        · refine sound_run HT hi (fun ρ pa hf => ?_) hv
          have := hf d
          rw [hx] at this
          rw [hwt, hyl, this.bool_inv]
          revert hb
          cases b <;> cases w <;> simp [bxor]
        · refine skip (fun ρ pa hf => ?_) hv
          have := hf d
          rw [hx] at this
          rw [hwt, hyl, this.bool_inv]
          revert hb
          cases b <;> cases w <;> simp [bxor]
      · cases hv
      · rename_i n1 n2
        refine skip (fun ρ pa hf => ?_) hv
        have := hf d
        rw [hx] at this
        rw [hwt, hyl]
        generalize pa.tmps.getD d undef = pv at this ⊢
        cases this <;> first | rfl | exact absurd rfl (n1 _) | exact absurd rfl n2
    · rename_i hd
      refine skip (fun ρ pa hf => ?_) hv
      rw [hwt]
      unfold yielded
      rw [hd]
      rfl
theorem yielded_eq {ops : Array Oper} {j d : Nat} (hd : ((ops[j]?).bind (·.dst)) = some d) (tmps : Array Value) : yielded ops tmps j = match tmps.getD d undef with | .bool b => some b | _ => none := by
  unfold yielded
  rw [hd, Option.bind_some, Array.getD_eq_getD_getElem?]
  cases tmps[d]? with
  | none => rfl
  | some x => cases x <;> rfl
theorem sound_oneNx (HT : Told P G C) (hi : IHS P G C ih) {ops : Array Oper} {o : Oper} {a : Fr} {v : LV} {h1 : Hp} (hw : ∀ (ρ : Rho) (pa : Act), FR ρ a pa.tmps → Region.wanted o (yielded ops pa.tmps) = true) (hv : oneNx C ih (lop P G h a o) = some (v, h1)) : OneS P G ops o a h v h1 := by
  generalize hl : lop P G h a o = nx at hv
  unfold oneNx at hv
  split at hv
  · cases hv
    obtain ⟨k1, k2⟩ := lop_sound hl
    exact one_val hw k2 k1
  · rename_i f args h2
    obtain ⟨⟨rfl, k1⟩, k2⟩ := lop_sound hl
    generalize hc : evC C ih f args h2 = q at hv
    unfold valOf at hv
    split at hv
    · cases hv
      refine one_call hw k2 k1 ?_
      unfold evC at hc
      split at hc
      · rename_i c ec
        obtain ⟨⟨v', h3⟩, e3, e4⟩ := Option.map_eq_some_iff.1 hc
        cases e4
        exact HT.con f c ec _ _ _ _ e3
      · exact CallE.toS (hi _ _ _ hc)
    · cases hv
  · rename_i y args h2
    obtain ⟨⟨rfl, k1⟩, k2⟩ := lop_sound hl
    generalize hc : ih (.yield y args) h2 = q at hv
    unfold valOf at hv
    split at hv
    · cases hv
      exact one_yield hw k2 k1 (hi _ _ _ hc)
    · cases hv
  · cases hv
theorem one_sound (HT : Told P G C) (hi : IHS P G C ih) {ops : Array Oper} {o : Oper} {a : Fr} {v : LV} {h1 : Hp} (hv : one P G C ih ops o a h = some (v, h1)) : OneS P G ops o a h v h1 := by
  unfold one at hv
  cases hg : o.guard with
  | none => rw [hg] at hv; exact sound_oneNx HT hi (fun ρ pa hf => wanted_none hg) hv
  | some g =>
    obtain ⟨j, w⟩ := g
    have hwt : ∀ (tmps : Array Value), Region.wanted o (yielded ops tmps) = (yielded ops tmps j == some w) := fun tmps => by unfold Region.wanted; rw [hg]
    have hgt : gTmp ops o = (ops[j]?).bind (·.dst) := by unfold gTmp; rw [hg]; rfl
    rw [hg] at hv
    simp only at hv
    cases hd : gTmp ops o with
    | none =>
      rw [hd] at hv
      cases hv
      refine one_skip fun ρ pa hf => ?_
      rw [hwt]
      unfold yielded
      rw [← hgt, hd]
      rfl
    | some d =>
      rw [hd] at hv
      simp only at hv
      rw [hgt] at hd
      generalize hx : a.get d = x at hv
      unfold oneG at hv
      split at hv
      · rename_i b
        cases hb : bxor b w <;> rw [hb] at hv
        · refine sound_oneNx HT hi (fun ρ pa hf => ?_) hv
          have := hf d
          rw [hx] at this
          rw [hwt, yielded_eq hd, this.bool_inv]
          revert hb
          cases b <;> cases w <;> simp [bxor]
        · cases hv
          refine one_skip fun ρ pa hf => ?_
          have := hf d
          rw [hx] at this
          rw [hwt, yielded_eq hd, this.bool_inv]
          revert hb
          cases b <;> cases w <;> simp [bxor]
      · cases hv
      · rename_i n1 n2
        cases hv
        refine one_skip fun ρ pa hf => ?_
        have := hf d
        rw [hx] at this
        rw [hwt, yielded_eq hd]
        generalize pa.tmps.getD d undef = pv at this ⊢
        cases this <;> first | rfl | exact absurd rfl (n1 _) | exact absurd rfl n2
theorem sound_seq (hi : IHS P G C ih) {x y : Code} {rnd : Option Nat} {fn : FuncId} {size : Nat} {a : Fr} {ds : List Nat} {q : Option Res} (hgy : rnd = none → Good P G C fn y) (hq : ∀ e a1 ds1 h1, q = some (.ex e a1 ds1 h1) → CodeS P G x rnd fn size a ds h e a1 ds1 h1) (hv : evSeq ih y rnd fn size q = some r) (hne : ∀ v h', q ≠ some (.val v h')) :
    (∃ e a1 ds1 h1, r = .ex e a1 ds1 h1 ∧ e ≠ .normal ∧ CodeS P G x rnd fn size a ds h e a1 ds1 h1) ∨ ∃ a1 ds1 h1 e a' ds' h', r = .ex e a' ds' h' ∧ CodeS P G x rnd fn size a ds h .normal a1 ds1 h1 ∧ CodeS P G y rnd fn size a1 ds1 h1 e a' ds' h' := by
  unfold evSeq at hv
  split at hv
  · rename_i a1 ds1 h1
    obtain ⟨e, a', ds', h', rfl, k⟩ := code_inv (hi _ _ _ hv)
    exact .inr ⟨_, _, _, _, _, _, _, rfl, hq _ _ _ _ rfl, k hgy⟩
  · rename_i hnn
    subst hv
    cases r with
    | val v h' => exact absurd rfl (hne _ _)
    | ex e a1 ds1 h1 => exact .inl ⟨_, _, _, _, rfl, fun e' => by subst e'; exact hnn _ _ _ rfl, hq _ _ _ _ rfl⟩
theorem sound_code (HT : Told P G C) (hi : IHS P G C ih) {c : Code} {rnd : Option Nat} {fn : FuncId} {size : Nat} {a : Fr} {ds : List Nat} (hv : evCode P G C ih c rnd fn size a ds h = some r) : ResS P G C (.code c rnd fn size a ds) h r := by
  unfold evCode at hv
  split at hv
  · cases hv; exact fun _ => code_skip _ (.inl rfl)
  · cases hv; exact fun _ => code_skip _ (.inr ⟨_, rfl⟩)
  · cases hv; exact fun _ => code_ret
  · cases hv; exact fun _ => code_exit _
  · rename_i x y
    generalize hg : ih (.code x rnd fn size a ds) h = q at hv
    obtain ⟨e0, a0, ds0, h0, rfl⟩ : ∃ e a' ds' h', r = .ex e a' ds' h' := by
      unfold evSeq at hv
      split at hv
      · obtain ⟨e, a', ds', h', rfl, -⟩ := code_inv (hi _ _ _ hv); exact ⟨_, _, _, _, rfl⟩
      · subst hv; obtain ⟨e, a', ds', h', rfl, -⟩ := code_inv (hi _ _ _ hg); exact ⟨_, _, _, _, rfl⟩
    intro gd
    rcases sound_seq hi (x := x) (a := a) (ds := ds) (h := h) (fun e => (gd e).2) (fun e a1 ds1 h1 e' => hi _ _ _ (hg.trans e') (fun e => (gd e).1)) hv (fun v h' e' => (hi _ _ _ (hg.trans e')).elim) with ⟨e, a1, ds1, h1, he, hne, k⟩ | ⟨a1, ds1, h1, e, a', ds', h', he, k1, k2⟩
    · cases he; exact code_seq_out hne k
    · cases he; exact code_seq k1 k2
  · rename_i b x y
    generalize hb : aev a b = vb at hv
    unfold evCond at hv
    split at hv
    · obtain ⟨e, a', ds', h', rfl, k⟩ := code_inv (hi _ _ _ hv)
      exact fun gd => code_cond hb (k fun e => (gd e).1)
    · obtain ⟨e, a', ds', h', rfl, k⟩ := code_inv (hi _ _ _ hv)
      exact fun gd => code_cond hb (k fun e => (gd e).2)
    · cases hv
  · rename_i i b
    unfold evCut at hv
    split at hv
    · rename_i c ec
      obtain ⟨⟨e, a', h'⟩, hc, rfl⟩ := Option.map_eq_some_iff.1 hv
      intro gd
      cases rnd with
      | some l => cases ec
      | none =>
        cases ds with
        | cons _ _ => cases ec
        | nil =>
          exact (gd rfl).1 c ec _ _ _ _ _ _ hc
    · rename_i ec
      have gb : (rnd = none → Good P G C fn (.block i b)) → rnd = none → Good P G C fn b := fun gd e => (gd e).2
      generalize hg : ih (.code b rnd fn size a ds) h = q at hv
      unfold evBlk at hv
      split at hv
      · rename_i j a' ds' h'
        have k : (rnd = none → Good P G C fn b) → CodeS P G b rnd fn size a ds h (.exit j) a' ds' h' := hi _ _ _ hg
        cases hj : Nat.beq j i <;> rw [hj] at hv
        · cases hv
          have : ¬ j = i := fun e => by subst e; simp at hj
          exact fun gd => code_block (by simp [this]) (k (gb gd))
        · cases hv
          exact fun gd => code_block (by simp [Nat.eq_of_beq_eq_true hj]) (k (gb gd))
      · rename_i hne
        subst hv
        obtain ⟨e, a', ds', h', rfl, k⟩ := code_inv (hi _ _ _ hg)
        refine fun gd => code_block ?_ (k (gb gd))
        cases e with
        | exit j => exact absurd rfl (hne _ _ _ _)
        | _ => rfl
  · rename_i b
    generalize hg : ih (.code b rnd fn size a ds) h = q at hv
    obtain ⟨e0, a0, ds0, h0, rfl⟩ : ∃ e a' ds' h', r = .ex e a' ds' h' := by
      unfold evSeq at hv
      split at hv
      · obtain ⟨e, a', ds', h', rfl, -⟩ := code_inv (hi _ _ _ hv); exact ⟨_, _, _, _, rfl⟩
      · subst hv; obtain ⟨e, a', ds', h', rfl, -⟩ := code_inv (hi _ _ _ hg); exact ⟨_, _, _, _, rfl⟩
    intro gd
    rcases sound_seq hi (x := b) (a := a) (ds := ds) (h := h) gd (fun e a1 ds1 h1 e' => hi _ _ _ (hg.trans e') gd) hv (fun v h' e' => (hi _ _ _ (hg.trans e')).elim) with ⟨e, a1, ds1, h1, he, hne, k⟩ | ⟨a1, ds1, h1, e, a', ds', h', he, k1, k2⟩
    · cases he; exact code_loop_out hne k
    · cases he; exact code_loop k1 k2
  · rename_i id ops d
    cases d with
    | true =>
      simp only [cond_true] at hv
      unfold evDraw at hv
      obtain ⟨q, hq, hv⟩ := Option.bind_eq_some_iff.1 hv
      cases hb : okPairs q.1 q.1 0 && okReads P G C ih ops q.1 ((0, h) :: epochs q.1 0) q.1 0 0 <;> rw [hb] at hv
      · cases hv
      · rw [Bool.and_eq_true] at hb
        cases hv
        exact fun _ => code_draw HT.mix (fun o a h v h1 e => one_sound HT hi e) hq hb.1 hb.2
    | false =>
      simp only [cond_false] at hv
      generalize hg : ih (.ops ops ops.toList size a) h = q at hv
      unfold evOps at hv
      split at hv
      · rename_i e a' ds' h'
        cases hv
        obtain ⟨rfl, k⟩ := hi _ _ _ hg
        exact fun _ => code_region k
      · cases hv
  · rename_i f params assign body
    have fin : ∀ {l : Nat} {ds1 : List Nat} {h1 : Hp}, EnterS P G params assign body rnd fn size a ds h l ds1 h1 → evRfCall ih l rnd fn size a ds1 (ltarget h1 [.fn (.yield l) [] []] (aev a f)) = some r → ResS P G C (.code (.rangeFunc f params assign body) rnd fn size a ds) h r := fun {l ds1 h1} hE hv => by
      generalize ht : ltarget h1 [.fn (.yield l) [] []] (aev a f) = nx at hv
      unfold evRfCall at hv
      split at hv
      · rename_i g args h3
        have hh : h3 = h1 := by
          unfold ltarget at ht
          split at ht
          · cases ht; rfl
          · cases ht
          · cases ht
        subst hh
        generalize hg : ih (.call g args) h3 = q at hv
        unfold evRfEnd at hv
        split at hv
        · rename_i v h4
          have kc : CallE P G g args h3 v h4 := hi _ _ _ hg
          generalize hb : h4.at l = ob at hv
          unfold evRfObj at hv
          split at hv
          · cases hv
            exact fun _ => code_range hE ht kc hb (by simp) ⟨rfl, rfl, rfl, rfl⟩
          · rename_i p _ _ _ _ _ _ _
            cases hj : isJump p <;> rw [hj] at hv
            · cases hv
            · obtain ⟨e, a', ds', h', rfl, k⟩ := code_inv (hi _ _ _ hv)
              have gp : Good P G C fn p := by cases p <;> first | trivial | cases hj
              exact fun _ => code_range hE ht kc hb (by simp) (k fun _ => gp)
          · cases hv
        · cases hv
      · cases hv
    unfold evRange at hv
    split at hv
    · exact fin enter_outer hv
    · split at hv
      · rename_i hb
        exact fin (enter_inner hb) hv
      · cases hv
  · cases hv
theorem ev_sound (HT : Told P G C) : ∀ n, IHS P G C (ev P G C n)
  | 0, c, h, r, e => by cases e
  | n + 1, c, h, r, e => by
    have hi := ev_sound HT n
    change evStep P G C (ev P G C n) c h = some r at e
    unfold evStep at e
    split at e
    · exact sound_call HT hi e
    · exact sound_yield hi e
    · cases e; exact ⟨rfl, ops_nil⟩
    · exact sound_op HT hi e
    · exact sound_code HT hi e
end
end Go.Proofs.Eng
