/- The machine that hands on comes to what the logical machine comes to: commands. Conditions: none. -/
import Derived.Test.YtbnmhhbncggjkaaGreatDoorEngCq
set_option linter.unusedVariables false
set_option linter.unusedSimpArgs false
namespace Go.Proofs.Eng
open Go
theorem T.set_same {α : Type} {z v : α} (hv : v ≠ z) : ∀ (t : T α) (i : Nat), T.get z t i = v → T.set z v t i = t
  | .lf, i, e => absurd (show z = v from e).symm hv
  | .nd x a b, i, e => by
    have e' : Bool.rec (Bool.rec (T.get z b (Nat.sub (Nat.div i 2) 1)) (T.get z a (Nat.div i 2)) (Nat.beq (Nat.mod i 2) 1)) x (Nat.beq i 0) = v := e
    show Bool.rec (Bool.rec (.nd x a (T.set z v b (Nat.sub (Nat.div i 2) 1))) (.nd x (T.set z v a (Nat.div i 2)) b) (Nat.beq (Nat.mod i 2) 1)) (.nd v a b) (Nat.beq i 0) = T.nd x a b
    cases h0 : Nat.beq i 0 <;> rw [h0] at e'
    · cases h1 : Nat.beq (Nat.mod i 2) 1 <;> rw [h1] at e'
      · show T.nd x a _ = _
        rw [T.set_same hv b _ e']
      · show T.nd x _ b = _
        rw [T.set_same hv a _ e']
    · show T.nd v a b = _
      rw [show x = v from e']
theorem Fr.put_same {a : Fr} {d : Nat} {b : Bool} (e : a.get d = .bool b) : a.put d (.bool b) = a := T.set_same (fun h => by cases h) _ _ e
section
variable {R : Type} {P : Program} {G : Gl} {K : KOrc} {kih : KIH R} {ih : IH} {h h' : Hp} {a : Fr} {o : Oper} {r : R}
def KS (kih : KIH R) (ih : IH) : Prop := ∀ c h k r, kih c h k = some r → ∃ x, ih c h = some x ∧ k x = some r
theorem kVal_some {f : LV → Hp → Option R} {x : Res} (e : kVal f x = some r) : ∃ v h', x = .val v h' ∧ f v h' = some r := by
  unfold kVal at e
  split at e
  · exact ⟨_, _, rfl, e⟩
  · cases e
theorem kCon_some (hi : KS kih ih) {f : FuncId} {args : List LV} {k : Res → Option R} (e : kCon K kih f args h k = some r) : ∃ x, evC K.orc ih f args h = some x ∧ k x = some r := by
  unfold kCon at e
  unfold evC
  have hc : K.orc f = pickO K f := rfl
  rw [hc]
  unfold pickO
  split at e
  · rename_i g eg
    obtain ⟨x, h1, h2⟩ := kpick_some e
    simp only [Option.map_some, h1]
    exact ⟨_, rfl, h2⟩
  · rename_i eg
    split at e
    · rename_i c ec
      rw [ec]
      obtain ⟨x, h1, h2⟩ := kpick_some e
      simp only [Option.map_some, h1]
      exact ⟨_, rfl, h2⟩
    · rename_i ec
      rw [ec]
      exact hi _ _ _ _ e
theorem kNx_some (hi : KS kih ih) {f : LV → Hp → Option R} {nx : Nx} (e : kNx K kih f nx = some r) : ∃ v h', oneNx K.orc ih (some nx) = some (v, h') ∧ f v h' = some r := by
  unfold kNx at e
  split at e
  · exact ⟨_, _, rfl, e⟩
  · obtain ⟨x, h1, h2⟩ := kCon_some hi e
    obtain ⟨v, h', rfl, h3⟩ := kVal_some h2
    exact ⟨v, h', by simp [oneNx, h1, valOf], h3⟩
  · obtain ⟨x, h1, h2⟩ := hi _ _ _ _ e
    obtain ⟨v, h', rfl, h3⟩ := kVal_some h2
    exact ⟨v, h', by simp [oneNx, h1, valOf], h3⟩
theorem klopNx_some (hi : KS kih ih) {f : LV → Hp → Option R} (e : klop P G h a o (kNx K kih f) = some r) : ∃ v h', oneNx K.orc ih (lop P G h a o) = some (v, h') ∧ f v h' = some r := by
  obtain ⟨nx, h1, e⟩ := klop_some e
  rw [h1]
  exact kNx_some hi e
theorem kOne_some (hi : KS kih ih) {ops : Array Oper} {f : Fr → LV → Hp → Option R} (e : kOne P G K kih ops o a h f = some r) : ∃ v h1, one P G K.orc ih ops o a h = some (v, h1) ∧ f a v h1 = some r := by
  unfold kOne at e
  unfold one
  split at e
  · rename_i hg
    rw [hg]
    exact klopNx_some hi e
  · rename_i g hg
    rw [hg]
    simp only
    split at e
    · rename_i hd
      rw [hd]
      exact ⟨_, _, rfl, e⟩
    · rename_i d hd
      rw [hd]
      simp only [oneG]
      split at e
      · rename_i b hb
        rw [hb]
        simp only
        rcases tst_some.1 e with ⟨rfl, e⟩ | ⟨rfl, e⟩
        · rw [Fr.put_same hb] at e
          cases hw : g.2 <;> rw [hw] at e
          · exact ⟨_, _, rfl, e⟩
          · exact klopNx_some hi e
        · rw [Fr.put_same hb] at e
          cases hw : g.2 <;> rw [hw] at e
          · exact klopNx_some hi e
          · exact ⟨_, _, rfl, e⟩
      · cases e
      · rename_i n1 n2
        split
        · rename_i hb; exact absurd hb (n1 _)
        · rename_i hb; exact absurd hb n2
        · exact ⟨_, _, rfl, e⟩
theorem evNx_one {C : Orc} {ops : Array Oper} {l : List Oper} {size : Nat} {v : LV} {q : Option Nx} (e : oneNx C ih q = some (v, h')) : evNx C ih ops o l size a q = evNext ih ops o l size a v h' := by
  unfold oneNx at e
  have val : ∀ {x : Option Res}, valOf x = some (v, h') → evCont ih ops o l size a x = evNext ih ops o l size a v h' := fun {x} e => by
    unfold valOf at e
    split at e
    · cases e; rfl
    · cases e
  split at e
  · cases e; rfl
  · exact val e
  · exact val e
  · cases e
theorem evOp_one {C : Orc} {ops : Array Oper} {l : List Oper} {size : Nat} {v : LV} (e : one P G C ih ops o a h = some (v, h')) : evOp P G C ih ops o l size a h = evNext ih ops o l size a v h' := by
  unfold one at e
  unfold evOp
  split at e
  · rename_i hg
    rw [hg]
    exact evNx_one e
  · rename_i g hg
    obtain ⟨j, w⟩ := g
    have hd' : gTmp ops o = (ops[j]?).bind (·.dst) := by unfold gTmp; rw [hg]; rfl
    rw [hg]
    simp only
    split at e
    · rename_i d hd
      rw [hd'] at hd
      rw [hd]
      simp only
      unfold oneG at e
      unfold evG
      split at e
      · rename_i b hb
        simp only at e ⊢
        cases hx : bxor b w <;> rw [hx] at e
        · exact evNx_one e
        · cases e; rfl
      · cases e
      · rename_i n1 n2
        cases e
        rfl
    · rename_i hd
      rw [hd'] at hd
      rw [hd]
      cases e
      rfl
theorem kNext_some (hi : KS kih ih) {ops : Array Oper} {l : List Oper} {size : Nat} {v : LV} {k : Res → Option R} (e : kNext kih ops o l size a v h k = some r) : ∃ x, evNext ih ops o l size a v h = some x ∧ k x = some r := by
  unfold kNext at e
  unfold evNext
  split at e
  · rename_i hp
    rw [hp]
    exact hi _ _ _ _ e
  · cases e
theorem ktrace_some (hi : KS kih ih) {ops : Array Oper} {size : Nat} : ∀ (l : List Oper) (i : Nat) (bs : List Nat) (a : Fr) (h : Hp) {f : List Row → Fr → Hp → Option R}, ktrace P G K kih ops size l i bs a h f = some r → ∃ q, trace P G K.orc ih ops size l i bs a h = some q ∧ f q.1 q.2.1 q.2.2 = some r
  | [], i, bs, a, h, f, e => ⟨_, rfl, e⟩
  | o :: l, i, bs, a, h, f, e => by
    unfold ktrace at e
    unfold trace
    split at e
    · rename_i b hb
      obtain ⟨v, h1, e1, e⟩ := kOne_some hi e
      split at e
      · rename_i a' hp
        obtain ⟨q, e2, e3⟩ := ktrace_some hi l _ _ _ _ e
        have hk : kkind K a o = kindP K.orc a o := by
          unfold kkind kindP
          rfl
        rw [hk] at e3
        simp only [hb, e1, Option.bind_some]
        rw [hp]
        simp only [Option.bind_some]
        rw [e2]
        exact ⟨_, rfl, e3⟩
      · cases e
    · cases e
theorem eqB_k {a b : Bool} (h : keqB a b = true) : eqB a b = true := by cases a <;> cases b <;> first | rfl | cases h
theorem eq0_k {x y : LV} (h : keq0 x y = true) : eq0 x y = true := by
  unfold keq0 at h
  split at h <;> first | (cases h; done) | skip
  · exact eqB_k h
  · rename_i k a k' b
    unfold eq0
    simp only
    split at h
    · rename_i hk; rw [if_pos hk]; exact h
    · cases h
  · exact h
  · rfl
  · rename_i a b c d
    unfold eq0
    simp only
    cases hb : Nat.beq a c <;> rw [hb] at h
    · cases h
    · exact h
  · rename_i a b c d
    unfold eq0
    simp only
    cases hb : Nat.beq a c <;> rw [hb] at h
    · cases h
    · exact h
  · rfl
  · rename_i a b c k d e f k'
    unfold eq0
    simp only
    cases hb : (Nat.beq a d && sameCap k k') <;> rw [hb] at h
    · cases h
    · rw [Bool.and_eq_true] at hb
      simp only [cond_true, band_true] at h
      rw [hb.1, show Nat.beq b e = true from h.1, show Nat.beq c f = true from h.2.1]
      have h2 := hb.2
      have h3 := h.2.2
      cases k <;> cases k' <;> first | rfl | (cases h2; done) | exact h3
  · rfl
  · exact h
  · rfl
  · exact h
  · exact h
  · rfl
theorem eqL_k : ∀ {x y : List LV}, keqL x y = true → eqL x y = true
  | [], [], _ => rfl
  | x :: r, y :: s, h => by
    simp only [keqL, band_true] at h
    simp only [eqL, Bool.and_eq_true]
    exact ⟨eq0_k h.1, eqL_k h.2⟩
  | [], _ :: _, h => by simp [keqL] at h
  | _ :: _, [], h => by simp [keqL] at h
theorem eqV_k {x y : LV} (h : keqV x y = true) : eqV x y = true := by
  unfold keqV at h
  split at h
  · rename_i t a u b
    unfold eqV
    simp only
    cases hb : Nat.beq t u <;> rw [hb] at h
    · cases h
    · exact eq0_k h
  · exact eqL_k h
  · exact eqL_k h
  · rename_i n1 n2 n3
    unfold eqV
    split
    · exact absurd rfl (n1 _ _ _ _ rfl)
    · exact absurd rfl (n2 _ _ rfl)
    · exact absurd rfl (n3 _ _ rfl)
    · exact eq0_k h
theorem kokRead_some (hi : KS kih ih) {ops : Array Oper} {all : List Row} {x : Row} {i own : Nat} {k : Option R} : ∀ (es : List (Nat × Hp)), kokRead P G K kih ops all x i own k es = some r → okRead P G K.orc ih ops all x i own es = true ∧ k = some r
  | [], e => ⟨rfl, e⟩
  | y :: es, e => by
    unfold kokRead at e
    simp only [okRead]
    cases hb : (!Nat.beq y.1 own && may x.b i y.1 all 0) <;> rw [hb] at e
    · obtain ⟨h1, h2⟩ := kokRead_some hi es e
      rw [h1]
      exact ⟨rfl, h2⟩
    · simp only [cond_true] at e
      obtain ⟨v, h1, e1, e⟩ := kOne_some hi e
      obtain ⟨h2, e⟩ := ast_some.1 e
      obtain ⟨h3, h4⟩ := kokRead_some hi es e
      rw [h3, e1]
      simp only [sameAt, cond_true, Bool.and_true]
      exact ⟨eqV_k h2, h4⟩
theorem kokReads_some (hi : KS kih ih) {ops : Array Oper} {all : List Row} {eps : List (Nat × Hp)} {k : Option R} : ∀ (l : List Row) (i own : Nat), kokReads P G K kih ops all eps k l i own = some r → okReads P G K.orc ih ops all eps l i own = true ∧ k = some r
  | [], _, _, e => ⟨rfl, e⟩
  | x :: l, i, own, e => by
    unfold kokReads at e
    simp only [okReads]
    cases hb : Nat.beq x.k 1 <;> rw [hb] at e
    · obtain ⟨h1, h2⟩ := kokReads_some hi l _ _ e
      rw [h1]
      exact ⟨rfl, h2⟩
    · obtain ⟨h1, e⟩ := kokRead_some hi _ e
      obtain ⟨h2, h3⟩ := kokReads_some hi l _ _ e
      have h4 : (bif Nat.beq x.k 2 then i + 1 else own) = own := by
        have := Nat.eq_of_beq_eq_true hb
        rw [this]
        rfl
      rw [h4, h2]
      simp only [cond_true, h1]
      exact ⟨rfl, h3⟩
theorem klresult_some {x : ResultVar} {f : LV → Option R} (e : klresult P G h a x f = some r) : ∃ v, lresult P G h a x = some v ∧ f v = some r := by
  unfold klresult at e
  unfold lresult
  split at e
  · exact ⟨_, rfl, e⟩
  · exact kload_some e
theorem klresultL_some : ∀ (l : List ResultVar) {f : List LV → Option R}, klresultL P G h a l f = some r → ∃ vs, lresultL P G h a l = some vs ∧ f vs = some r
  | [], f, e => ⟨_, rfl, e⟩
  | x :: l, f, e => by
    unfold klresultL at e
    obtain ⟨v, h1, e⟩ := klresult_some e
    obtain ⟨vs, h2, e⟩ := klresultL_some l e
    exact ⟨_, by unfold lresultL; rw [h1]; simp only [Option.bind_some]; rw [h2]; rfl, e⟩
theorem kgc_some {n : Nat} {v : LV} {f : Hp → Option R} (e : kgc n v h f = some r) : f (gc n v h) = some r := by
  unfold kgc at e
  simp only [litLe] at e
  unfold gc
  cases hb : (Nat.ble n h.n && h.ups.all fun u => Nat.ble n u.1 || Nat.ble u.2 n) <;> rw [hb] at e
  · rw [show (Nat.ble n h.n && Nat.ble (topV v) n && h.ups.all fun u => Nat.ble n u.1 || Nat.ble u.2 n) = false by
      cases h1 : Nat.ble n h.n <;> simp only [h1, Bool.true_and, Bool.false_and] at hb ⊢
      rw [hb, Bool.and_false]]
    exact e
  · rw [Bool.and_eq_true] at hb
    rcases tst_some.1 e with ⟨h1, e⟩ | ⟨h1, e⟩
    · rw [hb.1, hb.2, show Nat.ble (topV v) n = true from h1]
      exact e
    · rw [hb.1, hb.2, show Nat.ble (topV v) n = false from h1]
      exact e
theorem kRet_some {fn : Func} {k : Res → Option R} {ds : List Nat} {h0 : Hp} (e : kRet P G h0 fn k a ds h = some r) : ∃ x, ((unmark ds h).bind fun h2 => (lresultL P G h2 a fn.results.toList).map fun vs => Res.val (oneOf vs) (gc h0.n (oneOf vs) h2)) = some x ∧ k x = some r := by
  unfold kRet at e
  split at e
  · rename_i h2 e1
    obtain ⟨vs, e2, e⟩ := klresultL_some _ e
    rw [e1]
    simp only [Option.bind_some, e2]
    exact ⟨_, rfl, kgc_some e⟩
  · cases e
theorem kCall_some (hi : KS kih ih) {f : FuncId} {args : List LV} {k : Res → Option R} (e : kCall P G kih f args h k = some r) : ∃ x, evCall P G ih f args h = some x ∧ k x = some r := by
  unfold kCall at e
  unfold evCall
  split at e
  · rename_i fn hf
    rw [hf]
    simp only [Option.bind_some]
    cases hb : fn.body with
    | none => rw [hb] at e; cases e
    | some c =>
      rw [hb] at e
      obtain ⟨x, e1, e⟩ := hi _ _ _ _ e
      simp only [evBody, e1]
      split at e
      · exact kRet_some e
      · exact kRet_some e
      · cases e
  · cases e
theorem kYield_some (hi : KS kih ih) {l : Nat} {args : List LV} {k : Res → Option R} (e : kYield kih l args h k = some r) : ∃ x, evYield ih l args h = some x ∧ k x = some r := by
  unfold kYield at e
  unfold evYield
  split at e
  · rename_i hb
    rw [hb]
    simp only [evYieldO]
    split at e
    · rename_i t ht
      rw [ht]
      simp only [Option.bind_some]
      obtain ⟨x, e1, e⟩ := hi _ _ _ _ e
      rw [e1]
      unfold kYieldA at e
      split at e
      · rename_i t1 ds h1
        simp only [evYieldA]
        split at e
        · rename_i hb1
          rw [hb1]
          simp only [evYieldM]
          obtain ⟨x, e2, e⟩ := hi _ _ _ _ e
          rw [e2]
          unfold kYieldB at e
          split at e
          · simp only [evYieldB]
            split at e
            · exact ⟨_, by assumption, e⟩
            · cases e
          · cases e
        · cases e
      · cases e
    · cases e
  · cases e
theorem kSeq_some (hi : KS kih ih) {y : Code} {rnd : Option Nat} {fn : FuncId} {size : Nat} {k : Res → Option R} {x : Res} (e : kSeq kih y rnd fn size k x = some r) : ∃ z, evSeq ih y rnd fn size (some x) = some z ∧ k z = some r := by
  unfold kSeq at e
  unfold evSeq
  split at e
  · exact hi _ _ _ _ e
  · rename_i hn
    split
    · rename_i a1 ds1 h1 hq
      cases hq
      exact absurd rfl (hn _ _ _)
    · exact ⟨_, rfl, e⟩
theorem kBlk_some {i : Nat} {k : Res → Option R} {x : Res} (e : kBlk i k x = some r) : ∃ z, evBlk i (some x) = some z ∧ k z = some r := by
  unfold kBlk at e
  unfold evBlk
  split at e
  · rename_i j a1 ds1 h1
    simp only
    cases hj : Nat.beq j i <;> rw [hj] at e <;> exact ⟨_, rfl, e⟩
  · rename_i hn
    split
    · rename_i hq
      cases hq
      exact absurd rfl (hn _ _ _ _)
    · exact ⟨_, rfl, e⟩
theorem sub_same {c : Operand} {b : Bool} (e : aev a c = .bool b) : sub a c b = a := by
  unfold sub
  split
  · exact Fr.put_same e
  · rfl
theorem kCond_some (hi : KS kih ih) {c : Operand} {x y : Code} {rnd : Option Nat} {fn : FuncId} {size : Nat} {ds : List Nat} {k : Res → Option R} (e : kCond kih c x y rnd fn size a ds h k (aev a c) = some r) : ∃ z, evCond ih x y rnd fn size a ds h (aev a c) = some z ∧ k z = some r := by
  generalize hv : aev a c = v at e
  unfold kCond at e
  split at e
  · rcases tst_some.1 e with ⟨rfl, e⟩ | ⟨rfl, e⟩
    · rw [sub_same hv] at e
      exact hi _ _ _ _ e
    · rw [sub_same hv] at e
      exact hi _ _ _ _ e
  · cases e
theorem kRfObj_some (hi : KS kih ih) {l : Nat} {rnd : Option Nat} {fn : FuncId} {size : Nat} {ds : List Nat} {k : Res → Option R} {ob : LObj} (e : kRfObj kih l rnd fn size a ds h k ob = some r) : ∃ z, evRfObj ih l rnd fn size a ds h ob = some z ∧ k z = some r := by
  unfold kRfObj at e
  unfold evRfObj
  split at e
  · exact ⟨_, rfl, e⟩
  · rename_i p _ _ _ _ _ _ _
    simp only
    cases hj : isJump p <;> rw [hj] at e
    · cases e
    · exact hi _ _ _ _ e
  · cases e
theorem kRf_some (hi : KS kih ih) {f : Operand} {params : Array Tmp} {assign body : Code} {rnd : Option Nat} {fn : FuncId} {size : Nat} {ds : List Nat} {d : Nat} {k : Res → Option R} (e : kRf kih f params assign body rnd fn size a ds h d k = some r) : ∃ z, evRf ih f params assign body rnd fn size a ds h d = some z ∧ k z = some r := by
  unfold kRf at e
  unfold evRf
  split at e
  · rename_i hl
    rw [hl]
    simp only [evRfCall]
    obtain ⟨x, e1, e⟩ := hi _ _ _ _ e
    obtain ⟨v, h4, rfl, e⟩ := kVal_some e
    rw [e1]
    exact kRfObj_some hi e
  · cases e
theorem kDraw_some (hi : KS kih ih) {ops : Array Oper} {size : Nat} {ds : List Nat} {k : Res → Option R} (e : kDraw P G K kih ops size a ds h k = some r) : ∃ z, evDraw P G K.orc ih ops size a ds h = some z ∧ k z = some r := by
  unfold kDraw at e
  unfold evDraw
  obtain ⟨q, h1, e⟩ := ktrace_some hi _ _ _ _ _ e
  rw [h1]
  simp only [Option.bind_some]
  cases hb : okPairs q.1 q.1 0 <;> rw [hb] at e
  · cases e
  · obtain ⟨h2, h3⟩ := kokReads_some hi _ _ _ e
    rw [h2]
    exact ⟨_, rfl, h3⟩
theorem kCode_some (hi : KS kih ih) {c : Code} {rnd : Option Nat} {fn : FuncId} {size : Nat} {ds : List Nat} {k : Res → Option R} (e : kCode P G K kih c rnd fn size a ds h k = some r) : ∃ z, evCode P G K.orc ih c rnd fn size a ds h = some z ∧ k z = some r := by
  unfold kCode at e
  unfold evCode
  split at e
  · exact ⟨_, rfl, e⟩
  · exact ⟨_, rfl, e⟩
  · exact ⟨_, rfl, e⟩
  · exact ⟨_, rfl, e⟩
  · obtain ⟨x, e1, e⟩ := hi _ _ _ _ e
    simp only
    rw [e1]
    exact kSeq_some hi e
  · exact kCond_some hi e
  · rename_i i b
    have hc : cutOf K.orc rnd ds fn i = (kcutOf K rnd ds fn i).map fun c size a h => pickR (c size a h) := by cases rnd <;> cases ds <;> rfl
    simp only
    rw [hc]
    split at e
    · rename_i c ec
      rw [ec]
      obtain ⟨x, h1, e⟩ := kpick_some e
      simp only [Option.map_some, evCut, h1]
      exact ⟨_, rfl, e⟩
    · rename_i ec
      rw [ec]
      obtain ⟨x, e1, e⟩ := hi _ _ _ _ e
      simp only [Option.map_none, evCut]
      rw [e1]
      exact kBlk_some e
  · obtain ⟨x, e1, e⟩ := hi _ _ _ _ e
    simp only
    rw [e1]
    exact kSeq_some hi e
  · rename_i d
    cases d with
    | true => exact kDraw_some hi e
    | false =>
      obtain ⟨x, e1, e⟩ := hi _ _ _ _ e
      simp only [cond_false]
      rw [e1]
      simp only [evOps]
      split at e
      · exact ⟨_, rfl, e⟩
      · cases e
  · unfold kRange at e
    unfold evRange
    split at e
    · exact kRf_some hi e
    · simp only
      split at e
      · rename_i hb
        rw [hb]
        exact kRf_some hi e
      · cases e
  · cases e
theorem evk_ev (n : Nat) : KS (evk (R := R) P G K n) (ev P G K.orc n) := by
  induction n with
  | zero => intro c h k r e; cases e
  | succ n hi =>
    intro c h k r e
    change kStep P G K (evk P G K n) c h k = some r at e
    change ∃ x, evStep P G K.orc (ev P G K.orc n) c h = some x ∧ k x = some r
    unfold kStep at e
    unfold evStep
    split at e
    · exact kCall_some hi e
    · exact kYield_some hi e
    · exact ⟨_, rfl, e⟩
    · obtain ⟨v, h1, e1, e⟩ := kOne_some hi e
      obtain ⟨x, e2, e3⟩ := kNext_some hi e
      simp only
      rw [evOp_one e1, e2]
      exact ⟨_, rfl, e3⟩
    · exact kCode_some hi e
/-- A call, run with what comes behind handed on. -/
theorem evk_call (HT : Told P G K.orc) {n : Nat} {f : FuncId} {args : List LV} {k : Res → Option R} (e : evk P G K n (.call f args) h k = some r) : ∃ v h', CallE P G f args h v h' ∧ k (.val v h') = some r := by
  obtain ⟨x, h1, h2⟩ := evk_ev n _ _ _ _ e
  obtain ⟨v, h', rfl, k1⟩ := call_inv (ev_sound HT n _ _ _ h1)
  exact ⟨v, h', k1, h2⟩
/-- Code that no loop over a function runs. -/
theorem evk_code (HT : Told P G K.orc) {n : Nat} {c : Code} {fn : FuncId} {size : Nat} {ds : List Nat} {k : Res → Option R} (gd : Good P G K.orc fn c) (e : evk P G K n (.code c none fn size a ds) h k = some r) : ∃ x a' ds' h', CodeS P G c none fn size a ds h x a' ds' h' ∧ k (.ex x a' ds' h') = some r := by
  obtain ⟨x, h1, h2⟩ := evk_ev n _ _ _ _ e
  obtain ⟨x', a', ds', h', rfl, k1⟩ := code_inv (ev_sound HT n _ _ _ h1)
  exact ⟨x', a', ds', h', k1 (fun _ => gd), h2⟩
end
end Go.Proofs.Eng
