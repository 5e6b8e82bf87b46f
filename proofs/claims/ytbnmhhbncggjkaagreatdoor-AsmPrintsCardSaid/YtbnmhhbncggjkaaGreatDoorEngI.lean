/- The logical machine: conversions, cuts of texts and rows, one operand. Conditions: none. -/
import Derived.Test.YtbnmhhbncggjkaaGreatDoorEngH
import Derived.Laws.BytesString
import Derived.Laws.Append
import Derived.Laws.AppendOwn
set_option linter.unusedVariables false
set_option linter.unusedSimpArgs false
namespace Go.Proofs.Eng
open Go
section
variable {P : Program} {G : Gl} {ρ : Rho} {h h' : Hp} {w : World} {a : Fr} {o : Oper} {v : LV}
theorem op_un {op : UnOp} {t : TypeId} {x : Operand} (ho : o.op = .unOp op t x) (hv : lun op (aev a x) = some v) : OpS P G h a o v h := opS_still fun ρ w pa hr hf => by
  have hx := aev_VR hf x
  have run : ∀ {pv : Value}, (Op.unary op (pa.eval x)).run P w = .ok pv w → (execOp pa.eval o).run P w = .ok (.value pv) w := fun e => by
    unfold execOp; simp only [ho]; exact run_v e
  unfold lun at hv
  split at hv <;> first | (cases hv; done) | skip
  · rename_i k n e
    cases hv
    rw [e] at hx
    exact ⟨.int k (k.wrap (0 - n)), by rw [wrapF_eq]; exact .int _ _, run (by rw [hx.int_inv]; rfl)⟩
  · rename_i k n e
    simp only [lbits, Option.map_some, Option.some.injEq] at hv
    subst hv
    rw [e] at hx
    exact ⟨_, by rw [wrapF_eq]; exact .int _ _, run (by rw [hx.int_inv]; rfl)⟩
  · rename_i b e
    cases hv
    rw [e] at hx
    exact ⟨.bool (!b), .bool _, run (by rw [hx.bool_inv]; rfl)⟩
/-- Bounds of a cut. -/
inductive OVR (ρ : Rho) : Option LV → Option Value → Prop
  | none : OVR ρ none none
  | some {x : LV} {y : Value} (h : VR ρ x y) : OVR ρ (some x) (some y)
theorem OVR.map {pa : Act} (hf : FR ρ a pa.tmps) (x : Option Operand) : OVR ρ (x.map (aev a)) (x.map pa.eval) := by
  cases x with
  | none => exact .none
  | some x => exact .some (aev_VR hf x)
theorem run_bnd {y d r : Nat} {x : Option LV} {px : Option Value} (hx : OVR ρ x px) (hb : bnd y x d = some r) (code : BoundsCode) (w : World) :
    (∃ pv, px = some pv ∧ (Instr.sliceBound pv y code).run P w = .ok r w ∧ r ≤ y) ∨ (px = none ∧ r = d) := by
  cases hx with
  | none => simp only [bnd, Option.some.injEq] at hb; exact .inr ⟨rfl, hb.symm⟩
  | some hv =>
    rename_i x pv
    unfold bnd at hb
    split at hb
    · rename_i k i e
      cases e
      cases hc : decide (0 ≤ i) && Nat.ble i.toNat y <;> rw [hc] at hb
      · cases hb
      · simp only [Bool.and_eq_true, decide_eq_true_eq] at hc
        have hle := Nat.le_of_ble_eq_true hc.2
        simp only [cond_true, Option.some.injEq] at hb
        subst hb
        refine .inl ⟨_, rfl, ?_, hle⟩
        rw [hv.int_inv]
        have : 0 ≤ i ∧ i ≤ y := by omega
        simp [Instr.sliceBound, asIntOf, this]
    · cases ‹some _ = none›
    · cases hb
theorem run_bounds {isS : Bool} {n cap hh l : Nat} {lo hi : Option LV} {plo phi : Option Value} (hlo : OVR ρ lo plo) (hhi : OVR ρ hi phi) (hn : n ≤ cap) (h1 : bnd n hi n = some hh) (h2 : bnd hh lo 0 = some l) (w : World) :
    (Instr.sliceBounds isS n cap plo phi none).run P w = .ok (l, hh, cap) w ∧ hh ≤ n ∧ l ≤ hh := by
  have hhn : hh ≤ n := by
    rcases run_bnd (P := P) hhi h1 .index w with ⟨_, _, _, h⟩ | ⟨_, h⟩ <;> omega
  have hl : l ≤ hh := by
    rcases run_bnd (P := P) hlo h2 .index w with ⟨_, _, _, h⟩ | ⟨_, h⟩ <;> omega
  refine ⟨?_, hhn, hl⟩
  have h1' : bnd cap hi n = some hh := by
    unfold bnd at h1 ⊢
    split at h1
    · rename_i k i
      cases hc : decide (0 ≤ i) && Nat.ble i.toNat n <;> rw [hc] at h1
      · cases h1
      · simp only [Bool.and_eq_true] at hc
        have hle := Nat.le_of_ble_eq_true hc.2
        have : Nat.ble i.toNat cap = true := Nat.ble_eq_true_of_le (by omega)
        rw [hc.1, this]
        exact h1
    · exact h1
    · cases h1
  unfold Instr.sliceBounds
  cases hhi with
  | none =>
    simp only [bnd, Option.some.injEq] at h1
    subst h1
    cases hlo with
    | none =>
      simp only [bnd, Option.some.injEq] at h2
      subst h2
      simp
    | some hv =>
      rcases run_bnd (P := P) (.some hv) h2 .sliceB w with ⟨pv, e, hr, _⟩ | ⟨e, _⟩
      · cases e; simp [hr]
      · cases e
  | some hv' =>
    rcases run_bnd (P := P) (.some hv') h1' (if isS then .sliceAcap else .sliceAlen) w with ⟨pv', e', hr', _⟩ | ⟨e', _⟩
    · cases e'
      cases hlo with
      | none =>
        simp only [bnd, Option.some.injEq] at h2
        subst h2
        simp [hr']
      | some hv =>
        rcases run_bnd (P := P) (.some hv) h2 .sliceB w with ⟨pv, e, hr, _⟩ | ⟨e, _⟩
        · cases e; simp [hr', hr]
        · cases e
    · cases e'
/-- A cut of a row: its value. -/
theorem cut_VR {p : Place} {b off n c l hh s : Nat} {cap : Option Nat} (hρ : ρ b = some p) (h1 : hh ≤ n) (h2 : l ≤ hh) (hc : n ≤ c) (hk : ∀ k, cap = some k → c = k) (hs : p.st ≠ 0 → p.sh + off + c * p.st ≤ p.sz) (hst : p.st = 0 ∨ p.st = s) {x : Nat} (hx : c = 0 ∨ x = p.sh + off) :
    VR ρ (.slc b (off + l * s) (hh - l) (cap.map (· - l))) (.slice (if c = l then some ⟨p.pb, x, none⟩ else some ((⟨p.pb, x, none⟩ : Addr).add (l * s))) (hh - l) (c - l)) := by
  have hcap : ∀ k, cap.map (· - l) = some k → c - l = k := fun k e => by
    obtain ⟨k', e', rfl⟩ := Option.map_eq_some_iff.1 e
    rw [hk k' e']
  by_cases e : c = l
  · rw [if_pos e]
    exact .slc _ _ _ hρ (by omega) hcap (fun h => by
      have := hs h
      rcases hst with h0 | h0
      · exact absurd h0 h
      · rw [← h0]; have : c * p.st = l * p.st := by rw [e]
        have h3 : (c - l) * p.st = 0 := by rw [e]; simp
        omega) (.inl (by omega))
  · rw [if_neg e, addr_add]
    have hx' : x = p.sh + off := by omega
    refine .slc _ _ _ hρ (by omega) hcap (fun h => ?_) (.inr (by omega))
    have h4 := hs h
    rcases hst with h0 | h0
    · exact absurd h0 h
    · rw [← h0]
      have h5 : l * p.st + (c - l) * p.st = c * p.st := by rw [← Nat.add_mul]; congr 1; omega
      omega
theorem stOf_inv {b st : Nat} (hr : Real G ρ h w) (hs : stOf h b = some st) : ∃ p, ρ b = some p ∧ p.st = st := by
  unfold stOf at hs
  split at hs
  · rename_i c t st' g sh ro hb
    cases hs
    have := hr.obj b
    rw [hb] at this
    obtain ⟨p, h1, h2, -⟩ := this
    exact ⟨p, h1, h2.1⟩
  · cases hs
theorem cutRow_inv {e : TypeId} {b off n : Nat} {cap : Option Nat} {arr : Bool} {lo hi : Option LV} (hv : cutRow P h e b off n cap arr lo hi = some v) : ∃ hh l s st, bnd n hi n = some hh ∧ bnd hh lo 0 = some l ∧ szOf P e = some s ∧ stOf h b = some st ∧ (st = 0 ∨ (arr = false ∧ st = s)) ∧ v = .slc b (off + l * s) (hh - l) (cap.map (· - l)) := by
  unfold cutRow at hv
  obtain ⟨hh, e1, hv⟩ := Option.bind_eq_some_iff.1 hv
  obtain ⟨l, e2, hv⟩ := Option.bind_eq_some_iff.1 hv
  obtain ⟨s, e3, hv⟩ := Option.bind_eq_some_iff.1 hv
  obtain ⟨st, e4, hv⟩ := Option.bind_eq_some_iff.1 hv
  cases hc : Nat.beq st 0 || (!arr && Nat.beq st s) <;> rw [hc] at hv
  · cases hv
  · simp only [cond_true, Option.some.injEq] at hv
    refine ⟨hh, l, s, st, e1, e2, e3, e4, ?_, hv.symm⟩
    simp only [Bool.or_eq_true, Bool.and_eq_true, Bool.not_eq_true'] at hc
    rcases hc with hc | ⟨hc, hc'⟩
    · exact .inl (Nat.eq_of_beq_eq_true hc)
    · exact .inr ⟨hc, Nat.eq_of_beq_eq_true hc'⟩
theorem op_slice {t : TypeId} {x : Operand} {lo hi : Option Operand} (ho : o.op = .slice t x lo hi none) (hv : lslice P h t (aev a x) (lo.map (aev a)) (hi.map (aev a)) = some v) : OpS P G h a o v h := opS_still fun ρ w pa hr hf => by
  have hx := aev_VR hf x
  have hlo := OVR.map hf lo
  have hhi := OVR.map hf hi
  have run : ∀ {pv : Value}, (Instr.sliceAt t (pa.eval x) (lo.map pa.eval) (hi.map pa.eval) none).run P w = .ok pv w → (execOp pa.eval o).run P w = .ok (.value pv) w := fun e => by
    unfold execOp; simp only [ho]; exact run_v e
  unfold lslice at hv
  split at hv <;> first | (cases hv; done) | skip
  · rename_i s hu e
    rw [e] at hx
    unfold cutStr at hv
    obtain ⟨hh, e1, hv⟩ := Option.bind_eq_some_iff.1 hv
    obtain ⟨l, e2, hv⟩ := Option.map_eq_some_iff.1 hv
    subst hv
    rw [len_eq] at e1
    obtain ⟨hr, h1, h2⟩ := run_bounds (P := P) (isS := false) (cap := s.length) hlo hhi (Nat.le_refl _) e1 e2 w
    refine ⟨.string ⟨((s.take hh).drop l).toArray⟩, by rw [tak_eq, drp_eq]; exact .str _, run ?_⟩
    rw [hx.str_inv]
    have e3 : (⟨s.toArray⟩ : ByteArray).extract l hh = ⟨((s.take hh).drop l).toArray⟩ := by
      apply ByteArray.ext
      rw [ByteArray.data_extract]
      apply Array.ext'
      simp [List.extract_eq_take_drop, List.drop_take]
    have e4 : (⟨s.toArray⟩ : ByteArray).size = s.length := rfl
    unfold Instr.sliceAt
    rw [Sem.run_bind, run_underlying hu]
    simp only [Result.andThen]
    unfold Instr.slice
    rw [Sem.run_bind, run_underlying hu]
    simp [Result.andThen, e4, hr, e3]
  · rename_i el hu e
    rw [e] at hx
    obtain ⟨s, e0, hv⟩ := Option.bind_eq_some_iff.1 hv
    obtain ⟨hh, e1, hv⟩ := Option.bind_eq_some_iff.1 hv
    obtain ⟨l, e2, hv⟩ := Option.map_eq_some_iff.1 hv
    subst hv
    obtain ⟨hr, h1, h2⟩ := run_bounds (P := P) (isS := true) (cap := 0) hlo hhi (Nat.le_refl _) e1 e2 w
    obtain rfl : hh = 0 := by omega
    obtain rfl : l = 0 := by omega
    refine ⟨.slice none 0 0, .nils, run ?_⟩
    rw [hx.nils_inv]
    unfold Instr.sliceAt
    rw [Sem.run_bind, run_underlying hu]
    simp only [Result.andThen]
    unfold Instr.slice
    rw [Sem.run_bind, run_underlying hu]
    simp [Result.andThen, hr, run_sizeOf' e0]
  · rename_i el b off n cap hu e
    rw [e] at hx
    obtain ⟨hh, l, s, st, e1, e2, e3, e4, e5, rfl⟩ := cutRow_inv hv
    obtain ⟨p, c, x', hρ, ex, hnc, hk, hs, hx'⟩ := hx.slc_inv
    obtain ⟨p', hρ', hst⟩ := stOf_inv hr e4
    rw [hρ] at hρ'
    cases hρ'
    obtain ⟨hr, h1, h2⟩ := run_bounds (P := P) (isS := true) (cap := c) hlo hhi hnc e1 e2 w
    refine ⟨_, cut_VR hρ h1 h2 hnc hk hs (by rcases e5 with e5 | e5; exact .inl (hst.trans e5); exact .inr (hst.trans e5.2)) hx', run ?_⟩
    rw [ex]
    unfold Instr.sliceAt
    rw [Sem.run_bind, run_underlying hu]
    simp only [Result.andThen]
    unfold Instr.slice
    rw [Sem.run_bind, run_underlying hu]
    simp [Result.andThen, hr, run_sizeOf' e3]
  · rename_i n el b off hu e
    rw [e] at hx
    obtain ⟨hh, l, s, st, e1, e2, e3, e4, e5, rfl⟩ := cutRow_inv hv
    obtain ⟨p, hρ, ex⟩ := hx.ptr_inv
    obtain ⟨p', hρ', hst⟩ := stOf_inv hr e4
    rw [hρ] at hρ'
    cases hρ'
    have hst0 : p.st = 0 := by rcases e5 with e5 | e5; exact hst.trans e5; cases e5.1
    obtain ⟨hr, h1, h2⟩ := run_bounds (P := P) (isS := false) (cap := n) hlo hhi (Nat.le_refl _) e1 e2 w
    refine ⟨_, cut_VR (c := n) (x := p.sh + off) (cap := some n) hρ h1 h2 (Nat.le_refl _) (fun k e => by cases e; rfl) (fun h => absurd hst0 h) (.inl hst0) (.inr rfl), run ?_⟩
    rw [ex]
    unfold Instr.sliceAt
    rw [Sem.run_bind, run_underlying hu]
    simp only [Result.andThen]
    simp [Sem.run_bind, Instr.sureAddr, Result.andThen, hr, run_sizeOf' e3]
    split <;> rfl
  · rename_i ar b off hu e
    split at hv <;> first | (cases hv; done) | skip
    rename_i n el hua
    rw [e] at hx
    obtain ⟨hh, l, s, st, e1, e2, e3, e4, e5, rfl⟩ := cutRow_inv hv
    obtain ⟨p, hρ, ex⟩ := hx.ptr_inv
    obtain ⟨p', hρ', hst⟩ := stOf_inv hr e4
    rw [hρ] at hρ'
    cases hρ'
    have hst0 : p.st = 0 := by rcases e5 with e5 | e5; exact hst.trans e5; cases e5.1
    obtain ⟨hr, h1, h2⟩ := run_bounds (P := P) (isS := false) (cap := n) hlo hhi (Nat.le_refl _) e1 e2 w
    refine ⟨_, cut_VR (c := n) (x := p.sh + off) (cap := some n) hρ h1 h2 (Nat.le_refl _) (fun k e => by cases e; rfl) (fun h => absurd hst0 h) (.inl hst0) (.inr rfl), run ?_⟩
    rw [ex]
    unfold Instr.sliceAt
    rw [Sem.run_bind, run_underlying hu]
    simp only [Result.andThen]
    unfold Instr.slice
    rw [Sem.run_bind, run_underlying hu]
    simp [Result.andThen, asAddr, Sem.run_bind, run_underlying hua, hr, run_sizeOf' e3]
    split <;> rfl
/-- Values of a byte each. -/
theorem toBytes_inv : ∀ {c : List LV} {l : List UInt8}, toBytes c = some l → ∃ ns : List Int, c = ns.map (LV.int .u8 ·) ∧ l = ns.map (fun n => UInt8.ofNat n.toNat)
  | [], l, h => by cases h; exact ⟨[], rfl, rfl⟩
  | x :: r, l, h => by
    unfold toBytes at h
    split at h
    · rename_i e; cases e
    · rename_i n r' e
      cases e
      obtain ⟨l', h1, rfl⟩ := Option.map_eq_some_iff.1 h
      obtain ⟨ns, rfl, rfl⟩ := toBytes_inv h1
      exact ⟨n :: ns, rfl, rfl⟩
    · cases h
theorem LR.ints {k : IntKind} : ∀ {ns : List Int} {pl : List Value}, LR ρ (ns.map (LV.int k ·)) pl → pl = ns.map (Value.int k ·)
  | [], pl, h => by have := h.1; cases pl <;> simp_all
  | n :: ns, pl, h => by
    obtain ⟨y, b, rfl, hy, hb⟩ := LR.cons_inv (by simpa using h)
    rw [hy.int_inv, LR.ints hb]
    rfl
/-- What a slice holds. -/
theorem rowOf_slc {b off n m size c x : Nat} {cap : Option Nat} {cs : List LV} {p : Place} (hr : Real G ρ h w) (hρ : ρ b = some p) (hnc : m ≤ n) (hn : n ≤ c) (hx : c = 0 ∨ x = p.sh + off) (hv : rowOf h size m (.slc b off n cap) = some cs) :
    ∃ pcs : List Value, LR ρ cs pcs ∧ pcs.length = m * size ∧ (∀ u ∈ pcs, u.oneCell' = true) ∧ ∀ (j : Nat) u, pcs[j]? = some u → w.cell? ((⟨p.pb, x, none⟩ : Addr).add j) = some u := by
  simp only [rowOf] at hv
  split at hv
  · rename_i cc t st g sh ro hb
    cases hc : Nat.ble (off + m * size) (len cc) <;> rw [hc] at hv
    · cases hv
    · simp only [cond_true, Option.some.injEq] at hv
      have hle := Nat.le_of_ble_eq_true hc
      rw [len_eq] at hle
      rw [tak_eq, drp_eq] at hv
      have ho := hr.obj b
      rw [hb] at ho
      obtain ⟨p', hρ', hst, ⟨pc, e, fz, hw, hsz, hs, hlc, hone, hfz⟩⟩ := ho
      rw [hρ] at hρ'
      cases hρ'
      subst hv
      refine ⟨(pc.toList.drop (p.sh + off)).take (m * size), ⟨by simp; omega, fun i v v' e1 e2 => ?_⟩, by simp; omega, fun u hu => ?_, fun j u hj => ?_⟩
      · rw [List.getElem?_take] at e1 e2
        split at e1
        · rename_i hi
          rw [if_pos hi] at e2
          rw [List.getElem?_drop] at e1 e2
          exact hlc (off + i) v v' e1 (by rw [← e2, Array.getElem?_toList]; congr 1; omega)
        · cases e1
      · have := List.mem_of_mem_drop (List.mem_of_mem_take hu)
        obtain ⟨i, hi, rfl⟩ := List.getElem_of_mem this
        exact hone i _ (by simp)
      · rw [List.getElem?_take] at hj
        split at hj
        · rename_i hjm
          rw [List.getElem?_drop, Array.getElem?_toList] at hj
          have hx' : x = p.sh + off := by
            rcases hx with hx | hx
            · have : m = 0 := by omega
              subst this
              simp at hjm
            · exact hx
          rw [addr_add, hx']
          simp [World.cell?, hw, hj]
        · cases hj
  · cases hv
theorem foldl_push : ∀ (ns : List Int) (s : List UInt8), ns.foldl (fun (r : ByteArray) n => r.push (UInt8.ofNat n.toNat)) ⟨s.toArray⟩ = ⟨(s ++ ns.map (fun n => UInt8.ofNat n.toNat)).toArray⟩
  | [], s => by simp
  | n :: ns, s => by
    rw [List.foldl_cons]
    have : (⟨s.toArray⟩ : ByteArray).push (UInt8.ofNat n.toNat) = ⟨(s ++ [UInt8.ofNat n.toNat]).toArray⟩ := by
      apply ByteArray.ext
      rw [ByteArray.data_push]
      simp
    rw [this, foldl_push ns]
    simp
end
end Go.Proofs.Eng
