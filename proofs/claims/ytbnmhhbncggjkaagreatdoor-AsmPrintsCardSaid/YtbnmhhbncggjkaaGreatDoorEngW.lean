/- The logical machine: every order of a drawn region comes to the same. Conditions: none. -/
import Derived.Test.YtbnmhhbncggjkaaGreatDoorEngV
set_option linter.unusedVariables false
set_option linter.unusedSimpArgs false
set_option linter.unusedSectionVars false
namespace Go.Proofs.Eng
open Go
section
variable {P : Program} {G : Gl} {C : Orc} {ih : IH} {ops : Array Oper} {size : Nat}
noncomputable def putV (x : Row) (f : Fr) : Fr := match x.o.dst with
  | some d => f.put d x.v
  | none => f
theorem putV_hit {x : Row} {f : Fr} {t : Nat} (h : x.o.dst = some t) : (putV x f).get t = x.v := by
  unfold putV; rw [h]; simp only; rw [Fr.get_put, if_pos rfl]
theorem putV_miss {x : Row} {f : Fr} {t : Nat} (h : x.o.dst ≠ some t) : (putV x f).get t = f.get t := by
  unfold putV
  cases hd : x.o.dst with
  | none => rfl
  | some d => simp only; rw [Fr.get_put, if_neg (fun e => h (by rw [hd, e]))]
/-- The frame when some have come: puts in the region's own order. -/
noncomputable def foldF (rows : List Row) (L : Nat → Bool) (a : Fr) : Nat → Fr
  | 0 => a
  | j + 1 => match rows[j]? with
    | some x => bif L j then putV x (foldF rows L a j) else foldF rows L a j
    | none => foldF rows L a j
/-- One more. -/
def addL (L : Nat → Bool) (i : Nat) : Nat → Bool := fun j => Nat.beq j i || L j
theorem addL_same (L : Nat → Bool) (i : Nat) : addL L i i = true := by simp [addL]
theorem addL_ne {L : Nat → Bool} {i j : Nat} (h : j ≠ i) : addL L i j = L j := by
  unfold addL
  cases hb : Nat.beq j i
  · rfl
  · exact absurd (Nat.eq_of_beq_eq_true hb) h
/-- A trace whose checks hold. -/
structure TrOk (P : Program) (G : Gl) (C : Orc) (ih : IH) (ops : Array Oper) (size : Nat) (a : Fr) (h : Hp) (rows : List Row) (a' : Fr) (h' : Hp) (A : Nat → Fr) (H : Nat → Hp) : Prop extends TrS P G C ih ops size ops.toList 0 [] a h rows a' h' A H where
  pairs : okPairs rows rows 0 = true
  reads : okReads P G C ih ops rows ((0, h) :: epochs rows 0) rows 0 0 = true
/-- Closed under the edges. -/
def Down (ops : Array Oper) (L : Nat → Bool) : Prop := ∀ (i : Nat) o, ops[i]? = some o → L i = true → ∀ e ∈ o.after, Region.binds .any e = true → L e.on = true
section
variable {a a' : Fr} {h h' : Hp} {rows : List Row} {A : Nat → Fr} {H : Nat → Hp} (T : TrOk P G C ih ops size a h rows a' h' A H) {L : Nat → Bool} (hD : Down ops L)
include T hD
theorem bit_closed : ∀ (i : Nat) (x : Row), rows[i]? = some x → (∀ e ∈ x.o.after, Region.binds .any e = true → L e.on = true) → ∀ j, Nat.testBit x.b j = true → L j = true := by
  intro i
  induction i using Nat.strongRecOn with
  | _ i IH =>
    intro x hx he j hj
    obtain ⟨r1, -, -, -, -, -, -, -, r9⟩ := T.row i x hx
    obtain ⟨g1, g2⟩ := bitsOf_spec _ _ r9
    obtain ⟨e, he', hb, k⟩ := g2 j hj
    have hin : e ∈ x.o.after := by simpa using he'
    have hlt : e.on < i := by simpa using g1 e he' hb
    have hL := he e hin hb
    rcases k with rfl | ⟨y, hy, hyj⟩
    · exact hL
    · have hy' : (rows[e.on]?).map (·.b) = some y := by
        rw [List.nil_append, List.getElem?_map, List.getElem?_take_of_lt hlt] at hy
        exact hy
      obtain ⟨z, hz, rfl⟩ := Option.map_eq_some_iff.1 hy'
      have ho : ops[e.on]? = some z.o := by have := (T.row _ z hz).1; simpa using this
      exact IH e.on hlt z hz (hD _ _ ho hL) j hyj
theorem pair_of {i j : Nat} {x y : Row} (hi : rows[i]? = some x) (hj : rows[j]? = some y) (hlt : i < j) : Nat.testBit y.b i = true ∨ clash x y = false :=
  okPairs_spec rows 0 T.pairs j y hj i x (by omega) hi
/-- What an operation that may come next reads is what it reads in the region's own order. -/
theorem read_same {i : Nat} {x : Row} (hx : rows[i]? = some x) (hi : L i = false) (he : ∀ e ∈ x.o.after, Region.binds .any e = true → L e.on = true) {t : Tmp} (ht : t ∈ x.l) : (foldF rows L a rows.length).get t = (A i).get t := by
  have up : ∀ m, i ≤ m → (foldF rows L a m).get t = (foldF rows L a i).get t := by
    intro m hm
    induction m with
    | zero => have : i = 0 := by omega
              rw [this]
    | succ m IH =>
      by_cases hm' : i ≤ m
      · rw [← IH hm']
        simp only [foldF]
        split
        · rename_i y hy
          cases hL : L m
          · rfl
          · refine putV_miss fun hd => ?_
            have hne : i ≠ m := fun e => by subst e; rw [hi] at hL; cases hL
            rcases pair_of T hD hx hy (by omega) with hb | hc
            · have ho : ops[m]? = some y.o := by have := (T.row _ y hy).1; simpa using this
              have := bit_closed T hD m y hy (hD _ _ ho hL) i hb
              rw [hi] at this; cases this
            · simp [clash, hits, hd, memT_of ht] at hc
        · rfl
      · have : i = m + 1 := by omega
        rw [this]
  have down : ∀ m, m ≤ i → (foldF rows L a m).get t = (A m).get t := by
    intro m hm
    induction m with
    | zero => simp only [foldF]; rw [T.a0]
    | succ m IH =>
      have hi' : i < rows.length := (List.getElem?_eq_some_iff.1 hx).1
      obtain ⟨y, hy⟩ : ∃ y, rows[m]? = some y := ⟨_, List.getElem?_eq_getElem (by omega)⟩
      obtain ⟨-, -, -, -, -, r6, -⟩ := T.row m y hy
      have hA : A (m + 1) = putV y (A m) := by
        unfold putV
        unfold putL at r6
        cases hd : y.o.dst with
        | none => rw [hd] at r6; exact (Option.some.inj r6).symm
        | some d =>
          rw [hd] at r6
          simp only at r6
          cases hb : Nat.blt d size <;> rw [hb] at r6
          · cases r6
          · exact (Option.some.inj r6).symm
      rw [hA]
      simp only [foldF, hy]
      by_cases hd : y.o.dst = some t
      · have hL : L m = true := by
          rcases pair_of T hD hy hx (by omega) with hb | hc
          · exact bit_closed T hD i x hx he m hb
          · simp [clash, hits, hd, memT_of ht] at hc
        rw [hL, cond_true, putV_hit hd, putV_hit hd]
      · rw [putV_miss hd]
        cases L m
        · exact IH (by omega)
        · rw [cond_true, putV_miss hd]; exact IH (by omega)
  rw [up _ (by have := (List.getElem?_eq_some_iff.1 hx).1; omega), down i (Nat.le_refl _)]
/-- One more has come. -/
theorem put_same {i : Nat} {x : Row} (hx : rows[i]? = some x) (hi : L i = false) (t : Nat) : (putV x (foldF rows L a rows.length)).get t = (foldF rows (addL L i) a rows.length).get t := by
  have low : ∀ m, m ≤ i → foldF rows (addL L i) a m = foldF rows L a m := by
    intro m hm
    induction m with
    | zero => rfl
    | succ m IH =>
      simp only [foldF]
      rw [IH (by omega), addL_ne (show m ≠ i by omega)]
  have high : ∀ m, i + 1 ≤ m → (foldF rows (addL L i) a m).get t = (putV x (foldF rows L a m)).get t := by
    intro m hm
    induction m with
    | zero => omega
    | succ m IH =>
      by_cases hm' : m = i
      · subst hm'
        simp only [foldF, hx]
        rw [low m (Nat.le_refl _), addL_same, hi]
        rfl
      · have IH := IH (by omega)
        simp only [foldF]
        rw [addL_ne hm']
        cases hy : rows[m]? with
        | none => exact IH
        | some y =>
          simp only
          cases hL : L m
          · exact IH
          · simp only [cond_true]
            by_cases hd : y.o.dst = some t
            · have hxd : x.o.dst ≠ some t := fun hxd => by
                rcases pair_of T hD hx hy (by omega) with hb | hc
                · have ho : ops[m]? = some y.o := by have := (T.row _ y hy).1; simpa using this
                  have := bit_closed T hD m y hy (hD _ _ ho hL) i hb
                  rw [hi] at this; cases this
                · simp [clash, sameD, hd, hxd] at hc
              rw [putV_hit hd, putV_miss hxd, putV_hit hd]
            · rw [putV_miss hd, IH]
              by_cases hxd : x.o.dst = some t
              · rw [putV_hit hxd, putV_hit hxd]
              · rw [putV_miss hxd, putV_miss hxd, putV_miss hd]
  exact (high _ (by have := (List.getElem?_eq_some_iff.1 hx).1; omega)).symm
theorem heap_stays {j : Nat} {x : Row} (hx : rows[j]? = some x) (hk : x.k ≠ 2) : H (j + 1) = H j := by
  obtain ⟨-, -, -, -, r5, -, r7, -⟩ := T.row j x hx
  have := kind_le (C := C) (A j) x.o
  exact one_kind (by omega) r5
theorem heap_between {k i : Nat} (hki : k ≤ i) (hi : i ≤ rows.length) (hno : ∀ j x, rows[j]? = some x → k ≤ j → j < i → x.k ≠ 2) : H i = H k := by
  induction i with
  | zero => have : k = 0 := by omega
            rw [this]
  | succ i IH =>
    by_cases h : k = i + 1
    · rw [h]
    · obtain ⟨y, hy⟩ : ∃ y, rows[i]? = some y := ⟨_, List.getElem?_eq_getElem (by omega)⟩
      rw [heap_stays T hD hy (hno i y hy (by omega) (by omega)), IH (by omega) (by omega) (fun j x e h1 h2 => hno j x e h1 (by omega))]
/-- The next one, whichever it is: what it yields, and the heap behind it. -/
theorem next_one {k i : Nat} {x : Row} (hx : rows[i]? = some x) (hi : L i = false) (he : ∀ e ∈ x.o.after, Region.binds .any e = true → L e.on = true) (hm : ∀ j y, rows[j]? = some y → y.k = 2 → (L j = true ↔ j < k)) (hk : k ≤ rows.length) (hep : (k, H k) ∈ (0, h) :: epochs rows 0) :
    ∃ k', one P G C ih ops x.o (A i) (H k) = some (x.v, H k') ∧ k' ≤ rows.length ∧ (k', H k') ∈ (0, h) :: epochs rows 0 ∧ ∀ j y, rows[j]? = some y → y.k = 2 → (addL L i j = true ↔ j < k') := by
  obtain ⟨r1, r2, r3, r4, r5, r6, r7, r8, r9⟩ := T.row i x hx
  have hlen := (List.getElem?_eq_some_iff.1 hx).1
  have ho : ∀ (j : Nat) (y : Row), rows[j]? = some y → ops[j]? = some y.o := fun j y hy => by have := (T.row _ y hy).1; simpa using this
  have noti : ∀ (j : Nat) (y : Row), rows[j]? = some y → L j = true → Nat.testBit y.b i = false := fun j y hy hL => by
    cases hb : Nat.testBit y.b i with
    | false => rfl
    | true => have := bit_closed T hD j y hy (hD _ _ (ho j y hy) hL) i hb; rw [hi] at this; cases this
  have isin : ∀ j, Nat.testBit x.b j = true → L j = true := bit_closed T hD i x hx he
  by_cases h2 : x.k = 2
  · -- it may turn the heap
    have before : ∀ (j : Nat) (y : Row), rows[j]? = some y → y.k = 2 → j < i → L j = true := fun j y hy hyk hlt => by
      rcases pair_of T hD hy hx hlt with hb | hc
      · exact isin j hb
      · simp [clash, hyk, h2] at hc
    have after' : ∀ (j : Nat) (y : Row), rows[j]? = some y → y.k = 2 → i < j → L j = false := fun j y hy hyk hlt => by
      cases hL : L j with
      | false => rfl
      | true =>
        rcases pair_of T hD hx hy hlt with hb | hc
        · rw [noti j y hy hL] at hb; cases hb
        · simp [clash, hyk, h2] at hc
    have hki : k ≤ i := by
      rcases Nat.lt_or_ge i k with h | h
      · have := (hm i x hx h2).2 h; rw [hi] at this; cases this
      · exact h
    have hH : H i = H k := heap_between T hD hki (by omega) (fun j y hy h1 h3 hyk => by
      have := (hm j y hy hyk).1 (before j y hy hyk h3); omega)
    refine ⟨i + 1, by rw [← hH]; exact r5, by omega, ?_, fun j y hy hyk => ?_⟩
    · have := epochs_mem rows 0 i x hx h2
      rw [r4] at this
      rw [Nat.zero_add] at this
      exact .tail _ this
    · by_cases hji : j = i
      · rw [hji, addL_same]; simp
      · rw [addL_ne hji]
        constructor
        · intro hL
          rcases Nat.lt_or_ge i j with h | h
          · rw [after' j y hy hyk h] at hL; cases hL
          · omega
        · intro hlt
          exact before j y hy hyk (by omega)
  · refine ⟨k, ?_, hk, hep, fun j y hy hyk => ?_⟩
    · by_cases h0 : x.k = 0
      · exact one_blind (by rw [← r7]; exact h0) r5 (H k)
      · have h1 : x.k = 1 := by have := kind_le (C := C) (A i) x.o; omega
        obtain ⟨o, ho1, ho2⟩ := okReads_spec rows 0 0 T.reads i x hx h1
        rw [Nat.zero_add] at ho1
        by_cases hko : k = o
        · have hle : k ≤ i ∧ ∀ j y, rows[j]? = some y → k ≤ j → j < i → y.k ≠ 2 := by
            rcases ho2 with ⟨e1, e2⟩ | ⟨m', e1, e2, e3⟩
            · exact ⟨by omega, fun j y hy _ hlt => e2 j y hlt hy⟩
            · exact ⟨by omega, fun j y hy hge hlt => e3 j y (by omega) hlt hy⟩
          have hH := heap_between T hD hle.1 (by omega) hle.2
          have e2 := one_kind (by omega) r5
          rw [← hH, r5, e2]
        have hr := okRead_spec _ ho1 (k, H k) hep hko (may_of rows 0 fun m y hy hyk => ⟨fun hlt => ?_, fun hge => ?_⟩)
        · rw [r2] at hr
          simp only at hr
          cases hq : one P G C ih ops x.o (A i) (H k) with
          | none => rw [hq] at hr; cases hr
          | some p =>
            rw [hq] at hr
            obtain ⟨u, hu⟩ := p
            have e1 := eqV_eq hr
            have e2 := one_kind (by omega) hq
            rw [e1, e2]
        · simp only [Nat.zero_add] at hlt ⊢
          exact noti m y hy ((hm m y hy hyk).2 hlt)
        · simp only [Nat.zero_add] at hge ⊢
          cases hb : Nat.testBit x.b m with
          | false => rfl
          | true => have := (hm m y hy hyk).1 (isin m hb); omega
    · by_cases hji : j = i
      · subst hji
        rw [hx] at hy
        cases hy
        exact absurd hyk h2
      · rw [addL_ne hji]; exact hm j y hy hyk
theorem all_fold (hA : ∀ i, i < rows.length → L i = true) : ∀ m, m ≤ rows.length → foldF rows L a m = A m := by
  intro m hm
  induction m with
  | zero => simp only [foldF]; rw [T.a0]
  | succ m IH =>
    obtain ⟨y, hy⟩ : ∃ y, rows[m]? = some y := ⟨_, List.getElem?_eq_getElem (by omega)⟩
    obtain ⟨-, -, -, -, -, r6, -⟩ := T.row m y hy
    simp only [foldF, hy]
    rw [hA m (by omega), cond_true, IH (by omega)]
    unfold putV
    unfold putL at r6
    cases hd : y.o.dst with
    | none => rw [hd] at r6; exact Option.some.inj r6
    | some d =>
      rw [hd] at r6
      simp only at r6
      cases hb : Nat.blt d size <;> rw [hb] at r6
      · cases r6
      · exact Option.some.inj r6
end
theorem all_listed {a a' : Fr} {h h' : Hp} {rows : List Row} {A : Nat → Fr} {H : Nat → Hp} (T : TrOk P G C ih ops size a h rows a' h' A H) {listed : Array Bool} (hsz : listed.size = ops.size) (hr : Region.ready .any ops listed = []) : ∀ i, i < ops.size → listed.getD i false = true := by
  intro i
  induction i using Nat.strongRecOn with
  | _ i IH =>
    intro hi
    cases hL : listed.getD i false with
    | true => rfl
    | false =>
      exfalso
      have hlen : rows.length = ops.size := by simpa using T.len
      obtain ⟨x, hx⟩ : ∃ x, rows[i]? = some x := ⟨_, List.getElem?_eq_getElem (by omega)⟩
      obtain ⟨r1, -, -, -, -, -, -, -, r9⟩ := T.row i x hx
      have ho : ops[i]? = some x.o := by simpa using r1
      have hmem : i ∈ Region.ready .any ops listed := by
        unfold Region.ready
        refine List.mem_filter.2 ⟨List.mem_range.2 hi, ?_⟩
        have h1 : listed.getD i true = false := by
          rw [Array.getD_eq_getD_getElem?] at hL ⊢
          rw [Array.getElem?_eq_getElem (by omega)] at hL ⊢
          exact hL
        rw [h1, ho]
        simp only [Bool.not_false, Bool.true_and, Option.map_some, Option.getD_some]
        rw [Array.all_eq_true_iff_forall_mem]
        intro e he
        cases hb : Region.binds .any e with
        | false => rfl
        | true =>
          have hlt : e.on < i := by simpa using (bitsOf_spec _ _ r9).1 e (by simpa using he) hb
          simp only [Bool.not_true, Bool.false_or]
          exact IH e.on hlt (by omega)
      rw [hr] at hmem
      cases hmem
theorem ready_inv {listed : Array Bool} (hsz : listed.size = ops.size) {i : Nat} (hi : i ∈ Region.ready .any ops listed) : ∃ o, ops[i]? = some o ∧ listed.getD i false = false ∧ ∀ e ∈ o.after, Region.binds .any e = true → listed.getD e.on false = true := by
  unfold Region.ready at hi
  obtain ⟨h1, h2⟩ := List.mem_filter.1 hi
  have hlt := List.mem_range.1 h1
  rw [Bool.and_eq_true] at h2
  have ho : ops[i]? = some ops[i] := Array.getElem?_eq_getElem hlt
  refine ⟨_, ho, ?_, fun e he hb => ?_⟩
  · have h3 := h2.1
    rw [Array.getD_eq_getD_getElem?, Array.getElem?_eq_getElem (by omega)] at h3 ⊢
    simpa using h3
  · have h3 := h2.2
    rw [ho] at h3
    simp only [Option.map_some, Option.getD_some] at h3
    have := (Array.all_eq_true_iff_forall_mem.1 h3) e he
    rw [hb] at this
    simpa using this
theorem getD_set {listed : Array Bool} {i : Nat} (hi : i < listed.size) : (fun j => (listed.setIfInBounds i true).getD j false) = addL (fun j => listed.getD j false) i := by
  funext j
  by_cases e : j = i
  · subst e
    rw [addL_same, Array.getD_eq_getD_getElem?, Array.getElem?_setIfInBounds_self_of_lt hi]
    rfl
  · rw [addL_ne e, Array.getD_eq_getD_getElem?, Array.getElem?_setIfInBounds_ne (Ne.symm e), ← Array.getD_eq_getD_getElem?]
theorem count_add (L : Nat → Bool) (i : Nat) (hL : L i = false) : ∀ n, ((List.range n).countP fun j => !addL L i j) + (if i < n then 1 else 0) = (List.range n).countP fun j => !L j
  | 0 => by simp
  | n + 1 => by
    have ih := count_add L i hL n
    rw [List.range_succ, List.countP_append, List.countP_append, ← ih]
    by_cases h : n = i
    · subst h
      simp [List.countP_cons, addL_same, hL]
    · have e : addL L i n = L n := addL_ne h
      have e2 : (if i < n + 1 then 1 else 0 : Nat) = if i < n then 1 else 0 := by
        by_cases h2 : i < n
        · rw [if_pos h2, if_pos (Nat.lt_succ_of_lt h2)]
        · rw [if_neg h2, if_neg (fun h3 => by have := Nat.lt_succ_iff.1 h3; exact h2 (Nat.lt_of_le_of_ne this (Ne.symm h)))]
      simp only [List.countP_cons, List.countP_nil, e, e2]
      omega
theorem draw_steps {a a' : Fr} {h h' : Hp} {rows : List Row} {A : Nat → Fr} {H : Nat → Hp} (T : TrOk P G C ih ops size a h rows a' h' A H) (hone : ∀ o a h v h1, one P G C ih ops o a h = some (v, h1) → OneS P G ops o a h v h1) :
    ∀ (fuel t : Nat) (listed : Array Bool) (b : Fr) (k : Nat) (ρ : Rho) (w : World) (bf : Frame) (kk : List Item) (cs : List Frame) (pa : Act), listed.size = ops.size → Down ops (fun j => listed.getD j false) →
      ((List.range ops.size).countP fun j => !listed.getD j false) ≤ fuel → (∀ t, b.get t = (foldF rows (fun j => listed.getD j false) a rows.length).get t) → (∀ (j : Nat) (y : Row), rows[j]? = some y → y.k = 2 → (listed.getD j false = true ↔ j < k)) → k ≤ rows.length → (k, H k) ∈ (0, h) :: epochs rows 0 →
      Real G ρ (H k) w → FR ρ b pa.tmps → pa.tmps.size = size →
      ∃ ρ' w' pa', St ρ (H k) w ρ' h' w' ∧ Real G ρ' h' w' ∧ FR ρ' a' pa'.tmps ∧ pa'.tmps.size = size ∧ pa'.defers = pa.defers ∧ Steps P (lone (bf.atR pa (.inRegion ops (Region.linearise.go .any ops fuel t listed []) :: kk)) cs w) (lone (bf.atR pa' kk) cs w') := by
  have hlen : rows.length = ops.size := by simpa using T.len
  -- all have come
  have done : ∀ (listed : Array Bool) (b : Fr) (k : Nat) (ρ : Rho) (w : World) (bf : Frame) (kk : List Item) (cs : List Frame) (pa : Act), Down ops (fun j => listed.getD j false) → (∀ i, i < ops.size → listed.getD i false = true) → (∀ t, b.get t = (foldF rows (fun j => listed.getD j false) a rows.length).get t) →
      (∀ (j : Nat) (y : Row), rows[j]? = some y → y.k = 2 → (listed.getD j false = true ↔ j < k)) → k ≤ rows.length → Real G ρ (H k) w → FR ρ b pa.tmps → pa.tmps.size = size →
      ∃ ρ' w' pa', St ρ (H k) w ρ' h' w' ∧ Real G ρ' h' w' ∧ FR ρ' a' pa'.tmps ∧ pa'.tmps.size = size ∧ pa'.defers = pa.defers ∧ Steps P (lone (bf.atR pa (.inRegion ops [] :: kk)) cs w) (lone (bf.atR pa' kk) cs w') := by
    intro listed b k ρ w bf kk cs pa hD hA hb hm hk hR hf hs
    have h1 : H rows.length = H k := heap_between T hD hk (Nat.le_refl _) (fun j y hy h1 h2 hyk => by
      have := (hm j y hy hyk).1 (hA j (by omega)); omega)
    have h2 : H rows.length = h' := by rw [T.len]; exact T.hn
    have h3 : A rows.length = a' := by rw [T.len]; exact T.an
    have h4 : foldF rows (fun j => listed.getD j false) a rows.length = a' := by rw [all_fold T hD (fun i hi => hA i (by omega)) _ (Nat.le_refl _), h3]
    rw [← h1, h2] at hR ⊢
    refine ⟨ρ, w, pa, .refl, hR, fun t => ?_, hs, rfl, .one stepR_region_end⟩
    have := hf t
    rw [hb t, h4] at this
    exact this
  intro fuel
  induction fuel with
  | zero =>
    intro t listed b k ρ w bf kk cs pa hsz hD hc hb hm hk hep hR hf hs
    refine done listed b k ρ w bf kk cs pa hD (fun i hi => ?_) hb hm hk hR hf hs
    have := List.countP_eq_zero.1 (Nat.le_zero.1 hc) i (List.mem_range.2 hi)
    simpa using this
  | succ fuel IH =>
    intro t listed b k ρ w bf kk cs pa hsz hD hc hb hm hk hep hR hf hs
    simp only [Region.linearise.go]
    change ∃ ρ' w' pa', _ ∧ _ ∧ _ ∧ _ ∧ _ ∧ Steps P (lone (bf.atR pa (.inRegion ops (match (Region.ready .any ops listed)[t % (Region.ready .any ops listed).length]? with
      | some i => Region.linearise.go .any ops fuel (t / (Region.ready .any ops listed).length) (listed.setIfInBounds i true) [i]
      | none => [].reverse) :: kk)) cs w) _
    cases hi : (Region.ready .any ops listed)[t % (Region.ready .any ops listed).length]? with
    | none =>
      have hnil : Region.ready .any ops listed = [] := by
        cases hr : Region.ready .any ops listed with
        | nil => rfl
        | cons x xs =>
          rw [hr] at hi
          have hlt : t % (x :: xs).length < (x :: xs).length := Nat.mod_lt _ (by simp)
          simp at hi
          simp at hlt
          omega
      exact done listed b k ρ w bf kk cs pa hD (all_listed T hsz hnil) hb hm hk hR hf hs
    | some i =>
      simp only []
      obtain ⟨o, ho, hL, he⟩ := ready_inv hsz (List.mem_of_getElem? hi)
      have hilt : i < ops.size := (Array.getElem?_eq_some_iff.1 ho).1
      obtain ⟨x, hx⟩ : ∃ x, rows[i]? = some x := ⟨_, List.getElem?_eq_getElem (by omega)⟩
      obtain ⟨r1, r2, r3, r4, r5, r6, r7, r8, r9⟩ := T.row i x hx
      have hxo : x.o = o := by
        have : ops[i]? = some x.o := by simpa using r1
        rw [ho] at this
        exact (Option.some.inj this).symm
      rw [← hxo] at he
      obtain ⟨k', n1, n2, n3, n4⟩ := next_one T hD hx hL he hm hk hep
      have hcg : one P G C ih ops x.o b (H k) = some (x.v, H k') := by
        rw [← n1]
        refine one_congr fun t ht => ?_
        rw [hb t]
        exact read_same T hD hx hL he (by rw [r8]; exact ht)
      rw [linearise_go_acc, List.reverse_singleton, List.singleton_append]
      obtain ⟨ρ1, w1, pv, s1, R1, v1, t1⟩ := hone _ _ _ _ _ hcg i (by rw [ho, hxo]) ρ w bf kk cs pa (Region.linearise.go .any ops fuel (t / (Region.ready .any ops listed).length) (listed.setIfInBounds i true) []) hR hf
      have hset := getD_set (listed := listed) (i := i) (by omega)
      obtain ⟨a2, p2⟩ : ∃ a2, putL size b x.o.dst x.v = some a2 ∧ a2 = putV x b := by
        unfold putL putV
        unfold putL at r6
        cases hd : x.o.dst with
        | none => exact ⟨_, rfl, rfl⟩
        | some d =>
          rw [hd] at r6
          simp only at r6 ⊢
          cases hbd : Nat.blt d size <;> rw [hbd] at r6
          · cases r6
          · exact ⟨_, rfl, rfl⟩
      obtain ⟨p2, rfl⟩ := p2
      obtain ⟨f1, z1, d1⟩ := (hf.mono s1.ext).put v1 hs p2
      have hD' : Down ops (fun j => (listed.setIfInBounds i true).getD j false) := by
        rw [hset]
        intro j oj hoj hLj e hej hbj
        by_cases hji : j = i
        · subst hji
          rw [ho] at hoj
          cases hoj
          by_cases h : e.on = j
          · rw [h, addL_same]
          · rw [addL_ne h]; exact he e (by rw [hxo]; exact hej) hbj
        · rw [addL_ne hji] at hLj
          by_cases h : e.on = i
          · rw [h, addL_same]
          · rw [addL_ne h]; exact hD j oj hoj hLj e hej hbj
      have hc' : ((List.range ops.size).countP fun j => !(listed.setIfInBounds i true).getD j false) ≤ fuel := by
        rw [show (fun j => !(listed.setIfInBounds i true).getD j false) = fun j => !addL (fun j => listed.getD j false) i j from funext fun j => by rw [congrFun hset j]]
        have := count_add (fun j => listed.getD j false) i hL ops.size
        rw [if_pos hilt] at this
        omega
      have hb' : ∀ t, (putV x b).get t = (foldF rows (fun j => (listed.setIfInBounds i true).getD j false) a rows.length).get t := fun t => by
        rw [hset, ← put_same T hD hx hL t]
        by_cases hd : x.o.dst = some t
        · rw [putV_hit hd, putV_hit hd]
        · rw [putV_miss hd, putV_miss hd, hb t]
      have hm' : ∀ (j : Nat) (y : Row), rows[j]? = some y → y.k = 2 → ((listed.setIfInBounds i true).getD j false = true ↔ j < k') := fun j y hy hyk => by
        rw [show (listed.setIfInBounds i true).getD j false = addL (fun j => listed.getD j false) i j from congrFun hset j]
        exact n4 j y hy hyk
      obtain ⟨ρ2, w2, pa2, s2, R2, f2, z2, d2, t2⟩ := IH (t / (Region.ready .any ops listed).length) (listed.setIfInBounds i true) (putV x b) k' ρ1 w1 bf kk cs (pa.put x.o.dst pv) (by simp [hsz]) hD' hc' hb' hm' n2 n3 R1 f1 z1
      exact ⟨ρ2, w2, pa2, s1.trans s2, R2, f2, z2, d2.trans d1, Steps.trans t1 t2⟩
theorem code_draw {a : Fr} {h : Hp} {q : List Row × Fr × Hp} {id : Nat} {rnd : Option Nat} {fn : FuncId} {ds : List Nat} (hmx : P.follows .mixedOrders = true) (hone : ∀ o a h v h1, one P G C ih ops o a h = some (v, h1) → OneS P G ops o a h v h1)
    (ht : trace P G C ih ops size ops.toList 0 [] a h = some q) (hp : okPairs q.1 q.1 0 = true) (hr : okReads P G C ih ops q.1 ((0, h) :: epochs q.1 0) q.1 0 0 = true) : CodeS P G (.region id ops true) rnd fn size a ds h .normal q.2.1 ds q.2.2 := fun ρ w b k cs pa hb hrr hR hf hs hd => by
  obtain ⟨A, H, T⟩ := trace_spec _ _ _ _ _ _ ht
  have T' : TrOk P G C ih ops size a h q.1 q.2.1 q.2.2 A H := { T with pairs := hp, reads := hr }
  have hL : ∀ j, (Array.replicate ops.size false).getD j false = false := fun j => by
    rw [Array.getD_eq_getD_getElem?, Array.getElem?_replicate]
    split <;> rfl
  have hF : ∀ m, foldF q.1 (fun j => (Array.replicate ops.size false).getD j false) a m = a := fun m => by
    induction m with
    | zero => rfl
    | succ m IH =>
      simp only [foldF]
      split
      · rw [hL, cond_false, IH]
      · exact IH
  obtain ⟨ρ1, w1, pa1, s1, R1, f1, z1, d1, t1⟩ := draw_steps T' hone ops.size (w.tape w.drawn (.order b.fn id)) (Array.replicate ops.size false) a 0 ρ w.drew b k cs pa (by simp) (fun i o _ hi => by simp only [hL] at hi; cases hi)
    (by have := List.countP_le_length (p := fun j => !(Array.replicate ops.size false).getD j false) (l := List.range ops.size); simpa using this) (fun t => by rw [hF]) (fun j y _ _ => by rw [hL]; simp) (Nat.zero_le _) (by rw [T.h0]; exact .head _) (by rw [T.h0]; exact hR.drew) hf hs
  rw [T.h0] at s1
  refine ⟨ρ1, w1, pa1, ⟨s1.ext, s1.img, s1.frame, s1.size, s1.os, s1.tape, s1.output⟩, R1, f1, z1, d1 ▸ hd.mono s1.ext, Steps.head stepR_region_draw ?_⟩
  simp only [Region.schedule, hmx, Bool.true_or, if_true]
  exact t1
end
end Go.Proofs.Eng
