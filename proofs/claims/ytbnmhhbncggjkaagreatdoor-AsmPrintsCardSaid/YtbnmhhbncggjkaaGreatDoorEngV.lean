/- The logical machine: a region's trace, and every order of it. Conditions: none. -/
import Derived.Test.YtbnmhhbncggjkaaGreatDoorEngU
set_option linter.unusedVariables false
set_option linter.unusedSimpArgs false
namespace Go.Proofs.Eng
open Go
section
variable {P : Program} {G : Gl} {C : Orc} {ih : IH} {ops : Array Oper} {size : Nat}
/-- What a trace says, row by row. -/
structure TrS (P : Program) (G : Gl) (C : Orc) (ih : IH) (ops : Array Oper) (size : Nat) (l : List Oper) (i : Nat) (bs : List Nat) (a : Fr) (h : Hp) (rows : List Row) (a' : Fr) (h' : Hp) (A : Nat → Fr) (H : Nat → Hp) : Prop where
  len : rows.length = l.length
  a0 : A 0 = a
  h0 : H 0 = h
  an : A l.length = a'
  hn : H l.length = h'
  row : ∀ (j : Nat) x, rows[j]? = some x → l[j]? = some x.o ∧ x.a = A j ∧ x.h = H j ∧ x.h1 = H (j + 1) ∧ one P G C ih ops x.o (A j) (H j) = some (x.v, H (j + 1)) ∧ putL size (A j) x.o.dst x.v = some (A (j + 1)) ∧ x.k = kindP C (A j) x.o ∧ x.l = looks ops x.o ∧
    bitsOf (bs ++ (rows.take j).map (·.b)) (i + j) x.o.after.toList = some x.b
theorem trace_spec : ∀ (l : List Oper) (i : Nat) (bs : List Nat) (a : Fr) (h : Hp) (q : List Row × Fr × Hp), trace P G C ih ops size l i bs a h = some q → ∃ A H, TrS P G C ih ops size l i bs a h q.1 q.2.1 q.2.2 A H
  | [], i, bs, a, h, q, e => by
    cases e
    exact ⟨fun _ => a, fun _ => h, rfl, rfl, rfl, rfl, rfl, fun j x e => by simp at e⟩
  | o :: l, i, bs, a, h, q, e => by
    unfold trace at e
    obtain ⟨b, e1, e⟩ := Option.bind_eq_some_iff.1 e
    obtain ⟨⟨v, h1⟩, e2, e⟩ := Option.bind_eq_some_iff.1 e
    obtain ⟨a1, e3, e⟩ := Option.bind_eq_some_iff.1 e
    obtain ⟨q', e4, e5⟩ := Option.map_eq_some_iff.1 e
    obtain ⟨A, H, t⟩ := trace_spec l (i + 1) (app bs [b]) a1 h1 q' e4
    subst e5
    refine ⟨fun j => match j with | 0 => a | j + 1 => A j, fun j => match j with | 0 => h | j + 1 => H j, by simp [t.len], rfl, rfl, t.an, t.hn, fun j x e => ?_⟩
    cases j with
    | zero =>
      simp at e
      subst e
      exact ⟨rfl, rfl, rfl, t.h0.symm, by simpa [t.h0] using e2, by simpa [t.a0] using e3, rfl, rfl, by simpa using e1⟩
    | succ j =>
      obtain ⟨r1, r2, r3, r4, r5, r6, r7, r8, r9⟩ := t.row j x (by simpa using e)
      refine ⟨by simpa using r1, r2, r3, r4, r5, r6, r7, r8, ?_⟩
      rw [app_eq] at r9
      simpa [List.append_assoc, Nat.add_assoc, Nat.add_comm 1 j] using r9
/-- What the checks say of two rows. -/
theorem okPair_spec {y : Row} : ∀ (l : List Row) (i : Nat), okPair y l i = true → ∀ (j : Nat) x, l[j]? = some x → Nat.testBit y.b (i + j) = true ∨ clash x y = false
  | [], i, h, j, x, e => by simp at e
  | z :: l, i, h, j, x, e => by
    simp only [okPair, Bool.and_eq_true, Bool.or_eq_true, Bool.not_eq_true'] at h
    cases j with
    | zero => simp at e; subst e; exact h.1
    | succ j =>
      have := okPair_spec l (i + 1) h.2 j x (by simpa using e)
      rwa [show i + 1 + j = i + (j + 1) by omega] at this
theorem okPairs_spec {all : List Row} : ∀ (l : List Row) (j : Nat), okPairs all l j = true → ∀ (k : Nat) y, l[k]? = some y → ∀ (i : Nat) x, i < j + k → all[i]? = some x → Nat.testBit y.b i = true ∨ clash x y = false
  | [], j, h, k, y, e => by simp at e
  | z :: l, j, h, k, y, e => by
    simp only [okPairs, Bool.and_eq_true] at h
    cases k with
    | zero =>
      simp at e
      subst e
      intro i x hi hx
      have := okPair_spec _ 0 h.1 i x (by rw [tak_eq, List.getElem?_take_of_lt (by omega)]; exact hx)
      simpa using this
    | succ k =>
      intro i x hi hx
      exact okPairs_spec l (j + 1) h.2 k y (by simpa using e) i x (by omega) hx
theorem bitsOf_spec {bs : List Nat} {i : Nat} : ∀ (l : List Edge) (s : Nat), bitsOf bs i l = some s → (∀ e ∈ l, Region.binds .any e = true → e.on < i) ∧ ∀ j, Nat.testBit s j = true → ∃ e ∈ l, Region.binds .any e = true ∧ (j = e.on ∨ ∃ x, bs[e.on]? = some x ∧ Nat.testBit x j = true)
  | [], s, h => by
    cases h
    exact ⟨fun e he => by simp at he, fun j hj => by simp at hj⟩
  | e :: l, s, h => by
    obtain ⟨s1, h1, h⟩ := Option.bind_eq_some_iff.1 (show (bitsOf bs i l).bind (fun s => bif Region.binds .any e then (bif Nat.blt e.on i then (nth bs e.on).map fun x => s ||| (2 ^ e.on ||| x) else none) else some s) = some s from h)
    obtain ⟨g1, g2⟩ := bitsOf_spec l s1 h1
    cases hb : Region.binds .any e <;> rw [hb] at h
    · cases h
      refine ⟨fun e' he' hb' => ?_, fun j hj => ?_⟩
      · rcases List.mem_cons.1 he' with rfl | he'
        · rw [hb] at hb'; cases hb'
        · exact g1 e' he' hb'
      · obtain ⟨e', he', k⟩ := g2 j hj
        exact ⟨e', .tail _ he', k⟩
    · cases hc : Nat.blt e.on i <;> rw [hc] at h
      · cases h
      · have hlt : e.on < i := Nat.le_of_ble_eq_true hc
        obtain ⟨x, hx, rfl⟩ := Option.map_eq_some_iff.1 h
        rw [nth_eq] at hx
        refine ⟨fun e' he' hb' => ?_, fun j hj => ?_⟩
        · rcases List.mem_cons.1 he' with rfl | he'
          · exact hlt
          · exact g1 e' he' hb'
        · rw [Nat.testBit_or, Nat.testBit_or, Bool.or_eq_true, Bool.or_eq_true] at hj
          rcases hj with hj | hj | hj
          · obtain ⟨e', he', k⟩ := g2 j hj
            exact ⟨e', .tail _ he', k⟩
          · exact ⟨e, .head _, hb, .inl (by rw [Nat.testBit_two_pow] at hj; simp at hj; exact hj.symm)⟩
          · exact ⟨e, .head _, hb, .inr ⟨x, hx, hj⟩⟩
theorem epochs_mem : ∀ (l : List Row) (i j : Nat) (x : Row), l[j]? = some x → x.k = 2 → (i + j + 1, x.h1) ∈ epochs l i
  | [], i, j, x, h, _ => by simp at h
  | z :: l, i, j, x, h, hk => by
    unfold epochs
    cases j with
    | zero =>
      simp at h
      subst h
      rw [hk]
      exact .head _
    | succ j =>
      have := epochs_mem l (i + 1) j x (by simpa using h) hk
      rw [show i + 1 + j + 1 = i + (j + 1) + 1 by omega] at this
      cases Nat.beq z.k 2
      · exact this
      · exact .tail _ this
theorem may_of {b i k : Nat} : ∀ (l : List Row) (j : Nat), (∀ m x, l[m]? = some x → x.k = 2 → (j + m < k → Nat.testBit x.b i = false) ∧ (k ≤ j + m → Nat.testBit b (j + m) = false)) → may b i k l j = true
  | [], j, _ => rfl
  | z :: l, j, h => by
    unfold may
    have ih := may_of l (j + 1) (fun m x e hk => by
      have := h (m + 1) x (by simpa using e) hk
      rwa [show j + (m + 1) = j + 1 + m by omega] at this)
    rw [ih, Bool.and_true]
    cases hk : Nat.beq z.k 2
    · rfl
    · have := h 0 z rfl (Nat.eq_of_beq_eq_true hk)
      simp only [cond_true]
      cases hb : Nat.blt j k
      · have hle : k ≤ j := by
          rcases Nat.lt_or_ge j k with h | h
          · have : Nat.blt j k = true := Nat.ble_eq_true_of_le h
            rw [hb] at this; cases this
          · exact h
        simpa using this.2 (by omega)
      · have hlt : j < k := Nat.le_of_ble_eq_true hb
        simpa using this.1 (by omega)
theorem okRead_spec {all : List Row} {x : Row} {i own : Nat} : ∀ (es : List (Nat × Hp)), okRead P G C ih ops all x i own es = true → ∀ e ∈ es, e.1 ≠ own → may x.b i e.1 all 0 = true → sameAt x.v (one P G C ih ops x.o x.a e.2) = true
  | [], _, e, he, _, _ => by simp at he
  | z :: es, h, e, he, hn, hm => by
    simp only [okRead, Bool.and_eq_true] at h
    rcases List.mem_cons.1 he with rfl | he
    · have := h.1
      have hb : Nat.beq e.1 own = false := by
        cases hb : Nat.beq e.1 own
        · rfl
        · exact absurd (Nat.eq_of_beq_eq_true hb) hn
      rw [hm, hb] at this
      exact this
    · exact okRead_spec es h.2 e he hn hm
theorem okReads_spec {all : List Row} {eps : List (Nat × Hp)} : ∀ (l : List Row) (i own : Nat), okReads P G C ih ops all eps l i own = true → ∀ (j : Nat) x, l[j]? = some x → x.k = 1 →
    ∃ o, okRead P G C ih ops all x (i + j) o eps = true ∧ ((o = own ∧ ∀ m y, m < j → l[m]? = some y → y.k ≠ 2) ∨ ∃ m', m' < j ∧ o = i + m' + 1 ∧ ∀ m y, m' < m → m < j → l[m]? = some y → y.k ≠ 2)
  | [], i, own, _, j, x, e, _ => by simp at e
  | z :: l, i, own, h, j, x, e, hk => by
    simp only [okReads, Bool.and_eq_true] at h
    cases j with
    | zero =>
      simp at e
      subst e
      have := h.1
      rw [hk] at this
      exact ⟨own, this, .inl ⟨rfl, fun m y hm => by omega⟩⟩
    | succ j =>
      obtain ⟨o, h1, h2⟩ := okReads_spec l (i + 1) _ h.2 j x (by simpa using e) hk
      refine ⟨o, by rwa [show i + 1 + j = i + (j + 1) by omega] at h1, ?_⟩
      rcases h2 with ⟨h2, h3⟩ | ⟨m', h2, h3, h4⟩
      · cases hb : Nat.beq z.k 2 <;> rw [hb] at h2
        · refine .inl ⟨h2, fun m y hm hy => ?_⟩
          cases m with
          | zero => simp at hy; subst hy; intro hz; rw [hz] at hb; cases hb
          | succ m => exact h3 m y (by omega) (by simpa using hy)
        · refine .inr ⟨0, by omega, h2, fun m y h0 hm hy => ?_⟩
          cases m with
          | zero => omega
          | succ m => exact h3 m y (by omega) (by simpa using hy)
      · refine .inr ⟨m' + 1, by omega, by omega, fun m y h0 hm hy => ?_⟩
        cases m with
        | zero => omega
        | succ m => exact h4 m y (by omega) (by omega) (by simpa using hy)
theorem memT_of {t : Tmp} : ∀ {l : List Tmp}, t ∈ l → memT t l = true
  | x :: l, h => by
    simp only [memT, Bool.or_eq_true]
    rcases List.mem_cons.1 h with rfl | h
    · exact .inl (Nat.beq_refl _)
    · exact .inr (memT_of h)
theorem kind_le (a : Fr) (o : Oper) : kindP C a o ≤ 2 := by
  unfold kindP
  cases pureOp C o.op
  · show kindOf a o ≤ 2
    unfold kindOf
    split <;> first | omega | skip
    · unfold kindC; split <;> omega
    · unfold callKind; split <;> omega
  · exact Nat.zero_le _
end
end Go.Proofs.Eng
