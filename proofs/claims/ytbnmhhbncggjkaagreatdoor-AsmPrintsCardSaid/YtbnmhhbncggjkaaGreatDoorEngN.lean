/- The logical machine: append. Conditions: none. -/
import Derived.Test.YtbnmhhbncggjkaaGreatDoorEngL
import Derived.Deep.Upon
set_option linter.unusedVariables false
set_option linter.unusedSimpArgs false
namespace Go.Proofs.Eng
open Go
section
variable {P : Program} {G : Gl} {ρ : Rho} {h h' h1 : Hp} {w : World} {a : Fr} {o : Oper} {v : LV}
/-- A row goes on behind its end. -/
theorem row_more (r : Real G ρ h w) (r' : Real G ρ h' w) (n' : h'.n = h.n) (k' : ∀ i, wr (h'.at i) = true → wr (h.at i) = true) {b : Nat} {p : Place} {g : Nat} (hwb : wr (h.at b) = true) (hgb : grpOf (h.at b) = some g) (hρ : ρ b = some p) {off k : Nat}
    (cl : ∀ i q, lv (h'.at i) = true → ρ i = some q → q.pb = p.pb → ∃ c' t' st' ro, h'.at i = .cells c' t' st' g true ro ∧ q.sh + c'.length ≤ p.sh + k) {pc : Array Value} {e : TypeId} {fz : Nat × Nat} (hw : w.heap[p.pb]? = some (.cells pc e fz)) (hsz : p.sz = pc.size) (hone : ∀ (i : Nat) u, pc[i]? = some u → u.oneCell' = true)
    (hfz : ∀ i, i < pc.size → (decide (fz.1 ≤ i) && decide (i < fz.2)) = false) {l : List LV} {pn : List Value} (h1 : ∀ u ∈ pn, u.oneCell' = true) (hin : p.sh + k + pn.length ≤ pc.size) (hl : ∀ (i : Nat) v v', l[i]? = some v → (setRow pc (p.sh + k) pn)[p.sh + off + i]? = some v' → VR ρ v v') (hll : p.sh + off + l.length ≤ pc.size) (hbnd : p.sh + k ≤ p.sh + off + l.length) (t' : TypeId) (het : e = t') (s : Nat) (hs0 : s = 0 → l = []) :
    Real G (ρ.add h.n ⟨p.pb, p.sh + off, p.sz, s⟩) (h'.new (.cells l t' s g true false)) (w.setCells p.pb (p.sh + k) pn) ∧ St ρ h w (ρ.add h.n ⟨p.pb, p.sh + off, p.sz, s⟩) (h'.new (.cells l t' s g true false)) (w.setCells p.pb (p.sh + k) pn) := by
  obtain ⟨f1, f2, f3, f4, f5⟩ := setCells_else p.pb pn (p.sh + k) w
  have f0 := setCells_heap p.pb pn (p.sh + k) w pc e fz hw
  have he := Rho.ext_add r ⟨p.pb, p.sh + off, p.sz, s⟩
  have hlb := lv_of_wr hwb
  have hgle := r.grp b g hgb
  have hbn := r.fresh b p hρ
  have keepO : ∀ (ρ1 ρ2 : Rho), Ext ρ1 ρ2 → Ext ρ1 ρ → ∀ i, OR ρ1 w i (h'.at i) → OR ρ2 (w.setCells p.pb (p.sh + k) pn) i (h'.at i) := fun ρ1 ρ2 e12 e1 i hoi => by
    by_cases hlv : lv (h'.at i) = true
    · by_cases hq : ∃ q, ρ1 i = some q ∧ q.pb = p.pb
      · obtain ⟨q, hq, epb⟩ := hq
        obtain ⟨c', t'', st', ro, hat, hle⟩ := cl i q hlv (e1 _ _ hq) epb
        rw [hat] at hoi ⊢
        obtain ⟨q', hq', hst, ⟨pc', e', fz', hw', hsz', hs', hlc', hone', hfz'⟩⟩ := hoi
        rw [hq] at hq'
        cases hq'
        rw [epb, hw] at hw'
        cases hw'
        refine ⟨q, e12 _ _ hq, ⟨hst.1, hst.2.cells (by rw [epb]; exact hw) (by rw [epb]; exact f0) (by rw [setRow_size]) rfl⟩, CR.mono e12 ⟨_, e, fz, by rw [epb]; exact f0, by rw [setRow_size]; exact hsz', by rw [setRow_size]; exact hs', fun j v v' e1 e2 => ?_, fun j u e1 => ?_, fun j hj => by rw [setRow_size] at hj; exact hfz j hj⟩⟩
        · have hj : j < c'.length := (List.getElem?_eq_some_iff.1 e1).1
          rw [setRow_get _ _ _ _ hin, if_neg (by omega)] at e2
          exact hlc' j v v' e1 e2
        · rcases mem_setRow hin e1 with hu | hu
          · exact h1 u hu
          · exact hone j u hu
      · exact hoi.keep e12 (fun q _ hq' => f1 _ (fun e => hq ⟨q, hq', e⟩))
    · have : h'.at i = .dead := by
        cases hx : h'.at i <;> rw [hx] at hlv <;> simp [lv] at hlv
      rw [this]; trivial
  have hobj : ∀ i, OR (ρ.add h.n ⟨p.pb, p.sh + off, p.sz, s⟩) (w.setCells p.pb (p.sh + k) pn) i ((h'.new (.cells l t' s g true false)).at i) := fun i => by
    rw [Hp.at_new, n']
    by_cases hi : i = h.n
    · rw [if_pos hi]
      subst hi
      refine ⟨_, Rho.add_same _ _, ⟨rfl, _, _, het ▸ f0, fun a b => absurd (hs0 a) b⟩, CR.mono he ⟨_, e, fz, f0, by rw [setRow_size]; exact hsz, by rw [setRow_size]; exact hll, hl, fun i u e1 => ?_, fun i hi => by rw [setRow_size] at hi; exact hfz i hi⟩⟩
      rcases mem_setRow hin e1 with hu | hu
      · exact h1 u hu
      · exact hone i u hu
    · rw [if_neg hi]
      exact keepO ρ _ he (.refl _) i (r'.obj i)
  have hfr : ∀ i q, ρ.add h.n ⟨p.pb, p.sh + off, p.sz, s⟩ i = some q → i < h.n + 1 := fun i q e => by
    simp only [Rho.add] at e
    split at e
    · omega
    · have := r.fresh i q e; omega
  refine ⟨⟨hobj, fun i q e => ?_, ?_, ?_, ?_, ?_, fun i n hin hu => ?_, ?_⟩, ⟨he, ?_, ?_, by rw [f2]; exact Nat.le_refl _, f3, f4, f5⟩⟩
  · simp only [Rho.add] at e
    rw [Hp.n_new]
    split at e
    · omega
    · have := r'.fresh i q e; omega
  · intro i j pi pj hne hi hj ei ej epb
    rw [Hp.at_new, n'] at hi hj ⊢
    rw [Hp.at_new, n']
    simp only [Rho.add] at ei ej
    by_cases h1 : i = h.n <;> by_cases h2 : j = h.n
    · omega
    · rw [if_neg h2] at hj ej ⊢
      rw [if_pos h1] at ei ⊢
      cases ei
      obtain ⟨c', t'', st', ro, hat, hle⟩ := cl j pj hj ej epb.symm
      rw [hat]
      rfl
    · rw [if_neg h1] at hi ei ⊢
      rw [if_pos h2] at ej ⊢
      cases ej
      obtain ⟨c', t'', st', ro, hat, hle⟩ := cl i pi hi ei epb
      rw [hat]
      rfl
    · rw [if_neg h1] at hi ei ⊢
      rw [if_neg h2] at hj ej ⊢
      exact r'.sep i j pi pj hne hi hj ei ej epb
  · exact r.glob.keep fun g hg => f1 g (fun e => r.gsep b p g hlb hρ hg e.symm)
  · intro i q g hi hq hg
    rw [Hp.at_new, n'] at hi
    simp only [Rho.add] at hq
    by_cases h1 : i = h.n
    · rw [if_pos h1] at hq
      cases hq
      exact r.gsep b p g hlb hρ hg
    · rw [if_neg h1] at hi hq
      exact r'.gsep i q g hi hq hg
  · intro i g' hi
    rw [Hp.at_new, n'] at hi
    by_cases h1 : i = h.n
    · rw [if_pos h1] at hi; simp [grpOf] at hi; omega
    · rw [if_neg h1] at hi; exact r'.grp i g' hi
  · by_cases hn : h.n < n
    · rw [Rho.cut_all (fun i q e => by have := hfr i q e; omega)]
      exact hobj i
    · rw [Hp.at_new, n', if_neg (by omega)]
      exact keepO _ _ (Rho.cut_mono he n) (Rho.cut_ext n) i (r'.told i n hin hu)
  · intro i j pi pj hlt hi hj ei ej epb
    rw [Hp.at_new, n'] at hi hj ⊢
    rw [Hp.at_new, n']
    simp only [Rho.add] at ei ej
    have h1 : i ≠ h.n := fun e => by
      rw [if_pos e] at ei
      by_cases h2 : j = h.n
      · omega
      · rw [if_neg h2] at ej
        have := r'.fresh j pj ej
        omega
    rw [if_neg h1] at hi ei ⊢
    by_cases h2 : j = h.n
    · rw [if_pos h2] at ej ⊢
      cases ej
      obtain ⟨c', t'', st', ro, hat, hle⟩ := cl i pi hi ei epb
      rw [hat]
      simp only [lenO]
      omega
    · rw [if_neg h2] at hj ej ⊢
      exact r'.mono i j pi pj hlt hi hj ei ej epb
  · intro i q hi hq
    rw [Hp.at_new, n'] at hi
    simp only [Rho.add] at hq
    by_cases h1 : i = h.n
    · rw [if_pos h1] at hq; cases hq; exact .inl ⟨b, p, hwb, hρ, rfl⟩
    · rw [if_neg h1] at hi hq
      exact .inl ⟨i, q, k' i hi, hq, rfl⟩
  · intro k hk hno
    exact f1 k (fun e => hno b p hwb hρ e.symm)
/-- A row may be said to be shared. -/
theorem real_share (r : Real G ρ h w) {b : Nat} {c : List LV} {t : TypeId} {st g : Nat} {sh ro : Bool} (hb : h.at b = .cells c t st g sh ro) : Real G ρ (h.put b (.cells c t st g true ro)) w ∧ ∀ i, (h.put b (.cells c t st g true ro)).at i = if i = b then .cells c t st g true ro else h.at i := by
  have hlt : b < h.n := Hp.lt_of_at (by rw [hb]; simp)
  have ha : ∀ i, (h.put b (.cells c t st g true ro)).at i = if i = b then .cells c t st g true ro else h.at i := fun i => Hp.at_put _ _ _ _ hlt
  have hl : ∀ i, lv ((h.put b (.cells c t st g true ro)).at i) = lv (h.at i) := fun i => by
    rw [ha]; split
    · rename_i e; rw [e, hb]; rfl
    · rfl
  refine ⟨⟨fun i => ?_, r.fresh, ?_, r.glob, fun i p g' hi => r.gsep i p g' (by rw [← hl]; exact hi), fun i g' hi => ?_, fun i n hin hu => ?_, ?_⟩, ha⟩
  · rw [ha]; split
    · rename_i e; subst e
      have := r.obj i
      rw [hb] at this
      exact this
    · exact r.obj i
  · intro i j p q hne hi hj ei ej epb
    have := r.sep i j p q hne (by rw [← hl]; exact hi) (by rw [← hl]; exact hj) ei ej epb
    rw [ha, ha]
    by_cases h1 : i = b
    · subst h1
      rw [if_pos rfl, if_neg (fun e => hne e.symm)]
      rw [hb] at this
      cases sh with
      | true => cases hx : h.at j <;> rw [hx] at this <;> first | exact this | simp [SameG] at this
      | false => simp [SameG] at this
    · rw [if_neg h1]
      by_cases h2 : j = b
      · subst h2
        rw [if_pos rfl]
        rw [hb] at this
        cases sh with
        | true => cases hx : h.at i <;> rw [hx] at this <;> first | exact this | simp [SameG] at this
        | false => cases hx : h.at i <;> rw [hx] at this <;> simp [SameG] at this
      · rw [if_neg h2]; exact this
  · rw [ha] at hi
    split at hi
    · rename_i e; subst e
      simp [grpOf] at hi; subst hi
      exact r.grp i g (by rw [hb]; rfl)
    · exact r.grp i g' hi
  · have := r.told i n hin hu
    rw [ha]; split
    · rename_i e; subst e
      rw [hb] at this
      exact this
    · exact this
  · intro i j p q hlt hi hj ei ej epb
    have := r.mono i j p q hlt (by rw [← hl]; exact hi) (by rw [← hl]; exact hj) ei ej epb
    have hL : ∀ i, lenO ((h.put b (.cells c t st g true ro)).at i) = lenO (h.at i) := fun i => by
      rw [ha]; split
      · rename_i e; rw [e, hb]; rfl
      · rfl
    rw [hL, hL]; exact this
theorem St.same (r : Real G ρ h w) (k' : ∀ i, wr (h'.at i) = true → wr (h.at i) = true) : St ρ h w ρ h' w := ⟨.refl _, fun i p hi hp => .inl ⟨i, p, k' i hi, hp, rfl⟩, fun _ _ _ => rfl, Nat.le_refl _, rfl, rfl, rfl⟩
/-- What the second argument yields. -/
theorem src_of (hr : Real G ρ h w) {x : LV} {px : Value} (vx : VR ρ x px) {tx : TypeId} (hk : (∃ e', P.underlying tx = some (.slice e')) ∨ P.underlying tx = some .string) {size n : Nat} {new : List LV} (hn : lenOf' x = some n) (hrow : rowOf h size n x = some new) (hs : ∀ l, x = .str l → size = 1) :
    ∃ pn, LR ρ new pn ∧ Src P size tx px n pn w := by
  cases x with
  | nils =>
    cases vx
    simp only [lenOf', Option.some.injEq] at hn
    simp only [rowOf, Option.some.injEq] at hrow
    subst hn hrow
    exact ⟨[], .nil, hk, fun _ => rfl, run_firstCells_none w size 0 0 0, run_firstCells_none w.drew size 0 0 0, by simp, fun _ h => by cases h⟩
  | slc b off m cap =>
    simp only [lenOf', Option.some.injEq] at hn
    subst hn
    cases vx with
    | slc off n cap hρ hc hk' hs' hx =>
      obtain ⟨pn, l1, l2, l3, l4⟩ := rowOf_slc (size := size) hr hρ (Nat.le_refl _) hc hx hrow
      exact ⟨pn, l1, hk, fun _ => rfl, run_firstCells_some w size _ _ _ _ pn l2 l4, run_firstCells_some w.drew size _ _ _ _ pn l2 (by simpa using l4), l2, l3⟩
  | str l =>
    cases vx
    simp only [lenOf', Option.some.injEq] at hn
    simp only [rowOf, Option.some.injEq] at hrow
    rw [len_eq] at hn
    have h1 := hs l rfl
    subst hn hrow h1
    rw [tak_eq, List.take_length]
    have hb : byteCells ⟨l.toArray⟩ = l.map fun b => Value.int .u8 b.toNat := by simp [byteCells]
    have hz : (⟨l.toArray⟩ : ByteArray).size = l.length := by simp [ByteArray.size]
    have c1 : ∀ w' : World, (Builtin.firstCells 1 l.length (.string ⟨l.toArray⟩)).run P w' = .ok (l.map fun b => Value.int .u8 b.toNat).toArray w' := fun w' => by
      have := firstCells_string (P := P) ⟨l.toArray⟩ w'
      rw [hb, hz] at this
      exact this
    exact ⟨_, ofBytes_LR l, hk, fun _ => by rw [← hz]; rfl, c1 w, c1 w.drew, by simp, fun u hu => by obtain ⟨_, _, rfl⟩ := List.mem_map.1 hu; rfl⟩
  | _ => simp [lenOf'] at hn
/-- What append leaves of the row that it was given. -/
theorem append_heap (hr : Real G ρ h w) {b : Nat} {c : List LV} {t : TypeId} {st g : Nat} {sh : Bool} {p : Place} (hb : h.at b = .cells c t st g sh false) (hρ : ρ b = some p) {k : Nat} {keep : Nat → Bool} {X : LObj} (hX : (X = .cells c t st g true false ∧ k = c.length ∧ keep = fun i => Nat.ble i b) ∨ (X = .dead ∧ keep = Nat.beq b)) :
    ∃ h1 : Hp, (bif sh then killG keep g (h.n - g) h else h).put b X = h1 ∧ h1.n = h.n ∧ (∀ i, wr (h1.at i) = true → wr (h.at i) = true) ∧ Real G ρ h1 w ∧ ∀ i q, lv (h1.at i) = true → ρ i = some q → q.pb = p.pb → ∃ c' t' st' ro, h1.at i = .cells c' t' st' g true ro ∧ q.sh + c'.length ≤ p.sh + k := by
  have hlt : b < h.n := hr.fresh b p hρ
  have hlb : lv (h.at b) = true := by rw [hb]; rfl
  have hkb : keep b = true := by rcases hX with ⟨_, _, rfl⟩ | ⟨_, rfl⟩ <;> simp
  obtain ⟨h2, e2, n2, u2, k2, b2, alone⟩ := alone_of hr hb hρ keep hkb
  rw [e2]
  have r2 := (real_kill hr n2 u2 k2).1
  have hlt2 : b < h2.n := by omega
  have hat : ∀ i, (h2.put b X).at i = if i = b then X else h2.at i := fun i => Hp.at_put _ _ _ _ hlt2
  rcases hX with ⟨rfl, rfl, rfl⟩ | ⟨rfl, rfl⟩
  · have hb2 : h2.at b = .cells c t st g sh false := b2.trans hb
    obtain ⟨r3, a3⟩ := real_share r2 hb2
    refine ⟨_, rfl, n2, fun i hi => ?_, r3, fun i q hl hq epb => ?_⟩
    · rw [hat] at hi
      split at hi
      · rename_i e; rw [e, hb]; rfl
      · rcases k2 i with e | e
        · rw [← e]; exact hi
        · rw [e] at hi; cases hi
    · rw [hat] at hl ⊢
      by_cases hi : i = b
      · rw [if_pos hi]
        subst hi
        rw [hρ] at hq; cases hq
        exact ⟨_, _, _, _, rfl, Nat.le_refl _⟩
      · rw [if_neg hi] at hl ⊢
        have hio : h2.at i = h.at i := by
          rcases k2 i with e | e
          · exact e
          · rw [e] at hl; cases hl
        cases hke : Nat.ble i b with
        | false => exact absurd epb (alone i q hi hke hl hq)
        | true =>
          have hle := Nat.le_of_ble_eq_true hke
          rw [hio] at hl ⊢
          have hs := hr.sep i b q p hi hl hlb hq hρ epb
          have hm := hr.mono i b q p (by omega) hl hlb hq hρ epb
          rw [hb] at hs hm
          cases ho : h.at i with
          | cells c' t' st' g' sh' ro' =>
            rw [ho] at hs hm
            cases sh' <;> cases sh <;> simp [SameG] at hs
            subst hs
            exact ⟨_, _, _, _, rfl, hm⟩
          | _ => rw [ho] at hs; simp [SameG] at hs
  · refine ⟨_, rfl, n2, fun i hi => ?_, (real_kill (h' := h2.put b .dead) r2 rfl rfl fun i => ?_).1, fun i q hl hq epb => ?_⟩
    · rw [hat] at hi
      split at hi
      · cases hi
      · rcases k2 i with e | e
        · rw [← e]; exact hi
        · rw [e] at hi; cases hi
    · rw [hat]
      split
      · exact .inr rfl
      · exact .inl rfl
    · rw [hat] at hl
      split at hl
      · cases hl
      · rename_i hi
        refine absurd epb (alone i q hi ?_ hl hq)
        cases hc : Nat.beq b i
        · rfl
        · exact absurd (Nat.eq_of_beq_eq_true hc).symm hi
theorem zeroCells_eq (z : Array Value) (n : Nat) : Builtin.zeroCells z n = ((List.replicate n z.toList).flatten).toArray := zeros_eq z z.size n rfl
/-- The row that grew. -/
theorem grow_real (hr : Real G ρ h w) {h1 : Hp} (r1 : Real G ρ h1 w) (s1 : St ρ h w ρ h1 w) (n1 : h1.n = h.n) {l : List LV} {pl : List Value} {z : Array Value} (hl : LR ρ l pl) (ho : ∀ u ∈ pl, u.oneCell' = true) (hz : ∀ u ∈ z.toList, u.oneCell' = true) (e t : TypeId) (het : e = t) (size g k need : Nat) (sh : Bool) (hg : g ≤ h.n) (hsz : z.size = size) (hpl : pl.length = need * size) (hk : need ≤ k) :
    ∃ ρ', Real G ρ' (h1.new (.cells l t size g sh false)) (w.drew.alloc (.cells (pl.toArray ++ Builtin.zeroCells z (k - need)) e)) ∧ St ρ h w ρ' (h1.new (.cells l t size g sh false)) (w.drew.alloc (.cells (pl.toArray ++ Builtin.zeroCells z (k - need)) e)) ∧
      VR ρ' (.slc h.n 0 need none) (.slice (some ⟨w.heap.size, 0, none⟩) need k) := by
  have hm : ∀ u ∈ pl ++ (List.replicate (k - need) z.toList).flatten, u.oneCell' = true := fun u hu => by
    rcases List.mem_append.1 hu with hu | hu
    · exact ho u hu
    · obtain ⟨q, hq, hu⟩ := List.mem_flatten.1 hu
      rw [List.eq_of_mem_replicate hq] at hu
      exact hz u hu
  obtain ⟨r2, s2⟩ := new_cells' (fz := (0, 0)) r1.drew hl hm (.inr (Nat.le_refl _)) e t size g sh (by omega) het (fun e1 => List.eq_nil_of_length_eq_zero (by rw [hl.1, hpl, e1, Nat.mul_zero]))
  have ha : (pl.toArray ++ Builtin.zeroCells z (k - need)) = (pl ++ (List.replicate (k - need) z.toList).flatten).toArray := by rw [zeroCells_eq]; simp
  rw [ha]
  refine ⟨_, r2, (s1.drew).trans s2, ?_⟩
  rw [n1]
  refine .slc 0 need none (Rho.add_same _ _) hk (fun _ e => by cases e) (fun _ => ?_) (.inr rfl)
  simp only [Nat.zero_add, List.length_append, hpl, List.length_flatten, List.map_replicate, List.sum_replicate_nat, Array.length_toList, hsz]
  rw [← Nat.add_mul]
  exact Nat.le_of_eq (by congr 1; omega)
theorem append_run (hr : Real G ρ h w) {t tx ty e : TypeId} (ht : P.underlying t = some (.slice e)) (hk : (∃ e', P.underlying tx = some (.slice e')) ∨ P.underlying tx = some .string) {s x : LV} {ps px : Value} (vs : VR ρ s ps) (vx : VR ρ x px) (hv : lappendE P G h e s x = some (v, h')) :
    ∃ ρ' w' pv, (Builtin.append_ #[t, tx] ty #[ps, px]).run P w = .ok pv w' ∧ St ρ h w ρ' h' w' ∧ Real G ρ' h' w' ∧ VR ρ' v pv := by
  unfold lappendE at hv
  obtain ⟨i, hi, hv⟩ := Option.bind_eq_some_iff.1 hv
  obtain ⟨z, hz, hv⟩ := Option.bind_eq_some_iff.1 hv
  obtain ⟨zs, hzs, hv⟩ := Option.bind_eq_some_iff.1 hv
  obtain ⟨n, hn, hv⟩ := Option.bind_eq_some_iff.1 hv
  obtain ⟨m, hm, hv⟩ := Option.bind_eq_some_iff.1 hv
  obtain ⟨old, hold, hv⟩ := Option.bind_eq_some_iff.1 hv
  obtain ⟨new, hnew, hv⟩ := Option.bind_eq_some_iff.1 hv
  obtain ⟨i', pz, hi', hz', ez⟩ := zeroOf_info hz
  rw [ez] at hzs
  rw [hi] at hi'
  cases hi'
  obtain ⟨hlz, hz1⟩ := cells_LR (ρ := ρ) (ofV_VR 3 pz) hzs
  cases h0 : Nat.beq n 0 <;> rw [h0] at hv
  · simp only [cond_false] at hv
    have hn0 : n ≠ 0 := fun e => by subst e; simp at h0
    cases hb : Nat.beq (len zs) i.size && Nat.ble ((m + n) * i.bytes) 140737488355328 && Nat.ble (m + n) 9223372036854775807 && strOk i.size x <;> rw [hb] at hv
    · cases hv
    · simp only [cond_true] at hv
      simp only [Bool.and_eq_true] at hb
      obtain ⟨⟨⟨b1, b2⟩, b3⟩, b4⟩ := hb
      have b1 := Nat.eq_of_beq_eq_true b1
      have b2 := Nat.le_of_ble_eq_true b2
      have b3 := Nat.le_of_ble_eq_true b3
      rw [len_eq] at b1
      have hzsz : pz.cells.size = i.size := by have := hlz.1; simp at this; omega
      obtain ⟨pn, ln, src⟩ := src_of hr vx hk hn hnew (fun l e => by subst e; exact Nat.eq_of_beq_eq_true b4)
      have hfit : ∀ c, c < m + n → Builtin.nextslicecap (m + n) c * i.bytes ≤ 281474976710656 := fun c hc => growslice_fits hc b2
      cases s with
      | nils =>
        cases vs
        simp only [lenOf', Option.some.injEq] at hm
        simp only [rowOf, Option.some.injEq] at hold
        subst hm hold
        simp only [appendTo, Option.some.injEq, Prod.mk.injEq] at hv
        obtain ⟨rfl, rfl⟩ := hv
        have hrun := run_append_grow_src (P := P) w t tx ty e i pz ht hi hz' none 0 0 [] (run_firstCells_none w.drew i.size 0 0 0) px n pn src (by omega) (by omega) (hfit 0 (by omega))
        obtain ⟨ρ', r', s', v'⟩ := grow_real (k := grownCap w (0 + n) 0 e) (z := pz.cells) (need := 0 + n) (size := i.size) hr hr .refl rfl (l := [] ++ new) (pl := [] ++ pn) ln src.one hz1 e e rfl h.n false (Nat.le_refl _) hzsz (by simp [src.newsLen]) (grownCap_ge _ _ _ _)
        rw [app_eq]
        exact ⟨ρ', _, _, hrun, s', r', v'⟩
      | slc b off m' cap =>
        simp only [lenOf', Option.some.injEq] at hm
        subst hm
        cases vs with
        | @slc _ p c xx _ _ _ hρ hc hk' hs' hx =>
          obtain ⟨pold, lo, lol, lo1, loc⟩ := rowOf_slc (size := i.size) hr hρ (Nat.le_refl _) hc hx hold
          simp only [appendTo] at hv
          split at hv
          · rename_i cc tt st g sh hb
            cases hst : (Nat.beq st i.size && Nat.beq tt e) <;> rw [hst] at hv
            · cases hv
            · simp only [cond_true] at hv
              rw [Bool.and_eq_true] at hst
              have htt := Nat.eq_of_beq_eq_true hst.2
              have hst := Nat.eq_of_beq_eq_true hst.1
              have hlt : b < h.n := hr.fresh b p hρ
              have hgle : g ≤ b := hr.grp b g (by rw [hb]; rfl)
              have hob := hr.obj b
              rw [hb] at hob
              obtain ⟨p', hρ', hpst, ⟨pc, e1, fz, hw, hsz, hsh, hlc, hone, hfz⟩⟩ := hob
              rw [hρ] at hρ'
              cases hρ'
              simp only [rowOf, hb] at hold
              cases hble : Nat.ble (off + m' * i.size) (len cc) <;> rw [hble] at hold
              · cases hold
              · simp only [cond_true, Option.some.injEq] at hold
                have hble := Nat.le_of_ble_eq_true hble
                rw [len_eq] at hble
                rw [tak_eq, drp_eq] at hold
                obtain ⟨X, keep, hX, rfl, rfl⟩ : ∃ X keep, ((X = .cells cc tt st g true false ∧ off + m' * i.size = cc.length ∧ keep = fun i => Nat.ble i b) ∨ (X = .dead ∧ keep = Nat.beq b)) ∧ v = .slc h.n 0 (m' + n) none ∧ h' = ((bif sh then killG keep g (h.n - g) h else h).put b X).new (.cells (app old new) e i.size g true false) := by
                  cases hend : !G.weak && Nat.beq (off + m' * i.size) (len cc) <;> rw [hend] at hv
                  · simp only [cond_false, Option.some.injEq, Prod.mk.injEq] at hv
                    exact ⟨_, _, .inr ⟨rfl, rfl⟩, hv.1.symm, hv.2.symm⟩
                  · simp only [cond_true, Option.some.injEq, Prod.mk.injEq] at hv
                    refine ⟨_, _, .inl ⟨rfl, ?_, rfl⟩, hv.1.symm, hv.2.symm⟩
                    rw [Bool.and_eq_true] at hend; rw [← len_eq]; exact Nat.eq_of_beq_eq_true hend.2
                obtain ⟨h1, e1', n1, w1, r1, cl⟩ := append_heap hr hb hρ (k := off + m' * i.size) hX
                rw [e1', app_eq]
                have s1 : St ρ h w ρ h1 w := St.same hr w1
                have hol : LR ρ (old ++ new) (pold ++ pn) := lo.append ln
                have ho1 : ∀ u ∈ pold ++ pn, u.oneCell' = true := fun u hu => by
                  rcases List.mem_append.1 hu with hu | hu
                  · exact lo1 u hu
                  · exact src.one u hu
                by_cases hroom : m' + n ≤ c
                · have hx' : xx = p.sh + off := by
                    rcases hx with hx | hx
                    · omega
                    · exact hx
                  subst hx'
                  have hin : p.sh + (off + m' * i.size) + pn.length ≤ pc.size := by
                    rw [src.newsLen]
                    by_cases h0 : i.size = 0
                    · rw [h0]; simp; rw [h0] at hble; simp at hble; omega
                    · have := hs' (by rw [hpst.1, hst]; exact h0)
                      have h2 : (m' + n) * i.size ≤ c * i.size := Nat.mul_le_mul_right _ hroom
                      rw [Nat.add_mul] at h2
                      rw [hpst.1, hst] at this
                      omega
                  have hrun := run_append_room_src (P := P) w t tx ty e i ht hi p.pb (p.sh + off) m' c px n pn src hroom (fun j hj => by simp [World.cell?, hw]; omega) (fun j hj => by
                    have := hfz (p.sh + off + m' * i.size + j) (by omega)
                    simp only [World.frozen?, hw]
                    exact this)
                  have hlold : old.length = m' * i.size := by rw [lo.1, lol]
                  obtain ⟨r3, s3⟩ := row_more hr r1 n1 w1 (by rw [hb]; rfl) (by rw [hb]; rfl) hρ (off := off) cl hw hsz hone hfz (l := old ++ new) src.one hin (fun j v v' e1 e2 => by
                    rw [setRow_get _ _ _ _ hin] at e2
                    by_cases hj : j < m' * i.size
                    · rw [if_neg (by omega)] at e2
                      rw [List.getElem?_append_left (by omega), ← hold, List.getElem?_take_of_lt hj, List.getElem?_drop] at e1
                      exact hlc _ v v' e1 (by rw [← e2]; congr 1; omega)
                    · rw [List.getElem?_append_right (by omega)] at e1
                      have hj2 : j - old.length < new.length := (List.getElem?_eq_some_iff.1 e1).1
                      have := ln.1
                      rw [if_pos (by omega)] at e2
                      exact ln.2 _ v v' e1 (by rw [← e2]; congr 1; omega)) (by
                    have := ln.1
                    rw [List.length_append]; omega) (by rw [List.length_append]; omega) e (by
                    obtain ⟨qc, qz, q1, -⟩ := hpst.2
                    rw [hw] at q1
                    cases q1
                    exact htt) i.size (fun h0 => List.eq_nil_of_length_eq_zero (by
                      have q1 := ln.1
                      have q2 := src.newsLen
                      rw [h0, Nat.mul_zero] at hlold q2
                      rw [List.length_append]; omega))
                  rw [Nat.add_assoc p.sh] at hrun
                  refine ⟨_, _, _, hrun, s3, r3, .slc (p := ⟨p.pb, p.sh + off, p.sz, i.size⟩) 0 (m' + n) none (Rho.add_same _ _) hroom (fun _ e => by cases e) (fun hne => ?_) (.inr (Nat.add_zero _).symm)⟩
                  have := hs' (by rw [hpst.1, hst]; exact hne)
                  simp only [hpst.1, hst] at this ⊢
                  omega
                · have hold' : (Builtin.firstCells i.size m' (.slice (some ⟨p.pb, xx, none⟩) m' c)).run P w.drew = .ok pold.toArray w.drew := run_firstCells_some w.drew i.size _ _ _ _ pold lol (by simpa using loc)
                  have hrun := run_append_grow_src (P := P) w t tx ty e i pz ht hi hz' (some ⟨p.pb, xx, none⟩) m' c pold hold' px n pn src (by omega) (by omega) (hfit c (by omega))
                  obtain ⟨ρ', r', s', v'⟩ := grow_real (k := grownCap w (m' + n) c e) (z := pz.cells) (need := m' + n) (size := i.size) hr r1 s1 n1 hol ho1 hz1 e e rfl g true (by omega) hzsz (by rw [List.length_append, lol, src.newsLen, Nat.add_mul]) (grownCap_ge _ _ _ _)
                  exact ⟨ρ', _, _, hrun, s', r', v'⟩
          · cases hv
      | str l => simp [appendTo] at hv
      | _ => simp [lenOf'] at hm
  · have hv2 : sameS h s = some (v, h') := hv
    have hn0 := Nat.eq_of_beq_eq_true h0
    subst hn0
    have hsrc : ∃ pn, Src P i.size tx px 0 pn w := by
      cases x with
      | str l =>
        cases vx
        simp only [lenOf', Option.some.injEq, len_eq] at hn
        have := List.eq_nil_of_length_eq_zero hn
        subst this
        refine ⟨[], hk, fun _ => rfl, ?_, ?_, by simp, fun _ h => by cases h⟩ <;> simp [Builtin.firstCells]
      | _ =>
        obtain ⟨pn, ln, src⟩ := src_of hr vx hk hn hnew (fun l e => by cases e)
        exact ⟨pn, src⟩
    obtain ⟨pn, src⟩ := hsrc
    have hp0 : pn = [] := List.eq_nil_of_length_eq_zero (by rw [src.newsLen]; simp)
    subst hp0
    cases s with
    | nils => cases hv2; cases vs; exact ⟨ρ, w, _, run_append_nothing w t tx ty e i ht hi none 0 0 (Nat.le_refl _) px src, .refl, hr, .nils⟩
    | slc b off m' cap =>
      cases hv2
      cases vs with
      | slc off n cap hρ hc hk' hs' hx => exact ⟨ρ, w, _, run_append_nothing w t tx ty e i ht hi _ _ _ hc px src, .refl, hr, .slc _ _ _ hρ hc hk' hs' hx⟩
    | _ => simp [sameS] at hv2
end
end Go.Proofs.Eng
