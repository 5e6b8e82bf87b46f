/- The logical machine: the builtins. Conditions: none. -/
import Derived.Test.YtbnmhhbncggjkaaGreatDoorEngN
set_option linter.unusedVariables false
set_option linter.unusedSimpArgs false
namespace Go.Proofs.Eng
open Go
section
variable {P : Program} {G : Gl} {ρ : Rho} {h h' h1 : Hp} {w : World} {a : Fr} {o : Oper} {v : LV}
/-- A builtin, told of values. -/
def BuiltS (P : Program) (G : Gl) (b : Builtin) (ts : Array TypeId) (h : Hp) (args : List LV) (v : LV) (h' : Hp) : Prop :=
  ∀ (ρ : Rho) (w : World) (ty : TypeId) (cs : Array Bool) (pargs : Array Value), Real G ρ h w → LR ρ args pargs.toList → ∃ ρ' w' pv, St ρ h w ρ' h' w' ∧ Real G ρ' h' w' ∧ VR ρ' v pv ∧ (builtin b ts ty cs pargs).run P w = .ok (.value pv) w'
theorem under_some {t : Option TypeId} {d : TypeDesc} (hu : under P t = some d) : ∃ i, t = some i ∧ P.underlying i = some d := by
  unfold under at hu
  exact Option.bind_eq_some_iff.1 hu
theorem LR.one_inv {x : LV} {a : Array Value} (r : LR ρ [x] a.toList) : ∃ y, a = #[y] ∧ VR ρ x y := by
  obtain ⟨y, b, e, h1, h2⟩ := r.cons_inv
  have : b = [] := List.eq_nil_of_length_eq_zero h2.1.symm
  subst this
  exact ⟨y, Array.ext' e, h1⟩
theorem LR.two_inv {x y : LV} {a : Array Value} (r : LR ρ [x, y] a.toList) : ∃ x' y', a = #[x', y'] ∧ VR ρ x x' ∧ VR ρ y y' := by
  obtain ⟨x', b, e, h1, h2⟩ := r.cons_inv
  obtain ⟨y', c, e', h3, h4⟩ := h2.cons_inv
  have : c = [] := List.eq_nil_of_length_eq_zero h4.1.symm
  subst this e'
  exact ⟨x', y', Array.ext' e, h1, h3⟩
theorem map_obj (hr : Real G ρ h w) {r : Nat} {p : Place} {es : List (LV × LV × Nat)} {k : Nat} (hρ : ρ r = some p) (hb : h.at r = .map es k) :
    ∃ es' : Array MapEntry, w.heap[p.pb]? = some (.map es' k) ∧ es.length = es'.size ∧ ∀ (i : Nat) x y, es[i]? = some x → es'[i]? = some y → VR ρ x.1 y.key ∧ VR ρ x.2.1 y.val ∧ x.2.2 = y.born := by
  have := hr.obj r
  rw [hb] at this
  obtain ⟨p', es', h1, h2⟩ := this
  rw [hρ] at h1
  cases h1
  exact ⟨es', h2⟩
theorem built_len {ts : Array TypeId} {x : LV} {n : Nat} (hv : llen h (under P ts[0]?) x = some n) : BuiltS P G .len ts h [x] (.int .i64 n) h := fun ρ w ty cs pargs hr hl => by
  obtain ⟨y, rfl, hy⟩ := hl.one_inv
  refine ⟨ρ, w, .int .i64 n, .refl, hr, .int _ _, ?_⟩
  refine run_v ?_
  unfold llen at hv
  generalize hu : under P ts[0]? = d at hv
  split at hv <;> first | (cases hv; done) | skip
  · rename_i l
    obtain ⟨t, ht, hd⟩ := under_some hu
    cases hv
    rw [len_eq, hy.str_inv]
    have hsz : (⟨l.toArray⟩ : ByteArray).size = l.length := rfl
    simp [Builtin.len_, ht, run_underlying hd, goInt, hsz]
  · obtain ⟨t, ht, hd⟩ := under_some hu
    cases hv
    simp [Builtin.len_, ht, run_underlying hd, goInt]
  · obtain ⟨t, ht, hd⟩ := under_some hu
    cases hv
    rw [hy.nils_inv]
    simp [Builtin.len_, ht, run_underlying hd, goInt]
  · obtain ⟨t, ht, hd⟩ := under_some hu
    cases hv
    obtain ⟨p, c, x, -, e, -⟩ := hy.slc_inv
    rw [e]
    simp [Builtin.len_, ht, run_underlying hd, goInt]
  · obtain ⟨t, ht, hd⟩ := under_some hu
    cases hv
    rw [hy.nilm_inv]
    simp [Builtin.len_, ht, run_underlying hd, goInt]
  · obtain ⟨t, ht, hd⟩ := under_some hu
    split at hv
    · rename_i es k hb
      cases hv
      obtain ⟨p, hρ, e⟩ := hy.map_inv
      obtain ⟨es', hw, hsz, -⟩ := map_obj hr hρ hb
      rw [e, len_eq, hsz]
      have hg : (getObj p.pb).run P w = .ok (.map es' k) w := by simp [getObj, Sem.run, hw]
      simp [Builtin.len_, ht, run_underlying hd, goInt, hg]
    · cases hv
theorem sliceOf_some {d : Option TypeDesc} {e : TypeId} (hs : sliceOf d = some e) : d = some (.slice e) := by
  unfold sliceOf at hs
  split at hs
  · cases hs; rfl
  · cases hs
theorem rowT_some {d : Option TypeDesc} (hs : rowT d = true) : (∃ e, d = some (.slice e)) ∨ d = some .string := by
  unfold rowT at hs
  split at hs
  · exact .inl ⟨_, rfl⟩
  · exact .inr rfl
  · cases hs
theorem built_append {ts : Array TypeId} {s x : LV} (hv : lappend P G h ts.toList s x = some (v, h')) : BuiltS P G .append ts h [s, x] v h' := fun ρ w ty cs pargs hr hl => by
  obtain ⟨y, z, rfl, hy, hz⟩ := hl.two_inv
  unfold lappend at hv
  split at hv
  · rename_i t u ets
    obtain ⟨e, he, hv⟩ := Option.bind_eq_some_iff.1 hv
    cases hb : rowT (P.underlying u) <;> rw [hb] at hv
    · cases hv
    · have ets' : ts = #[t, u] := Array.ext' ets
      subst ets'
      obtain ⟨ρ', w', pv, h1, h2, h3, h4⟩ := append_run (ty := ty) hr (sliceOf_some he) (rowT_some hb) hy hz hv
      exact ⟨ρ', w', pv, h2, h3, h4, run_v h1⟩
  · cases hv
theorem built_copy {ts : Array TypeId} {s d : LV} (hv : lcopy P h (under P ts[0]?) d s = some (v, h')) : BuiltS P G .copy ts h [d, s] v h' := fun ρ w ty cs pargs hr hl => by
  obtain ⟨y, z, rfl, hy, hz⟩ := hl.two_inv
  unfold lcopy at hv
  obtain ⟨e, he, hv⟩ := Option.bind_eq_some_iff.1 hv
  obtain ⟨size, hsz, hv⟩ := Option.bind_eq_some_iff.1 hv
  obtain ⟨n, hn, hv⟩ := Option.bind_eq_some_iff.1 hv
  obtain ⟨m, hm, hv⟩ := Option.bind_eq_some_iff.1 hv
  obtain ⟨c, hc, hv⟩ := Option.bind_eq_some_iff.1 hv
  obtain ⟨t, ht, hd⟩ := under_some (sliceOf_some he)
  have src : ∃ pn : List Value, LR ρ c pn ∧ (∀ u ∈ pn, u.oneCell' = true) ∧ (Builtin.lenOf z).run P w = .ok n w ∧ (Builtin.firstCells size (Nat.min n m) z).run P w = .ok pn.toArray w ∧ (Nat.min n m = 0 → pn = []) := by
    cases s with
    | nils =>
      cases hz
      cases hn
      cases hc
      exact ⟨[], .nil, (fun _ h => by cases h), rfl, (by simp [Builtin.firstCells]), fun _ => rfl⟩
    | slc b off k cap =>
      cases hn
      cases hz with
      | slc off n cap hρ hc' hk' hs' hx =>
        obtain ⟨pn, l1, l2, l3, l4⟩ := rowOf_slc (size := size) hr hρ (Nat.min_le_left _ _) hc' hx hc
        exact ⟨pn, l1, l3, rfl, run_firstCells_some w size _ _ _ _ pn l2 l4, fun e => List.eq_nil_of_length_eq_zero (by rw [l2, show min n m = 0 from e, Nat.zero_mul])⟩
    | str l =>
      cases hn
      cases hc
      rw [hz.str_inv, tak_eq]
      refine ⟨_, ofBytes_LR _, (fun u hu => by obtain ⟨_, _, rfl⟩ := List.mem_map.1 hu; rfl), (by rw [len_eq]; rfl), ?_, fun e => by rw [e]; rfl⟩
      simp [Builtin.firstCells]
    | _ => simp [lenOf'] at hn
  obtain ⟨pn, l1, l2, l3, l4, l5⟩ := src
  have hl0 : ts[0]? = some t := ht
  cases d with
  | nils =>
    cases hy
    cases hm
    cases hv
    refine ⟨ρ, w, _, .refl, hr, .int _ _, run_v ?_⟩
    simp [Builtin.copy_, hl0, run_underlying hd, l3, run_sizeOf' hsz, goInt] at l4 ⊢
    simp [l4]
  | slc b off k cap =>
    cases hm
    simp only [copyTo] at hv
    obtain ⟨h2, hp, hv⟩ := Option.map_eq_some_iff.1 hv
    cases hv
    cases hy with
    | @slc _ p cc xx _ _ _ hρ hc' hk' hs' hx =>
      obtain ⟨p', hρ', hrun, r', s'⟩ := put_real (P := P) hr hp l1 l2
      rw [hρ] at hρ'
      cases hρ'
      by_cases h0 : pn = []
      · subst h0
        refine ⟨ρ, w, _, ?_, ?_, .int _ _, run_v ?_⟩
        · exact s'
        · exact r'
        · have : (storeCells (⟨p.pb, xx, none⟩) []).run P w = .ok () w := rfl
          simp [Builtin.copy_, hl0, run_underlying hd, l3, run_sizeOf' hsz, goInt, l4, this]
      · have hxx : xx = p.sh + off := by
          rcases hx with hx | hx
          · exact absurd (l5 (by rw [show m = 0 by omega]; exact Nat.min_zero _)) h0
          · exact hx
        subst hxx
        refine ⟨ρ, _, _, s', r', .int _ _, run_v ?_⟩
        simp [Builtin.copy_, hl0, run_underlying hd, l3, run_sizeOf' hsz, goInt, l4, hrun]
  | _ => simp [copyTo] at hv
theorem run_min : ∀ (r : List LV) (pr : List Value) (x : LV) (px : Value) (v : LV), LR ρ r pr → VR ρ x px → lmin ltOf r x = some v → ∃ pv, VR ρ v pv ∧ (pr.foldlM Builtin.min2 px).run P w = .ok pv w
  | [], pr, x, px, v, hr, hx, hv => by
    have : pr = [] := List.eq_nil_of_length_eq_zero hr.1.symm
    subst this
    simp only [lmin, Option.some.injEq] at hv
    subst hv
    exact ⟨px, hx, rfl⟩
  | y :: r, pr, x, px, v, hr, hx, hv => by
    obtain ⟨py, pr, rfl, hy, hr2⟩ := hr.cons_inv
    clear hr
    obtain ⟨u, hu, hv2⟩ := Option.bind_eq_some_iff.1 (show (min1 ltOf y x).bind (lmin ltOf r) = some v from hv)
    unfold min1 at hu
    split at hu
    · cases hu
      cases hx
      cases hy
      obtain ⟨pv, h1, h2⟩ := run_min _ pr _ _ v hr2 (.int _ _) hv2
      refine ⟨pv, h1, ?_⟩
      simp only [ltOf, cond_eq_ite, decide_eq_true_eq] at h2
      simp [List.foldlM, Builtin.min2, h2]
    · cases hu
theorem run_max : ∀ (r : List LV) (pr : List Value) (x : LV) (px : Value) (v : LV), LR ρ r pr → VR ρ x px → lmin gtOf r x = some v → ∃ pv, VR ρ v pv ∧ (pr.foldlM Builtin.max2 px).run P w = .ok pv w
  | [], pr, x, px, v, hr, hx, hv => by
    have : pr = [] := List.eq_nil_of_length_eq_zero hr.1.symm
    subst this
    simp only [lmin, Option.some.injEq] at hv
    subst hv
    exact ⟨px, hx, rfl⟩
  | y :: r, pr, x, px, v, hr, hx, hv => by
    obtain ⟨py, pr, rfl, hy, hr2⟩ := hr.cons_inv
    clear hr
    obtain ⟨u, hu, hv2⟩ := Option.bind_eq_some_iff.1 (show (min1 gtOf y x).bind (lmin gtOf r) = some v from hv)
    unfold min1 at hu
    split at hu
    · cases hu
      cases hx
      cases hy
      obtain ⟨pv, h1, h2⟩ := run_max _ pr _ _ v hr2 (.int _ _) hv2
      refine ⟨pv, h1, ?_⟩
      simp only [gtOf, cond_eq_ite, decide_eq_true_eq] at h2
      simp [List.foldlM, Builtin.max2, h2]
    · cases hu
theorem built_min {ts : Array TypeId} {x : LV} {r : List LV} (hv : lmin ltOf r x = some v) : BuiltS P G .min ts h (x :: r) v h := fun ρ w ty cs pargs hr hl => by
  obtain ⟨px, pr, e, h1, h2⟩ := hl.cons_inv
  obtain ⟨pv, h3, h4⟩ := run_min (P := P) (w := w) r pr x px v h2 h1 hv
  refine ⟨ρ, w, pv, .refl, hr, h3, run_v ?_⟩
  unfold Builtin.min_
  rw [e]
  exact h4
theorem built_max {ts : Array TypeId} {x : LV} {r : List LV} (hv : lmin gtOf r x = some v) : BuiltS P G .max ts h (x :: r) v h := fun ρ w ty cs pargs hr hl => by
  obtain ⟨px, pr, e, h1, h2⟩ := hl.cons_inv
  obtain ⟨pv, h3, h4⟩ := run_max (P := P) (w := w) r pr x px v h2 h1 hv
  refine ⟨ρ, w, pv, .refl, hr, h3, run_v ?_⟩
  unfold Builtin.max_
  rw [e]
  exact h4
theorem built_of {b : Builtin} {ts : Array TypeId} {args : List LV} (hv : lbuiltin P G h b ts args = some (v, h')) : BuiltS P G b ts h args v h' := by
  unfold lbuiltin at hv
  split at hv
  · obtain ⟨n, h1, h2⟩ := Option.map_eq_some_iff.1 hv
    cases h2
    exact built_len h1
  · exact built_append hv
  · exact built_copy hv
  · obtain ⟨n, h1, h2⟩ := Option.map_eq_some_iff.1 hv
    cases h2
    exact built_min h1
  · obtain ⟨n, h1, h2⟩ := Option.map_eq_some_iff.1 hv
    cases h2
    exact built_max h1
  · cases hv
end
end Go.Proofs.Eng
