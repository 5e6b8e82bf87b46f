/- The machine that hands on comes to what the logical machine comes to: single operations. Conditions: none. -/
import Derived.Test.YtbnmhhbncggjkaaGreatDoorEngCp
import Derived.Test.YtbnmhhbncggjkaaGreatDoorEngT
set_option linter.unusedVariables false
set_option linter.unusedSimpArgs false
namespace Go.Proofs.Eng
open Go
section
variable {R : Type} {P : Program} {G : Gl} {h h' : Hp} {a : Fr} {o : Oper} {r : R}
theorem tst_some {b : Bool} {x y : Option R} : tst b x y = some r ↔ (b = true ∧ x = some r) ∨ (b = false ∧ y = some r) := by cases b <;> simp [tst]
theorem ast_some {b : Bool} {x : Option R} : ast b x = some r ↔ b = true ∧ x = some r := by cases b <;> simp [ast]
theorem none_some : (none' : Option R) = some r ↔ False := by simp [none']
theorem band_true {a b : Bool} : band a b = true ↔ a = true ∧ b = true := by cases a <;> simp [band]
theorem kpick_some {α : Type} : ∀ {l : List (Bool × α)} {f : α → Option R}, kpick l f = some r → ∃ x, pickR l = some x ∧ f x = some r
  | [], f, e => by cases e
  | x :: l, f, e => by
    unfold kpick at e
    rcases tst_some.1 e with ⟨hb, e⟩ | ⟨hb, e⟩
    · exact ⟨x.2, by simp [pickR, hb], e⟩
    · obtain ⟨y, h1, h2⟩ := kpick_some e
      exact ⟨y, by simp [pickR, hb, h1], h2⟩
theorem rd_some {k : Kd} {o : Option LV} {f : LV → Option R} (e : rd k o f = some r) : ∃ v, o = some v ∧ f v = some r := by
  unfold rd at e
  split at e
  · rename_i k
    unfold rdI at e
    cases o with
    | none => cases e
    | some v =>
      cases v with
      | int k' n =>
        simp only at e
        cases hk : kEq k k' <;> rw [hk] at e
        · cases e
        · have : k = k' := of_decide_eq_true hk
          subst this
          exact ⟨_, rfl, e⟩
      | _ => cases e
  · unfold rdB at e; split at e <;> first | exact ⟨_, rfl, e⟩ | cases e
  · unfold rdS at e; split at e <;> first | exact ⟨_, rfl, e⟩ | cases e
  · unfold rdV at e; split at e <;> first | exact ⟨_, rfl, e⟩ | cases e
theorem rdL_some {c : List LV} : ∀ (ks : List Kd) (off : Nat) {f : List LV → Option R}, rdL c off ks f = some r → ∃ l, f l = some r ∧ l = (c.drop off).take ks.length ∧ (ks ≠ [] → off + ks.length ≤ c.length)
  | [], off, f, e => ⟨[], e, by simp, fun h => absurd rfl h⟩
  | k :: ks, off, f, e => by
    obtain ⟨v, h1, e⟩ := rd_some e
    obtain ⟨l, h2, h3, h4⟩ := rdL_some ks _ e
    rw [nth_eq] at h1
    have hlt := (List.getElem?_eq_some_iff.1 h1).1
    refine ⟨v :: l, h2, ?_, fun _ => ?_⟩
    · have : c.drop off = v :: c.drop (off + 1) := by
        rw [List.drop_eq_getElem_cons hlt, (List.getElem?_eq_some_iff.1 h1).2]
      rw [this, h3]
      rfl
    · cases ks with
      | nil => simp; omega
      | cons k' ks =>
        have := h4 (by simp)
        simp only [nadd, Nat.add_eq] at this
        simp only [List.length_cons] at this ⊢
        omega
theorem klpart_some {t : TypeId} {c : List LV} {off : Nat} {f : LV → Option R} (e : klpart P t c off f = some r) : ∃ v, lpart P t c off = some v ∧ f v = some r := by
  unfold klpart at e
  unfold lpart aggT
  split at e
  · cases e
  · rename_i d hd
    rw [hd]
    simp only [Option.map_some, Option.bind_some]
    cases ha : aggD d <;> rw [ha] at e
    · obtain ⟨v, h1, h2⟩ := rd_some e
      exact ⟨v, h1, h2⟩
    · simp only [cond_true] at e ⊢
      split at e
      · rename_i k ks n _ hn
        rw [hn]
        simp only [Option.bind_some]
        cases hb : Nat.beq n (len (k :: ks)) <;> rw [hb] at e
        · cases e
        · obtain ⟨l, h1, h2, h3⟩ := rdL_some _ _ e
          have hb := Nat.eq_of_beq_eq_true hb
          rw [len_eq] at hb
          refine ⟨.agg l, ?_, h1⟩
          have : Nat.ble (off + n) (len c) = true := Nat.ble_eq_true_of_le (by rw [len_eq, hb]; exact h3 (by simp))
          rw [this, h2, hb, tak_eq, drp_eq]
          rfl
      · rename_i n hn _
        rw [hn]
        simp only [Option.bind_some]
        obtain ⟨h1, h2⟩ := ast_some.1 e
        refine ⟨_, ?_, h2⟩
        rw [show Nat.ble (off + n) (len c) = true from h1]
        rfl
      · cases e
theorem kshl_some {k : IntKind} {x y : Int} {f : LV → Option R} (e : kshl k x y f = some r) : ∃ v, lshl k x y = some v ∧ f v = some r := by
  unfold kshl at e
  rcases tst_some.1 e with ⟨h1, e⟩ | ⟨h1, e⟩
  · cases e
  · exact ⟨_, by unfold lshl; rw [show decide (y < 0) = false from h1]; rfl, e⟩
theorem kshr_some {k : IntKind} {x y : Int} {f : LV → Option R} (e : kshr k x y f = some r) : ∃ v, lshr k x y = some v ∧ f v = some r := by
  unfold kshr at e
  rcases tst_some.1 e with ⟨h1, e⟩ | ⟨h1, e⟩
  · cases e
  · exact ⟨_, by unfold lshr; rw [show decide (y < 0) = false from h1]; rfl, e⟩
theorem bnot_eq (b : Bool) : bnot b = !b := by cases b <;> rfl
theorem band_eq (a b : Bool) : band a b = (a && b) := by cases a <;> rfl
theorem klint_some {op : BinOp} {k : IntKind} {x y : Int} {f : LV → Option R} (e : klint op k x y f = some r) : ∃ v, lint op k x y = some v ∧ f v = some r := by
  unfold klint at e
  split at e
  · rcases tst_some.1 e with ⟨h1, e⟩ | ⟨h1, e⟩
    · cases e
    · exact ⟨_, by unfold lint; rw [show decide (y = 0) = false from h1]; rfl, e⟩
  · rcases tst_some.1 e with ⟨h1, e⟩ | ⟨h1, e⟩
    · cases e
    · exact ⟨_, by unfold lint; rw [show decide (y = 0) = false from h1]; rfl, e⟩
  · exact ⟨_, rfl, e⟩
  · rw [bnot_eq] at e; exact ⟨_, rfl, e⟩
  · exact ⟨_, rfl, e⟩
  · exact ⟨_, rfl, e⟩
  · exact ⟨_, rfl, e⟩
  · exact ⟨_, rfl, e⟩
  · split at e
    · exact ⟨_, by assumption, e⟩
    · cases e
theorem klstr_some {op : BinOp} {x y : List UInt8} {f : LV → Option R} (e : klstr op x y f = some r) : ∃ v, lstr op x y = some v ∧ f v = some r := by
  unfold klstr at e
  split at e
  · obtain ⟨h1, e⟩ := ast_some.1 e
    exact ⟨_, by unfold lstr; simp only; rw [show Nat.ble (len x + len y) 9223372036854775807 = true from h1]; rfl, e⟩
  · split at e
    · exact ⟨_, by assumption, e⟩
    · cases e
theorem allA_sound {eq eq' : TypeId → LV → LV → Option Bool} (hq : ∀ t x y b, eq t x y = some b → eq' t x y = some b) {e : TypeId} {n : Nat} {xs ys : List LV} : ∀ k i b, allA P eq e n xs ys k i = some b → leqA P eq' e n xs ys k i = some b
  | 0, i, b, h => h
  | k + 1, i, b, h => by
    unfold allA at h
    obtain ⟨x, h1, h⟩ := Option.bind_eq_some_iff.1 h
    obtain ⟨y, h2, h⟩ := Option.bind_eq_some_iff.1 h
    obtain ⟨c, h3, h⟩ := Option.bind_eq_some_iff.1 h
    obtain ⟨d, h4, rfl⟩ := Option.map_eq_some_iff.1 h
    unfold leqA
    rw [h1, h2]
    simp only [Option.bind_some, hq _ _ _ _ h3]
    cases c
    · rfl
    · exact allA_sound hq k (i + 1) d h4
theorem allF_sound {eq eq' : TypeId → LV → LV → Option Bool} (hq : ∀ t x y b, eq t x y = some b → eq' t x y = some b) {xs ys : List LV} : ∀ l b, allF P eq xs ys l = some b → leqF P eq' xs ys l = some b
  | [], b, h => h
  | f :: l, b, h => by
    unfold allF at h
    unfold leqF
    split
    · rename_i hn
      rw [hn] at h
      cases h
    · rename_i hn
      rw [show (f.name == "_") = false by simpa using hn] at h
      simp only [cond_false] at h
      obtain ⟨x, h1, h⟩ := Option.bind_eq_some_iff.1 h
      obtain ⟨y, h2, h⟩ := Option.bind_eq_some_iff.1 h
      obtain ⟨c, h3, h⟩ := Option.bind_eq_some_iff.1 h
      obtain ⟨d, h4, rfl⟩ := Option.map_eq_some_iff.1 h
      rw [h1, h2]
      simp only [Option.bind_some, hq _ _ _ _ h3]
      cases c
      · rfl
      · exact allF_sound hq l d h4
theorem keq_sound : ∀ d t x y b, keq P d t x y = some b → leq P d t x y = some b
  | 0, t, x, y, b, h => by cases h
  | d + 1, t, x, y, b, h => by
    unfold keq at h
    split at h
    · rename_i e1
      unfold leq
      rw [e1]
      exact h
    · rename_i e1
      unfold leq
      rw [e1]
      simp only
      split at h
      · cases h
      · rename_i hn
        rw [if_neg hn]
        exact allF_sound (keq_sound d) _ _ h
    · rename_i e1
      unfold leq
      rw [e1]
      simp only
      obtain ⟨m, h1, h⟩ := Option.bind_eq_some_iff.1 h
      rw [h1]
      exact allA_sound (keq_sound d) _ _ _ h
    · cases h
    · cases h
    · exact h
theorem klbin_some {op : BinOp} {t : TypeId} {cx cy : Bool} {x y : LV} {f : LV → Option R} (e : klbin P op t cx cy x y f = some r) : ∃ v, lbin P op t cx cy x y = some v ∧ f v = some r := by
  unfold klbin at e
  unfold lbin
  split at e
  · split at e
    · exact kshl_some e
    · exact kshr_some e
    · split at e
      · rename_i hk
        obtain ⟨v, h1, h2⟩ := klint_some e
        refine ⟨v, ?_, h2⟩
        simp only [hk, if_true] at h1 ⊢
        exact h1
      · cases e
  · exact klstr_some e
  · simp only
    split at e
    · cases hb : eqOk P t cx cy x y <;> rw [hb] at e
      · cases e
      · simp only [cond_true] at e ⊢
        split at e
        · rename_i b hq
          rw [keq_sound _ _ _ _ _ hq]
          exact ⟨_, rfl, e⟩
        · cases e
    · cases hb : eqOk P t cx cy x y <;> rw [hb] at e
      · cases e
      · simp only [cond_true] at e ⊢
        split at e
        · rename_i b hq
          rw [keq_sound _ _ _ _ _ hq]
          rw [bnot_eq] at e
          exact ⟨_, rfl, e⟩
        · cases e
    · cases e
theorem kidx_some {n : Nat} {v : LV} {f : Nat → Option R} (e : kidx n v f = some r) : ∃ j, idx n v = some j ∧ f j = some r ∧ j < n := by
  unfold kidx at e
  split at e
  · rename_i i
    obtain ⟨h1, h2⟩ := ast_some.1 e
    rw [band_true] at h1
    refine ⟨_, ?_, h2, Nat.le_of_ble_eq_true h1.2⟩
    show (bif (decide (0 ≤ i) && Nat.blt i.toNat n) then some i.toNat else none) = _
    rw [show (decide (0 ≤ i) && Nat.blt i.toNat n) = true by rw [Bool.and_eq_true]; exact h1]
    rfl
  · cases e
theorem kbnd_some {y : Nat} {o : Option LV} {d : Nat} {f : Nat → Option R} (e : kbnd y o d f = some r) : ∃ j, bnd y o d = some j ∧ f j = some r := by
  unfold kbnd at e
  split at e
  · rename_i i
    obtain ⟨h1, h2⟩ := ast_some.1 e
    rw [band_true] at h1
    refine ⟨_, ?_, h2⟩
    show (bif (decide (0 ≤ i) && Nat.ble i.toNat y) then some i.toNat else none) = _
    rw [show (decide (0 ≤ i) && Nat.ble i.toNat y) = true by rw [Bool.and_eq_true]; exact h1]
    rfl
  · exact ⟨_, rfl, e⟩
  · cases e
theorem kcutStr_some {s : List UInt8} {lo hi : Option LV} {f : LV → Option R} (e : kcutStr s lo hi f = some r) : ∃ v, cutStr s lo hi = some v ∧ f v = some r := by
  obtain ⟨x, h1, e⟩ := kbnd_some e
  obtain ⟨y, h2, e⟩ := kbnd_some e
  exact ⟨_, by unfold cutStr; rw [h1]; simp only [Option.bind_some]; rw [h2]; rfl, e⟩
theorem kcutRow_some {el : TypeId} {b off n : Nat} {cap : Option Nat} {arr : Bool} {lo hi : Option LV} {f : LV → Option R} (e : kcutRow P h el b off n cap arr lo hi f = some r) : ∃ v, cutRow P h el b off n cap arr lo hi = some v ∧ f v = some r := by
  obtain ⟨x, h1, e⟩ := kbnd_some e
  obtain ⟨y, h2, e⟩ := kbnd_some e
  split at e
  · rename_i s st h3 h4
    cases hb : Nat.beq st 0 || (!arr && Nat.beq st s) <;> rw [hb] at e
    · cases e
    · exact ⟨_, by unfold cutRow; simp only [h1, h2, h3, h4, Option.bind_some, hb]; rfl, e⟩
  · cases e
theorem kslice_some {t : TypeId} {x : LV} {lo hi : Option LV} {f : LV → Option R} (e : kslice P h t x lo hi f = some r) : ∃ v, lslice P h t x lo hi = some v ∧ f v = some r := by
  unfold kslice at e
  unfold lslice
  split at e
  · rename_i h0; rw [h0]; exact kcutStr_some e
  · rename_i h0; rw [h0]; simp only
    split at e
    · rename_i h3
      obtain ⟨x, h1, e⟩ := kbnd_some e
      obtain ⟨y, h2, e⟩ := kbnd_some e
      exact ⟨_, by rw [h3]; simp only [Option.bind_some]; rw [h1]; simp only [Option.bind_some]; rw [h2]; rfl, e⟩
    · cases e
  · rename_i h0; rw [h0]; exact kcutRow_some e
  · rename_i h0; rw [h0]; exact kcutRow_some e
  · rename_i h0; rw [h0]; simp only
    split at e
    · rename_i h1
      rw [h1]
      exact kcutRow_some e
    · cases e
  · cases e
theorem ktell_some {b : Nat} {vs : List LV} {sc : Bool} {f : Hp → Option R} (e : ktell h b vs sc f = some r) : f (h.tell b (topL vs)) = some r := by
  unfold ktell at e
  cases sc
  · exact e
  · obtain ⟨h1, h2⟩ := ast_some.1 e
    unfold Hp.tell
    rw [show Nat.ble (topL vs) b = true from h1]
    exact h2
theorem kput_some {b off : Nat} {vs : List LV} {sc : Bool} {f : Hp → Option R} (e : kput h b off vs sc f = some r) : ∃ h', putCells h b off vs = some h' ∧ f h' = some r := by
  unfold kput at e
  unfold putCells
  split at e
  · rename_i c t st g sh hb
    obtain ⟨h1, h2⟩ := ast_some.1 e
    refine ⟨_, ?_, ktell_some h2⟩
    rw [hb]
    simp only
    rw [show Nat.ble (off + len vs) (len c) = true from h1]
    rfl
  · cases e
theorem whole_row {c vs : List LV} (h : len vs = len c) : app (tak c 0) (app vs (drp c (0 + len vs))) = vs := by
  rw [app_eq, app_eq, tak_eq, drp_eq, h, len_eq]
  simp
theorem kload_some {t : TypeId} {p : LV} {f : LV → Option R} (e : kload P G h t p f = some r) : ∃ v, lload P G h t p = some v ∧ f v = some r := by
  unfold kload at e
  unfold lload
  split at e
  · simp only
    split at e
    · rename_i b off _ c u st _ _ _ hb
      rw [hb]
      simp only
      cases hw : (Nat.beq t u && Nat.beq st 0 && isBig P t) <;> rw [hw] at e
      · exact klpart_some e
      · simp only [cond_true] at e
        split at e
        · rename_i n h1 h2
          obtain ⟨h3, e⟩ := ast_some.1 e
          obtain ⟨h4, e⟩ := ast_some.1 e
          have h3 : off = 0 := Nat.eq_of_beq_eq_true h3
          have h4 : len c = n := Nat.eq_of_beq_eq_true h4
          refine ⟨_, ?_, e⟩
          unfold lpart
          rw [h1, h2, h3, ← h4]
          simp only [Option.bind_some, cond_true, Nat.zero_add]
          rw [show Nat.ble (len c) (len c) = true from Nat.ble_eq_true_of_le (Nat.le_refl _)]
          simp [tak_eq, drp_eq, len_eq]
        · cases e
    · cases e
  · simp only
    split at e
    · rename_i hb
      rw [hb]
      exact klpart_some e
    · cases e
  · cases e
theorem kwhole_some {t : TypeId} {b off n : Nat} {vs : List LV} {f : Hp → Option R} (e : kwhole P h t b off n vs f = some r) : Nat.beq n (len vs) = true ∧ ∃ h', putCells h b off vs = some h' ∧ f h' = some r := by
  unfold kwhole at e
  unfold putCells
  split at e
  · rename_i c u st g sh hb
    obtain ⟨h1, e⟩ := ast_some.1 e
    obtain ⟨h2, e⟩ := ast_some.1 e
    obtain ⟨h3, e⟩ := ast_some.1 e
    have h1 : off = 0 := Nat.eq_of_beq_eq_true h1
    have h3 : len vs = len c := Nat.eq_of_beq_eq_true h3
    refine ⟨h2, _, ?_, ktell_some e⟩
    rw [hb]
    simp only
    rw [h1, show Nat.ble (0 + len vs) (len c) = true from Nat.ble_eq_true_of_le (by omega), whole_row h3]
    rfl
  · cases e
theorem kstore_some {t : TypeId} {p x : LV} {f : Hp → Option R} (e : kstore P h t p x f = some r) : ∃ h', lstore P h t p x = some h' ∧ f h' = some r := by
  unfold kstore at e
  unfold lstore
  split at e
  · simp only
    split at e
    · rename_i b off _ _ n vs h1 h2
      rw [h1, h2]
      simp only [Option.bind_some]
      cases hw : isWhole P h t b <;> rw [hw] at e
      · simp only [cond_false] at e
        obtain ⟨h3, e⟩ := ast_some.1 e
        obtain ⟨h', h4, h5⟩ := kput_some e
        rw [show Nat.beq n (len vs) = true from h3]
        exact ⟨h', h4, h5⟩
      · simp only [cond_true] at e
        obtain ⟨h3, h', h4, h5⟩ := kwhole_some e
        rw [h3]
        exact ⟨h', h4, h5⟩
    · cases e
  · cases e
theorem krow_some {size n : Nat} {v : LV} {f : List LV → Option R} (e : krow h size n v f = some r) : ∃ c, rowOf h size n v = some c ∧ f c = some r := by
  unfold krow at e
  unfold rowOf
  split at e
  · exact ⟨_, rfl, e⟩
  · simp only
    split at e
    · rename_i c _ _ _ _ _ hb
      obtain ⟨h1, h2⟩ := ast_some.1 e
      refine ⟨_, ?_, h2⟩
      rw [hb]
      simp only
      rename_i off _ _ _ _ _ _ _ _
      rw [show Nat.ble (off + n * size) (len c) = true from h1]
      rfl
    · cases e
  · exact ⟨_, rfl, e⟩
  · cases e
theorem kappendE_some {el : TypeId} {s x : LV} {f : LV → Hp → Option R} (e : kappendE P G h el s x f = some r) : ∃ v h', lappendE P G h el s x = some (v, h') ∧ f v h' = some r := by
  unfold kappendE at e
  simp only [litEq] at e
  unfold lappendE
  split at e
  · rename_i i zs n m h1 h2 h3 h4
    obtain ⟨z, hz, hzs⟩ := Option.bind_eq_some_iff.1 h2
    obtain ⟨old, h5, e⟩ := krow_some e
    obtain ⟨new, h6, e⟩ := krow_some e
    simp only [h1, hz, hzs, h3, h4, h5, h6, Option.bind_some]
    rcases tst_some.1 e with ⟨h7, e⟩ | ⟨h7, e⟩
    · rw [show Nat.beq n 0 = true from h7]
      simp only [cond_true]
      split at e
      · rename_i p hp
        exact ⟨p.1, p.2, hp, e⟩
      · cases e
    · rw [show Nat.beq n 0 = false from h7]
      simp only [cond_false]
      cases hb : Nat.beq (len zs) i.size && strOk i.size x <;> rw [hb] at e
      · cases e
      · simp only [cond_true] at e
        obtain ⟨h8, e⟩ := ast_some.1 e
        obtain ⟨h9, e⟩ := ast_some.1 e
        rw [Bool.and_eq_true] at hb
        rw [show (Nat.beq (len zs) i.size && Nat.ble ((m + n) * i.bytes) 140737488355328 && Nat.ble (m + n) 9223372036854775807 && strOk i.size x) = true by
          simp only [Bool.and_eq_true]; exact ⟨⟨⟨hb.1, h8⟩, h9⟩, hb.2⟩]
        simp only [cond_true]
        split at e
        · rename_i p hp
          exact ⟨p.1, p.2, hp, e⟩
        · cases e
  · cases e
theorem kappend_some {ts : List TypeId} {s x : LV} {f : LV → Hp → Option R} (e : kappend P G h ts s x f = some r) : ∃ v h', lappend P G h ts s x = some (v, h') ∧ f v h' = some r := by
  unfold kappend at e
  unfold lappend
  split at e
  · simp only
    split at e
    · rename_i u _ el h1
      rw [h1]
      simp only [Option.bind_some]
      cases hb : rowT (P.underlying u) <;> rw [hb] at e
      · cases e
      · exact kappendE_some e
    · cases e
  · cases e
theorem kcopy_some {t : Option TypeDesc} {d s : LV} {f : LV → Hp → Option R} (e : kcopy P h t d s f = some r) : ∃ v h', lcopy P h t d s = some (v, h') ∧ f v h' = some r := by
  unfold kcopy at e
  unfold lcopy
  split at e
  · rename_i el n m h1 h2 h3
    simp only [h1, h2, h3, Option.bind_some]
    split at e
    · rename_i size h4
      simp only [h4, Option.bind_some]
      obtain ⟨cs, h5, e⟩ := krow_some e
      rw [show rowOf h size (Nat.min n m) s = some cs from h5]
      simp only [Option.bind_some]
      unfold copyTo
      split at e
      · simp only
        obtain ⟨h', h6, h7⟩ := kput_some e
        rw [h6]
        exact ⟨_, _, rfl, h7⟩
      · exact ⟨_, _, rfl, e⟩
      · cases e
    · cases e
  · cases e
theorem kbuiltin_some {b : Builtin} {ts : Array TypeId} {args : List LV} {f : LV → Hp → Option R} (e : kbuiltin P G h b ts args f = some r) : ∃ v h', lbuiltin P G h b ts args = some (v, h') ∧ f v h' = some r := by
  unfold kbuiltin at e
  split at e
  · exact kappend_some e
  · exact kcopy_some e
  · split at e
    · rename_i p hp
      exact ⟨p.1, p.2, hp, e⟩
    · cases e
theorem kfill_some {place : Nat → Option (Nat × Nat)} : ∀ (ps : List (Nat × LV)) (pos : Nat) (cells : List LV) {f : List LV → Option R}, kfill place pos cells ps f = some r → ∃ c, lfill place pos cells ps = some c ∧ f c = some r
  | [], pos, cells, f, e => ⟨_, rfl, e⟩
  | (i, v) :: ps, pos, cells, f, e => by
    unfold kfill at e
    unfold lfill
    split at e
    · rename_i p vs h1 h2
      cases hb : Nat.ble pos p.1 <;> rw [hb] at e
      · cases e
      · simp only [cond_true] at e
        obtain ⟨h3, e⟩ := ast_some.1 e
        obtain ⟨h4, e⟩ := ast_some.1 e
        obtain ⟨c, h5, h6⟩ := kfill_some ps _ _ e
        rw [h1, h2]
        simp only [Option.bind_some]
        rw [show (Nat.ble pos p.1 && Nat.beq (len vs) p.2 && Nat.ble (p.1 - pos + p.2) (len cells)) = true by
          simp only [Bool.and_eq_true]; exact ⟨⟨hb, h3⟩, h4⟩]
        simp only [cond_true, h5]
        exact ⟨_, rfl, h6⟩
    · cases e
theorem kbuild_some {t : TypeId} {ps : List (Nat × LV)} {f : Nx → Option R} (e : kbuild P h t ps f = some r) : ∃ nx, vOnly (oBuild P h t ps) = some nx ∧ f nx = some r := by
  unfold kbuild at e
  unfold oBuild
  split at e
  · rename_i z fs h1 h2
    simp only [h1, h2, Option.bind_some]
    cases hb : allSized P fs.toList <;> rw [hb] at e
    · cases e
    · simp only [cond_true] at e ⊢
      split at e
      · rename_i zs hz
        obtain ⟨c, h3, h4⟩ := kfill_some _ _ _ e
        rw [hz]
        simp only [Option.bind_some, h3]
        exact ⟨_, rfl, h4⟩
      · cases e
  · rename_i z _ el h1 h2
    simp only [h1, h2, Option.bind_some]
    split at e
    · rename_i s zs hs hz
      obtain ⟨c, h3, h4⟩ := kfill_some _ _ _ e
      rw [hs, hz]
      simp only [Option.bind_some, h3]
      exact ⟨_, rfl, h4⟩
    · cases e
  · cases e
theorem kbuildSlice_some {t : TypeId} {n : Nat} {ps : List (Nat × LV)} {f : Nx → Option R} (e : kbuildSlice P h t n ps f = some r) : ∃ nx, vOnly (oBuildSlice P h t n ps) = some nx ∧ f nx = some r := by
  unfold kbuildSlice at e
  simp only [litEq] at e
  unfold oBuildSlice
  split at e
  · rename_i el h1
    split at e
    · rename_i s zs hs hzs
      obtain ⟨z, hz, hzs⟩ := Option.bind_eq_some_iff.1 hzs
      simp only [h1, hs, hz, hzs, Option.bind_some]
      cases hb : Nat.beq (len zs) s && Nat.ble (n * s) 16777216 <;> rw [hb] at e
      · cases e
      · simp only [cond_true] at e ⊢
        obtain ⟨c, h3, h4⟩ := kfill_some _ _ _ e
        rw [h3]
        exact ⟨_, rfl, h4⟩
    · cases e
  · cases e
theorem kconv_some {s d : Option TypeDesc} {x : LV} {f : Nx → Option R} (e : kconv P h s d x f = some r) : ∃ nx, vOnly (oConv P h s d x) = some nx ∧ f nx = some r := by
  unfold kconv at e
  split at e
  · rename_i el b off n c
    unfold oConv
    simp only
    split at e
    · rename_i h1
      rw [h1]
      obtain ⟨cs, h2, e⟩ := krow_some e
      unfold rdBytes at e
      split at e
      · rename_i l h3
        unfold oBytes
        simp only [lenOf', Option.bind_some, h2, h3]
        exact ⟨_, rfl, e⟩
      · cases e
    · cases e
  · split at e
    · exact ⟨_, by assumption, e⟩
    · cases e
theorem kmake_some {t : TypeId} {l c : LV} {f : Nx → Option R} (e : kmake P h t l c f = some r) : ∃ nx, vOnly (oMakeSlice P h t l c) = some nx ∧ f nx = some r := by
  unfold kmake at e
  simp only [litEq] at e
  unfold oMakeSlice
  split at e
  · rename_i el _ n _ m h1
    split at e
    · rename_i i zs h2 h3
      obtain ⟨z, hz, hzs⟩ := Option.bind_eq_some_iff.1 h3
      cases hb : Nat.beq (len zs) i.size <;> rw [hb] at e
      · cases e
      · simp only [cond_true] at e
        obtain ⟨h4, e⟩ := ast_some.1 e
        obtain ⟨h5, e⟩ := ast_some.1 e
        obtain ⟨h6, e⟩ := ast_some.1 e
        obtain ⟨h7, e⟩ := ast_some.1 e
        simp only [h1, h2, hz, hzs, Option.bind_some]
        rw [show (decide (0 ≤ n) && decide (n ≤ m) && decide (m ≤ 140737488355328) && decide (i.bytes * m ≤ 140737488355328) && Nat.beq (len zs) i.size) = true by
          simp only [Bool.and_eq_true]; exact ⟨⟨⟨⟨h4, h5⟩, h6⟩, h7⟩, hb⟩]
        exact ⟨_, rfl, e⟩
    · cases e
  · cases e
theorem kfield_some {t : TypeId} {x : LV} {i : Nat} {f : Nx → Option R} (e : kfield P h t x i f = some r) : ∃ nx, vOnly (oField P h t x i) = some nx ∧ f nx = some r := by
  unfold kfield at e
  unfold oField
  split at e
  · rename_i h1
    rw [h1]
    split at e
    · rename_i fd h2
      obtain ⟨v, h3, h4⟩ := klpart_some e
      simp only [h2, Option.bind_some, h3]
      exact ⟨_, rfl, h4⟩
    · cases e
  · cases e
theorem kindexAddr_some {t : TypeId} {x i : LV} {f : Nx → Option R} (e : kindexAddr P h t x i f = some r) : ∃ nx, vOnly (oIndexAddr P h t x i) = some nx ∧ f nx = some r := by
  unfold kindexAddr at e
  unfold oIndexAddr
  split at e
  all_goals
    first
    | (cases e; done)
    | (rename_i h1
       obtain ⟨j, h2, e, -⟩ := kidx_some e
       rw [h1]
       simp only [h2, Option.bind_some]
       split at e
       · rename_i h3
         rw [h3]
         exact ⟨_, rfl, e⟩
       · cases e)
theorem bt_nth {s : List UInt8} {j : Nat} (hj : j < len s) : (nth s j).map (fun b => (LV.int .u8 b.toNat)) = some (.int .u8 (bt s j)) := by
  rw [len_eq] at hj
  unfold bt
  rw [nth_eq, List.getElem?_eq_getElem hj]
  rfl
theorem kindex_some {t : TypeId} {x i : LV} {f : Nx → Option R} (e : kindex P h t x i f = some r) : ∃ nx, vOnly (oIndex P h t x i) = some nx ∧ f nx = some r := by
  unfold kindex at e
  unfold oIndex
  split at e
  · rename_i h1
    obtain ⟨j, h2, e, -⟩ := kidx_some e
    rw [h1]
    simp only [h2, Option.bind_some]
    split at e
    · rename_i h3
      obtain ⟨v, h4, h5⟩ := klpart_some e
      rw [h3]
      simp only [Option.bind_some]
      rw [show lpart P _ _ (j * _) = some v from h4]
      exact ⟨_, rfl, h5⟩
    · cases e
  · rename_i s h1
    obtain ⟨j, h2, e, hj⟩ := kidx_some e
    rw [h1]
    simp only [h2, Option.bind_some]
    have := bt_nth hj
    cases hn : nth s j with
    | none => rw [hn] at this; cases this
    | some b =>
      rw [hn] at this
      simp only [Option.map_some, Option.some.injEq] at this ⊢
      rw [this]
      exact ⟨_, rfl, e⟩
  · cases e
theorem klook_some {t : TypeId} {x k : LV} {ok : Bool} {f : Nx → Option R} (e : klook P h t x k ok f = some r) : ∃ nx, vOnly (oLookup P h t x k ok) = some nx ∧ f nx = some r := by
  unfold klook at e
  unfold oLookup
  split at e
  · rename_i kv h1
    rw [h1]
    simp only [Option.bind_some]
    split at e
    · rename_i d es vd h2 h3 h4
      rw [h2, h3]
      simp only [Option.bind_some]
      unfold kfnd at e
      split at e
      · rename_i i v b h5
        rw [h5]
        simp only [Option.bind_some, lookEnd]
        cases hb : aggD vd <;> rw [hb] at e
        · simp only [cond_false] at e
          obtain ⟨w, h6, h7⟩ := rd_some e
          cases h6
          exact ⟨_, rfl, h7⟩
        · exact ⟨_, rfl, e⟩
      · rename_i h5
        rw [h5]
        simp only [Option.bind_some, lookEnd]
        split at e
        · rename_i h6
          rw [h6]
          exact ⟨_, rfl, e⟩
        · cases e
      · cases e
    · cases e
  · cases e
theorem kupd_some {t : TypeId} {m k x : LV} {f : Nx → Option R} (e : kupd P h t m k x f = some r) : ∃ nx, vOnly (oMapUpdate P h t m k x) = some nx ∧ f nx = some r := by
  unfold kupd at e
  unfold oMapUpdate
  split at e
  · simp only
    split at e
    · rename_i rr _ kv h1
      rw [h1]
      simp only [Option.bind_some]
      split at e
      · rename_i d es c h2 h3
        rw [h2, h3]
        simp only [Option.bind_some, updAt]
        obtain ⟨h4, e⟩ := ast_some.1 e
        unfold isFnd at h4
        cases h5 : keyFind d k es 0 with
        | none => rw [h5] at h4; cases h4
        | some q =>
          unfold msetE msetC at e
          rw [h5] at e
          cases q with
          | no => exact ⟨_, rfl, e⟩
          | yes i v b => exact ⟨_, rfl, e⟩
      · cases e
    · cases e
  · cases e
theorem kpickV_some {x y c : LV} {f : Nx → Option R} (e : kpickV h x y c f = some r) : ∃ nx, vOnly (oPick h x y c) = some nx ∧ f nx = some r := by
  unfold kpickV at e
  unfold oPick
  split at e
  · rcases tst_some.1 e with ⟨rfl, e⟩ | ⟨rfl, e⟩
    · exact ⟨_, rfl, e⟩
    · exact ⟨_, rfl, e⟩
  · cases e
theorem kcall_some {c : Call} {f : Nx → Option R} (e : kcall P G h a c f = some r) : ∃ nx, oCall P G h a c = some nx ∧ f nx = some r := by
  unfold kcall at e
  unfold oCall
  split at e
  · rename_i h1
    obtain ⟨v, h', h2, h3⟩ := kbuiltin_some e
    simp only [h1]
    rw [h2]
    exact ⟨_, rfl, h3⟩
  · rename_i h1
    simp only [h1]
    split at e
    · exact ⟨_, by assumption, e⟩
    · cases e
  · cases e
theorem oVal_some {x : Option LV} {f : Nx → Option R} (e : ∃ v, x = some v ∧ f (.val v h) = some r) : ∃ nx, oVal h x = some nx ∧ f nx = some r := by
  obtain ⟨v, rfl, e⟩ := e
  exact ⟨_, rfl, e⟩
theorem klop_some {f : Nx → Option R} (e : klop P G h a o f = some r) : ∃ nx, lop P G h a o = some nx ∧ f nx = some r := by
  unfold klop at e
  split at e
  · rename_i h1; unfold lop; rw [h1]; exact kpickV_some e
  · rename_i h1; unfold lop; rw [h1]; exact kbuild_some e
  · rename_i h1; unfold lop; rw [h1]; exact kbuildSlice_some e
  · rename_i h1; unfold lop; rw [h1]; exact oVal_some (kload_some e)
  · rename_i h1; unfold lop; rw [h1]
    obtain ⟨h', h2, h3⟩ := kstore_some e
    simp only [oStore, h2]
    exact ⟨_, rfl, h3⟩
  · rename_i h1; unfold lop; rw [h1]; exact oVal_some (klbin_some e)
  · rename_i h1; unfold lop; rw [h1]; exact kconv_some e
  · rename_i h1; unfold lop; rw [h1]; exact kmake_some e
  · rename_i h1; unfold lop; rw [h1]
    simp only [Option.map_none, oSlice]
    exact oVal_some (kslice_some e)
  · rename_i h1; unfold lop; rw [h1]; exact kfield_some e
  · rename_i h1; unfold lop; rw [h1]; exact kindexAddr_some e
  · rename_i h1; unfold lop; rw [h1]; exact kindex_some e
  · rename_i h1; unfold lop; rw [h1]; exact klook_some e
  · rename_i h1; unfold lop; rw [h1]; exact kupd_some e
  · rename_i h1; unfold lop; rw [h1]; exact kupd_some e
  · rename_i h1; unfold lop; rw [h1]; exact kcall_some e
  · split at e
    · exact ⟨_, by assumption, e⟩
    · cases e
end
end Go.Proofs.Eng
