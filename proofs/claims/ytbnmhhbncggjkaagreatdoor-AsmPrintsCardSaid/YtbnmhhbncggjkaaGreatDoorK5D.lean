/- Layer 5: strings.Builder's copyCheck and String, as contracts of the logical machine. Conditions: none. -/
import Derived.Test.YtbnmhhbncggjkaaGreatDoorK5C
set_option linter.unusedVariables false
set_option linter.unusedSimpArgs false
namespace Go.Proofs.YtbnmhhbncggjkaaGreatDoor
open Go Eng Go.RowKit
set_option maxRecDepth 1000000
section
variable {m : Int}
noncomputable def unB : LV → UInt8
  | .int _ x => UInt8.ofNat x.toNat
  | _ => 0
noncomputable def isB : LV → Bool
  | .int .u8 x => band (ile 0 x) (ile x 255)
  | _ => false
noncomputable def allB : List LV → Bool
  | [] => true
  | v :: l => band (isB v) (allB l)
theorem isB_inv {v : LV} (h : isB v = true) : v = .int .u8 (unB v).toNat := by
  unfold isB at h
  split at h
  · rename_i x
    simp only [band_eq', ile_eq] at h
    unfold unB
    have : ((UInt8.ofNat x.toNat).toNat : Int) = x := by
      rw [UInt8.toNat_ofNat']
      omega
    rw [this]
  · cases h
theorem allB_get {c : List LV} (h : allB c = true) {i : Nat} {v : LV} (e : c[i]? = some v) : isB v = true := by
  induction c generalizing i with
  | nil => simp at e
  | cons x l ih =>
    simp only [allB, band_eq'] at h
    cases i with
    | zero => simp at e; subst e; exact h.1
    | succ i => exact ih h.2 (by simpa using e)
noncomputable def cString : Con := fun args h => match args with
  | [.ptr b o] => (match h.at b with
    | .cells [_, .nils] t st _ _ _ => [(band (Eng.neq o 0) (band (Eng.neq t 80) (Eng.neq st 0)), .str [], h)]
    | .cells [_, .slc nb off n _] t st _ _ _ => (match h.at nb with
      | .cells c tu _ g sh false =>
        [(band (Eng.neq o 0) (band (Eng.neq t 80) (band (Eng.neq st 0) (band (Eng.neq tu 5) (band (nlt 0 n) (band (nle n 9223372036854775807) (band (nle (off + n) (len c)) (allB ((c.drop off).take n)))))))),
          .str (((c.drop off).take n).map unB), (bif sh then killG (Nat.beq nb) g (h.n - g) h else h).put nb .dead)]
      | _ => [])
    | _ => [])
  | _ => []
/-- A builder's variable, in the world. -/
theorem bld_at {ρ : Rho} {w : World} {h : Hp} {b : Nat} {v0 v1 : LV} {t st g : Nat} {sh ro : Bool} (hR : Real (G5 m) ρ h w) (hc : h.at b = .cells [v0, v1] t st g sh ro) (ht : t = 80) (hs : st = 0) :
    ∃ p x0 x1, ρ b = some p ∧ p.sh = 0 ∧ w.heap[p.pb]? = some (.cells #[x0, x1] 80 (0, 0)) ∧ VR ρ v0 x0 ∧ VR ρ v1 x1 := by
  have ho := hR.obj b
  rw [hc] at ho
  obtain ⟨p, hp, ⟨hst, pc, fz, h1, h2⟩, ⟨pc', e', fz', g1, g2, g3, g4, g5, g6⟩⟩ := ho
  obtain ⟨h3, h4, rfl⟩ := h2 hs (by simp)
  rw [h1] at g1
  cases g1
  obtain ⟨l⟩ := pc
  match l, h4 with
  | [x0, x1], _ =>
    refine ⟨p, x0, x1, hp, h3, by rw [h1, ht], g4 0 _ _ rfl (by rw [h3]; rfl), g4 1 _ _ rfl (by rw [h3]; rfl)⟩
theorem freeze_else (w : World) (a : Addr) (n : Nat) : (∀ b, b ≠ a.block → (w.freeze a n).heap[b]? = w.heap[b]?) ∧ (w.freeze a n).heap.size = w.heap.size ∧ (w.freeze a n).os = w.os ∧ (w.freeze a n).tape = w.tape ∧ (w.freeze a n).output = w.output := by
  unfold World.freeze
  split
  · exact ⟨fun _ _ => rfl, rfl, rfl, rfl, rfl⟩
  · exact ⟨fun b hb => by simp [Array.getElem?_modify, Ne.symm hb], by simp, rfl, rfl, rfl⟩
theorem vr_ptr0 {ρ : Rho} {b o : Nat} {v : Value} (k : VR ρ (.ptr b o) v) : ∃ p, ρ b = some p ∧ v = .pointer (some ⟨p.pb, p.sh + o, none⟩) := by
  cases k with
  | ptr _ h => exact ⟨_, h, rfl⟩
theorem String_con : ConS P (G5 m) 57 cString := fun args h v h' e => by
  unfold cString at e
  split at e
  · rename_i b o
    split at e
    · rename_i v0 t st g sh ro hc
      obtain ⟨hb, he⟩ := pick_one e
      cases he
      simp only [band_eq', neq_eq] at hb
      obtain ⟨rfl, ht, hs⟩ := hb
      refine fromBelow Tryz.func57 rfl (by kernel_rfl) fun ρ w pargs hR hl => ?_
      obtain ⟨x, rfl, hx⟩ := args1 hl
      obtain ⟨p, x0, x1, hp, hsh, hw, k0, k1⟩ := bld_at hR hc ht hs
      obtain ⟨p', hp', rfl⟩ := vr_ptr0 hx
      rw [hp] at hp'
      cases hp'
      cases k1
      rw [hsh]
      refine (Any.Builder_String_nil { l156 with } x156 w.heap.size p.pb x0 w hw).mono ?_
      rintro e w' ⟨rfl, hb⟩
      exact ⟨_, rfl, .str _, hb⟩
    · rename_i v0 nb off n cap t st g sh ro hc
      split at e
      · rename_i c tu st' g' sh' hn
        obtain ⟨hb, he⟩ := pick_one e
        cases he
        simp only [band_eq', neq_eq, nlt_eq, nle_eq, len_eq] at hb
        obtain ⟨rfl, ht, hs, htu, hn0, hnm, hoff, hall⟩ := hb
        intro ρ w pargs hR hl
        obtain ⟨x, rfl, hx⟩ := args1 hl
        obtain ⟨p, x0, x1, hp, hsh, hw, k0, k1⟩ := bld_at hR hc ht hs
        obtain ⟨p', hp', rfl⟩ := vr_ptr0 hx
        rw [hp] at hp'
        cases hp'
        have ho := hR.obj nb
        rw [hn] at ho
        obtain ⟨q, hq, ⟨hst, pc, fz, h1, h2⟩, ⟨pc', e', fz', g1, g2, g3, g4, g5, g6⟩⟩ := ho
        rw [h1] at g1
        cases g1
        cases k1 with
        | slc _ _ _ h3 h4 h5 h6 h7 =>
          rename_i q' cc x'
          rw [hq] at h3
          cases h3
          have hx' : x' = q.sh + off := by omega
          subst hx'
          let l := ((c.drop off).take n).map unB
          have hlen : l.length = n := by simp [l]; omega
          have hcell : ∀ (j : Nat) y, l[j]? = some y → pc[q.sh + off + j]? = some (.int .u8 y.toNat) := fun j y hy => by
            have hjn : j < n := by rw [← hlen]; exact (List.getElem?_eq_some_iff.1 hy).1
            have hj2 : off + j < c.length := by omega
            have e1 : ((c.drop off).take n)[j]? = some c[off + j] := by
              rw [List.getElem?_take_of_lt hjn, List.getElem?_drop, List.getElem?_eq_getElem hj2]
            have e2 := allB_get hall e1
            have e3 : y = unB c[off + j] := by
              simp only [l, List.getElem?_map, e1, Option.map_some, Option.some.injEq] at hy
              exact hy.symm
            have hj3 : q.sh + (off + j) < pc.size := by omega
            have e4 := g4 (off + j) _ _ (List.getElem?_eq_getElem hj2) (Array.getElem?_eq_getElem hj3)
            have e5 : VR ρ (.int .u8 (unB c[off + j]).toNat) pc[q.sh + (off + j)] := (isB_inv e2) ▸ e4
            rw [Nat.add_assoc, Array.getElem?_eq_getElem hj3, vr_int e5, e3]
          refine .inr ⟨call_enter Tryz.func57 rfl (by kernel_rfl) _ w, ?_⟩
          rw [hsh]
          have key := Builder_String_row { l156 with } x156 p.pb q.pb (q.sh + off) cc x0 pc fz l w (fun e => absurd (hlen.symm.trans (congrArg List.length e)) (by simp only [List.length_nil]; omega)) (by rw [hlen]; exact hw) (by rw [h1, htu]; rfl) (by rw [hlen]; omega) (by rw [hlen]; exact h4) (by rw [hlen]; exact hnm) hcell
          refine key.mono ?_
          rintro e w' ⟨rfl, rfl⟩
          obtain ⟨h2', e2, n2, u2, k2, b2, alone⟩ := alone_of hR hn hq (Nat.beq nb) (Nat.beq_refl nb)
          rw [e2]
          have hlt : nb < h2'.n := by rw [n2]; exact hR.fresh nb q hq
          have hat : ∀ i, (h2'.put nb .dead).at i = if i = nb then .dead else h2'.at i := fun i => Hp.at_put h2' nb .dead i hlt
          obtain ⟨r3, s3⟩ := real_kill (h' := h2'.put nb .dead) hR n2 u2 (fun i => by
            rw [hat]
            split
            · exact .inr rfl
            · exact k2 i)
          obtain ⟨f1, f2, f3, f4, f5⟩ := freeze_else w.drew ⟨q.pb, q.sh + off, none⟩ l.length
          obtain ⟨R, S⟩ := real_away (H := h) (w' := w.drew.freeze ⟨q.pb, q.sh + off, none⟩ l.length) r3 (fun i hi => by
              rw [hat] at hi ⊢
              split at hi
              · cases hi
              · rename_i hne
                rw [if_neg hne]
                rcases k2 i with k | k
                · exact k
                · rw [k] at hi; cases hi) (B := q.pb) f1 (Nat.le_of_eq f2.symm) f3 f4 f5 (fun i p hl hp => by
              rw [hat] at hl
              split at hl
              · cases hl
              · rename_i hne
                exact alone i p hne (by
                  cases hb : Nat.beq nb i
                  · rfl
                  · exact absurd (Nat.eq_of_beq_eq_true hb).symm hne) hl hp) (by
              cases hgg : ((G5 m) q.pb).isSome
              · rfl
              · exact absurd rfl (hR.gsep nb q q.pb (by rw [hn]; rfl) hq hgg)) ⟨nb, q, by rw [hn]; rfl, hq, rfl⟩
          exact ⟨ρ, _, rfl, S, R, .str _⟩
      · cases e
    · cases e
  · cases e
noncomputable def cCopyCheck : Con := fun args h => match args with
  | [.ptr b o] => (match h.at b with
    | .cells [.nilp, v] t st _ _ _ => (match putCells h b 0 [.ptr b 0] with
      | some h' => [(band (Eng.neq o 0) (band (Eng.neq t 80) (Eng.neq st 0)), .tup [], h')]
      | none => [])
    | .cells [.ptr b' o', v] t st _ _ _ => [(band (Eng.neq o 0) (band (Eng.neq o' 0) (band (Eng.neq b' b) (band (Eng.neq t 80) (Eng.neq st 0)))), .tup [], h)]
    | _ => [])
  | _ => []
theorem CopyCheck_con : ConS P (G5 m) 93 cCopyCheck := fun args h v h' e => by
  unfold cCopyCheck at e
  split at e
  · rename_i b o
    split at e
    · rename_i v1 t st g sh ro hc
      split at e
      · rename_i h1 hput
        obtain ⟨hb, he⟩ := pick_one e
        cases he
        simp only [band_eq', neq_eq] at hb
        obtain ⟨rfl, ht, hs⟩ := hb
        intro ρ w pargs hR hl
        obtain ⟨x, rfl, hx⟩ := args1 hl
        obtain ⟨p, x0, x1, hp, hsh, hw, k0, k1⟩ := bld_at hR hc ht hs
        obtain ⟨p', hp', rfl⟩ := vr_ptr0 hx
        rw [hp] at hp'
        cases hp'
        cases k0
        refine .inr ⟨call_enter Tryz.func93 rfl (by kernel_rfl) _ w, ?_⟩
        obtain ⟨p2, hp2, -, R, S⟩ := put_real (P := P) hR hput (pvs := [.pointer (some ⟨p.pb, 0, none⟩)]) (lr_cons (by have := VR.ptr (ρ := ρ) 0 hp; rwa [hsh] at this) lr_nil) (by simp [Value.oneCell'])
        rw [hp] at hp2
        cases hp2
        rw [hsh] at R S ⊢
        refine (Any.Builder_copyCheck_fresh { l156 with } { x156 with } p.pb w (by rw [Lib.cell_of_heap hw]; rfl) (by simp [World.shape?, hw]; rfl) (by simp [World.frozen?, hw])).mono ?_
        rintro e w' ⟨rfl, rfl⟩
        exact ⟨ρ, _, rfl, S, R, vr_tup lr_nil⟩
      · cases e
    · rename_i b' o' v1 t st g sh ro hc
      obtain ⟨hb, he⟩ := pick_one e
      cases he
      simp only [band_eq', neq_eq] at hb
      obtain ⟨rfl, rfl, rfl, ht, hs⟩ := hb
      refine fromBelow Tryz.func93 rfl (by kernel_rfl) fun ρ w pargs hR hl => ?_
      obtain ⟨x, rfl, hx⟩ := args1 hl
      obtain ⟨p, x0, x1, hp, hsh, hw, k0, k1⟩ := bld_at hR hc ht hs
      obtain ⟨p', hp', rfl⟩ := vr_ptr0 hx
      obtain ⟨p2, hp2, rfl⟩ := vr_ptr0 k0
      rw [hp] at hp' hp2
      cases hp'
      cases hp2
      rw [hsh] at hw ⊢
      refine (Any.Builder_copyCheck_used { l156 with } { x156 with } p.pb w (by rw [Lib.cell_of_heap hw]; rfl)).mono ?_
      rintro e w' ⟨rfl, rfl⟩
      exact ⟨_, rfl, vr_tup lr_nil, Below.refl _ _⟩
    · cases e
  · cases e
end
end Go.Proofs.YtbnmhhbncggjkaaGreatDoor
