/- Layer 5: strconv.ParseInt, strings.Split, strings.Join, as contracts of the logical machine. Conditions: none. -/
import Derived.Test.YtbnmhhbncggjkaaGreatDoorK5A
set_option linter.unusedVariables false
set_option linter.unusedSimpArgs false
namespace Go.Proofs.YtbnmhhbncggjkaaGreatDoor
open Go Eng Go.RowKit
set_option maxRecDepth 1000000
section
variable {m : Int}
theorem pick_cons {α : Type} {b : Bool} {u v : α} {l : List (Bool × α)} (e : pickR ((b, u) :: l) = some v) : (b = true ∧ v = u) ∨ pickR l = some v := by
  cases b
  · exact .inr e
  · exact .inl ⟨rfl, (Option.some.inj e).symm⟩
/-! numbers out of texts -/
noncomputable def pOk (s : List UInt8) : Bool := match Lib.parseIntB 64 s with
  | .ok _ => true
  | _ => false
noncomputable def pVal (s : List UInt8) : Int := match Lib.parseIntB 64 s with
  | .ok v => v
  | .range => Lib.intSat 64 s
  | _ => 0
noncomputable def cParseInt : PCon := fun args => match args with
  | [.str s, .int .i64 b, .int .i64 z] => [(band (pOk s) (band (ieq b 10) (band (ieq z 64) (nle (len s) 281474976710656))), .tup [.int .i64 (pVal s), .nili]), (band (bnot (pOk s)) (band (ieq b 10) (band (ieq z 64) (nle (len s) 281474976710656))), .tup [.int .i64 (pVal s), .ifc 155 .any])]
  | _ => []
theorem glob_one {G : Gl} {w : World} {g : Nat} {v : LV} {l : List LV} (r : GR G w) (e : G g = some (v :: l)) : ∃ v', w.cell? ⟨g, 0, none⟩ = some v' ∧ VR (fun _ => none) v v' := by
  obtain ⟨pc, t, fz, h1, h2, h3⟩ := glob_cells r e
  obtain ⟨v', e1, e2⟩ := h3 0 v rfl
  exact ⟨v', by simp [World.cell?, h1, e1], e2⟩
theorem vr_ifc {ρ : Rho} {t : TypeId} {v : LV} {x : Value} (k : VR ρ (.ifc t v) x) : ∃ y, x = .iface t y := by cases k; exact ⟨_, rfl⟩
theorem ParseInt_con : PConS P (G5 m) 79 cParseInt := fun args v e h => by
  unfold cParseInt at e
  split at e
  · rename_i s b z
    have key : ∀ (hb : (ieq b 10) = true ∧ (ieq z 64) = true ∧ nle (len s) 281474976710656 = true) (u : LV), (u = .tup [.int .i64 (pVal s), bif pOk s then .nili else .ifc 155 .any]) → CallS P (G5 m) 79 [.str s, .int .i64 b, .int .i64 z] h u h := by
      rintro ⟨h1, h2, h3⟩ u rfl
      simp only [ieq_eq, nle_eq, len_eq] at h1 h2 h3
      subst h1 h2
      refine lay_body Tryz.func79 rfl (by kernel_rfl) fun ρ w pargs g hl => ?_
      obtain ⟨x, y, q, rfl, hx, hy, hq⟩ := args3 hl
      obtain rfl := vr_str hx
      obtain rfl := vr_int hy
      obtain rfl := vr_int hq
      obtain ⟨e1, he1, hv1⟩ := glob_one (g := 3) g (v := .ifc 176 .any) (l := []) rfl
      obtain ⟨y1, rfl⟩ := vr_ifc hv1
      obtain ⟨e2, he2, hv2⟩ := glob_one (g := 4) g (v := .ifc 176 .any) (l := []) rfl
      obtain ⟨y2, rfl⟩ := vr_ifc hv2
      have hs : ∀ k, s.length ≤ 281474976710656 → 281474976710656 ≤ k → (ByteArray.mk s.toArray).size ≤ k := fun k a b => by rw [size_str]; omega
      unfold pOk pVal
      cases hp : Lib.parseIntB 64 s with
      | ok v =>
        refine (Any.strconv_ParseInt_10_at64_ok l174 _ (hs _ h3 (by decide)) v hp w).mono ?_
        rintro e w' ⟨rfl, rfl | ⟨t, rfl⟩⟩
        · exact ⟨_, rfl, vr_tup (lr_cons (.int _ _) (lr_cons .nili lr_nil)), Below.refl _ _⟩
        · exact ⟨_, rfl, vr_tup (lr_cons (.int _ _) (lr_cons .nili lr_nil)), Lib.bytesWorld_below _ _ _⟩
      | range =>
        refine (Any.strconv_ParseInt_10_at64_range l174 _ (hs _ h3 (by decide)) hp _ w he2 (.inr ⟨_, _, rfl⟩)).mono ?_
        rintro e w' ⟨N, rfl, _, _, hb⟩
        exact ⟨_, rfl, vr_tup (lr_cons (.int _ _) (lr_cons (.ifc _ (.any _)) lr_nil)), hb⟩
      | _ =>
        refine (Any.strconv_ParseInt_10_at64_syntax l174 _ (hs _ h3 (by decide)) hp _ w he1 (.inr ⟨_, _, rfl⟩)).mono ?_
        rintro e w' ⟨N, rfl, _, _, hb⟩
        exact ⟨_, rfl, vr_tup (lr_cons (.int _ _) (lr_cons (.ifc _ (.any _)) lr_nil)), hb⟩
    rcases pick_cons e with ⟨hb, rfl⟩ | e
    · simp only [band_eq'] at hb
      exact key hb.2 _ (by rw [hb.1]; rfl)
    · obtain ⟨hb, rfl⟩ := pick_one e
      simp only [band_eq', bnot_eq'] at hb
      exact key hb.2 _ (by rw [hb.1]; rfl)
  · cases e
/-! texts into pieces -/
noncomputable def pcs (s t : List UInt8) (i : Nat) : List UInt8 := (Lib.split s t).getD i []
noncomputable def cSplit : Con := fun args h => match args with
  | [.str s, .str t] =>
    [(band (Eng.neq (len (Lib.split s t)) 1) (band (nlt (len s) 4294967281) (nle 1 (len t))), .slc h.n 0 1 none, newB h [.str (pcs s t 0)] 9 1),
     (band (Eng.neq (len (Lib.split s t)) 2) (band (nlt (len s) 4294967281) (nle 1 (len t))), .slc h.n 0 2 none, newB h [.str (pcs s t 0), .str (pcs s t 1)] 9 1),
     (band (Eng.neq (len (Lib.split s t)) 3) (band (nlt (len s) 4294967281) (nle 1 (len t))), .slc h.n 0 3 none, newB h [.str (pcs s t 0), .str (pcs s t 1), .str (pcs s t 2)] 9 1),
     (band (nlt 3 (len (Lib.split s t))) (band (nlt (len s) 4294967281) (nle 1 (len t))), .slc h.n 0 (len (Lib.split s t)) none, newB h ((Lib.split s t).map .str) 9 1)]
  | _ => []
theorem lr_strs {ρ : Rho} : ∀ l : List ByteArray, LR ρ ((l.map (·.data.toList)).map .str) (l.map Value.string)
  | [] => lr_nil
  | x :: l => lr_cons (.str x.data.toList) (lr_strs l)
theorem Split_key {s t : List UInt8} {h : Hp} (h1 : s.length < 4294967281) (h2 : 1 ≤ t.length) : CallS P (G5 m) 35 [.str s, .str t] h (.slc h.n 0 (Lib.split s t).length none) (newB h ((Lib.split s t).map .str) 9 1) := fun ρ w pargs hR hl => by
  obtain ⟨x, y, rfl, hx, hy⟩ := args2 hl
  obtain rfl := vr_str hx
  obtain rfl := vr_str hy
  refine .inr ⟨call_enter Tryz.func35 rfl (by kernel_rfl) _ w, ?_⟩
  refine (Any.strings_Split { l146 with } (by kernel_rfl) _ _ m w (by rw [size_str]; exact h1) (g_max hR.glob) (by rw [size_str]; exact h2)).mono ?_
  rintro e w' ⟨rfl, rfl⟩
  have hk : (Lib.splitB ⟨t.toArray⟩ 0 (Lib.countB ⟨s.toArray⟩ ⟨t.toArray⟩) ⟨s.toArray⟩).map (·.data.toList) = Lib.split s t := by rw [Lib.splitB_data]; rfl
  have hlen := Lib.splitB_all ⟨t.toArray⟩ (by rw [size_str]; exact h2) 0 _ ⟨s.toArray⟩ rfl
  generalize Lib.splitB ⟨t.toArray⟩ 0 (Lib.countB ⟨s.toArray⟩ ⟨t.toArray⟩) ⟨s.toArray⟩ = L at hk hlen
  obtain ⟨r, st⟩ := new_cells hR (c := (Lib.split s t).map .str) (pc := L.map Value.string) (by rw [← hk]; exact lr_strs L) (by
    intro u hu
    obtain ⟨y, _, rfl⟩ := List.mem_map.1 hu
    rfl) 9 1
  have hl2 : (Lib.split s t).length = L.length := by rw [← hk, List.length_map]
  refine ⟨_, _, rfl, st, r, ?_⟩
  rw [← hlen, hl2]
  exact .slc 0 L.length none (Rho.add_same _ _) (Nat.le_refl _) (fun k e => by cases e) (fun _ => by simp) (.inr rfl)
theorem Split_con : ConS P (G5 m) 35 cSplit := fun args h v h' e => by
  unfold cSplit at e
  split at e
  · rename_i s t
    have cells : ∀ l : List (List UInt8), Lib.split s t = l → (Lib.split s t).length = l.length := fun l e => by rw [e]
    have fin : ∀ (n : Nat) (c : List LV), (Lib.split s t).length = n → c = (Lib.split s t).map .str → (band (nlt (len s) 4294967281) (nle 1 (len t))) = true → CallS P (G5 m) 35 [.str s, .str t] h (.slc h.n 0 n none) (newB h c 9 1) := by
      rintro n c rfl rfl hb
      simp only [band_eq', nlt_eq, nle_eq, len_eq] at hb
      exact Split_key hb.1 hb.2
    rcases pick_cons e with ⟨hb, he⟩ | e
    · rw [band_eq', neq_eq, len_eq] at hb
      cases he
      refine fin _ _ hb.1 ?_ hb.2
      unfold pcs
      match Lib.split s t, hb.1 with
      | [a], _ => rfl
    rcases pick_cons e with ⟨hb, he⟩ | e
    · rw [band_eq', neq_eq, len_eq] at hb
      cases he
      refine fin _ _ hb.1 ?_ hb.2
      unfold pcs
      match Lib.split s t, hb.1 with
      | [a, b], _ => rfl
    rcases pick_cons e with ⟨hb, he⟩ | e
    · rw [band_eq', neq_eq, len_eq] at hb
      cases he
      refine fin _ _ hb.1 ?_ hb.2
      unfold pcs
      match Lib.split s t, hb.1 with
      | [a, b, c], _ => rfl
    obtain ⟨hb, he⟩ := pick_one e
    rw [band_eq'] at hb
    cases he
    exact fin _ _ (len_eq _).symm rfl hb.2
  · cases e
/-! texts joined -/
noncomputable def strsOf : Nat → List LV → Option (List (List UInt8))
  | 0, _ => some []
  | n + 1, .str s :: l => (strsOf n l).map (s :: ·)
  | _, _ => none
noncomputable def cJoin : Con := fun args h => match args with
  | [.slc b off n _, .str t] => (match h.at b with
    | .cells c _ _ _ _ _ => (match strsOf n (c.drop off) with
      | some xs => [(band (nle n 140737488355328) (nle (len (Lib.join xs t)) 140737488355328), .str (Lib.join xs t), h)]
      | none => [])
    | _ => [])
  | _ => []
theorem strsOf_some : ∀ {n : Nat} {c : List LV} {xs : List (List UInt8)}, strsOf n c = some xs → xs.length = n ∧ ∀ (j : Nat) x, xs[j]? = some x → c[j]? = some (.str x)
  | 0, c, xs, e => by cases e; exact ⟨rfl, fun j x h => by simp at h⟩
  | n + 1, [], xs, e => by simp [strsOf] at e
  | n + 1, v :: l, xs, e => by
    cases v <;> simp only [strsOf] at e <;> try (cases e; done)
    obtain ⟨ys, e1, rfl⟩ := Option.map_eq_some_iff.1 e
    obtain ⟨h1, h2⟩ := strsOf_some e1
    refine ⟨by simp [h1], fun j x h => ?_⟩
    cases j with
    | zero => simp at h; subst h; rfl
    | succ j => simpa using h2 j x (by simpa using h)
theorem Join_con : ConS P (G5 m) 30 cJoin := fun args h v h' e => by
  unfold cJoin at e
  split at e
  · rename_i b off n cap t
    split at e
    · rename_i c ty st g sh ro hc
      split at e
      · rename_i xs hxs
        obtain ⟨hb, he⟩ := pick_one e
        cases he
        simp only [band_eq', nle_eq, len_eq] at hb
        obtain ⟨hx1, hx2⟩ := strsOf_some hxs
        refine fromBelow Tryz.func30 rfl (by kernel_rfl) fun ρ w pargs hR hl => ?_
        obtain ⟨x, y, rfl, hx, hy⟩ := args2 hl
        obtain rfl := vr_str hy
        have ho := hR.obj b
        rw [hc] at ho
        obtain ⟨p, hp, _, ⟨pc, te, fz, g1, g2, g3, g4, g5, g6⟩⟩ := ho
        have hlt : p.pb < w.heap.size := (Array.getElem?_eq_some_iff.1 g1).1
        have hmap : (xs.map fun l => ByteArray.mk l.toArray).map (·.data.toList) = xs := by simp [Function.comp_def]
        have fin : ∀ (o cp : Nat), n ≤ cp → (∀ j x, xs[j]? = some x → w.cell? ⟨p.pb, o + j, none⟩ = some (.string ⟨x.toArray⟩)) →
            Calls P 30 #[.slice (some ⟨p.pb, o, none⟩) n cp, .string ⟨t.toArray⟩] w fun e w' => ∃ pv, e = .returned pv ∧ VR (fun _ => none) (.str (Lib.join xs t)) pv ∧ Below w.heap.size w w' := fun o cp h1 h2 => by
          have := Any.strings_Join l156 x156 p.pb o cp (xs.map fun l => ByteArray.mk l.toArray) ⟨t.toArray⟩ w (fun j x e => by
            rw [List.getElem?_map] at e
            obtain ⟨l, e1, rfl⟩ := Option.map_eq_some_iff.1 e
            exact h2 j l e1) hlt (by rw [List.length_map, hx1]; exact hb.1) (by rw [List.length_map, hx1]; exact h1) (by rw [hmap]; exact hb.2)
          rw [hmap, List.length_map, hx1] at this
          refine this.mono ?_
          rintro e w' ⟨rfl, hb⟩
          exact ⟨_, rfl, .str _, hb⟩
        cases hx with
        | slc _ _ _ h3 h4 h5 h6 h7 =>
          rename_i p' cp x'
          rw [hp] at h3
          cases h3
          refine fin _ _ h4 fun j x hj => ?_
          have hjn : j < n := by rw [← hx1]; exact (List.getElem?_eq_some_iff.1 hj).1
          rcases h7 with h7 | h7
          · omega
          · have := hx2 j x hj
            rw [List.getElem?_drop] at this
            have hlt2 : off + j < c.length := (List.getElem?_eq_some_iff.1 this).1
            have h8 : p.sh + (off + j) < pc.size := by omega
            have := vr_str (g4 (off + j) _ _ this (Array.getElem?_eq_getElem h8))
            simp [World.cell?, g1, h7, Nat.add_assoc, h8, this]
      · cases e
    · cases e
  · cases e
end
end Go.Proofs.YtbnmhhbncggjkaaGreatDoor
