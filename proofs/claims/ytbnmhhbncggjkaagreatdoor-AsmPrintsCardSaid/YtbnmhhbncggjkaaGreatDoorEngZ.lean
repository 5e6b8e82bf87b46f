/- Contracts in tables; heaps told anew; functions that see no heap. Conditions: none. -/
import Derived.Test.YtbnmhhbncggjkaaGreatDoorEngY
set_option linter.unusedVariables false
set_option linter.unusedSimpArgs false
namespace Go.Proofs.Eng
open Go
noncomputable section
abbrev Con := List LV → Hp → List (Bool × LV × Hp)
def tab (l : List (FuncId × Con)) : FuncId → Option Con := List.rec (fun _ => none) (fun x _ ih f => Bool.rec (ih f) (some x.2) (Nat.beq f x.1)) l
abbrev PCon := List LV → List (Bool × LV)
def tabP (l : List (FuncId × PCon)) : FuncId → Option PCon := List.rec (fun _ => none) (fun x _ ih f => Bool.rec (ih f) (some x.2) (Nat.beq f x.1)) l
def noCut : FuncId → Nat → Option (Nat → Fr → Hp → List (Bool × Ex × Fr × Hp)) := fun _ _ => none
def oneCut (f : FuncId) (i : Nat) (c : Nat → Fr → Hp → List (Bool × Ex × Fr × Hp)) : FuncId → Nat → Option (Nat → Fr → Hp → List (Bool × Ex × Fr × Hp)) := fun g j => Bool.rec none (Bool.rec none (some c) (Nat.beq i j)) (Nat.beq f g)
--BEGIN
/-! names, and a heap told anew -/
def memN (n : Nat) : List Nat → Bool
  | [] => false
  | x :: l => Nat.beq n x || memN n l
def addN (k : List Nat) : List Nat → List Nat
  | [] => k
  | x :: l => addN (bif memN x k then k else app k [x]) l
mutual
def nmV : LV → List Nat
  | .ptr b _ => [b]
  | .slc b _ _ _ => [b]
  | .map r => [r]
  | .fn (.yield l) a c => l :: app (nmL a) (nmL c)
  | .fn _ a c => app (nmL a) (nmL c)
  | .ifc _ v => nmV v
  | .agg l => nmL l
  | .tup l => nmL l
  | _ => []
def nmL : List LV → List Nat
  | [] => []
  | v :: l => app (nmV v) (nmL l)
end
section
variable (P : Program) {R : Type}
/-- Has an object no names, by its type? -/
def plainO : LObj → Bool
  | .cells _ t _ _ _ _ => noNames P 9 t
  | _ => true
def nmO (o : LObj) : List Nat := match o with
  | .cells c t _ _ _ _ => bif noNames P 9 t then [] else nmL c
  | _ => []
/-- All that is reached, from some place of the list on. -/
def grow (h : Hp) : Nat → Nat → List Nat → List Nat
  | 0, _, k => k
  | n + 1, i, k => match nth k i with
    | some b => grow h n (i + 1) (addN k (nmO P (h.at b)))
    | none => k
def posN (b : Nat) : List Nat → Nat → Option Nat
  | [], _ => none
  | x :: l, i => bif Nat.beq b x then some i else posN b l (i + 1)
def upTo : Nat → List Nat
  | 0 => []
  | n + 1 => app (upTo n) [n]
def nodupN : List Nat → Bool
  | [] => true
  | x :: l => !memN x l && nodupN l
def topE : List (LV × LV × Nat) → Nat
  | [] => 0
  | x :: l => max (max (topV x.1) (topV x.2.1)) (topE l)
/-- Do two objects share their memory? -/
def sameGB : LObj → LObj → Bool
  | .cells _ _ _ g true _, .cells _ _ _ g' true _ => Nat.beq g g'
  | _, _ => false
def apartB (o : LObj) : List LObj → Bool
  | [] => true
  | x :: l => !sameGB o x && apartB o l
def allApart : List LObj → Bool
  | [] => true
  | x :: l => apartB x l && allApart l
def reO (f : Nat → Option Nat) (j : Nat) (o : LObj) : Option (LObj × B) := match o with
  | .cells c t st _ _ ro => bif noNames P 9 t then some (.cells c t st j false ro, nle (topL c) 0) else some (.cells (reL f c) t st j false ro, true)
  | .map es c => some (.map es c, nle (topE es) 0)
  | .dead => some (.dead, true)
  | .defd => some (.defd, true)
  | .loop .. => none
def kept (rs : List Nat) (h : Hp) (b : Nat) : LObj := bif memN b rs then h.at b else .dead
def reOs (f : Nat → Option Nat) (rs : List Nat) (h : Hp) : List Nat → Nat → Option (List LObj × B)
  | [], _ => some ([], true)
  | b :: l, j => match reO P f j (kept rs h b), reOs f rs h l (j + 1) with
    | some o, some os => some (o.1 :: os.1, band o.2 os.2)
    | _, _ => none
/-- A heap told anew: some values, and all that they reach; blocks below m keep their names. -/
def canon (keep m : Nat) (h : Hp) (roots : List LV) : Option (List LV × List LObj × B) :=
  let rs := grow P h 60 0 (addN (upTo keep) (nmL roots))
  let K := addN (upTo m) rs
  bif Nat.ble m h.n && nodupN K && allApart (K.map (kept rs h)) then (reOs P (fun b => posN b K 0) rs h K 0).map fun q => (reL (fun b => posN b K 0) roots, q.1, q.2) else none
def kcanon (keep m : Nat) (h : Hp) (roots : List LV) (k : List LV → List LObj → Out R) : Out R := match canon P keep m h roots with
  | some q => ast q.2.2 (k q.1 q.2.1)
  | none => none'
--FINISH
def upsOf (n : Nat) : List LObj → Nat → List (Nat × Nat)
  | [], _ => []
  | o :: l, j => bif plainO P o then upsOf n l (j + 1) else (j, n) :: upsOf n l (j + 1)
/-- The heap that some objects are. -/
def treeOf : T LObj → Nat → List LObj → T LObj
  | t, _, [] => t
  | t, i, o :: l => treeOf (T.set .dead o t i) (i + 1) l
def hpOf (l : List LObj) : Hp := ⟨len l, treeOf .lf 0 l, upsOf P (len l) l 0⟩
/-- What a call leaves: its value, and the heap told anew. -/
def obsC (m : Nat) (k : LV → List LObj → Out R) : Res → Out R
  | .val v h => kcanon P m m h [v] fun vs os => match vs with
    | [v] => k v os
    | _ => none
  | _ => none
/-- What a call leaves: no heap is seen. -/
def obs0 (k : LV → Out R) : Res → Out R
  | .val v h => bif Nat.beq h.n 0 then k v else none
  | _ => none
end
end
section
variable {P : Program} {G : Gl} {R : Type} {H h h' : Hp} {r : R}
theorem memN_iff {n : Nat} : ∀ {l : List Nat}, memN n l = true ↔ n ∈ l
  | [] => by simp [memN]
  | x :: l => by simp only [memN, Bool.or_eq_true, Nat.beq_eq, memN_iff (l := l), List.mem_cons]
theorem posN_some {b : Nat} : ∀ {l : List Nat} {i j : Nat}, posN b l i = some j → ∃ k, j = i + k ∧ l[k]? = some b
  | [], i, j, e => by cases e
  | x :: l, i, j, e => by
    unfold posN at e
    cases hb : Nat.beq b x <;> rw [hb] at e
    · obtain ⟨k, h1, h2⟩ := posN_some (l := l) e
      exact ⟨k + 1, by omega, by simpa using h2⟩
    · cases e
      exact ⟨0, rfl, by simp [Nat.eq_of_beq_eq_true hb]⟩
theorem posN_get {b : Nat} : ∀ {l : List Nat} {i k : Nat}, nodupN l = true → l[k]? = some b → posN b l i = some (i + k)
  | [], i, k, _, e => by simp at e
  | x :: l, i, k, hn, e => by
    simp only [nodupN, Bool.and_eq_true] at hn
    unfold posN
    cases k with
    | zero =>
      simp at e
      subst e
      rw [Nat.beq_refl]
      rfl
    | succ k =>
      have e' : l[k]? = some b := by simpa using e
      have hm : b ∈ l := List.mem_of_getElem? e'
      have hne : Nat.beq b x = false := by
        cases hb : Nat.beq b x
        · rfl
        · have := Nat.eq_of_beq_eq_true hb
          subst this
          have h1 := hn.1
          rw [memN_iff.2 hm] at h1
          cases h1
      rw [hne]
      have := posN_get (i := i + 1) hn.2 e'
      show posN b l (i + 1) = _
      rw [this]
      congr 1
      omega
theorem addN_pre : ∀ (l k : List Nat) (i : Nat) (b : Nat), k[i]? = some b → (addN k l)[i]? = some b
  | [], k, i, b, e => e
  | x :: l, k, i, b, e => by
    unfold addN
    refine addN_pre l _ i b ?_
    cases memN x k
    · show (app k [x])[i]? = _
      rw [app_eq, List.getElem?_append_left (List.getElem?_eq_some_iff.1 e).1]
      exact e
    · exact e
theorem grow_pre (h : Hp) : ∀ (n i : Nat) (k : List Nat) (j b : Nat), k[j]? = some b → (grow P h n i k)[j]? = some b
  | 0, i, k, j, b, e => e
  | n + 1, i, k, j, b, e => by
    unfold grow
    split
    · exact grow_pre h n _ _ j b (addN_pre _ _ _ _ e)
    · exact e
theorem upTo_get : ∀ (n i : Nat), i < n → (upTo n)[i]? = some i
  | 0, i, h => by omega
  | n + 1, i, h => by
    have hl : ∀ n, (upTo n).length = n := fun n => by induction n with | zero => rfl | succ n ih => simp [upTo, app_eq, ih]
    unfold upTo
    rw [app_eq]
    by_cases hi : i < n
    · rw [List.getElem?_append_left (by rw [hl]; exact hi)]
      exact upTo_get n i hi
    · have : i = n := by omega
      subst this
      rw [List.getElem?_append_right (by rw [hl]; omega), hl, Nat.sub_self]
      rfl
theorem sameGB_iff {a b : LObj} : sameGB a b = true ↔ SameG a b := by
  unfold sameGB SameG
  split
  · rename_i g _ _ _ _ g' _
    exact ⟨fun h => Nat.eq_of_beq_eq_true h, fun h => by have h : g = g' := h; subst h; exact Nat.beq_refl _⟩
  · simp
theorem apartB_spec {o : LObj} : ∀ {l : List LObj}, apartB o l = true → ∀ x ∈ l, ¬ SameG o x
  | [], _, x, hx => by simp at hx
  | y :: l, h, x, hx => by
    simp only [apartB, Bool.and_eq_true] at h
    rcases List.mem_cons.1 hx with rfl | hx
    · intro hs
      have h1 := h.1
      rw [sameGB_iff.2 hs] at h1
      cases h1
    · exact apartB_spec h.2 x hx
theorem SameG.symm {a b : LObj} (h : SameG a b) : SameG b a := by
  unfold SameG at *
  split at h
  · exact h.symm
  · exact h.elim
theorem allApart_spec : ∀ {l : List LObj}, allApart l = true → ∀ (i j : Nat) a b, i ≠ j → l[i]? = some a → l[j]? = some b → ¬ SameG a b
  | [], _, i, j, a, b, _, e, _ => by simp at e
  | y :: l, h, i, j, a, b, hij, e1, e2 => by
    simp only [allApart, Bool.and_eq_true] at h
    cases i with
    | zero =>
      simp at e1
      subst e1
      cases j with
      | zero => exact absurd rfl hij
      | succ j => exact apartB_spec h.1 b (List.mem_of_getElem? (by simpa using e2))
    | succ i =>
      cases j with
      | zero =>
        simp at e2
        subst e2
        exact fun hs => apartB_spec h.1 a (List.mem_of_getElem? (by simpa using e1)) hs.symm
      | succ j => exact allApart_spec h.2 i j a b (by omega) (by simpa using e1) (by simpa using e2)
theorem topE_mem : ∀ {l : List (LV × LV × Nat)} {x : LV × LV × Nat}, x ∈ l → topV x.1 ≤ topE l ∧ topV x.2.1 ≤ topE l
  | y :: l, x, hx => by
    simp only [topE]
    rcases List.mem_cons.1 hx with rfl | hx
    · omega
    · have := topE_mem hx
      omega
/-- An object told anew. -/
structure ReO (P : Program) (f : Nat → Option Nat) (j : Nat) (o o' : LObj) : Prop where
  le : OLe f o o'
  live : lv o' = true → lv o = true
  wrt : wr o' = true → wr o = true
  grp : ∀ g, grpOf o' = some g → g = j
  sh : shO o' = false
  top : plainO P o' = true → OTop 0 o'
theorem reO_some {f : Nat → Option Nat} {j : Nat} {o : LObj} {q : LObj × Bool} (e : reO P f j o = some q) (hq : q.2 = true) : ReO P f j o q.1 := by
  unfold reO at e
  split at e
  · rename_i c t st g sh ro
    cases hn : noNames P 9 t <;> rw [hn] at e
    · cases e
      exact ⟨.cells (.re c) rfl (by rw [reL_map, List.length_map]), fun _ => rfl, fun h => h, (fun g h => by cases h; rfl), rfl, fun h => by rw [show plainO P (.cells (reL f c) t st j false ro) = noNames P 9 t from rfl, hn] at h; cases h⟩
    · cases e
      have h1 : topL c ≤ 0 := Nat.le_of_ble_eq_true hq
      exact ⟨.cells (.same (by omega)) rfl rfl, fun _ => rfl, fun h => h, (fun g h => by cases h; rfl), rfl, fun _ => h1⟩
  · rename_i es c
    cases e
    have h1 : topE es ≤ 0 := Nat.le_of_ble_eq_true hq
    refine ⟨.map rfl fun i x x' e1 e2 => ?_, fun _ => rfl, fun h => h, (fun g h => by cases h), rfl, fun _ x hx => ⟨Nat.le_trans (topE_mem hx).1 h1, Nat.le_trans (topE_mem hx).2 h1⟩⟩
    rw [e1] at e2
    cases e2
    have := topE_mem (List.mem_of_getElem? e1)
    exact ⟨.same (by omega), .same (by omega), rfl⟩
  · cases e; exact ⟨.dead _, fun h => h, fun h => h, (fun g h => by cases h), rfl, fun _ => trivial⟩
  · cases e; exact ⟨.defd, fun h => h, fun h => h, (fun g h => by cases h), rfl, fun _ => trivial⟩
  · cases e
theorem kept_live {rs : List Nat} {b : Nat} (hl : lv (kept rs h b) = true) : kept rs h b = h.at b := by
  unfold kept at hl ⊢
  cases hb : memN b rs <;> rw [hb] at hl
  · cases hl
  · rfl
theorem reOs_some {f : Nat → Option Nat} {rs : List Nat} : ∀ (l : List Nat) (j : Nat) {q : List LObj × Bool}, reOs P f rs h l j = some q → q.2 = true → q.1.length = l.length ∧ ∀ (i : Nat) b o', l[i]? = some b → q.1[i]? = some o' → ReO P f (j + i) (kept rs h b) o'
  | [], j, q, e, _ => by cases e; exact ⟨rfl, fun i b o' h1 => by simp at h1⟩
  | b :: l, j, q, e, hq => by
    unfold reOs at e
    split at e
    · rename_i o os e1 e2
      cases e
      simp only [band_true] at hq
      have h1 := reO_some e1 hq.1
      obtain ⟨h3, h4⟩ := reOs_some l (j + 1) e2 hq.2
      refine ⟨by simp [h3], fun i b' o2 e1 e2 => ?_⟩
      cases i with
      | zero => simp at e1 e2; subst e1 e2; exact h1
      | succ i =>
        have := h4 i b' o2 (by simpa using e1) (by simpa using e2)
        rwa [show j + 1 + i = j + (i + 1) by omega] at this
    · cases e
theorem treeOf_get : ∀ (l : List LObj) (t : T LObj) (i j : Nat), T.get LObj.dead (treeOf t i l) j = if i ≤ j ∧ j < i + l.length then (l[j - i]?).getD .dead else T.get LObj.dead t j
  | [], t, i, j => by rw [treeOf, if_neg (by simp only [List.length_nil]; omega)]
  | o :: l, t, i, j => by
    rw [treeOf, treeOf_get l]
    simp only [List.length_cons]
    by_cases h1 : i + 1 ≤ j ∧ j < i + 1 + l.length
    · rw [if_pos h1, if_pos (by omega), show j - i = (j - (i + 1)) + 1 by omega]
      rfl
    · rw [if_neg h1, get_set]
      by_cases h2 : j = i
      · subst h2
        rw [if_pos rfl, if_pos (by omega), Nat.sub_self]
        rfl
      · rw [if_neg h2, if_neg (by omega)]
theorem hpOf_n (l : List LObj) : (hpOf P l).n = l.length := len_eq l
theorem hpOf_at (l : List LObj) (j : Nat) : (hpOf P l).at j = (l[j]?).getD .dead := by
  rw [Hp.at_eq, hpOf_n]
  show (if _ then T.get LObj.dead (treeOf .lf 0 l) j else _) = _
  rw [treeOf_get]
  by_cases hj : j < l.length
  · rw [if_pos hj, if_pos (by omega), Nat.sub_zero]
  · rw [if_neg hj, List.getElem?_eq_none (by omega)]
    rfl
theorem upsOf_mem {n : Nat} : ∀ (l : List LObj) (i j : Nat) o, l[j]? = some o → plainO P o = false → (i + j, n) ∈ upsOf P n l i
  | [], i, j, o, e, _ => by simp at e
  | x :: l, i, j, o, e, hp => by
    unfold upsOf
    cases j with
    | zero => simp at e; subst e; rw [hp]; exact .head _
    | succ j =>
      have := upsOf_mem (n := n) l (i + 1) j o (by simpa using e) hp
      rw [show i + 1 + j = i + (j + 1) by omega] at this
      cases plainO P x
      · exact .tail _ this
      · exact this
theorem canon_some {keep m : Nat} {roots : List LV} {q : List LV × List LObj × Bool} (e : canon P keep m H roots = some q) (hq : q.2.2 = true) : ∃ src f, q.1 = reL f roots ∧ Ren m H (hpOf P q.2.1) src f ∧ (∀ j, shO ((hpOf P q.2.1).at j) = false) := by
  unfold canon at e
  simp only at e
  generalize hrs : grow P H 60 0 (addN (upTo keep) (nmL roots)) = rs at e
  generalize hK : addN (upTo m) rs = K at e
  cases hb : (Nat.ble m H.n && nodupN K && allApart (K.map (kept rs H))) <;> rw [hb] at e
  · cases e
  · simp only [Bool.and_eq_true] at hb
    obtain ⟨⟨b1, b2⟩, b3⟩ := hb
    obtain ⟨⟨os, bb⟩, h1, rfl⟩ := Option.map_eq_some_iff.1 e
    obtain ⟨h2, h3⟩ := reOs_some K 0 h1 hq
    simp only at h2 h3 ⊢
    have src : ∀ j, j < K.length → K[j]? = some (K.getD j 0) := fun j hj => by simp [List.getD, hj]
    have row : ∀ j, j < K.length → ∃ o', os[j]? = some o' ∧ (hpOf P os).at j = o' ∧ ReO P (fun b => posN b K 0) j (kept rs H (K.getD j 0)) o' := fun j hj => by
      have hj' : j < os.length := by rw [h2]; exact hj
      refine ⟨os[j], List.getElem?_eq_getElem hj', by rw [hpOf_at, List.getElem?_eq_getElem hj']; rfl, ?_⟩
      have := h3 j _ _ (src j hj) (List.getElem?_eq_getElem hj')
      rwa [Nat.zero_add] at this
    have hn : (hpOf P os).n = K.length := by rw [hpOf_n, h2]
    refine ⟨fun j => K.getD j 0, fun b => posN b K 0, rfl, ⟨⟨fun b j hj => ?_, fun j hj => ?_, fun i j hi hj hij hli hlj => ?_, fun j g hg => ?_, fun b hb => ?_⟩, ?_, fun j hj => ?_, fun j hj => ?_⟩, fun j => ?_⟩
    · obtain ⟨k', e1, e2⟩ := posN_some hj
      have hk : k' < K.length := (List.getElem?_eq_some_iff.1 e2).1
      rw [src k' hk] at e2
      have : j = k' := by omega
      subst this
      exact ⟨(Option.some.inj e2).symm, by rw [hn]; exact hk⟩
    · rw [hn] at hj
      obtain ⟨o', e1, e2, e3⟩ := row j hj
      rw [e2]
      by_cases hd : o' = .dead
      · exact .inl hd
      · have hlo : lv o' = true := by cases o' <;> first | rfl | exact absurd rfl hd
        have hlk := e3.live hlo
        rw [kept_live hlk] at hlk
        refine .inr ⟨by have := posN_get (i := 0) b2 (src j hj); rwa [Nat.zero_add] at this, ?_, hlk⟩
        have := e3.le
        rwa [kept_live (e3.live hlo)] at this
    · rw [hn] at hi hj
      obtain ⟨o1, e1, e2, e3⟩ := row i hi
      obtain ⟨o2, e4, e5, e6⟩ := row j hj
      rw [e2] at hli
      rw [e5] at hlj
      rw [← kept_live (e3.live hli), ← kept_live (e6.live hlj)]
      exact allApart_spec b3 i j _ _ hij (by rw [List.getElem?_map, src i hi]; rfl) (by rw [List.getElem?_map, src j hj]; rfl)
    · by_cases hj : j < K.length
      · obtain ⟨o', e1, e2, e3⟩ := row j hj
        rw [e2] at hg
        exact Nat.le_of_eq (e3.grp g hg)
      · rw [Hp.at_eq, if_neg (by rw [hn]; exact hj)] at hg
        cases hg
    · rw [hn] at hb
      obtain ⟨o', e1, e2, e3⟩ := row b hb
      rw [e2]
      cases hp : plainO P o'
      · left
        have := upsOf_mem (P := P) (n := len os) os 0 b o' e1 hp
        rw [Nat.zero_add] at this
        exact this
      · exact .inr ((e3.top hp).mono (by omega))
    · rw [hn]
      rcases Nat.lt_or_ge K.length m with hlt | hge
      · have : K[m - 1]? = some (m - 1) := by
          rw [← hK]
          exact addN_pre _ _ _ _ (upTo_get m (m - 1) (by omega))
        have := (List.getElem?_eq_some_iff.1 this).1
        omega
      · exact hge
    · have : K[j]? = some j := by
        rw [← hK]
        exact addN_pre _ _ _ _ (upTo_get m j hj)
      show K.getD j 0 = j
      simp [List.getD, this]
    · have hlt := lv_lt (lv_of_wr hj)
      rw [hn] at hlt
      obtain ⟨o', e1, e2, e3⟩ := row j hlt
      rw [e2] at hj
      have := e3.wrt hj
      rwa [kept_live (lv_of_wr this)] at this
    · by_cases hj : j < K.length
      · obtain ⟨o', e1, e2, e3⟩ := row j hj
        rw [e2]
        exact e3.sh
      · rw [Hp.at_eq, if_neg (by rw [hn]; exact hj)]
        rfl
theorem kcanon_some {keep m : Nat} {roots : List LV} {k : List LV → List LObj → Option R} (e : kcanon P keep m H roots k = some r) : ∃ vs os src f, k vs os = some r ∧ vs = reL f roots ∧ Ren m H (hpOf P os) src f ∧ (∀ j, shO ((hpOf P os).at j) = false) := by
  unfold kcanon at e
  split at e
  · rename_i q hq
    obtain ⟨h1, h2⟩ := ast_some.1 e
    obtain ⟨src, f, h3, h4, h5⟩ := canon_some hq h1
    exact ⟨_, _, src, f, h2, h3, h4, h5⟩
  · cases e
variable {C : Orc} {L : List (FuncId × Con)} {cut : FuncId → Nat → Option (Nat → Fr → Hp → List (Bool × Ex × Fr × Hp))} {ρ : Rho} {w : World}
/-- A contract holds. -/
def ConS (P : Program) (G : Gl) (f : FuncId) (c : Con) : Prop := ∀ (args : List LV) (h : Hp) (v : LV) (h' : Hp), pickR (c args h) = some (v, h') → CallS P G f args h v h'
structure Base (P : Program) : Prop where
  name : ∀ (f : FuncId) (fn : Func), P.funcs[f]? = some fn → fn.body.isSome = true → (fn.name == "runtime.NumGoroutine") = false
  mix : P.follows .mixedOrders = true
theorem tab_mem {f : FuncId} {c : Con} : ∀ {L : List (FuncId × Con)}, tab L f = some c → (f, c) ∈ L
  | [], e => by cases e
  | x :: L, e => by
    have e' : Bool.rec (tab L f) (some x.2) (Nat.beq f x.1) = some c := e
    cases hb : Nat.beq f x.1 <;> rw [hb] at e'
    · exact .tail _ (tab_mem e')
    · have := Nat.eq_of_beq_eq_true hb
      subst this
      cases e'
      exact .head _
def ConsS (P : Program) (G : Gl) (L : List (FuncId × Con)) : Prop := ∀ x ∈ L, ConS P G x.1 x.2
theorem ConsS.nil : ConsS P G [] := fun x hx => by simp at hx
theorem ConsS.cons {f : FuncId} {c : Con} (h : ConS P G f c) (k : ConsS P G L) : ConsS P G ((f, c) :: L) := fun x hx => by
  rcases List.mem_cons.1 hx with rfl | hx
  · exact h
  · exact k x hx
theorem tabP_mem {f : FuncId} {c : PCon} : ∀ {L : List (FuncId × PCon)}, tabP L f = some c → (f, c) ∈ L
  | [], e => by cases e
  | x :: L, e => by
    have e' : Bool.rec (tabP L f) (some x.2) (Nat.beq f x.1) = some c := e
    cases hb : Nat.beq f x.1 <;> rw [hb] at e'
    · exact .tail _ (tabP_mem e')
    · have := Nat.eq_of_beq_eq_true hb
      subst this
      cases e'
      exact .head _
/-- A contract that sees no heap holds. -/
def PConS (P : Program) (G : Gl) (f : FuncId) (c : PCon) : Prop := ∀ (args : List LV) (v : LV), pickR (c args) = some v → ∀ h, CallS P G f args h v h
def PConsS (P : Program) (G : Gl) (L : List (FuncId × PCon)) : Prop := ∀ x ∈ L, PConS P G x.1 x.2
theorem PConsS.nil : PConsS P G [] := fun x hx => by simp at hx
theorem PConsS.cons {M : List (FuncId × PCon)} {f : FuncId} {c : PCon} (h : PConS P G f c) (k : PConsS P G M) : PConsS P G ((f, c) :: M) := fun x hx => by
  rcases List.mem_cons.1 hx with rfl | hx
  · exact h
  · exact k x hx
variable {M : List (FuncId × PCon)}
theorem orc_con (A : PConsS P G M) (B : ConsS P G L) (f : FuncId) (c : List LV → Hp → Option (LV × Hp)) (e : (KOrc.orc ⟨tabP M, tab L, cut⟩) f = some c) (args : List LV) (h : Hp) (v : LV) (h' : Hp) (q : c args h = some (v, h')) : CallS P G f args h v h' := by
  have e' : pickO ⟨tabP M, tab L, cut⟩ f = some c := e
  unfold pickO at e'
  split at e'
  · rename_i g eg
    cases e'
    obtain ⟨u, e1, e2⟩ := Option.map_eq_some_iff.1 q
    cases e2
    exact A _ (tabP_mem eg) args _ e1 h
  · obtain ⟨c', e1, rfl⟩ := Option.map_eq_some_iff.1 e'
    exact B _ (tab_mem e1) args h v h' q
theorem told_of (b : Base P) (A : PConsS P G M) (B : ConsS P G L) : Told P G (KOrc.orc ⟨tabP M, tab L, noCut⟩) where
  name := b.name
  mix := b.mix
  good := fun f fn c _ _ => Good.none (fun i => rfl) c
  con := orc_con A B
/-- A call that sees no heap: in every heap. -/
theorem CallE.pure {f : FuncId} {args : List LV} {v : LV} (k : CallE P G f args h v h') (h0 : h.n = 0) (h0' : h'.n = 0) (ha : topL args = 0) : CallE P G f args H v H := fun ρ w pargs hR hl => by
  have dead : ∀ b, h.at b = .dead := fun b => by rw [Hp.at_eq, if_neg (by omega)]
  have dead' : ∀ b, h'.at b = .dead := fun b => by rw [Hp.at_eq, if_neg (by omega)]
  have R0 : Real G (ρ.cut 0) h w := ⟨fun b => (by rw [dead]; trivial), fun b p e => (by simp [Rho.cut] at e), fun i j p q _ hi => (by rw [dead] at hi; cases hi), hR.glob, fun i p g hi => (by rw [dead] at hi; cases hi), fun i g hi => (by rw [dead] at hi; cases hi), fun b n _ _ => (by rw [dead]; trivial), fun i j p q _ hi => by rw [dead] at hi; cases hi⟩
  obtain ⟨k1, k2⟩ := k (ρ.cut 0) w pargs R0 (hl.cut (by omega))
  refine ⟨k1, k2.mono fun x w' ⟨ρ', pv, h1, s, r, hv⟩ => ⟨ρ, pv, h1, ?_, ?_, hv.mono fun i p e => absurd (r.fresh i p e) (by omega)⟩⟩
  · exact ⟨.refl _, fun i p hi hp => .inl ⟨i, p, hi, hp, rfl⟩, fun b hb _ => s.frame b hb fun j q hj => (by rw [dead] at hj; cases hj), s.size, s.os, s.tape, s.output⟩
  · have keep : ∀ i p, lv (H.at i) = true → ρ i = some p → w'.heap[p.pb]? = w.heap[p.pb]? := fun i p hl hp => s.frame _ (hR.low hl hp) fun j q hj => by rw [dead] at hj; cases hj
    exact ⟨fun b => (hR.obj b).keep (.refl _) (fun p hl hp => keep b p hl hp), hR.fresh, hR.sep, r.glob, hR.gsep, hR.grp, fun b n hb hu => (hR.told b n hb hu).keep (.refl _) (fun p hl hp => keep b p hl (Rho.cut_ext n _ _ hp)), hR.mono⟩
theorem obs0_some {k : LV → Option R} {x : Res} (e : obs0 k x = some r) : ∃ v h, x = .val v h ∧ h.n = 0 ∧ k v = some r := by
  unfold obs0 at e
  split at e
  · rename_i v h
    cases hb : Nat.beq h.n 0 <;> rw [hb] at e
    · cases e
    · exact ⟨v, h, rfl, Nat.eq_of_beq_eq_true hb, e⟩
  · cases e
/-- From what a function tells to its contract: no heap is seen. -/
theorem pure_con {K : KOrc} (HT : Told P G K.orc) {n : Nat} {f : FuncId} {args : List LV} {v : LV} (e : evk P G K n (.call f args) (hpOf P []) (obs0 some) = some v) (ha : topL args = 0) : CallE P G f args H v H := by
  obtain ⟨u, h', k1, k2⟩ := evk_call HT e
  obtain ⟨v', h2, e1, e2, e3⟩ := obs0_some k2
  cases e1
  cases e3
  exact k1.pure rfl e2 ha
theorem obsC_some {m : Nat} {k : LV → List LObj → Option R} {x : Res} (e : obsC P m k x = some r) : ∃ v h v' os src f, x = .val v h ∧ k v' os = some r ∧ VLe f v v' ∧ Ren m h (hpOf P os) src f ∧ (∀ j, shO ((hpOf P os).at j) = false) := by
  unfold obsC at e
  split at e
  · rename_i v h
    obtain ⟨vs, os, src, f, e1, e2, e3, e4⟩ := kcanon_some e
    subst e2
    simp only [reL] at e1
    exact ⟨v, h, _, os, src, f, rfl, e1, .re v, e3, e4⟩
  · cases e
/-- From what a function tells to what it does in its own heap. -/
theorem heap_con {K : KOrc} (HT : Told P G K.orc) {n m : Nat} {f : FuncId} {args : List LV} {v : LV} {os os' : List LObj} (e : evk P G K n (.call f args) (hpOf P os) (obsC P m fun v os => some (v, os)) = some (v, os')) (hm : os.length = m) : CallE P G f args (hpOf P os) v (hpOf P os') ∧ (∀ j, shO ((hpOf P os').at j) = false) := by
  obtain ⟨u, h', k1, k2⟩ := evk_call HT e
  obtain ⟨v', h2, v2, os2, src, g, e1, e2, e3, e4, e5⟩ := obsC_some k2
  cases e1
  cases e2
  have : (hpOf P os).n = m := by rw [hpOf_n, hm]
  exact ⟨k1.ren (by rw [this]; exact e4) e3, e5⟩
end
end Go.Proofs.Eng
