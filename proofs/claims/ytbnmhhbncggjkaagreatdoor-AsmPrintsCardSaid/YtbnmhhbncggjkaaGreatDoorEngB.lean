/- The logical machine: lists and trees as the kernel runs them; how logical values and blocks lie in a world. Conditions: none. -/
import Derived.Test.YtbnmhhbncggjkaaGreatDoorEngDefs
import Derived.WalkKit
set_option linter.unusedVariables false
set_option linter.unusedSimpArgs false
namespace Go.Proofs.Eng
open Go
/-! lists -/
section
variable {α : Type}
theorem len_eq (l : List α) : len l = l.length := by induction l with | nil => rfl | cons x r ih => exact congrArg Nat.succ ih
theorem tak_eq (l : List α) (n : Nat) : tak l n = l.take n := by
  induction l generalizing n with
  | nil => simp [tak]
  | cons x r ih => cases n with
    | zero => rfl
    | succ k => exact congrArg (x :: ·) (ih k)
theorem drp_eq (l : List α) (n : Nat) : drp l n = l.drop n := by
  induction l generalizing n with
  | nil => simp [drp]
  | cons x r ih => cases n with
    | zero => rfl
    | succ k => exact ih k
theorem app_eq (l m : List α) : app l m = l ++ m := by induction l with | nil => rfl | cons x r ih => exact congrArg (x :: ·) ih
theorem nth_eq (l : List α) (n : Nat) : nth l n = l[n]? := by
  induction l generalizing n with
  | nil => rfl
  | cons x r ih => cases n with
    | zero => rfl
    | succ k => exact (ih k).trans (by simp)
theorem rep_eq (x : List α) (n : Nat) : rep x n = (List.replicate n x).flatten := by
  induction n with
  | zero => rfl
  | succ n ih =>
    show app x (rep x n) = _
    rw [app_eq, ih]
    simp [List.replicate_succ]
theorem beqS_eq (l m : List UInt8) : beqS l m = decide (l = m) := by
  induction l generalizing m with
  | nil => cases m <;> simp [beqS]
  | cons x r ih => cases m with
    | nil => simp [beqS]
    | cons y ys =>
      show Bool.rec (motive := fun _ => Bool) false (beqS r ys) (Nat.beq x.toNat y.toNat) = _
      rw [ih]
      by_cases h : x = y
      · subst h; simp [Nat.beq_refl]
      · have h' : Nat.beq x.toNat y.toNat = false := by
          rw [Bool.eq_false_iff]
          intro hc
          exact h (UInt8.toNat_inj.1 (Nat.eq_of_beq_eq_true hc))
        rw [h']
        simp [h]
end
/-! trees -/
section
variable {α : Type} (z v : α)
theorem get_lf (i : Nat) : T.get z .lf i = z := rfl
theorem get_nd (x : α) (a b : T α) (i : Nat) : T.get z (.nd x a b) i = if i = 0 then x else if i % 2 = 1 then T.get z a (i / 2) else T.get z b (i / 2 - 1) := by
  show Bool.rec (motive := fun _ => α) (Bool.rec (motive := fun _ => α) (T.get z b (Nat.sub (Nat.div i 2) 1)) (T.get z a (Nat.div i 2)) (Nat.beq (Nat.mod i 2) 1)) x (Nat.beq i 0) = _
  by_cases h : i = 0
  · subst h; rfl
  · have h0 : Nat.beq i 0 = false := by rw [Bool.eq_false_iff]; intro hc; exact h (Nat.eq_of_beq_eq_true hc)
    rw [h0, if_neg h]
    by_cases h1 : i % 2 = 1
    · have h2 : Nat.beq (Nat.mod i 2) 1 = true := by show Nat.beq (i % 2) 1 = true; rw [h1]; rfl
      rw [h2, if_pos h1]; rfl
    · have h2 : Nat.beq (Nat.mod i 2) 1 = false := by rw [Bool.eq_false_iff]; intro hc; exact h1 (Nat.eq_of_beq_eq_true hc)
      rw [h2, if_neg h1]; rfl
theorem set_nd (x : α) (a b : T α) (i : Nat) : T.set z v (.nd x a b) i = if i = 0 then .nd v a b else if i % 2 = 1 then .nd x (T.set z v a (i / 2)) b else .nd x a (T.set z v b (i / 2 - 1)) := by
  show Bool.rec (motive := fun _ => T α) (Bool.rec (motive := fun _ => T α) (T.nd x a (T.set z v b (Nat.sub (Nat.div i 2) 1))) (.nd x (T.set z v a (Nat.div i 2)) b) (Nat.beq (Nat.mod i 2) 1)) (.nd v a b) (Nat.beq i 0) = _
  by_cases h : i = 0
  · subst h; rfl
  · have h0 : Nat.beq i 0 = false := by rw [Bool.eq_false_iff]; intro hc; exact h (Nat.eq_of_beq_eq_true hc)
    rw [h0, if_neg h]
    by_cases h1 : i % 2 = 1
    · have h2 : Nat.beq (Nat.mod i 2) 1 = true := by show Nat.beq (i % 2) 1 = true; rw [h1]; rfl
      rw [h2, if_pos h1]; rfl
    · have h2 : Nat.beq (Nat.mod i 2) 1 = false := by rw [Bool.eq_false_iff]; intro hc; exact h1 (Nat.eq_of_beq_eq_true hc)
      rw [h2, if_neg h1]; rfl
theorem one_succ (f i : Nat) : T.one z v (f + 1) i = if i = 0 then .nd v .lf .lf else if i % 2 = 1 then .nd z (T.one z v f (i / 2)) .lf else .nd z .lf (T.one z v f (i / 2 - 1)) := by
  show Bool.rec (motive := fun _ => T α) (Bool.rec (motive := fun _ => T α) (T.nd z .lf (T.one z v f (Nat.sub (Nat.div i 2) 1))) (.nd z (T.one z v f (Nat.div i 2)) .lf) (Nat.beq (Nat.mod i 2) 1)) (.nd v .lf .lf) (Nat.beq i 0) = _
  by_cases h : i = 0
  · subst h; rfl
  · have h0 : Nat.beq i 0 = false := by rw [Bool.eq_false_iff]; intro hc; exact h (Nat.eq_of_beq_eq_true hc)
    rw [h0, if_neg h]
    by_cases h1 : i % 2 = 1
    · have h2 : Nat.beq (Nat.mod i 2) 1 = true := by show Nat.beq (i % 2) 1 = true; rw [h1]; rfl
      rw [h2, if_pos h1]; rfl
    · have h2 : Nat.beq (Nat.mod i 2) 1 = false := by rw [Bool.eq_false_iff]; intro hc; exact h1 (Nat.eq_of_beq_eq_true hc)
      rw [h2, if_neg h1]; rfl
theorem get_one : ∀ (f i j : Nat), i ≤ f → T.get z (T.one z v f i) j = if j = i then v else z
  | 0, i, j, h => by
    obtain rfl : i = 0 := by omega
    show T.get z (.nd v .lf .lf) j = _
    rw [get_nd, get_lf, get_lf]
    by_cases hj : j = 0 <;> simp [hj]
  | f + 1, i, j, h => by
    rw [one_succ]
    by_cases hi : i = 0
    · rw [if_pos hi, get_nd, get_lf, get_lf]; subst hi; by_cases hj : j = 0 <;> simp [hj]
    · rw [if_neg hi]
      by_cases h1 : i % 2 = 1
      · rw [if_pos h1, get_nd, get_lf, get_one f _ _ (by omega)]
        by_cases hj : j = 0
        · rw [if_pos hj, if_neg (by omega)]
        · rw [if_neg hj]
          by_cases hj1 : j % 2 = 1
          · rw [if_pos hj1]
            by_cases e : j = i
            · rw [if_pos e, if_pos (by omega)]
            · rw [if_neg e, if_neg (by omega)]
          · rw [if_neg hj1, if_neg (by rintro rfl; exact hj1 h1)]
      · rw [if_neg h1, get_nd, get_lf, get_one f _ _ (by omega)]
        by_cases hj : j = 0
        · rw [if_pos hj, if_neg (by omega)]
        · rw [if_neg hj]
          by_cases hj1 : j % 2 = 1
          · rw [if_pos hj1, if_neg (by rintro rfl; exact h1 hj1)]
          · rw [if_neg hj1]
            by_cases e : j = i
            · rw [if_pos e, if_pos (by omega)]
            · rw [if_neg e, if_neg (by omega)]
theorem get_set (t : T α) (i j : Nat) : T.get z (T.set z v t i) j = if j = i then v else T.get z t j := by
  induction t generalizing i j with
  | lf => exact get_one z v i i j (Nat.le_refl _)
  | nd x a b iha ihb =>
    rw [set_nd]
    by_cases hi : i = 0
    · rw [if_pos hi, get_nd, get_nd]; subst hi; by_cases hj : j = 0 <;> simp [hj]
    · rw [if_neg hi]
      by_cases h1 : i % 2 = 1
      · rw [if_pos h1, get_nd, get_nd, iha]
        by_cases hj : j = 0
        · rw [if_pos hj, if_pos hj, if_neg (by omega)]
        · rw [if_neg hj, if_neg hj]
          by_cases hj1 : j % 2 = 1
          · rw [if_pos hj1, if_pos hj1]
            by_cases e : j = i
            · rw [if_pos e, if_pos (by omega)]
            · rw [if_neg e, if_neg (by omega)]
          · rw [if_neg hj1, if_neg hj1, if_neg (by rintro rfl; exact hj1 h1)]
      · rw [if_neg h1, get_nd, get_nd, ihb]
        by_cases hj : j = 0
        · rw [if_pos hj, if_pos hj, if_neg (by omega)]
        · rw [if_neg hj, if_neg hj]
          by_cases hj1 : j % 2 = 1
          · rw [if_pos hj1, if_pos hj1, if_neg (by rintro rfl; exact h1 hj1)]
          · rw [if_neg hj1, if_neg hj1]
            by_cases e : j = i
            · rw [if_pos e, if_pos (by omega)]
            · rw [if_neg e, if_neg (by omega)]
end
theorem Fr.get_put (a : Fr) (i j : Nat) (v : LV) : (a.put i v).get j = if j = i then v else a.get j := get_set _ _ a i j
theorem Hp.at_eq (h : Hp) (b : Nat) : h.at b = if b < h.n then T.get .dead h.t b else .dead := by
  unfold Hp.at
  by_cases hb : b < h.n
  · rw [if_pos hb, show Nat.blt b h.n = true from Nat.ble_eq_true_of_le hb]; rfl
  · rw [if_neg hb, show Nat.blt b h.n = false from by rw [Bool.eq_false_iff]; intro hc; exact hb (Nat.le_of_ble_eq_true hc)]; rfl
theorem Hp.at_new (h : Hp) (o : LObj) (b : Nat) : (h.new o).at b = if b = h.n then o else h.at b := by
  simp only [Hp.at_eq, Hp.new, get_set]
  by_cases e : b = h.n
  · rw [if_pos e, if_pos e, if_pos (by omega)]
  · rw [if_neg e, if_neg e]
    by_cases hb : b < h.n
    · rw [if_pos hb, if_pos (by omega)]
    · rw [if_neg hb, if_neg (by omega)]
theorem Hp.at_put (h : Hp) (i : Nat) (o : LObj) (b : Nat) (hi : i < h.n) : (h.put i o).at b = if b = i then o else h.at b := by
  simp only [Hp.at_eq, Hp.put, get_set]
  by_cases e : b = i
  · rw [if_pos e, if_pos e, if_pos (by omega)]
  · rw [if_neg e, if_neg e]
theorem Hp.at_tell (h : Hp) (i m b : Nat) : (h.tell i m).at b = h.at b := by
  unfold Hp.tell
  cases Nat.ble m i <;> rfl
theorem Hp.n_new (h : Hp) (o : LObj) : (h.new o).n = h.n + 1 := rfl
theorem Hp.n_put (h : Hp) (i : Nat) (o : LObj) : (h.put i o).n = h.n := rfl
theorem Hp.n_tell (h : Hp) (i m : Nat) : (h.tell i m).n = h.n := by
  unfold Hp.tell
  cases Nat.ble m i <;> rfl
theorem Hp.lt_of_at {h : Hp} {b : Nat} (hb : h.at b ≠ .dead) : b < h.n := by
  rw [Hp.at_eq] at hb
  by_cases e : b < h.n
  · exact e
  · rw [if_neg e] at hb; exact absurd rfl hb
/-! where logical blocks lie -/
structure Place where
  pb : Nat
  sh : Nat
  sz : Nat
  st : Nat
abbrev Rho := Nat → Option Place
/-- A logical value, and one of a world. -/
inductive VR (ρ : Rho) : LV → Value → Prop
  | any (v : Value) : VR ρ .any v
  | bool (b : Bool) : VR ρ (.bool b) (.bool b)
  | int (k : IntKind) (n : Int) : VR ρ (.int k n) (.int k n)
  | str (l : List UInt8) : VR ρ (.str l) (.string ⟨l.toArray⟩)
  | nilp : VR ρ .nilp (.pointer none)
  | ptr {b : Nat} {p : Place} (off : Nat) (h : ρ b = some p) : VR ρ (.ptr b off) (.pointer (some ⟨p.pb, p.sh + off, none⟩))
  | gptr (g off : Nat) : VR ρ (.gptr g off) (.pointer (some ⟨g, off, none⟩))
  | nils : VR ρ .nils (.slice none 0 0)
  | slc {b : Nat} {p : Place} {c x : Nat} (off n : Nat) (cap : Option Nat) (h : ρ b = some p) (hc : n ≤ c) (hk : ∀ k, cap = some k → c = k) (hs : p.st ≠ 0 → p.sh + off + c * p.st ≤ p.sz) (hx : c = 0 ∨ x = p.sh + off) : VR ρ (.slc b off n cap) (.slice (some ⟨p.pb, x, none⟩) n c)
  | nilm : VR ρ .nilm (.map none)
  | map {b : Nat} {p : Place} (h : ρ b = some p) : VR ρ (.map b) (.map (some p.pb))
  | nilf : VR ρ .nilf .nilFunc
  | fn (f : FuncId) {fs cs : List LV} {fs' cs' : Array Value} (h1 : fs.length = fs'.size) (h2 : cs.length = cs'.size) (r1 : ∀ (i : Nat) v v', fs[i]? = some v → fs'[i]? = some v' → VR ρ v v') (r2 : ∀ (i : Nat) v v', cs[i]? = some v → cs'[i]? = some v' → VR ρ v v') : VR ρ (.fn (.func f) fs cs) (.func (.func f) fs' cs')
  | yield {l : Nat} {p : Place} {fs cs : List LV} {fs' cs' : Array Value} (h : ρ l = some p) (h1 : fs.length = fs'.size) (r1 : ∀ (i : Nat) v v', fs[i]? = some v → fs'[i]? = some v' → VR ρ v v') : VR ρ (.fn (.yield l) fs cs) (.func (.yield p.pb) fs' cs')
  | nili : VR ρ .nili .nilIface
  | ifc (t : TypeId) {v : LV} {v' : Value} (h : VR ρ v v') : VR ρ (.ifc t v) (.iface t v')
  | agg {l : List LV} {a : Array Value} (h : l.length = a.size) (r : ∀ (i : Nat) v v', l[i]? = some v → a[i]? = some v' → VR ρ v v') (ho : ∀ u ∈ a, u.oneCell' = true) : VR ρ (.agg l) (.agg a)
  | tup {l : List LV} {a : Array Value} (h : l.length = a.size) (r : ∀ (i : Nat) v v', l[i]? = some v → a[i]? = some v' → VR ρ v v') : VR ρ (.tup l) (.tuple a)
/-- Lists of such. -/
def LR (ρ : Rho) (l : List LV) (a : List Value) : Prop := l.length = a.length ∧ ∀ (i : Nat) v v', l[i]? = some v → a[i]? = some v' → VR ρ v v'
section
variable {ρ ρ' : Rho}
def Ext (ρ ρ' : Rho) : Prop := ∀ i p, ρ i = some p → ρ' i = some p
theorem Ext.refl (ρ : Rho) : Ext ρ ρ := fun _ _ h => h
theorem Ext.trans {ρ ρ1 ρ2 : Rho} (h : Ext ρ ρ1) (k : Ext ρ1 ρ2) : Ext ρ ρ2 := fun i p e => k i p (h i p e)
theorem VR.mono (he : Ext ρ ρ') {v : LV} {v' : Value} (h : VR ρ v v') : VR ρ' v v' := by
  induction h with
  | any v => exact .any v
  | bool b => exact .bool b
  | int k n => exact .int k n
  | str l => exact .str l
  | nilp => exact .nilp
  | ptr off h => exact .ptr off (he _ _ h)
  | gptr g off => exact .gptr g off
  | nils => exact .nils
  | slc off n cap h hc hk hs hx => exact .slc off n cap (he _ _ h) hc hk hs hx
  | nilm => exact .nilm
  | map h => exact .map (he _ _ h)
  | nilf => exact .nilf
  | fn f h1 h2 r1 r2 i1 i2 => exact .fn f h1 h2 i1 i2
  | yield h h1 r1 i1 => exact .yield (he _ _ h) h1 i1
  | nili => exact .nili
  | ifc t h ih => exact .ifc t ih
  | agg h r ho ih => exact .agg h ih ho
  | tup h r ih => exact .tup h ih
theorem LR.mono (he : Ext ρ ρ') {l : List LV} {a : List Value} (h : LR ρ l a) : LR ρ' l a := ⟨h.1, fun i v v' e e' => (h.2 i v v' e e').mono he⟩
theorem LR.nil : LR ρ [] [] := ⟨rfl, fun i v v' e => by simp at e⟩
theorem LR.cons {x : LV} {y : Value} {l : List LV} {a : List Value} (h : VR ρ x y) (r : LR ρ l a) : LR ρ (x :: l) (y :: a) :=
  ⟨by simp [r.1], fun i v v' e e' => by
    cases i with
    | zero => simp at e e'; subst e; subst e'; exact h
    | succ i => simp at e e'; exact r.2 i v v' e e'⟩
theorem LR.head {x : LV} {y : Value} {l : List LV} {a : List Value} (r : LR ρ (x :: l) (y :: a)) : VR ρ x y := r.2 0 x y rfl rfl
theorem LR.tail {x : LV} {y : Value} {l : List LV} {a : List Value} (r : LR ρ (x :: l) (y :: a)) : LR ρ l a :=
  ⟨by simpa using r.1, fun i v v' e e' => r.2 (i + 1) v v' (by simpa using e) (by simpa using e')⟩
theorem LR.cons_inv {x : LV} {l : List LV} {a : List Value} (r : LR ρ (x :: l) a) : ∃ y b, a = y :: b ∧ VR ρ x y ∧ LR ρ l b := by
  cases a with
  | nil => have := r.1; simp at this
  | cons y b => exact ⟨y, b, rfl, r.head, r.tail⟩
theorem LR.append {l m : List LV} {a b : List Value} (h : LR ρ l a) (k : LR ρ m b) : LR ρ (l ++ m) (a ++ b) := by
  induction l generalizing a with
  | nil =>
    have h1 := h.1
    cases a with
    | nil => exact k
    | cons => simp at h1
  | cons x l ih =>
    obtain ⟨y, c, rfl, hx, hl⟩ := h.cons_inv
    exact .cons hx (ih hl)
theorem LR.take {l : List LV} {a : List Value} (h : LR ρ l a) (n : Nat) : LR ρ (l.take n) (a.take n) :=
  ⟨by simp [h.1], fun i v v' e e' => by
    rw [List.getElem?_take] at e e'
    split at e
    · rename_i hi; rw [if_pos hi] at e'; exact h.2 i v v' e e'
    · cases e⟩
theorem LR.drop {l : List LV} {a : List Value} (h : LR ρ l a) (n : Nat) : LR ρ (l.drop n) (a.drop n) :=
  ⟨by simp [h.1], fun i v v' e e' => by
    rw [List.getElem?_drop] at e e'
    exact h.2 _ v v' e e'⟩
theorem LR.get {l : List LV} {a : List Value} (h : LR ρ l a) {i : Nat} {v : LV} (e : l[i]? = some v) : ∃ v', a[i]? = some v' ∧ VR ρ v v' := by
  have hi : i < a.length := by rw [← h.1]; exact (List.getElem?_eq_some_iff.1 e).1
  exact ⟨a[i], by simp [hi], h.2 i v _ e (by simp [hi])⟩
theorem LR.replicate {x : LV} {y : Value} (h : VR ρ x y) (n : Nat) : LR ρ (List.replicate n x) (List.replicate n y) := by
  induction n with
  | zero => exact .nil
  | succ n ih => exact .cons h ih
theorem VR.agg_iff {l : List LV} {v' : Value} (h : VR ρ (.agg l) v') : ∃ a : List Value, v' = .agg a.toArray ∧ LR ρ l a := by
  cases h with
  | agg h r ho => rename_i a; exact ⟨a.toList, rfl, by simpa using h, fun i v v' e e' => r i v v' e (by simpa using e')⟩
theorem VR.mk_agg {l : List LV} {a : List Value} (h : LR ρ l a) (ho : ∀ u ∈ a, u.oneCell' = true) : VR ρ (.agg l) (.agg a.toArray) := .agg (by simpa using h.1) (fun i v v' e e' => h.2 i v v' e (by simpa using e')) (fun u hu => ho u (by simpa using hu))
theorem VR.tup_iff {l : List LV} {v' : Value} (h : VR ρ (.tup l) v') : ∃ a : List Value, v' = .tuple a.toArray ∧ LR ρ l a := by
  cases h with
  | tup h r => rename_i a; exact ⟨a.toList, rfl, by simpa using h, fun i v v' e e' => r i v v' e (by simpa using e')⟩
theorem VR.mk_tup {l : List LV} {a : List Value} (h : LR ρ l a) : VR ρ (.tup l) (.tuple a.toArray) := .tup (by simpa using h.1) (fun i v v' e e' => h.2 i v v' e (by simpa using e'))
theorem VR.bool_inv {b : Bool} {v' : Value} (h : VR ρ (.bool b) v') : v' = .bool b := by cases h; rfl
theorem VR.int_inv {k : IntKind} {n : Int} {v' : Value} (h : VR ρ (.int k n) v') : v' = .int k n := by cases h; rfl
theorem VR.str_inv {l : List UInt8} {v' : Value} (h : VR ρ (.str l) v') : v' = .string ⟨l.toArray⟩ := by cases h; rfl
theorem VR.ptr_inv {b off : Nat} {v' : Value} (h : VR ρ (.ptr b off) v') : ∃ p, ρ b = some p ∧ v' = .pointer (some ⟨p.pb, p.sh + off, none⟩) := by cases h; exact ⟨_, by assumption, rfl⟩
theorem VR.gptr_inv {g off : Nat} {v' : Value} (h : VR ρ (.gptr g off) v') : v' = .pointer (some ⟨g, off, none⟩) := by cases h; rfl
theorem VR.nilp_inv {v' : Value} (h : VR ρ .nilp v') : v' = .pointer none := by cases h; rfl
theorem VR.nils_inv {v' : Value} (h : VR ρ .nils v') : v' = .slice none 0 0 := by cases h; rfl
theorem VR.slc_inv {b off n : Nat} {cap : Option Nat} {v' : Value} (h : VR ρ (.slc b off n cap) v') : ∃ p c x, ρ b = some p ∧ v' = .slice (some ⟨p.pb, x, none⟩) n c ∧ n ≤ c ∧ (∀ k, cap = some k → c = k) ∧ (p.st ≠ 0 → p.sh + off + c * p.st ≤ p.sz) ∧ (c = 0 ∨ x = p.sh + off) := by
  cases h; exact ⟨_, _, _, by assumption, rfl, by assumption, by assumption, by assumption, by assumption⟩
theorem VR.nilm_inv {v' : Value} (h : VR ρ .nilm v') : v' = .map none := by cases h; rfl
theorem VR.map_inv {r : Nat} {v' : Value} (h : VR ρ (.map r) v') : ∃ p, ρ r = some p ∧ v' = .map (some p.pb) := by cases h; exact ⟨_, by assumption, rfl⟩
theorem VR.nilf_inv {v' : Value} (h : VR ρ .nilf v') : v' = .nilFunc := by cases h; rfl
theorem VR.nili_inv {v' : Value} (h : VR ρ .nili v') : v' = .nilIface := by cases h; rfl
theorem VR.ifc_inv {t : TypeId} {v : LV} {v' : Value} (h : VR ρ (.ifc t v) v') : ∃ x, v' = .iface t x ∧ VR ρ v x := by cases h; exact ⟨_, rfl, by assumption⟩
/-- A value without addresses lies as it is. -/
theorem ofV_VR (n : Nat) (v : Value) : VR ρ (ofV n v) v := by
  induction n generalizing v with
  | zero =>
    cases v with
    | pointer a => cases a <;> simp only [ofV] <;> constructor
    | slice a x y => cases a with
      | none => cases x <;> cases y <;> simp only [ofV] <;> constructor
      | some a => simp only [ofV]; constructor
    | map a => cases a <;> simp only [ofV] <;> constructor
    | string s => simp only [ofV]; exact .str s.data.toList
    | _ => simp only [ofV]; constructor
  | succ n ih =>
    have key : ∀ cs : Array Value, LR ρ (cs.toList.map (ofV n)) cs.toList := fun cs => ⟨by simp, fun i v v' e e' => by
      rw [List.getElem?_map, e'] at e
      simp at e; subst e; exact ih v'⟩
    cases v with
    | pointer a => cases a <;> simp only [ofV] <;> constructor
    | slice a x y => cases a with
      | none => cases x <;> cases y <;> simp only [ofV] <;> constructor
      | some a => simp only [ofV]; constructor
    | map a => cases a <;> simp only [ofV] <;> constructor
    | string s => simp only [ofV]; exact .str s.data.toList
    | agg cs =>
      simp only [ofV]
      cases hb : cs.toList.all oneC with
      | false => exact .any _
      | true => exact VR.mk_agg (key cs) (fun u hu => by have := List.all_eq_true.1 hb u hu; cases u <;> first | rfl | cases this)
    | tuple cs => simp only [ofV]; exact VR.mk_tup (key cs)
    | _ => simp only [ofV]; constructor
end
end Go.Proofs.Eng
