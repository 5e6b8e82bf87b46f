/- Layer 4's reference: contracts of the functions that reckon alone. Conditions: none. -/
import Derived.Test.YtbnmhhbncggjkaaGreatDoorK4C
set_option linter.unusedVariables false
set_option linter.unusedSimpArgs false
namespace Go.Proofs.YtbnmhhbncggjkaaGreatDoor
open Go Eng
set_option maxRecDepth 1000000
/-! a word's bits, plainly -/
def val : List Int → Int
  | [] => 0
  | b :: r => b + 2 * val r
def isBits (l : List Int) : Prop := ∀ b ∈ l, b = 0 ∨ b = 1
theorem val_take_succ (l : List Int) (k : Nat) (h : k < l.length) : val (l.take (k + 1)) = val (l.take k) + l[k] * 2 ^ k := by
  induction l generalizing k with
  | nil => simp at h
  | cons x r ih =>
    cases k with
    | zero => simp [val]
    | succ k =>
      simp only [List.length_cons] at h
      simp only [List.take_succ_cons, val, ih k (by omega), List.getElem_cons_succ, Int.pow_succ]
      grind
theorem val_bd (l : List Int) (h : isBits l) : 0 ≤ val l ∧ val l < 2 ^ l.length := by
  induction l with
  | nil => simp [val]
  | cons x r ih =>
    have := ih (fun b hb => h b (List.mem_cons_of_mem _ hb))
    have := h x List.mem_cons_self
    simp only [val, List.length_cons, Int.pow_succ]
    omega
theorem number_step (l : List Int) (k : Nat) (hl : l.length = 32) (hb : isBits l) (hk : k < 32) :
    bits .or .u32 (val (l.take k)) ((l[k]'(by omega)) % 4294967296 * 2 ^ k % 4294967296) = val (l.take (k + 1)) := by
  have hv := val_bd (l.take k) (fun b h => hb b (List.mem_of_mem_take h))
  rw [List.length_take, Nat.min_eq_left (by omega)] at hv
  have h1 := hb (l[k]'(by omega)) (List.getElem_mem _)
  rw [val_take_succ l k (by omega)]
  have hp := pow_le32 (k + 1) (by omega)
  have hp0 : (0 : Int) < 2 ^ k := Int.pow_pos (by omega)
  rw [Int.pow_succ] at hp
  generalize l[k]'(by omega) = b at *
  have e : b % 4294967296 * 2 ^ k % 4294967296 = 2 ^ k * b := by
    rcases h1 with rfl | rfl
    · simp
    · generalize (2 : Int) ^ k = p at *
      omega
  rw [e, or_mid32 k 1 (val (l.take k)) 0 b (by simp) rfl hv.1 hv.2 (by omega) (by omega) (by omega) (by omega) (by rcases h1 with rfl | rfl <;> simp <;> omega)]
  grind
def lay (w : List Int) (n : Int) (f : Nat) : Nat → Nat → List Int
  | 0, _ => w
  | m + 1, t => (lay w n f m t).set (t + m) (n / 2 ^ (f + m) % 2)
theorem lay_length (w : List Int) (n : Int) (f m t : Nat) : (lay w n f m t).length = w.length := by
  induction m with
  | zero => rfl
  | succ m ih => simp [lay, ih]
theorem lay_bits (w : List Int) (n : Int) (f m t : Nat) (h : isBits w) : isBits (lay w n f m t) := by
  induction m with
  | zero => exact h
  | succ m ih =>
    intro b hb
    rcases List.mem_or_eq_of_mem_set hb with hb | rfl
    · exact ih b hb
    · omega
theorem val_set (w : List Int) (j : Nat) (b : Int) (h : j < w.length) : val (w.set j b) = val w + (b - w.getD j 0) * 2 ^ j := by
  induction w generalizing j with
  | nil => simp at h
  | cons x r ih =>
    cases j with
    | zero => simp [val]; omega
    | succ j =>
      simp only [List.length_cons] at h
      simp only [List.set_cons_succ, val, ih j (by omega), List.getD_cons_succ, Int.pow_succ]
      grind
theorem lay_getD (w : List Int) (n : Int) (f m t j : Nat) (h : j < t ∨ t + m ≤ j) : (lay w n f m t).getD j 0 = w.getD j 0 := by
  induction m with
  | zero => rfl
  | succ m ih =>
    simp only [lay]
    rw [List.getD_eq_getElem?_getD, List.getElem?_set_ne (by omega), ← List.getD_eq_getElem?_getD]
    exact ih (by omega)
theorem mod_step (a : Int) (m : Nat) : a % 2 ^ (m + 1) = a % 2 ^ m + 2 ^ m * (a / 2 ^ m % 2) := by
  have hp : (0:Int) < 2 ^ m := Int.pow_pos (by omega)
  rw [Int.pow_succ]
  have h1 := Int.mul_ediv_add_emod a (2^m)
  have h2 := Int.mul_ediv_add_emod (a / 2^m) 2
  have h3 := Int.mul_ediv_add_emod a (2^m*2)
  have h4 : a / (2^m*2) = a / 2^m / 2 := by rw [Int.ediv_ediv_of_nonneg (by omega)]
  rw [h4] at h3
  generalize a / 2^m / 2 = q at *
  generalize a / 2^m % 2 = r at *
  generalize (2:Int)^m = p at *
  grind
theorem val_lay (w : List Int) (n : Int) (f m t : Nat) (hl : t + m ≤ w.length) (hz : ∀ j, t ≤ j → j < t + m → w.getD j 0 = 0) :
    val (lay w n f m t) = val w + (n / 2 ^ f % 2 ^ m) * 2 ^ t := by
  induction m with
  | zero => simp [lay, Int.emod_one]
  | succ m ih =>
    simp only [lay]
    rw [val_set _ _ _ (by rw [lay_length]; omega), ih (by omega) (fun j h1 h2 => hz j h1 (by omega)), lay_getD _ _ _ _ _ _ (Or.inr (by omega)), hz _ (by omega) (by omega), mod_step]
    have : n / 2 ^ (f + m) = n / 2 ^ f / 2 ^ m := by rw [Int.pow_add, Int.ediv_ediv_of_nonneg]; exact Int.pow_nonneg (by omega)
    rw [this, Int.pow_add]
    grind
theorem u32_and1 (a : Int) (h0 : 0 ≤ a) (h1 : a < 4294967296) : Go.bits .and .u32 a 1 = a % 2 := by
  obtain ⟨a, rfl⟩ := Int.eq_ofNat_of_zero_le h0
  rw [show (1 : Int) = ((1 : Nat) : Int) from rfl, u32_and_nat _ _ (by omega) (by omega), Nat.and_one_is_mod]
  rfl
/-! cells of a word -/
noncomputable def wL (w : List Int) : List LV := w.map (LV.int .i64 ·)
theorem wL_len (w : List Int) : len (wL w) = w.length := by rw [len_eq, wL, List.length_map]
theorem wL_top (w : List Int) : topL (wL w) = 0 := by
  induction w with
  | nil => rfl
  | cons x w ih => show max 0 (topL (wL w)) = 0; rw [ih]; rfl
/-- Bits laid into a row of cells. -/
noncomputable def layN (c : List LV) (n : Int) (f : Nat) : Nat → Nat → List LV
  | 0, _ => c
  | m + 1, t => (layN c n f m t).set (t + m) (.int .i64 (n / 2 ^ (f + m) % 2))
noncomputable def layC (c : List LV) (n f m t : Int) : List LV := layN c n f.toNat m.toNat t.toNat
theorem layN_wL (w : List Int) (n : Int) (f m t : Nat) : layN (wL w) n f m t = wL (lay w n f m t) := by
  induction m with
  | zero => rfl
  | succ m ih => rw [layN, ih, lay, wL, wL, List.map_set]
theorem layC_wL (w : List Int) (n f m t : Int) : layC (wL w) n f m t = wL (lay w n f.toNat m.toNat t.toNat) := layN_wL w n _ _ _
theorem topL_set : ∀ (c : List LV) (j : Nat) (k : IntKind) (b : Int), topL c = 0 → topL (c.set j (.int k b)) = 0
  | [], j, k, b, h => h
  | x :: c, 0, k, b, h => by simp only [topL] at h ⊢; show max 0 (topL c) = 0; omega
  | x :: c, j + 1, k, b, h => by
    simp only [topL] at h
    rw [List.set_cons_succ]
    simp only [topL]
    rw [topL_set c j k b (by omega)]
    omega
theorem layN_top (c : List LV) (n : Int) (f m t : Nat) (h : topL c = 0) : topL (layN c n f m t) = 0 := by
  induction m with
  | zero => exact h
  | succ m ih => exact topL_set _ _ _ _ ih
theorem layN_len (c : List LV) (n : Int) (f m t : Nat) : (layN c n f m t).length = c.length := by
  induction m with
  | zero => rfl
  | succ m ih => rw [layN, List.length_set, ih]
noncomputable def layOk (c : List LV) (f m t : Int) : Bool := decide (c.length = 32 ∧ topL c = 0 ∧ 0 ≤ f ∧ 0 ≤ m ∧ 0 ≤ t ∧ f + m ≤ 63 ∧ t + m ≤ 32)
theorem layOk_eq (c : List LV) (f m t : Int) : (layOk c f m t = true) = (c.length = 32 ∧ topL c = 0 ∧ 0 ≤ f ∧ 0 ≤ m ∧ 0 ≤ t ∧ f + m ≤ 63 ∧ t + m ≤ 32) := by simp [layOk]
noncomputable def bitV : LV → Option Int
  | .int .i64 b => if b = 0 ∨ b = 1 then some b else none
  | _ => none
noncomputable def toW : List LV → Option (List Int)
  | [] => some []
  | v :: c => (bitV v).bind fun b => (toW c).map (b :: ·)
noncomputable def bitsOk (c : List LV) : Bool := match toW c with
  | some w => decide (w.length = 32)
  | none => false
noncomputable def valC (c : List LV) : Int := match toW c with
  | some w => val w
  | none => 0
theorem toW_wL (w : List Int) (h : isBits w) : toW (wL w) = some w := by
  induction w with
  | nil => rfl
  | cons b w ih =>
    have hb := h b List.mem_cons_self
    show (bitV (.int .i64 b)).bind (fun b => (toW (wL w)).map (b :: ·)) = _
    rw [ih (fun b hb => h b (List.mem_cons_of_mem _ hb))]
    simp [bitV, hb]
theorem toW_inv : ∀ {c : List LV} {w : List Int}, toW c = some w → c = wL w ∧ isBits w
  | [], w, e => by cases e; exact ⟨rfl, fun b hb => by cases hb⟩
  | v :: c, w, e => by
    obtain ⟨b, h1, e⟩ := Option.bind_eq_some_iff.1 (show (bitV v).bind (fun b => (toW c).map (b :: ·)) = some w from e)
    obtain ⟨w', h2, rfl⟩ := Option.map_eq_some_iff.1 e
    obtain ⟨rfl, h3⟩ := toW_inv h2
    unfold bitV at h1
    split at h1
    · split at h1
      · rename_i hb
        cases h1
        exact ⟨rfl, fun x hx => by rcases List.mem_cons.1 hx with rfl | hx; exact hb; exact h3 x hx⟩
      · cases h1
    · cases h1
theorem bitsOk_wL (w : List Int) (h : isBits w) (hl : w.length = 32) : bitsOk (wL w) = true := by unfold bitsOk; rw [toW_wL w h]; exact decide_eq_true hl
theorem valC_wL (w : List Int) (h : isBits w) : valC (wL w) = val w := by unfold valC; rw [toW_wL w h]
theorem bitsOk_inv {c : List LV} (h : bitsOk c = true) : ∃ w, c = wL w ∧ isBits w ∧ w.length = 32 ∧ valC c = val w := by
  unfold bitsOk at h
  unfold valC
  cases hw : toW c with
  | none => rw [hw] at h; cases h
  | some w =>
    rw [hw] at h
    obtain ⟨h1, h2⟩ := toW_inv hw
    exact ⟨w, h1, h2, of_decide_eq_true h, rfl⟩
/-! bit -/
noncomputable def bitN (n i : Int) : Int := n / 2 ^ i.toNat % 2
noncomputable def cBit : PCon := fun
  | [.int .i64 n, .int .i64 i] => [(band (ile 0 i) (band (ile i 63) (inI n)), .int .i64 (bitN n i))]
  | _ => []
theorem bit_told {R : Type} (k : LV → Option R) (n i : Int) : evk P G0 (Ko []) 400 (.call 99 [(.int .i64 n), (.int .i64 i)]) (hpOf P []) (obs0 k) =
  (tst (ilt i 0)
  (none)
  (k (.int .i64 (bAnd .i64 (shrI .i64 n i) 1)))) := by kernel_rfl
theorem i64_bits_le (n : Int) (i : Int) (h0 : 0 ≤ i) (h1 : i ≤ 63) : shrI .i64 n i = n / 2 ^ i.toNat := by
  rw [shr_eq, show min i.toNat IntKind.i64.bits = i.toNat from Nat.min_eq_left (by show _ ≤ 64; omega)]
theorem bit_con : PConS P G0 99 cBit := fun args v e h => by
  unfold cBit at e
  split at e
  · rename_i n i
    obtain ⟨hb, rfl⟩ := pick_one e
    simp only [band_eq', ile_eq] at hb
    refine (pure_con (ko_told .nil) (n := 400) (by
      rw [bit_told]
      simp only [kst, ilt_eq]
      rw [if_neg (by omega), i64_bits_le n i hb.1 hb.2.1, bAnd_eq, i64_and1]
      rfl) rfl).toS
  · cases e
noncomputable abbrev R1 : List (FuncId × PCon) := [(99, cBit)]
theorem R1_con : PConsS P G0 R1 := .cons bit_con .nil
/-! lay -/
theorem lay_round {R : Type} (kn : List LV → List LObj → Option R) (kx : Nat → List LV → List LObj → Option R) (kr : List LV → List LObj → Option R) (n f m t i : Int) (c z : List LV) :
    evk P G0 (Ko R1) 400 (.code (loopOf P 63 0) none 63 27 (frZ [1, 2, 3, 4, 5, 10, 11] [(.int .i64 n), (.int .i64 f), (.int .i64 m), (.int .i64 t), (.ptr 0 0), (.ptr 1 0), (.int .i64 i)]) []) (hpOf P [.cells c 92 0 0 false false, .cells z 92 0 1 false false]) (kround P 0 2 [1, 2, 3, 4, 5, 10, 11] [5, 10] [] kn kx kr) =
  (tst (ilt i m)
  (ast (band (ile 0 (wrapF .i64 (f + i))) (band (ile (wrapF .i64 (f + i)) 63) (inI n))) <|
   ast (band (ile 0 (wrapF .i64 (t + i))) (nlt (toN (wrapF .i64 (t + i))) 32)) <|
   ast (nle (nadd (nadd 0 (nmul (toN (wrapF .i64 (t + i))) 1)) 1) (len c)) <|
   ast (band (nle (topL (app (tak c (nadd 0 (nmul (toN (wrapF .i64 (t + i))) 1))) (app [(.int .i64 (bitN n (wrapF .i64 (f + i))))] (drp c (nadd (nadd 0 (nmul (toN (wrapF .i64 (t + i))) 1)) 1))))) 0) (band (nle (topL z) 0) true)) <|
   kn [(.int .i64 n), (.int .i64 f), (.int .i64 m), (.int .i64 t), (.ptr 0 0), (.ptr 1 0), (.int .i64 (wrapF .i64 (i + 1)))] [.cells (app (tak c (nadd 0 (nmul (toN (wrapF .i64 (t + i))) 1))) (app [(.int .i64 (bitN n (wrapF .i64 (f + i))))] (drp c (nadd (nadd 0 (nmul (toN (wrapF .i64 (t + i))) 1)) 1)))) 92 0 0 false false, .cells z 92 0 1 false false])
  (ast (band (nle (topL c) 0) (band (nle (topL z) 0) true)) <|
   kx 0 [(.ptr 0 0), (.ptr 1 0)] [.cells c 92 0 0 false false, .cells z 92 0 1 false false])) := by kernel_rfl
noncomputable abbrev lSlots : List Nat := [1, 2, 3, 4, 5, 10, 11]
noncomputable abbrev lVs (n f m t i : Int) : List LV := [.int .i64 n, .int .i64 f, .int .i64 m, .int .i64 t, .ptr 0 0, .ptr 1 0, .int .i64 i]
noncomputable abbrev lOs (c z : List LV) : List LObj := [.cells c 92 0 0 false false, .cells z 92 0 1 false false]
theorem lay_isLoop : isLoop P 63 0 = true := by kernel_rfl
theorem put_set (c : List LV) (j : Nat) (v : LV) (h : j < c.length) : app (tak c j) (app [v] (drp c (j + 1))) = c.set j v := by
  rw [app_eq, app_eq, tak_eq, drp_eq, List.set_eq_take_append_cons_drop, if_pos h]
  rfl
theorem lay_loop (c z : List LV) (n f m t : Int) (hl : c.length = 32) (hc : topL c = 0) (hz : topL z = 0) (hn : inI n = true) (f0 : 0 ≤ f) (m0 : 0 ≤ m) (t0 : 0 ≤ t) (fm : f + m ≤ 63) (tm : t + m ≤ 32) (d i : Nat) (hd : d = m.toNat - i) (hi : (i : Int) ≤ m) :
    LoopM P G0 63 0 27 2 lSlots (lVs n f m t i) (lOs (layN c n f.toNat i t.toNat) z) (.exit 0) [5, 10] [.ptr 0 0, .ptr 1 0] (lOs (layC c n f m t) z) := by
  have T := ko_told R1_con
  have gd := good_loop T lay_isLoop
  have ht := layN_top c n f.toNat i t.toNat hc
  have hln := layN_len c n f.toNat i t.toNat
  induction d generalizing i with
  | zero =>
    obtain rfl : m = i := by omega
    refine loop_exit (n := 400) (keep := 0) (rs := []) T gd ?_
    have := lay_round (fun vs os => some (Rd.next vs os)) (fun j vs os => some (Rd.out (.exit j) vs os)) (fun vs os => some (Rd.out .ret vs os)) n f i t i (layN c n f.toNat i t.toNat) z
    refine this.trans ?_
    simp only [kst, kast, ilt_eq, band_eq', nle_eq, ht, hz]
    rw [if_neg (by omega), if_pos ⟨by omega, by omega, trivial⟩]
    rfl
  | succ d ih =>
    have hlt : (i : Int) < m := by omega
    refine loop_next (n := 400) (keep := 0) (xs := [5, 10]) (rs := []) T gd ?_ (ih (i + 1) (by omega) (by omega) (layN_top c n f.toNat (i + 1) t.toNat hc) (layN_len c n f.toNat (i + 1) t.toNat))
    have := lay_round (fun vs os => some (Rd.next vs os)) (fun j vs os => some (Rd.out (.exit j) vs os)) (fun vs os => some (Rd.out .ret vs os)) n f m t i (layN c n f.toNat i t.toNat) z
    refine this.trans ?_
    rw [wrap_i64 (f + i) (by omega) (by omega), wrap_i64 (t + i) (by omega) (by omega), wrap_i64 ((i : Int) + 1) (by omega) (by omega)]
    have e1 : nadd 0 (nmul (t.toNat + i) 1) = t.toNat + i := by show 0 + (t.toNat + i) * 1 = _; omega
    have e2 : toN (t + i) = t.toNat + i := by show (t + i).toNat = _; omega
    have e3 : nadd (t.toNat + i) 1 = t.toNat + i + 1 := rfl
    have e4 : app (tak (layN c n f.toNat i t.toNat) (t.toNat + i)) (app [LV.int .i64 (bitN n (f + i))] (drp (layN c n f.toNat i t.toNat) (t.toNat + i + 1))) = layN c n f.toNat (i + 1) t.toNat := by
      rw [put_set _ _ _ (by rw [hln, hl]; omega), layN, bitN, show (f + (i : Int)).toNat = f.toNat + i by omega]
    have ht2 := layN_top c n f.toNat (i + 1) t.toNat hc
    simp only [e1, e2, e3, e4, kst, kast, ilt_eq, ile_eq, band_eq', nle_eq, nlt_eq, len_eq, hln, hl, ht2, hz, hn]
    rw [if_pos hlt, if_pos ⟨by omega, by omega, trivial⟩, if_pos ⟨by omega, by omega⟩, if_pos (by omega), if_pos ⟨by omega, by omega, trivial⟩]
    rw [show (((i + 1 : Nat) : Int)) = (i : Int) + 1 by omega]
noncomputable def sLay : List LV → List LObj → List (Bool × Ex × List LV × List LObj)
  | [.int .i64 n, .int .i64 f, .int .i64 m, .int .i64 t, .ptr 0 0, .ptr 1 0, .int .i64 i], [.cells c 92 0 0 false false, .cells z 92 0 1 false false] =>
    [(band (layOk c f m t) (band (inI n) (band (ieq i 0) (nle (topL z) 0))), .normal, [.ptr 0 0, .ptr 1 0], lOs (layC c n f m t) z)]
  | _, _ => []
theorem lay_spec : SpecS P G0 63 0 27 2 lSlots [5, 10] [] sLay := fun vs os e vs' os' h => by
  unfold sLay at h
  split at h
  · rename_i n f m t i c z
    obtain ⟨hb, he⟩ := pick_one h
    simp only [band_eq', ieq_eq, layOk_eq, nle_eq] at hb
    obtain ⟨⟨h1, h2, h3, h4, h5, h6, h7⟩, h8, rfl, h9⟩ := hb
    simp only [Prod.mk.injEq] at he
    obtain ⟨rfl, rfl, rfl⟩ := he
    exact .inl ⟨rfl, lay_loop c z n f m t h1 h2 (by omega) h8 h3 h4 h5 h6 h7 m.toNat 0 (by omega) (by omega)⟩
  · cases h
noncomputable abbrev cutLay : Cut := cutCon P 27 0 2 lSlots [5, 10] [] sLay
theorem lay_told {R : Type} (k : LV → Option R) (c : List LV) (n f m t : Int) : evk P G0 (⟨tabP R1, tab [], cutT [(63, 0, cutLay)]⟩) 400 (.call 63 [(.agg c), (.int .i64 n), (.int .i64 f), (.int .i64 m), (.int .i64 t)]) (hpOf P []) (obs0 k) =
  (ast (band (band (nle (topL c) 0) true) (band (layOk c f m t) (band (inI n) true))) <|
  ast (neq (len (layC c n f m t)) 32) <|
  ast (neq 32 (len (layC c n f m t))) <|
  ast (neq (len (layC c n f m t)) 32) <|
  ast (nle (topL (layC c n f m t)) 1) <|
  ast (neq (len (layC c n f m t)) 32) <|
  tst (nle (topL (layC c n f m t)) 0)
  (k (.agg (layC c n f m t)))
  (none)) := by kernel_rfl
noncomputable def cLay : PCon := fun
  | [.agg c, .int .i64 n, .int .i64 f, .int .i64 m, .int .i64 t] => [(band (layOk c f m t) (inI n), .agg (layC c n f m t))]
  | _ => []
theorem lay_T : Eng.Told P G0 (KOrc.orc ⟨tabP R1, tab [], cutT [(63, 0, cutLay)]⟩) := told_cut P_base R1_con .nil (.cons lay_isLoop lay_spec .nil)
theorem lay_con : PConS P G0 63 cLay := fun args v e h => by
  unfold cLay at e
  split at e
  · rename_i c n f m t
    obtain ⟨hb, rfl⟩ := pick_one e
    rw [band_eq'] at hb
    obtain ⟨h1, hn⟩ := hb
    have h1' := h1
    rw [layOk_eq] at h1'
    obtain ⟨hl, hc, -⟩ := h1'
    have h2 : len (layC c n f m t) = 32 := by rw [len_eq, layC, layN_len, hl]
    have h3 : topL (layC c n f m t) = 0 := layN_top c n _ _ _ hc
    refine (pure_con lay_T (n := 400) (by
      rw [lay_told]
      simp only [kst, kast, band_eq', nle_eq, neq_eq, h1, hn, h2, h3, hc]
      simp) (by show max (topL c) 0 = 0; rw [hc]; rfl)).toS
  · cases e
end Go.Proofs.YtbnmhhbncggjkaaGreatDoor
