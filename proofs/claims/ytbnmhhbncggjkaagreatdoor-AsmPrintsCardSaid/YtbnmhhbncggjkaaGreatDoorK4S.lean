/- Layer 4's reference: contracts of number, field, below, Imm, Of, may, Right. Conditions: none. -/
import Derived.Test.YtbnmhhbncggjkaaGreatDoorK4R
set_option linter.unusedVariables false
set_option linter.unusedSimpArgs false
namespace Go.Proofs.YtbnmhhbncggjkaaGreatDoor
open Go Eng
set_option maxRecDepth 1000000
/-! number -/
theorem num_round {R : Type} (kn : List LV → List LObj → Option R) (kx : Nat → List LV → List LObj → Option R) (kr : List LV → List LObj → Option R) (o i : Int) (c : List LV) :
    evk P G0 (Ko []) 400 (.code (loopOf P 65 0) none 65 18 (frZ [1, 3, 4] [(.ptr 0 0), (.int .u32 o), (.int .i64 i)]) []) (hpOf P [.cells c 92 0 0 false false]) (kround P 0 1 [1, 3, 4] [3] [] kn kx kr) =
  (tst (ilt i 32)
  (ast (band (ile 0 i) (nlt (toN i) 32)) <|
   rdI .i64 (nth c (nadd 0 (nmul (toN i) 1))) fun x0 =>
   tst (ilt i 0)
   (none)
   (let x1 := bOr .u32 o (shlI .u32 (wrapF .u32 x0) i);
    ast (band (nle (topL c) 0) true) <|
    kn [(.ptr 0 0), (.int .u32 x1), (.int .i64 (wrapF .i64 (i + 1)))] [.cells c 92 0 0 false false]))
  (kx 0 [(.int .u32 o)] [.dead])) := by kernel_rfl
theorem num_isLoop : isLoop P 65 0 = true := by kernel_rfl
noncomputable abbrev wOs (c : List LV) : List LObj := [.cells c 92 0 0 false false]
theorem num_loop (w : List Int) (hl : w.length = 32) (hb : isBits w) (d i : Nat) (hd : d = 32 - i) (hi : i ≤ 32) :
    LoopM P G0 65 0 18 1 [1, 3, 4] [.ptr 0 0, .int .u32 (val (w.take i)), .int .i64 i] (wOs (wL w)) (.exit 0) [3] [.int .u32 (val w)] [.dead] := by
  have T := ko_told .nil
  have gd := good_loop T num_isLoop
  induction d generalizing i with
  | zero =>
    obtain rfl : i = 32 := by omega
    refine loop_exit (n := 400) (keep := 0) (rs := []) T gd ?_
    refine (num_round (fun vs os => some (Rd.next vs os)) (fun j vs os => some (Rd.out (.exit j) vs os)) (fun vs os => some (Rd.out .ret vs os)) (val (w.take 32)) (32 : Nat) (wL w)).trans ?_
    simp only [kst, ilt_eq]
    rw [if_neg (by omega), ← hl, List.take_length]
  | succ d ih =>
    have hlt : i < 32 := by omega
    refine loop_next (n := 400) (keep := 0) (xs := [3]) (rs := []) T gd ?_ (ih (i + 1) (by omega) (by omega))
    refine (num_round (fun vs os => some (Rd.next vs os)) (fun j vs os => some (Rd.out (.exit j) vs os)) (fun vs os => some (Rd.out .ret vs os)) (val (w.take i)) i (wL w)).trans ?_
    have e1 : nadd 0 (nmul (toN (i : Int)) 1) = i := by show 0 + (i : Int).toNat * 1 = i; omega
    have e2 : toN (i : Int) = i := rfl
    have e3 : nth (wL w) i = some (.int .i64 (w[i]'(by omega))) := by rw [nth_eq, wL, List.getElem?_map, List.getElem?_eq_getElem (by omega)]; rfl
    have e4 : shlI .u32 (wrapF .u32 (w[i]'(by omega))) i = (w[i]'(by omega)) % 4294967296 * 2 ^ i % 4294967296 := by
      rw [shl_eq, show min (i : Int).toNat IntKind.u32.bits = i by show min (i : Int).toNat 32 = i; omega]
      rfl
    have e5 := number_step w i hl hb hlt
    simp only [e1, e3, rdI, kEq, decide_true, cond_true, kst, kast, ilt_eq, ile_eq, band_eq', nlt_eq, nle_eq, wL_top, e4, bOr_eq, e5, wrap_i64 ((i : Int) + 1) (by omega) (by omega)]
    rw [if_pos (by omega), e2, if_pos ⟨by omega, hlt⟩, if_neg (by omega), if_pos ⟨by omega, trivial⟩]
    rw [show (((i + 1 : Nat) : Int)) = (i : Int) + 1 by omega]
noncomputable def sNum : List LV → List LObj → List (Bool × Ex × List LV × List LObj)
  | [.ptr 0 0, .int .u32 o, .int .i64 i], [.cells c 92 0 0 false false] => [(band (bitsOk c) (band (ieq i 0) (ieq o 0)), .normal, [.int .u32 (valC c)], [.dead])]
  | _, _ => []
theorem num_spec : SpecS P G0 65 0 18 1 [1, 3, 4] [3] [] sNum := fun vs os e vs' os' h => by
  unfold sNum at h
  split at h
  · rename_i o i c
    obtain ⟨hb, he⟩ := pick_one h
    simp only [band_eq', ieq_eq] at hb
    obtain ⟨h1, rfl, rfl⟩ := hb
    obtain ⟨w, rfl, h2, h3, h4⟩ := bitsOk_inv h1
    simp only [Prod.mk.injEq] at he
    obtain ⟨rfl, rfl, rfl⟩ := he
    rw [h4]
    exact .inl ⟨rfl, num_loop w h3 h2 32 0 rfl (by omega)⟩
  · cases h
noncomputable abbrev cutNum : Cut := cutCon P 18 0 1 [1, 3, 4] [3] [] sNum
theorem num_told {R : Type} (k : LV → Option R) (c : List LV) : evk P G0 (⟨tabP [], tab [], cutT [(65, 0, cutNum)]⟩) 400 (.call 65 [(.agg c)]) (hpOf P []) (obs0 k) =
  (ast (band (band (nle (topL c) 0) true) (band (bitsOk c) true)) <|
  k (.int .u32 (valC c))) := by kernel_rfl
noncomputable def cNum : PCon := fun
  | [.agg c] => [(bitsOk c, .int .u32 (valC c))]
  | _ => []
theorem num_T : Eng.Told P G0 (KOrc.orc ⟨tabP [], tab [], cutT [(65, 0, cutNum)]⟩) := told_cut P_base .nil .nil (.cons num_isLoop num_spec .nil)
theorem num_con : PConS P G0 65 cNum := fun args v e h => by
  unfold cNum at e
  split at e
  · rename_i c
    obtain ⟨hb, rfl⟩ := pick_one e
    have h1 : topL c = 0 := by obtain ⟨w, rfl, -⟩ := bitsOk_inv hb; exact wL_top w
    refine (pure_con num_T (n := 400) (by
      rw [num_told]
      simp only [kast, band_eq', nle_eq, hb, h1]
      simp) (by show max (topL c) 0 = 0; rw [h1]; rfl)).toS
  · cases e
/-! field -/
theorem field_round {R : Type} (kn : List LV → List LObj → Option R) (kx : Nat → List LV → List LObj → Option R) (kr : List LV → List LObj → Option R) (w f m o i : Int) :
    evk P G0 (Ko []) 400 (.code (loopOf P 95 0) none 95 26 (frZ [0, 1, 2, 7, 8] [(.int .u32 w), (.int .i64 f), (.int .i64 m), (.int .i64 o), (.int .i64 i)]) []) (hpOf P []) (kround P 0 0 [0, 1, 2, 7, 8] [7] [] kn kx kr) =
  (tst (ilt i m)
  (tst (ilt (wrapF .i64 (f + i)) 0)
   (none)
   (let x0 := bAnd .u32 (shrI .u32 w (wrapF .i64 (f + i))) 1;
    tst (ilt i 0)
    (none)
    (let x1 := wrapF .i64 (o + (shlI .i64 (wrapF .i64 x0) i));
     kn [(.int .u32 w), (.int .i64 f), (.int .i64 m), (.int .i64 x1), (.int .i64 (wrapF .i64 (i + 1)))] [])))
  (kx 0 [(.int .i64 o)] [])) := by kernel_rfl
theorem field_isLoop : isLoop P 95 0 = true := by kernel_rfl
/-- A field one bit longer. -/
theorem field_step (n f : Int) (k : Nat) (h0 : 0 ≤ n) (h1 : n ≤ 4294967295) (hf : 0 ≤ f) (hk : k < 32) :
    RowKit.wrap64 (n / 2 ^ f.toNat % 2 ^ k + RowKit.wrap64 (RowKit.wrap64 (bits .and .u32 (n / 2 ^ (f + (k : Int)).toNat) 1) * 2 ^ k)) = n / 2 ^ f.toNat % 2 ^ (k + 1) := by
  have q0 : 0 ≤ n / 2 ^ (f + (k : Int)).toNat := Int.ediv_nonneg h0 (Int.pow_nonneg (by omega))
  have q1 : n / 2 ^ (f + (k : Int)).toNat ≤ n := Int.ediv_le_self _ h0
  rw [u32_and1 _ q0 (by omega), mod_step]
  have e : n / 2 ^ (f + (k : Int)).toNat = n / 2 ^ f.toNat / 2 ^ k := by
    rw [show (f + (k : Int)).toNat = f.toNat + k by omega, Int.pow_add, Int.ediv_ediv_of_nonneg (Int.pow_nonneg (by omega))]
  rw [e]
  generalize n / 2 ^ f.toNat = a
  have hp := pow_le32 k (by omega)
  have hp0 : (0 : Int) < 2 ^ k := Int.pow_pos (by omega)
  have r0 := Int.emod_nonneg a (b := 2 ^ k) (by omega)
  have r1 := Int.emod_lt_of_pos a hp0
  generalize (2 : Int) ^ k = p at *
  have s : a / p % 2 = 0 ∨ a / p % 2 = 1 := by omega
  rcases s with s | s <;> rw [s] <;> simp only [RowKit.wrap64] <;> omega
noncomputable abbrev fVs (w f m o i : Int) : List LV := [.int .u32 w, .int .i64 f, .int .i64 m, .int .i64 o, .int .i64 i]
theorem field_loop (w f m : Int) (h0 : 0 ≤ w) (h1 : w ≤ 4294967295) (hf : 0 ≤ f) (hm : 0 ≤ m) (hs : f + m ≤ 32) (d i : Nat) (hd : d = m.toNat - i) (hi : (i : Int) ≤ m) :
    LoopM P G0 95 0 26 0 [0, 1, 2, 7, 8] (fVs w f m (w / 2 ^ f.toNat % 2 ^ i) i) [] (.exit 0) [7] [.int .i64 (bitsN w f m)] [] := by
  have T := ko_told .nil
  have gd := good_loop T field_isLoop
  induction d generalizing i with
  | zero =>
    obtain rfl : m = i := by omega
    refine loop_exit (n := 400) (keep := 0) (rs := []) T gd ?_
    refine (field_round (fun vs os => some (Rd.next vs os)) (fun j vs os => some (Rd.out (.exit j) vs os)) (fun vs os => some (Rd.out .ret vs os)) w f i (w / 2 ^ f.toNat % 2 ^ i) i).trans ?_
    simp only [kst, ilt_eq]
    rw [if_neg (by omega)]
    rfl
  | succ d ih =>
    have hlt : (i : Int) < m := by omega
    refine loop_next (n := 400) (keep := 0) (xs := [7]) (rs := []) T gd ?_ (ih (i + 1) (by omega) (by omega))
    refine (field_round (fun vs os => some (Rd.next vs os)) (fun j vs os => some (Rd.out (.exit j) vs os)) (fun vs os => some (Rd.out .ret vs os)) w f m (w / 2 ^ f.toNat % 2 ^ i) i).trans ?_
    have e1 : shrI .u32 w (f + i) = w / 2 ^ (f + (i : Int)).toNat := by rw [shr_eq, show min (f + (i : Int)).toNat IntKind.u32.bits = (f + (i : Int)).toNat from Nat.min_eq_left (by show _ ≤ 32; omega)]
    have e2 := field_step w f i h0 h1 hf (by omega)
    have e3 : ∀ x, shlI .i64 x i = RowKit.wrap64 (x * 2 ^ i) := fun x => by rw [shl_eq, wrapF_eq, w64, show min (i : Int).toNat IntKind.i64.bits = i by show min (i : Int).toNat 64 = i; omega]
    simp only [wrap_i64 (f + i) (by omega) (by omega), wrap_i64 ((i : Int) + 1) (by omega) (by omega), e1, e3, bAnd_eq, kst, ilt_eq]
    rw [if_pos hlt, if_neg (by omega), if_neg (by omega), wrapF_eq, wrapF_eq, w64, w64, e2, show (((i + 1 : Nat) : Int)) = (i : Int) + 1 by omega]
noncomputable def sField : List LV → List LObj → List (Bool × Ex × List LV × List LObj)
  | [.int .u32 w, .int .i64 f, .int .i64 m, .int .i64 o, .int .i64 i], [] => [(band (ile 0 f) (band (ile 0 m) (band (ile (f + m) 32) (band (inU w) (band (ieq i 0) (ieq o 0))))), .normal, [.int .i64 (bitsN w f m)], [])]
  | _, _ => []
theorem field_spec : SpecS P G0 95 0 26 0 [0, 1, 2, 7, 8] [7] [] sField := fun vs os e vs' os' h => by
  unfold sField at h
  split at h
  · rename_i w f m o i
    obtain ⟨hb, he⟩ := pick_one h
    simp only [band_eq', ieq_eq, ile_eq, inU_eq] at hb
    obtain ⟨h1, h2, h3, ⟨h4, h5⟩, rfl, rfl⟩ := hb
    simp only [Prod.mk.injEq] at he
    obtain ⟨rfl, rfl, rfl⟩ := he
    have := field_loop w f m h4 h5 h1 h2 h3 m.toNat 0 (by omega) (by omega)
    rw [show w / 2 ^ f.toNat % 2 ^ 0 = 0 by simp [Int.emod_one]] at this
    exact .inl ⟨rfl, this⟩
  · cases h
noncomputable abbrev cutField : Cut := cutCon P 26 0 0 [0, 1, 2, 7, 8] [7] [] sField
theorem field_told {R : Type} (k : LV → Option R) (w f m : Int) : evk P G0 (⟨tabP [], tab [], cutT [(95, 0, cutField)]⟩) 400 (.call 95 [(.int .u32 w), (.int .i64 f), (.int .i64 m)]) (hpOf P []) (obs0 k) =
  (ast (band (ile 0 f) (band (ile 0 m) (band (ile (f + m) 32) (band (inU w) true)))) <|
  k (.int .i64 (bitsN w f m))) := by kernel_rfl
noncomputable def cField : PCon := fun
  | [.int .u32 w, .int .i64 f, .int .i64 m] => [(band (ile 0 f) (band (ile 0 m) (band (ile (f + m) 32) (inU w))), .int .i64 (bitsN w f m))]
  | _ => []
theorem field_T : Eng.Told P G0 (KOrc.orc ⟨tabP [], tab [], cutT [(95, 0, cutField)]⟩) := told_cut P_base .nil .nil (.cons field_isLoop field_spec .nil)
theorem field_con : PConS P G0 95 cField := fun args v e h => by
  unfold cField at e
  split at e
  · rename_i w f m
    obtain ⟨hb, rfl⟩ := pick_one e
    simp only [band_eq'] at hb
    refine (pure_con field_T (n := 400) (by
      rw [field_told]
      simp only [kast, band_eq']
      rw [if_pos ⟨hb.1, hb.2.1, hb.2.2.1, hb.2.2.2, trivial⟩]) rfl).toS
  · cases e
/-! below -/
theorem below_told {R : Type} (k : LV → Option R) (n m : Int) : evk P G0 (Ko []) 400 (.call 128 [(.int .i64 n), (.int .i64 m)]) (hpOf P []) (obs0 k) =
  (tst (ilt (wrapF .i64 (m - 1)) 0)
  (none)
  (let x0 := ile (shlI .i64 1 (wrapF .i64 (m - 1))) n;
   tst (x0)
   (tst (ilt m 0)
    (none)
    (k (.int .i64 (wrapF .i64 (n - (shlI .i64 1 m))))))
   (k (.int .i64 n)))) := by kernel_rfl
noncomputable def belowOk (n m : Int) : Bool := decide (1 ≤ m ∧ m ≤ 32 ∧ 0 ≤ n ∧ n < 2 ^ m.toNat)
noncomputable def cBelow : PCon := fun
  | [.int .i64 n, .int .i64 m] => [(belowOk n m, .int .i64 (sgnN n m))]
  | _ => []
theorem below_con : PConS P G0 128 cBelow := fun args v e h => by
  unfold cBelow at e
  split at e
  · rename_i n m
    obtain ⟨hb, rfl⟩ := pick_one e
    obtain ⟨h1, h2, h3, h4⟩ := of_decide_eq_true (show decide _ = true from hb)
    have hp := pow_le32 m.toNat (by omega)
    have hq := pow_le32 (m - 1).toNat (by omega)
    have hp0 : (0 : Int) < 2 ^ (m - 1).toNat := Int.pow_pos (by decide)
    have hp2 : (0 : Int) < 2 ^ m.toNat := Int.pow_pos (by decide)
    refine (pure_con (ko_told .nil) (n := 400) (by
      rw [below_told, wrap_i64 (m - 1) (by omega) (by omega)]
      rw [shl_i64 1 (m - 1) (2 ^ (m - 1).toNat) (by rw [show min (m - 1).toNat 64 = (m - 1).toNat by omega]) (by omega) (by omega), shl_i64 1 m (2 ^ m.toNat) (by rw [show min m.toNat 64 = m.toNat by omega]) (by omega) (by omega), Int.one_mul, Int.one_mul]
      simp only [kst, ilt_eq, ile_eq]
      rw [if_neg (by omega)]
      unfold sgnN
      rw [Int.emod_eq_of_lt h3 h4, show (m - 1).toNat = m.toNat - 1 by omega]
      by_cases hc : n < 2 ^ (m.toNat - 1)
      · rw [if_neg (by omega), if_pos hc]
      · rw [if_pos (by omega), if_neg (by omega), if_neg hc, wrap_i64 _ (by omega) (by omega)]) rfl).toS
  · cases e
/-! Of -/
noncomputable def refRow (o : Opn) : List LV := [.str o.name, .int .i64 o.kind, .int .i64 o.code, .int .i64 o.f3, .int .i64 o.f7, .int .i64 o.shift]
noncomputable def ofK {R : Type} (op : Int) (k : LV → Option R) : List Opn → Int → Option R := fun l => List.rec (fun _ => k (.agg (refRow Opn.zero))) (fun o _ ih i => tst (ieq op i) (k (.agg (refRow o))) (ih (i + 1))) l
theorem Of_told {R : Type} (k : LV → Option R) (op : Int) : evk P G0 (Ko []) 400 (.call 60 [.int .i64 op]) (hpOf P []) (obs0 k) = tst (ile op 36) (ofK op k (tbl.take 36) 1) (ofK op k (tbl.drop 36) 37) := by kernel_rfl
theorem ofK_eq (op : Int) : ∀ (l : List Opn) (i : Int), ofK op some l i = some (.agg (refRow (if i ≤ op ∧ op < i + l.length then l.getD (op - i).toNat Opn.zero else Opn.zero)))
  | [], i => by
    rw [if_neg (by simp only [List.length_nil]; omega)]
    rfl
  | o :: l, i => by
    have h : ofK op some (o :: l) i = tst (ieq op i) (some (.agg (refRow o))) (ofK op some l (i + 1)) := rfl
    rw [h, ofK_eq op l (i + 1), kst]
    simp only [ieq_eq, List.length_cons]
    by_cases e : op = i
    · rw [if_pos e, if_pos (by omega), show (op - i).toNat = 0 by omega]
      rfl
    · rw [if_neg e]
      by_cases e2 : i + 1 ≤ op ∧ op < i + 1 + l.length
      · rw [if_pos e2, if_pos (by omega), show (op - i).toNat = (op - (i + 1)).toNat + 1 by omega]
        rfl
      · rw [if_neg e2, if_neg (by omega)]
theorem Of_eq (op : Int) : tst (ile op 36) (ofK op some (tbl.take 36) 1) (ofK op some (tbl.drop 36) 37) = some (.agg (refRow (opn op))) := by
  have l1 : (tbl.take 36).length = 36 := by rw [List.length_take, tbl_length]; rfl
  have l2 : (tbl.drop 36).length = 46 := by rw [List.length_drop, tbl_length]
  rw [ofK_eq, ofK_eq, kst, l1, l2]
  simp only [ile_eq]
  unfold opn
  by_cases h : op ≤ 36
  · rw [if_pos h]
    by_cases h2 : 1 ≤ op
    · rw [if_pos (by omega), if_pos (by omega), List.getD_eq_getElem?_getD, List.getElem?_take_of_lt (by omega), ← List.getD_eq_getElem?_getD]
    · rw [if_neg (by omega), if_neg (by omega)]
  · rw [if_neg h]
    by_cases h2 : op ≤ 82
    · rw [if_pos (by omega), if_pos (by omega), List.getD_eq_getElem?_getD, List.getElem?_drop, ← List.getD_eq_getElem?_getD, show 36 + (op - 37).toNat = (op - 1).toNat by omega]
    · rw [if_neg (by omega), if_neg (by omega)]
/-- By kinds: so that what is asked of a kind is decided. -/
noncomputable def ofWay (o k : Int) : Bool × LV := (ieq (opn o).kind k, .agg [.str (opn o).name, .int .i64 k, .int .i64 (opn o).code, .int .i64 (opn o).f3, .int .i64 (opn o).f7, .int .i64 (opn o).shift])
noncomputable def cOf : PCon := fun
  | [.int .i64 o] => [ofWay o 0, ofWay o 1, ofWay o 2, ofWay o 3, ofWay o 4, ofWay o 5, ofWay o 6, ofWay o 7, ofWay o 8, ofWay o 9, ofWay o 10]
  | _ => []
theorem pickR_mem {α : Type} : ∀ {l : List (Bool × α)} {x : α}, pickR l = some x → (true, x) ∈ l
  | [], x, e => by cases e
  | (b, y) :: l, x, e => by
    cases b
    · exact .tail _ (pickR_mem e)
    · cases e; exact .head _
theorem Of_con : PConS P G0 60 cOf := fun args v e h => by
  unfold cOf at e
  split at e
  · rename_i o
    have key : ∀ k, (true, v) = ofWay o k → v = .agg (refRow (opn o)) := fun k hk => by
      obtain ⟨h1, h2⟩ := Prod.mk.inj hk
      have h1' := h1.symm
      rw [ieq_eq] at h1'
      rw [h2, ← h1']
      rfl
    have hv : v = .agg (refRow (opn o)) := by
      have hm := pickR_mem e
      simp only [List.mem_cons, List.not_mem_nil, or_false] at hm
      rcases hm with hm | hm | hm | hm | hm | hm | hm | hm | hm | hm | hm <;> exact key _ hm
    rw [hv]
    exact (pure_con (ko_told .nil) (n := 400) (by rw [Of_told, Of_eq]) rfl).toS
  · cases e
/-! may, Right, Imm -/
noncomputable abbrev R2 : List (FuncId × PCon) := (60, cOf) :: (128, cBelow) :: (95, cField) :: (65, cNum) :: (63, cLay) :: R1
theorem R2_con : PConsS P G0 R2 := .cons Of_con (.cons below_con (.cons field_con (.cons num_con (.cons lay_con R1_con))))
theorem may_told {R : Type} (k : LV → Option R) (nm : List UInt8) (kd c f g s n : Int) : evk P G0 (Ko R2) 400 (.call 98 [(.agg [(.str nm), (.int .i64 kd), (.int .i64 c), (.int .i64 f), (.int .i64 g), (.int .i64 s)]), (.int .i64 n)]) (hpOf P []) (obs0 k) =
  (tst (ilt 0 s)
  (tst (ile 0 n)
   (tst (ilt s 0)
    (none)
    (k (.bool (ilt n (shlI .i64 1 s)))))
   (k (.bool false)))
  (tst (ieq kd 2)
   (tst (ile (-2048) n)
    (k (.bool (ile n 2047)))
    (k (.bool false)))
   (tst (ieq kd 3)
    (tst (ile (-2048) n)
     (k (.bool (ile n 2047)))
     (k (.bool false)))
    (tst (ieq kd 4)
     (tst (ile (-2048) n)
      (k (.bool (ile n 2047)))
      (k (.bool false)))
     (tst (ieq kd 5)
      (tst (ile (-4096) n)
       (tst (ile n 4094)
        (k (.bool (ieq (Int.tmod n 2) 0)))
        (k (.bool false)))
       (k (.bool false)))
      (tst (ieq kd 6)
       (tst (ile (-2147483648) n)
        (tst (ile n 2147479552)
         (k (.bool (ieq (Int.tmod n 4096) 0)))
         (k (.bool false)))
        (k (.bool false)))
       (tst (ieq kd 7)
        (tst (ile (-1048576) n)
         (tst (ile n 1048574)
          (k (.bool (ieq (Int.tmod n 2) 0)))
          (k (.bool false)))
         (k (.bool false)))
        (k (.bool (ieq n 0)))))))))) := by kernel_rfl
noncomputable def cMay : PCon := fun
  | [.agg [.str nm, .int .i64 a, .int .i64 b, .int .i64 c, .int .i64 d, .int .i64 e], .int .i64 n] => [(band (okB ⟨nm, a, b, c, d, e⟩) (inI n), .bool (mayN ⟨nm, a, b, c, d, e⟩ n))]
  | _ => []
theorem may_con : PConS P G0 98 cMay := fun args v e h => by
  unfold cMay at e
  split at e
  · rename_i nm k c f g s n
    obtain ⟨hb, rfl⟩ := pick_one e
    rw [band_eq', okB_iff] at hb
    obtain ⟨ho, hi⟩ := hb
    obtain ⟨k0, k1, c0, c1, f0, f1, g0, g1, s0, s1, s6, k2, k6, k8⟩ := ho
    rw [inI_eq] at hi
    dsimp only at *
    refine (pure_con (ko_told R2_con) (n := 400) (by
      rw [may_told]
      simp only [kst, kast, ilt_eq, ile_eq, ieq_eq]
      rcases s0 with rfl | rfl | rfl
      · rw [if_neg (by decide)]
        obtain rfl | rfl | rfl | rfl | rfl | rfl | rfl | rfl | rfl | rfl : k = 1 ∨ k = 2 ∨ k = 3 ∨ k = 4 ∨ k = 5 ∨ k = 6 ∨ k = 7 ∨ k = 8 ∨ k = 9 ∨ k = 10 := by omega
        all_goals simp only [Int.reduceEq, if_false, if_true]
        all_goals try split
        all_goals try split
        all_goals refine congrArg (fun b => some (LV.bool b)) (Bool.eq_iff_iff.2 ?_)
        all_goals simp only [mayN, ieq, ile, tmod0, decide_eq_true_eq, Int.reduceEq, Int.reduceLT, if_false, if_true, false_or, or_false, true_or, or_true]
        all_goals (simp at *)
        all_goals omega
      · have hk := s1 (by decide)
        subst hk
        rw [may5, if_pos (by decide), show shlI .i64 1 5 = 32 from by decide]
        by_cases h0 : 0 ≤ n <;> simp [h0, ilt]
      · have hk := s1 (by decide)
        subst hk
        rw [may6, if_pos (by decide), show shlI .i64 1 6 = 64 from by decide]
        by_cases h0 : 0 ≤ n <;> simp [h0, ilt]) rfl).toS
  · cases e
theorem Imm_told {R : Type} (k : LV → Option R) (nm : List UInt8) (kd c f g s x : Int) : evk P G0 (Ko R2) 400 (.call 94 [(.agg [(.str nm), (.int .i64 kd), (.int .i64 c), (.int .i64 f), (.int .i64 g), (.int .i64 s)]), (.int .u32 x)]) (hpOf P []) (obs0 k) =
  (tst (ieq kd 2)
  (tst (ilt 0 s)
   (ast (band (ile 0 s) (band (ile (20 + s) 32) (inU x))) <|
    k (.int .i64 (bitsN x 20 s)))
   (ast (inU x) <|
    ast (belowOk (bitsN x 20 12) 12) <|
    k (.int .i64 (sgnN (bitsN x 20 12) 12))))
  (tst (ieq kd 3)
   (tst (ilt 0 s)
    (ast (band (ile 0 s) (band (ile (20 + s) 32) (inU x))) <|
     k (.int .i64 (bitsN x 20 s)))
    (ast (inU x) <|
     ast (belowOk (bitsN x 20 12) 12) <|
     k (.int .i64 (sgnN (bitsN x 20 12) 12))))
   (tst (ieq kd 4)
    (ast (inU x) <|
     ast (inU x) <|
     let x0 := wrapF .i64 ((bitsN x 7 5) + (wrapF .i64 (32 * (bitsN x 25 7))));
     ast (belowOk x0 12) <|
     k (.int .i64 (sgnN x0 12)))
    (tst (ieq kd 5)
     (ast (inU x) <|
      ast (inU x) <|
      let x0 := wrapF .i64 ((wrapF .i64 (2 * (bitsN x 8 4))) + (wrapF .i64 (32 * (bitsN x 25 6))));
      ast (inU x) <|
      let x1 := wrapF .i64 (x0 + (wrapF .i64 (2048 * (bitsN x 7 1))));
      ast (inU x) <|
      let x2 := wrapF .i64 (x1 + (wrapF .i64 (4096 * (bitsN x 31 1))));
      ast (belowOk x2 13) <|
      k (.int .i64 (sgnN x2 13)))
     (tst (ieq kd 6)
      (ast (inU x) <|
       ast (belowOk (wrapF .i64 (4096 * (bitsN x 12 20))) 32) <|
       let x0 := sgnN (wrapF .i64 (4096 * (bitsN x 12 20))) 32;
       k (.int .i64 x0))
      (tst (ieq kd 7)
       (ast (inU x) <|
        ast (inU x) <|
        let x0 := wrapF .i64 ((wrapF .i64 (2 * (bitsN x 21 10))) + (wrapF .i64 (2048 * (bitsN x 20 1))));
        ast (inU x) <|
        let x1 := wrapF .i64 (x0 + (wrapF .i64 (4096 * (bitsN x 12 8))));
        ast (inU x) <|
        let x2 := wrapF .i64 (x1 + (wrapF .i64 (1048576 * (bitsN x 31 1))));
        ast (belowOk x2 21) <|
        k (.int .i64 (sgnN x2 21)))
       (k (.int .i64 0)))))))) := by kernel_rfl
noncomputable def cImm : PCon := fun
  | [.agg [.str nm, .int .i64 a, .int .i64 b, .int .i64 c, .int .i64 d, .int .i64 e], .int .u32 x] => [(band (okB ⟨nm, a, b, c, d, e⟩) (inU x), .int .i64 (immN ⟨nm, a, b, c, d, e⟩ x))]
  | _ => []
theorem Imm_con : PConS P G0 94 cImm := fun args v e h => by
  unfold cImm at e
  split at e
  · rename_i nm k c f g s x
    obtain ⟨hb, rfl⟩ := pick_one e
    rw [band_eq', okB_iff] at hb
    obtain ⟨ho, hx⟩ := hb
    obtain ⟨k0, k1, c0, c1, f0, f1, g0, g1, s0, s1, s6, k2, k6, k8⟩ := ho
    dsimp only at *
    obtain ⟨a1, b1⟩ := bd_bits x 20 12 4096 rfl
    obtain ⟨a2, b2⟩ := bd_bits x 25 7 128 rfl
    obtain ⟨a3, b3⟩ := bd_bits x 7 5 32 rfl
    obtain ⟨a4, b4⟩ := bd_bits x 31 1 2 rfl
    obtain ⟨a5, b5⟩ := bd_bits x 25 6 64 rfl
    obtain ⟨a6, b6⟩ := bd_bits x 8 4 16 rfl
    obtain ⟨a7, b7⟩ := bd_bits x 7 1 2 rfl
    obtain ⟨a8, b8⟩ := bd_bits x 12 20 1048576 rfl
    obtain ⟨a9, b9⟩ := bd_bits x 21 10 1024 rfl
    obtain ⟨a10, b10⟩ := bd_bits x 20 1 2 rfl
    obtain ⟨a11, b11⟩ := bd_bits x 12 8 256 rfl
    have bo : ∀ (n m : Int) (M : Int), (2 : Int) ^ m.toNat = M → 1 ≤ m → m ≤ 32 → 0 ≤ n → n < M → belowOk n m = true := fun n m M hM h1 h2 h3 h4 => decide_eq_true ⟨h1, h2, h3, hM ▸ h4⟩
    refine (pure_con (ko_told R2_con) (n := 400) (by
      rw [Imm_told]
      simp only [wrap_i64 (32 * bitsN x 25 7) (by omega) (by omega), wrap_i64 (bitsN x 7 5 + 32 * bitsN x 25 7) (by omega) (by omega), wrap_i64 (2 * bitsN x 8 4) (by omega) (by omega), wrap_i64 (32 * bitsN x 25 6) (by omega) (by omega), wrap_i64 (2 * bitsN x 8 4 + 32 * bitsN x 25 6) (by omega) (by omega), wrap_i64 (2048 * bitsN x 7 1) (by omega) (by omega), wrap_i64 (2 * bitsN x 8 4 + 32 * bitsN x 25 6 + 2048 * bitsN x 7 1) (by omega) (by omega), wrap_i64 (4096 * bitsN x 31 1) (by omega) (by omega), wrap_i64 (2 * bitsN x 8 4 + 32 * bitsN x 25 6 + 2048 * bitsN x 7 1 + 4096 * bitsN x 31 1) (by omega) (by omega), wrap_i64 (4096 * bitsN x 12 20) (by omega) (by omega),
        wrap_i64 (2 * bitsN x 21 10) (by omega) (by omega), wrap_i64 (2048 * bitsN x 20 1) (by omega) (by omega), wrap_i64 (2 * bitsN x 21 10 + 2048 * bitsN x 20 1) (by omega) (by omega), wrap_i64 (4096 * bitsN x 12 8) (by omega) (by omega), wrap_i64 (2 * bitsN x 21 10 + 2048 * bitsN x 20 1 + 4096 * bitsN x 12 8) (by omega) (by omega), wrap_i64 (1048576 * bitsN x 31 1) (by omega) (by omega), wrap_i64 (2 * bitsN x 21 10 + 2048 * bitsN x 20 1 + 4096 * bitsN x 12 8 + 1048576 * bitsN x 31 1) (by omega) (by omega)]
      simp only [kst, kast, ilt_eq, ile_eq, ieq_eq, band_eq', hx, if_true, and_true]
      rcases s0 with rfl | rfl | rfl
      · obtain rfl | rfl | rfl | rfl | rfl | rfl | rfl | rfl | rfl | rfl : k = 1 ∨ k = 2 ∨ k = 3 ∨ k = 4 ∨ k = 5 ∨ k = 6 ∨ k = 7 ∨ k = 8 ∨ k = 9 ∨ k = 10 := by omega
        all_goals simp only [Int.reduceEq, Int.reduceLT, if_false, if_true]
        · rfl
        · rw [if_pos (bo _ 12 4096 rfl (by decide) (by decide) a1 b1)]; rfl
        · rw [if_pos (bo _ 12 4096 rfl (by decide) (by decide) a1 b1)]; rfl
        · rw [if_pos (bo _ 12 4096 rfl (by decide) (by decide) (by omega) (by omega))]
          exact congrArg (fun z => some (LV.int .i64 (sgnN z 12))) (show bitsN x 7 5 + 32 * bitsN x 25 7 = bitsN x 25 7 * 32 + bitsN x 7 5 by omega)
        · rw [if_pos (bo _ 13 8192 rfl (by decide) (by decide) (by omega) (by omega))]
          exact congrArg (fun z => some (LV.int .i64 (sgnN z 13))) (show 2 * bitsN x 8 4 + 32 * bitsN x 25 6 + 2048 * bitsN x 7 1 + 4096 * bitsN x 31 1 = bitsN x 31 1 * 4096 + bitsN x 25 6 * 32 + bitsN x 8 4 * 2 + bitsN x 7 1 * 2048 by omega)
        · rw [if_pos (bo _ 32 4294967296 rfl (by decide) (by decide) (by omega) (by omega))]
          exact congrArg (fun z => some (LV.int .i64 (sgnN z 32))) (show 4096 * bitsN x 12 20 = bitsN x 12 20 * 4096 by omega)
        · rw [if_pos (bo _ 21 2097152 rfl (by decide) (by decide) (by omega) (by omega))]
          exact congrArg (fun z => some (LV.int .i64 (sgnN z 21))) (show 2 * bitsN x 21 10 + 2048 * bitsN x 20 1 + 4096 * bitsN x 12 8 + 1048576 * bitsN x 31 1 = bitsN x 31 1 * 1048576 + bitsN x 21 10 * 2 + bitsN x 20 1 * 2048 + bitsN x 12 8 * 4096 by omega)
        all_goals rfl
      · have hk := s1 (by decide)
        subst hk
        simp only [Int.reduceEq, Int.reduceLT, Int.reduceLE, Int.reduceAdd, and_self, if_false, if_true]
        rfl
      · have hk := s1 (by decide)
        subst hk
        simp only [Int.reduceEq, Int.reduceLT, Int.reduceLE, Int.reduceAdd, and_self, if_false, if_true]
        rfl) rfl).toS
  · cases e
noncomputable abbrev R3 : List (FuncId × PCon) := (94, cImm) :: (98, cMay) :: R2
theorem R3_con : PConsS P G0 R3 := .cons Imm_con (.cons may_con R2_con)
end Go.Proofs.YtbnmhhbncggjkaaGreatDoor
