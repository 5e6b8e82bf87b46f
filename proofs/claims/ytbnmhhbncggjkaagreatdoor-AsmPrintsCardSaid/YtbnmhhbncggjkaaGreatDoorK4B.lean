/- Layer 4: contracts of the operations' functions, of Encode and of what asks the table. Conditions: none. -/
import Derived.Test.YtbnmhhbncggjkaaGreatDoorK4A
set_option linter.unusedVariables false
set_option linter.unusedSimpArgs false
namespace Go.Proofs.YtbnmhhbncggjkaaGreatDoor
open Go Eng
set_option maxRecDepth 1000000
/-! the table -/
noncomputable def Opn.row (o : Opn) : List LV := [.str o.name, .int .i64 o.kind, .int .u32 o.code, .int .u32 o.f3, .int .u32 o.f7, .int .i64 o.shift]
noncomputable def tblC : List LV := tbl.flatMap Opn.row
theorem row_get : ∀ (l : List Opn) (j i : Nat), i < 6 → (l.flatMap Opn.row)[j * 6 + i]? = (l[j]?).bind fun o => o.row[i]?
  | [], j, i, h => by simp
  | o :: l, 0, i, h => by
    rw [List.flatMap_cons, List.getElem?_append_left (by simp [Opn.row]; omega)]
    simp
  | o :: l, j + 1, i, h => by
    rw [List.flatMap_cons, List.getElem?_append_right (by simp [Opn.row]; omega), show (j + 1) * 6 + i - o.row.length = j * 6 + i by simp [Opn.row]; omega, row_get l j i h]
    simp
theorem tblC_get (j i : Nat) (hj : j < 82) (hi : i < 6) : nth tblC (j * 6 + i) = (opn ((j : Int) + 1)).row[i]? := by
  rw [nth_eq, tblC, row_get tbl j i hi, opn_nat j hj, List.getElem?_eq_getElem (by rw [tbl_length]; exact hj)]
  rfl
/-- A row is read. -/
theorem row_read {R : Type} (j : Nat) (hj : j < 82) (f : List UInt8 → Int → Int → Int → Int → Int → Option R) :
    (rdS (nth tblC (nmul j 6)) fun x0 => rdI .i64 (nth tblC (nadd (nmul j 6) 1)) fun x1 => rdI .u32 (nth tblC (nadd (nadd (nmul j 6) 1) 1)) fun x2 => rdI .u32 (nth tblC (nadd (nadd (nadd (nmul j 6) 1) 1) 1)) fun x3 =>
      rdI .u32 (nth tblC (nadd (nadd (nadd (nadd (nmul j 6) 1) 1) 1) 1)) fun x4 => rdI .i64 (nth tblC (nadd (nadd (nadd (nadd (nadd (nmul j 6) 1) 1) 1) 1) 1)) fun x5 => f x0 x1 x2 x3 x4 x5) =
    f (opn ((j : Int) + 1)).name (opn ((j : Int) + 1)).kind (opn ((j : Int) + 1)).code (opn ((j : Int) + 1)).f3 (opn ((j : Int) + 1)).f7 (opn ((j : Int) + 1)).shift := by
  rw [show nmul j 6 = j * 6 + 0 from rfl, show nadd (j * 6 + 0) 1 = j * 6 + 1 from rfl, show nadd (j * 6 + 1) 1 = j * 6 + 2 from rfl, show nadd (j * 6 + 2) 1 = j * 6 + 3 from rfl, show nadd (j * 6 + 3) 1 = j * 6 + 4 from rfl, show nadd (j * 6 + 4) 1 = j * 6 + 5 from rfl]
  rw [tblC_get j 0 hj (by decide), tblC_get j 1 hj (by decide), tblC_get j 2 hj (by decide), tblC_get j 3 hj (by decide), tblC_get j 4 hj (by decide), tblC_get j 5 hj (by decide)]
  rfl
noncomputable def cOperations : PCon := fun
  | [] => [(true, .agg tblC)]
  | _ => []
theorem operations_told : evk P G0 (Ko M2) 400 (.call 69 []) (hpOf P []) (obs0 some) = some (.agg tblC) := by kernel_rfl
theorem operations_con : PConS P G0 69 cOperations := fun args v e h => by
  unfold cOperations at e
  split at e
  · obtain ⟨-, rfl⟩ := pick_one e
    exact (pure_con (ko_told M2_con) operations_told rfl).toS
  · cases e
noncomputable def cKnown : PCon := fun
  | [.int .i64 x] => [(true, .bool (knownB x))]
  | _ => []
theorem known_told {R : Type} (k : LV → Option R) (op : Int) : evk P G0 (Ko []) 400 (.call 67 [.int .i64 op]) (hpOf P []) (obs0 k) = tst (ile 1 op) (k (.bool (ile op 82))) (k (.bool false)) := by kernel_rfl
theorem known_con : PConS P G0 67 cKnown := fun args v e h => by
  unfold cKnown at e
  split at e
  · rename_i x
    obtain ⟨-, rfl⟩ := pick_one e
    refine (pure_con (ko_told .nil) (n := 400) (by
      rw [known_told]
      simp only [kst, ile_eq]
      by_cases h1 : 1 ≤ x <;> simp [knownB, ile, h1]) rfl).toS
  · cases e
noncomputable abbrev M3 : List (FuncId × PCon) := (69, cOperations) :: (67, cKnown) :: (68, cRegister) :: (66, cHas) :: (125, cSigned) :: (92, cbits) :: (101, cPart) :: (100, cFits) :: M2
theorem M3_con : PConsS P G0 M3 := .cons operations_con (.cons known_con (.cons register_con (.cons has_con (.cons signed_con (.cons bits_con (.cons part_con (.cons Fits_con M2_con)))))))
theorem Kind_told {R : Type} (k : LV → Option R) (op : Int) : evk P G0 (Ko M3) 400 (.call 34 [(.int .i64 op)]) (hpOf P []) (obs0 k) =
  (tst (bnot (knownB op))
  (k (.int .i64 0))
  (ast (band (ile 0 (wrapF .i64 (op - 1))) (nlt (toN (wrapF .i64 (op - 1))) 82)) <|
   rdS (nth tblC (nmul (toN (wrapF .i64 (op - 1))) 6)) fun x0 =>
   rdI .i64 (nth tblC (nadd (nmul (toN (wrapF .i64 (op - 1))) 6) 1)) fun x1 =>
   rdI .u32 (nth tblC (nadd (nadd (nmul (toN (wrapF .i64 (op - 1))) 6) 1) 1)) fun x2 =>
   rdI .u32 (nth tblC (nadd (nadd (nadd (nmul (toN (wrapF .i64 (op - 1))) 6) 1) 1) 1)) fun x3 =>
   rdI .u32 (nth tblC (nadd (nadd (nadd (nadd (nmul (toN (wrapF .i64 (op - 1))) 6) 1) 1) 1) 1)) fun x4 =>
   rdI .i64 (nth tblC (nadd (nadd (nadd (nadd (nadd (nmul (toN (wrapF .i64 (op - 1))) 6) 1) 1) 1) 1) 1)) fun x5 =>
   k (.int .i64 x1))) := by kernel_rfl
theorem Name_told {R : Type} (k : LV → Option R) (op : Int) : evk P G0 (Ko M3) 400 (.call 28 [(.int .i64 op)]) (hpOf P []) (obs0 k) =
  (tst (bnot (knownB op))
  (k (.str []))
  (ast (band (ile 0 (wrapF .i64 (op - 1))) (nlt (toN (wrapF .i64 (op - 1))) 82)) <|
   rdS (nth tblC (nmul (toN (wrapF .i64 (op - 1))) 6)) fun x0 =>
   rdI .i64 (nth tblC (nadd (nmul (toN (wrapF .i64 (op - 1))) 6) 1)) fun x1 =>
   rdI .u32 (nth tblC (nadd (nadd (nmul (toN (wrapF .i64 (op - 1))) 6) 1) 1)) fun x2 =>
   rdI .u32 (nth tblC (nadd (nadd (nadd (nmul (toN (wrapF .i64 (op - 1))) 6) 1) 1) 1)) fun x3 =>
   rdI .u32 (nth tblC (nadd (nadd (nadd (nadd (nmul (toN (wrapF .i64 (op - 1))) 6) 1) 1) 1) 1)) fun x4 =>
   rdI .i64 (nth tblC (nadd (nadd (nadd (nadd (nadd (nmul (toN (wrapF .i64 (op - 1))) 6) 1) 1) 1) 1) 1)) fun x5 =>
   k (.str x0))) := by kernel_rfl
theorem at_op (op : Int) (h : 1 ≤ op ∧ op ≤ 82) : wrapF .i64 (op - 1) = op - 1 ∧ (0 ≤ op - 1 ∧ toN (op - 1) < 82) ∧ ((toN (op - 1) : Nat) : Int) + 1 = op := by
  refine ⟨wrap_i64 _ (by omega) (by omega), ⟨by omega, by show (op - 1).toNat < 82; omega⟩, by show (((op - 1).toNat : Nat) : Int) + 1 = op; omega⟩
noncomputable def cKind : PCon := fun
  | [.int .i64 x] => [(true, .int .i64 (opn x).kind)]
  | _ => []
theorem Kind_con : PConS P G0 34 cKind := fun args v e h => by
  unfold cKind at e
  split at e
  · rename_i x
    obtain ⟨-, rfl⟩ := pick_one e
    refine (pure_con (ko_told M3_con) (n := 400) (by
      rw [Kind_told]
      simp only [kst, kast, bnot_eq', band_eq', ile_eq, nlt_eq]
      cases hk : knownB x
      · rw [if_pos rfl, opn_off x hk]
        rfl
      · have hx := known_lo x hk
        obtain ⟨h1, h2, h3⟩ := at_op x hx
        rw [if_neg (by simp), h1, if_pos h2, row_read _ h2.2, h3]) rfl).toS
  · cases e
noncomputable def cName : PCon := fun
  | [.int .i64 x] => [(true, .str (opn x).name)]
  | _ => []
theorem Name_con : PConS P G0 28 cName := fun args v e h => by
  unfold cName at e
  split at e
  · rename_i x
    obtain ⟨-, rfl⟩ := pick_one e
    refine (pure_con (ko_told M3_con) (n := 400) (by
      rw [Name_told]
      simp only [kst, kast, bnot_eq', band_eq', ile_eq, nlt_eq]
      cases hk : knownB x
      · rw [if_pos rfl, opn_off x hk]
        rfl
      · have hx := known_lo x hk
        obtain ⟨h1, h2, h3⟩ := at_op x hx
        rw [if_neg (by simp), h1, if_pos h2, row_read _ h2.2, h3]) rfl).toS
  · cases e
/-! an operation's functions -/
noncomputable def okB (o : Opn) : Bool := decide (1 ≤ o.kind ∧ o.kind ≤ 10 ∧ 0 ≤ o.code ∧ o.code < 128 ∧ 0 ≤ o.f3 ∧ o.f3 < 8 ∧ 0 ≤ o.f7 ∧ o.f7 < 128 ∧ (o.shift = 0 ∨ o.shift = 5 ∨ o.shift = 6) ∧ (o.shift ≠ 0 → o.kind = 2) ∧ (o.shift = 6 → o.f7 < 64) ∧ (o.kind = 2 ∨ o.kind = 3 → o.shift = 0 → o.f7 = 0) ∧ (o.kind = 6 ∨ o.kind = 7 → o.f3 = 0) ∧ (o.kind = 8 → o.f7 < 32))
theorem okB_iff (o : Opn) : okB o = true ↔ o.ok := by
  unfold okB
  rw [decide_eq_true_iff]
  exact ⟨fun ⟨a, b, c, d, e, f, g, h, i, j, k, l, m, n⟩ => ⟨a, b, c, d, e, f, g, h, i, j, k, l, m, n⟩, fun ⟨a, b, c, d, e, f, g, h, i, j, k, l, m, n⟩ => ⟨a, b, c, d, e, f, g, h, i, j, k, l, m, n⟩⟩
theorem number_told {R : Type} (k : LV → Option R) (nm : List UInt8) (kd c f g s n : Int) : evk P G0 (Ko M3) 400 (.call 70 [(.agg [(.str nm), (.int .i64 kd), (.int .u32 c), (.int .u32 f), (.int .u32 g), (.int .i64 s)]), (.int .i64 n)]) (hpOf P []) (obs0 k) =
  (tst (ilt 0 s)
  (tst (ile 0 n)
   (tst (ilt s 0)
    (none)
    (k (.bool (ilt n (shlI .i64 1 s)))))
   (k (.bool false)))
  (tst (ieq kd 2)
   (ast (inI n) <|
    k (.bool (fitsB n 12)))
   (tst (ieq kd 3)
    (ast (inI n) <|
     k (.bool (fitsB n 12)))
    (tst (ieq kd 4)
     (ast (inI n) <|
      k (.bool (fitsB n 12)))
     (tst (ieq kd 5)
      (ast (inI n) <|
       tst (fitsB n 13)
       (k (.bool (ieq (Int.tmod n 2) 0)))
       (k (.bool false)))
      (tst (ieq kd 6)
       (ast (inI n) <|
        tst (fitsB n 32)
        (k (.bool (ieq (Int.tmod n 4096) 0)))
        (k (.bool false)))
       (tst (ieq kd 7)
        (ast (inI n) <|
         tst (fitsB n 21)
         (k (.bool (ieq (Int.tmod n 2) 0)))
         (k (.bool false)))
        (k (.bool (ieq n 0)))))))))) := by kernel_rfl
theorem laid_told {R : Type} (k : LV → Option R) (nm : List UInt8) (kd c f g s n : Int) : evk P G0 (Ko M3) 400 (.call 71 [(.agg [(.str nm), (.int .i64 kd), (.int .u32 c), (.int .u32 f), (.int .u32 g), (.int .i64 s)]), (.int .i64 n)]) (hpOf P []) (obs0 k) =
  (tst (ieq kd 1)
  (let x0 := bOr .u32 (bOr .u32 c (shlI .u32 f 12)) (shlI .u32 g 25);
   k (.int .u32 x0))
  (tst (ieq kd 2)
   (tst (ilt s 0)
    (none)
    (tst (ieq s 5)
     (let x0 := bOr .u32 (bOr .u32 c (shlI .u32 f 12)) (partN n 0 12 20);
      k (.int .u32 (bOr .u32 x0 (shlI .u32 g 25))))
     (let x0 := bOr .u32 (bOr .u32 c (shlI .u32 f 12)) (partN n 0 12 20);
      let x1 := bOr .u32 x0 (shlI .u32 (shlI .u32 g 20) s);
      k (.int .u32 x1))))
   (tst (ieq kd 3)
    (tst (ilt s 0)
     (none)
     (tst (ieq s 5)
      (let x0 := bOr .u32 (bOr .u32 c (shlI .u32 f 12)) (partN n 0 12 20);
       k (.int .u32 (bOr .u32 x0 (shlI .u32 g 25))))
      (let x0 := bOr .u32 (bOr .u32 c (shlI .u32 f 12)) (partN n 0 12 20);
       let x1 := bOr .u32 x0 (shlI .u32 (shlI .u32 g 20) s);
       k (.int .u32 x1))))
    (tst (ieq kd 4)
     (let x0 := bOr .u32 (bOr .u32 c (shlI .u32 f 12)) (partN n 0 5 7);
      k (.int .u32 (bOr .u32 x0 (partN n 5 7 25))))
     (tst (ieq kd 5)
      (let x0 := bOr .u32 (bOr .u32 c (shlI .u32 f 12)) (partN n 12 1 31);
       let x1 := bOr .u32 (bOr .u32 x0 (partN n 5 6 25)) (partN n 1 4 8);
       k (.int .u32 (bOr .u32 x1 (partN n 11 1 7))))
      (tst (ieq kd 6)
       (let x0 := bOr .u32 (bOr .u32 c (shlI .u32 f 12)) (partN n 12 20 12);
        k (.int .u32 x0))
       (tst (ieq kd 7)
        (let x0 := bOr .u32 (bOr .u32 c (shlI .u32 f 12)) (partN n 20 1 31);
         let x1 := bOr .u32 (bOr .u32 x0 (partN n 1 10 21)) (partN n 11 1 20);
         k (.int .u32 (bOr .u32 x1 (partN n 12 8 12))))
        (tst (ieq kd 8)
         (let x0 := bOr .u32 (bOr .u32 c (shlI .u32 f 12)) (shlI .u32 g 20);
          k (.int .u32 (bOr .u32 x0 4261412864)))
         (tst (ieq kd 10)
          (let x0 := bOr .u32 (bOr .u32 c (shlI .u32 f 12)) 128;
           k (.int .u32 (bOr .u32 x0 (shlI .u32 g 25))))
          (let x0 := bOr .u32 (bOr .u32 c (shlI .u32 f 12)) (shlI .u32 g 20);
           k (.int .u32 x0))))))))))) := by kernel_rfl
theorem read_told {R : Type} (k : LV → Option R) (nm : List UInt8) (kd c f g s x : Int) : evk P G0 (Ko M3) 400 (.call 91 [(.agg [(.str nm), (.int .i64 kd), (.int .u32 c), (.int .u32 f), (.int .u32 g), (.int .i64 s)]), (.int .u32 x)]) (hpOf P []) (obs0 k) =
  (tst (ieq kd 2)
  (tst (ilt 0 s)
   (ast (band (ile 1 s) (band (ile (20 + s) 32) (inU x))) <|
    k (.int .i64 (bitsN x 20 s)))
   (ast (inU x) <|
    k (.int .i64 (sgnN (bitsN x 20 12) 12))))
  (tst (ieq kd 3)
   (tst (ilt 0 s)
    (ast (band (ile 1 s) (band (ile (20 + s) 32) (inU x))) <|
     k (.int .i64 (bitsN x 20 s)))
    (ast (inU x) <|
     k (.int .i64 (sgnN (bitsN x 20 12) 12))))
   (tst (ieq kd 4)
    (ast (inU x) <|
     ast (inU x) <|
     let x0 := bOr .i64 (shlI .i64 (bitsN x 25 7) 5) (bitsN x 7 5);
     k (.int .i64 (sgnN x0 12)))
    (tst (ieq kd 5)
     (ast (inU x) <|
      ast (inU x) <|
      let x0 := bOr .i64 (shlI .i64 (bitsN x 31 1) 12) (shlI .i64 (bitsN x 25 6) 5);
      ast (inU x) <|
      ast (inU x) <|
      let x1 := bOr .i64 (bOr .i64 x0 (shlI .i64 (bitsN x 8 4) 1)) (shlI .i64 (bitsN x 7 1) 11);
      k (.int .i64 (sgnN x1 13)))
     (tst (ieq kd 6)
      (ast (inU x) <|
       k (.int .i64 (sgnN (shlI .i64 (bitsN x 12 20) 12) 32)))
      (tst (ieq kd 7)
       (ast (inU x) <|
        ast (inU x) <|
        let x0 := bOr .i64 (shlI .i64 (bitsN x 31 1) 20) (shlI .i64 (bitsN x 21 10) 1);
        ast (inU x) <|
        let x1 := bOr .i64 x0 (shlI .i64 (bitsN x 20 1) 11);
        ast (inU x) <|
        let x2 := bOr .i64 x1 (shlI .i64 (bitsN x 12 8) 12);
        k (.int .i64 (sgnN x2 21)))
       (k (.int .i64 0)))))))) := by kernel_rfl
noncomputable def cNumber : PCon := fun
  | [.agg [.str nm, .int .i64 a, .int .u32 b, .int .u32 c, .int .u32 d, .int .i64 e], .int .i64 n] => [(band (okB ⟨nm, a, b, c, d, e⟩) (inI n), .bool (mayN ⟨nm, a, b, c, d, e⟩ n))]
  | _ => []
theorem number_con : PConS P G0 70 cNumber := fun args v e h => by
  unfold cNumber at e
  split at e
  · rename_i nm k c f g s n
    obtain ⟨hb, rfl⟩ := pick_one e
    rw [band_eq', okB_iff] at hb
    obtain ⟨ho, hi⟩ := hb
    obtain ⟨k0, k1, c0, c1, f0, f1, g0, g1, s0, s1, s6, k2, k6, k8⟩ := ho
    have hi' := hi
    rw [inI_eq] at hi'
    dsimp only at *
    refine (pure_con (ko_told M3_con) (n := 400) (by
      rw [number_told]
      simp only [kst, kast, ilt_eq, ile_eq, ieq_eq, if_pos hi]
      rcases s0 with rfl | rfl | rfl
      · rw [if_neg (by decide)]
        obtain rfl | rfl | rfl | rfl | rfl | rfl | rfl | rfl | rfl | rfl : k = 1 ∨ k = 2 ∨ k = 3 ∨ k = 4 ∨ k = 5 ∨ k = 6 ∨ k = 7 ∨ k = 8 ∨ k = 9 ∨ k = 10 := by omega
        all_goals simp only [Int.reduceEq, if_false, if_true]
        all_goals try split
        all_goals refine congrArg (fun b => some (LV.bool b)) (Bool.eq_iff_iff.2 ?_)
        all_goals (first | (rename_i hf; simp only [fitsB, decide_eq_true_eq] at hf) | skip)
        all_goals simp only [mayN, fitsB, ieq, tmod0, decide_eq_true_eq, Int.reduceEq, Int.reduceLT, if_false, if_true, false_or, or_false, true_or, or_true, Int.reduceToNat, Nat.reduceSub, Int.reducePow, Int.reduceNeg]
        all_goals (simp at *)
        all_goals omega
      · have hk := s1 (by decide)
        subst hk
        rw [may5, if_pos (by decide), show shlI .i64 1 5 = 32 from by decide]
        by_cases h0 : 0 ≤ n <;> simp [h0, ilt]
      · have hk := s1 (by decide)
        subst hk
        rw [may6, if_pos (by decide), show shlI .i64 1 6 = 64 from by decide]
        by_cases h0 : 0 ≤ n <;> simp [h0, ilt]) rfl).toS
  · cases e
theorem shl_u32 (a t T : Int) (hT : (2 : Int) ^ (min t.toNat 32) = T) (h0 : 0 ≤ a * T) (h1 : a * T < 4294967296) : shlI .u32 a t = a * T := by
  rw [shl_eq, show IntKind.u32.bits = 32 from rfl, hT, wrap_u32 _ h0 (by omega)]
theorem shl_i64 (a t T : Int) (hT : (2 : Int) ^ (min t.toNat 64) = T) (h0 : -9223372036854775808 ≤ a * T) (h1 : a * T ≤ 9223372036854775807) : shlI .i64 a t = a * T := by
  rw [shl_eq, show IntKind.i64.bits = 64 from rfl, hT, wrap_i64 _ h0 h1]
noncomputable def cLaid : PCon := fun
  | [.agg [.str nm, .int .i64 a, .int .u32 b, .int .u32 c, .int .u32 d, .int .i64 e], .int .i64 n] => [(band (okB ⟨nm, a, b, c, d, e⟩) (band (inI n) (mayN ⟨nm, a, b, c, d, e⟩ n)), .int .u32 (laidN ⟨nm, a, b, c, d, e⟩ n))]
  | _ => []
theorem laid_con : PConS P G0 71 cLaid := fun args v e h => by
  unfold cLaid at e
  split at e
  · rename_i nm k c f g s n
    obtain ⟨hb, rfl⟩ := pick_one e
    rw [band_eq', band_eq', okB_iff] at hb
    obtain ⟨ho, -, hm⟩ := hb
    obtain ⟨k0, k1, c0, c1, f0, f1, g0, g1, s0, s1, s6, k2, k6, k8⟩ := ho
    dsimp only at *
    refine (pure_con (ko_told M3_con) (n := 400) (by
      rw [laid_told]
      rw [shl_u32 f 12 4096 rfl (by omega) (by omega)]
      simp only [kst, kast, ilt_eq, ile_eq, ieq_eq, bOr_eq]
      rcases s0 with rfl | rfl | rfl
      · obtain rfl | rfl | rfl | rfl | rfl | rfl | rfl | rfl | rfl | rfl : k = 1 ∨ k = 2 ∨ k = 3 ∨ k = 4 ∨ k = 5 ∨ k = 6 ∨ k = 7 ∨ k = 8 ∨ k = 9 ∨ k = 10 := by omega
        all_goals simp only [Int.reduceEq, Int.reduceLT, if_false, if_true]
        · rw [shl_u32 g 25 33554432 rfl (by omega) (by omega), laidN1 c f g n c0 c1 f0 f1 g0 g1 nm]
        · rw [shl_u32 g 20 1048576 rfl (by omega) (by omega), shl_u32 (g * 1048576) 0 1 rfl (by omega) (by omega), Int.mul_one]
          exact congrArg (fun z => some (LV.int .u32 z)) (laidN2 c f g n c0 c1 f0 f1 g0 g1 nm 2 (by simp) (k2 (by simp) rfl))
        · rw [shl_u32 g 20 1048576 rfl (by omega) (by omega), shl_u32 (g * 1048576) 0 1 rfl (by omega) (by omega), Int.mul_one]
          exact congrArg (fun z => some (LV.int .u32 z)) (laidN2 c f g n c0 c1 f0 f1 g0 g1 nm 3 (by simp) (k2 (by simp) rfl))
        · exact congrArg (fun z => some (LV.int .u32 z)) (laidN4 c f g n c0 c1 f0 f1 g0 g1 nm)
        · exact congrArg (fun z => some (LV.int .u32 z)) (laidN5 c f g n c0 c1 f0 f1 g0 g1 nm)
        · exact congrArg (fun z => some (LV.int .u32 z)) (laidN6 c f g n c0 c1 f0 f1 g0 g1 nm (k6 (by simp)))
        · exact congrArg (fun z => some (LV.int .u32 z)) (laidN7 c f g n c0 c1 f0 f1 g0 g1 nm (k6 (by simp)))
        · rw [shl_u32 g 20 1048576 rfl (by omega) (by omega)]
          exact congrArg (fun z => some (LV.int .u32 z)) (laidN8 c f g n c0 c1 f0 f1 g0 g1 nm (k8 rfl))
        · rw [shl_u32 g 20 1048576 rfl (by omega) (by omega)]
          exact congrArg (fun z => some (LV.int .u32 z)) (laidN9 c f g n c0 c1 f0 f1 g0 g1 nm)
        · rw [shl_u32 g 25 33554432 rfl (by omega) (by omega)]
          exact congrArg (fun z => some (LV.int .u32 z)) (laidN10 c f g n c0 c1 f0 f1 g0 g1 nm)
      · have hk := s1 (by decide)
        subst hk
        rw [may5] at hm
        have hn := of_decide_eq_true hm
        simp only [Int.reduceEq, Int.reduceLT, if_false, if_true]
        rw [shl_u32 g 25 33554432 rfl (by omega) (by omega)]
        exact congrArg (fun z => some (LV.int .u32 z)) (laidN25 c f g n c0 c1 f0 f1 g0 g1 nm hn.1 hn.2)
      · have hk := s1 (by decide)
        subst hk
        have hg := s6 rfl
        rw [may6] at hm
        have hn := of_decide_eq_true hm
        simp only [Int.reduceEq, Int.reduceLT, if_false, if_true]
        rw [shl_u32 g 20 1048576 rfl (by omega) (by omega), shl_u32 (g * 1048576) 6 64 rfl (by omega) (by omega), show g * 1048576 * 64 = g * 67108864 by omega]
        exact congrArg (fun z => some (LV.int .u32 z)) (laidN26 c f g n c0 c1 f0 f1 g0 g1 nm hn.1 hn.2 hg)) rfl).toS
  · cases e
noncomputable def cRead : PCon := fun
  | [.agg [.str nm, .int .i64 a, .int .u32 b, .int .u32 c, .int .u32 d, .int .i64 e], .int .u32 x] => [(band (okB ⟨nm, a, b, c, d, e⟩) (inU x), .int .i64 (immN ⟨nm, a, b, c, d, e⟩ x))]
  | _ => []
theorem bd_bits (x : Int) (f m : Int) (M : Int) (h : (2 : Int) ^ m.toNat = M) : 0 ≤ bitsN x f m ∧ bitsN x f m < M := h ▸ bitsN_bd x f m
theorem read_con : PConS P G0 91 cRead := fun args v e h => by
  unfold cRead at e
  split at e
  · rename_i nm k c f g s x
    obtain ⟨hb, rfl⟩ := pick_one e
    rw [band_eq', okB_iff] at hb
    obtain ⟨ho, hx⟩ := hb
    obtain ⟨k0, k1, c0, c1, f0, f1, g0, g1, s0, s1, s6, k2, k6, k8⟩ := ho
    dsimp only at *
    obtain ⟨a2, b2⟩ := bd_bits x 25 7 128 rfl
    obtain ⟨a4, b4⟩ := bd_bits x 31 1 2 rfl
    obtain ⟨a5, b5⟩ := bd_bits x 25 6 64 rfl
    obtain ⟨a6, b6⟩ := bd_bits x 8 4 16 rfl
    obtain ⟨a7, b7⟩ := bd_bits x 7 1 2 rfl
    obtain ⟨a8, b8⟩ := bd_bits x 12 20 1048576 rfl
    obtain ⟨a9, b9⟩ := bd_bits x 21 10 1024 rfl
    obtain ⟨a10, b10⟩ := bd_bits x 20 1 2 rfl
    obtain ⟨a11, b11⟩ := bd_bits x 12 8 256 rfl
    refine (pure_con (ko_told M3_con) (n := 400) (by
      rw [read_told]
      rw [shl_i64 (bitsN x 25 7) 5 32 rfl (by omega) (by omega), shl_i64 (bitsN x 31 1) 12 4096 rfl (by omega) (by omega), shl_i64 (bitsN x 25 6) 5 32 rfl (by omega) (by omega), shl_i64 (bitsN x 8 4) 1 2 rfl (by omega) (by omega), shl_i64 (bitsN x 7 1) 11 2048 rfl (by omega) (by omega), shl_i64 (bitsN x 12 20) 12 4096 rfl (by omega) (by omega), shl_i64 (bitsN x 31 1) 20 1048576 rfl (by omega) (by omega), shl_i64 (bitsN x 21 10) 1 2 rfl (by omega) (by omega), shl_i64 (bitsN x 20 1) 11 2048 rfl (by omega) (by omega), shl_i64 (bitsN x 12 8) 12 4096 rfl (by omega) (by omega)]
      simp only [kst, kast, ilt_eq, ile_eq, ieq_eq, bOr_eq, band_eq', hx, read4, read5, read7, if_true, and_true]
      rcases s0 with rfl | rfl | rfl
      · obtain rfl | rfl | rfl | rfl | rfl | rfl | rfl | rfl | rfl | rfl : k = 1 ∨ k = 2 ∨ k = 3 ∨ k = 4 ∨ k = 5 ∨ k = 6 ∨ k = 7 ∨ k = 8 ∨ k = 9 ∨ k = 10 := by omega
        all_goals simp only [Int.reduceEq, Int.reduceLT, if_false, if_true]
        all_goals rfl
      · have hk := s1 (by decide)
        subst hk
        simp only [Int.reduceEq, Int.reduceLT, Int.reduceLE, Int.reduceAdd, and_self, if_false, if_true]
        rfl
      · have hk := s1 (by decide)
        subst hk
        simp only [Int.reduceEq, Int.reduceLT, Int.reduceLE, Int.reduceAdd, and_self, if_false, if_true]
        rfl) rfl).toS
  · cases e
noncomputable abbrev M4 : List (FuncId × PCon) := (70, cNumber) :: (71, cLaid) :: (91, cRead) :: (34, cKind) :: (28, cName) :: M3
theorem M4_con : PConsS P G0 M4 := .cons number_con (.cons laid_con (.cons read_con (.cons Kind_con (.cons Name_con M3_con))))
theorem Encode_told {R : Type} (k : LV → Option R) (op rd rs1 rs2 n : Int) : evk P G0 (Ko M4) 400 (.call 27 [(.agg [(.int .i64 op), (.int .i64 rd), (.int .i64 rs1), (.int .i64 rs2), (.int .i64 n)])]) (hpOf P []) (obs0 k) =
  (tst (bnot (knownB op))
  (k (.tup [(.int .u32 0), (.int .i64 1)]))
  (tst (bnot (regB rd (hasRd ((opn op).kind))))
   (k (.tup [(.int .u32 0), (.int .i64 1)]))
   (let x0 := bnot (regB rs1 (hasRs1 ((opn op).kind)));
    tst (x0)
    (k (.tup [(.int .u32 0), (.int .i64 1)]))
    (let x1 := bnot (regB rs2 (hasRs2 ((opn op).kind)));
     tst (x1)
     (k (.tup [(.int .u32 0), (.int .i64 1)]))
     (ast (band (ile 0 (wrapF .i64 (op - 1))) (nlt (toN (wrapF .i64 (op - 1))) 82)) <|
      rdS (nth tblC (nmul (toN (wrapF .i64 (op - 1))) 6)) fun x2 =>
      rdI .i64 (nth tblC (nadd (nmul (toN (wrapF .i64 (op - 1))) 6) 1)) fun x3 =>
      rdI .u32 (nth tblC (nadd (nadd (nmul (toN (wrapF .i64 (op - 1))) 6) 1) 1)) fun x4 =>
      rdI .u32 (nth tblC (nadd (nadd (nadd (nmul (toN (wrapF .i64 (op - 1))) 6) 1) 1) 1)) fun x5 =>
      rdI .u32 (nth tblC (nadd (nadd (nadd (nadd (nmul (toN (wrapF .i64 (op - 1))) 6) 1) 1) 1) 1)) fun x6 =>
      rdI .i64 (nth tblC (nadd (nadd (nadd (nadd (nadd (nmul (toN (wrapF .i64 (op - 1))) 6) 1) 1) 1) 1) 1)) fun x7 =>
      ast (band (okB ⟨x2, x3, x4, x5, x6, x7⟩) (inI n)) <|
      tst (bnot (mayN ⟨x2, x3, x4, x5, x6, x7⟩ n))
      (k (.tup [(.int .u32 0), (.int .i64 1)]))
      (ast (band (ile 0 (wrapF .i64 (op - 1))) (nlt (toN (wrapF .i64 (op - 1))) 82)) <|
       rdS (nth tblC (nmul (toN (wrapF .i64 (op - 1))) 6)) fun x8 =>
       rdI .i64 (nth tblC (nadd (nmul (toN (wrapF .i64 (op - 1))) 6) 1)) fun x9 =>
       rdI .u32 (nth tblC (nadd (nadd (nmul (toN (wrapF .i64 (op - 1))) 6) 1) 1)) fun x10 =>
       rdI .u32 (nth tblC (nadd (nadd (nadd (nmul (toN (wrapF .i64 (op - 1))) 6) 1) 1) 1)) fun x11 =>
       rdI .u32 (nth tblC (nadd (nadd (nadd (nadd (nmul (toN (wrapF .i64 (op - 1))) 6) 1) 1) 1) 1)) fun x12 =>
       rdI .i64 (nth tblC (nadd (nadd (nadd (nadd (nadd (nmul (toN (wrapF .i64 (op - 1))) 6) 1) 1) 1) 1) 1)) fun x13 =>
       ast (band (okB ⟨x8, x9, x10, x11, x12, x13⟩) (band (inI n) (mayN ⟨x8, x9, x10, x11, x12, x13⟩ n))) <|
       let x14 := bOr .u32 (laidN ⟨x8, x9, x10, x11, x12, x13⟩ n) (shlI .u32 (wrapF .u32 rd) 7);
       let x15 := bOr .u32 x14 (shlI .u32 (wrapF .u32 rs1) 15);
       let x16 := bOr .u32 x15 (shlI .u32 (wrapF .u32 rs2) 20);
       k (.tup [(.int .u32 x16), (.int .i64 0)]))))))) := by kernel_rfl
noncomputable def cEncode : PCon := fun
  | [.agg [.int .i64 op, .int .i64 rd, .int .i64 rs1, .int .i64 rs2, .int .i64 n]] => [(inI n, .tup [.int .u32 (encV op rd rs1 rs2 n), .int .i64 (encE op rd rs1 rs2 n)])]
  | _ => []
theorem Encode_con : PConS P G0 27 cEncode := fun args v e h => by
  unfold cEncode at e
  split at e
  · rename_i op rd rs1 rs2 n
    obtain ⟨hn, rfl⟩ := pick_one e
    refine (pure_con (ko_told M4_con) (n := 400) (by
      rw [Encode_told]
      simp only [kst, kast, bnot_eq', band_eq', ile_eq, nlt_eq, hn, and_true, true_and]
      unfold encV encE encB
      cases hk : knownB op
      · rw [if_pos rfl]; rfl
      · have hx := known_lo op hk
        obtain ⟨h1, h2, h3⟩ := at_op op hx
        have ho := opn_ok op hx
        rw [if_neg (by simp)]
        cases h4 : regB rd (hasRd (opn op).kind)
        · rw [if_pos rfl]; rfl
        · rw [if_neg (by simp)]
          cases h5 : regB rs1 (hasRs1 (opn op).kind)
          · rw [if_pos rfl]; rfl
          · rw [if_neg (by simp)]
            cases h6 : regB rs2 (hasRs2 (opn op).kind)
            · rw [if_pos rfl]; rfl
            · rw [if_neg (by simp), h1, if_pos h2, row_read _ h2.2, row_read _ h2.2, h3]
              have hok : okB (opn op) = true := (okB_iff _).2 ho
              have heta : (⟨(opn op).name, (opn op).kind, (opn op).code, (opn op).f3, (opn op).f7, (opn op).shift⟩ : Opn) = opn op := rfl
              rw [heta, if_pos hok]
              cases hm : mayN (opn op) n
              · rw [if_pos rfl]; rfl
              · rw [if_neg (by simp), if_pos h2, if_pos ⟨hok, rfl⟩]
                obtain ⟨r1, r2⟩ := regB_bd _ _ h4
                obtain ⟨r3, r4⟩ := regB_bd _ _ h5
                obtain ⟨r5, r6⟩ := regB_bd _ _ h6
                rw [wrap_u32 rd r1 (by omega), wrap_u32 rs1 r3 (by omega), wrap_u32 rs2 r5 (by omega), shl_u32 rd 7 128 rfl (by omega) (by omega), shl_u32 rs1 15 32768 rfl (by omega) (by omega), shl_u32 rs2 20 1048576 rfl (by omega) (by omega), bOr_eq, bOr_eq, bOr_eq, enc_or (opn op) n rd rs1 rs2 ho hm h4 h5 h6]
                rfl) rfl).toS
  · cases e
noncomputable abbrev M5 : List (FuncId × PCon) := (27, cEncode) :: M4
theorem M5_con : PConsS P G0 M5 := .cons Encode_con M4_con
end Go.Proofs.YtbnmhhbncggjkaaGreatDoor
