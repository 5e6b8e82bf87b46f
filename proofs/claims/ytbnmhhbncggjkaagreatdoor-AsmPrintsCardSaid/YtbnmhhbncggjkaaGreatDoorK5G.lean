/- Layer 5: the text of an instruction, by the document. Conditions: none. -/
import Derived.Test.YtbnmhhbncggjkaaGreatDoorK5F
set_option linter.unusedVariables false
set_option linter.unusedSimpArgs false
namespace Go.Proofs.YtbnmhhbncggjkaaGreatDoor
open Go Eng Go.RowKit
set_option maxRecDepth 1000000
section
variable {m : Int}
noncomputable def digS (n : Int) : List UInt8 := Lib.decDigits n.toNat
noncomputable def cDig (b : Int) : PCon := fun args => match args with
  | [.int .u64 n] => [(band (inW n) (ilt n b), .str (digS n))]
  | _ => []
theorem digits_told {R : Type} (k : LV → Option R) (b n : Int) : evk P (G5 m) (Kp [(89, cDig b)] []) 400 (.call 89 [(.int .u64 n)]) (hpOf P []) (obs0 k) =
  (tst (ilt n 10)
  (rdBytes [(.int .u8 (wrapF .u8 (wrapF .u64 (48 + n))))] fun x0 =>
   k (.str x0))
  (ast (band (inW (wrapF .u64 (Int.tdiv n 10))) (ilt (wrapF .u64 (Int.tdiv n 10)) b)) <|
   ast (band (inW (Int.tmod n 10)) (ilt (Int.tmod n 10) b)) <|
   ast (nle (nadd (len (digS (wrapF .u64 (Int.tdiv n 10)))) (len (digS (Int.tmod n 10)))) 9223372036854775807) <|
   let x0 := app (digS (wrapF .u64 (Int.tdiv n 10))) (digS (Int.tmod n 10));
   k (.str x0))) := by kernel_rfl
theorem digs_len : ∀ (k u : Nat), u < 10 ^ (k + 1) → (Lib.decDigits u).length ≤ k + 1
  | 0, u, h => by rw [Lib.decDigits_one (by simpa using h)]; simp
  | k + 1, u, h => by
    rw [Lib.decDigits]
    split
    · simp
    · have := digs_len k (u / 10) (by rw [Nat.pow_succ] at h; omega)
      simp; omega
theorem digS_len (n : Int) (h : inW n = true) : (digS n).length ≤ 20 := by
  rw [inW_eq] at h
  exact digs_len 19 _ (by omega)
theorem digits_all (b : Nat) : PConS P (G5 m) 89 (cDig b) := by
  induction b with
  | zero =>
    intro args v e h
    unfold cDig at e
    split at e
    · obtain ⟨hb, rfl⟩ := pick_one e
      simp only [band_eq', inW_eq, ilt_eq] at hb
      omega
    · cases e
  | succ b ih =>
    intro args v e h
    unfold cDig at e
    split at e
    · rename_i n
      obtain ⟨hb, rfl⟩ := pick_one e
      simp only [band_eq', ilt_eq] at hb
      obtain ⟨hw, hlt⟩ := hb
      have hw' := hw
      rw [inW_eq] at hw'
      refine (pure_con (kp_told (.cons ih .nil) .nil) (n := 400) (by
        rw [digits_told]
        simp only [kst, kast, ilt_eq]
        by_cases h10 : n < 10
        · rw [if_pos h10]
          have e1 : wrapF .u8 (wrapF .u64 (48 + n)) = 48 + n := by
            rw [wrap_u64 _ (by omega) (by omega)]
            show (48 + n) % 256 = _
            omega
          rw [e1]
          have e2 : toBytes [.int .u8 (48 + n)] = some [UInt8.ofNat (48 + n).toNat] := by
            simp [toBytes]
          simp only [rdBytes, e2]
          unfold digS
          rw [Lib.decDigits_one (by omega)]
          congr 4
          omega
        · rw [if_neg h10]
          have e1 : Int.tdiv n 10 = n / 10 := Int.tdiv_eq_ediv_of_nonneg (by omega)
          have e2 : Int.tmod n 10 = n % 10 := Int.tmod_eq_emod_of_nonneg (by omega)
          rw [e1, e2, wrap_u64 _ (by omega) (by omega)]
          have i1 : inW (n / 10) = true := by rw [inW_eq]; omega
          have i2 : inW (n % 10) = true := by rw [inW_eq]; omega
          have l1 := digS_len _ i1
          have l2 := digS_len _ i2
          simp only [band_eq', i1, i2, true_and, ilt_eq, nle_eq, nadd_eq, len_eq, app_eq]
          rw [if_pos (by omega), if_pos (by omega), if_pos (by omega)]
          unfold digS
          rw [Lib.decDigits.eq_def n.toNat, dif_neg (by omega), Lib.decDigits_one (by omega : (n % 10).toNat < 10)]
          congr 5
          · omega
          · congr 2; omega) rfl).toS
    · cases e
noncomputable def cDigits : PCon := fun args => match args with
  | [.int .u64 n] => [(inW n, .str (digS n))]
  | _ => []
theorem digits_con : PConS P (G5 m) 89 cDigits := fun args v e h => by
  unfold cDigits at e
  split at e
  · rename_i n
    obtain ⟨hb, rfl⟩ := pick_one e
    have hb' := hb
    rw [inW_eq] at hb'
    refine digits_all (n.toNat + 1) _ _ ?_ h
    unfold cDig
    have : band (inW n) (ilt n ((n.toNat + 1 : Nat) : Int)) = true := by rw [band_eq', ilt_eq]; exact ⟨hb, by omega⟩
    show pickR [(band (inW n) (ilt n ((n.toNat + 1 : Nat) : Int)), _)] = _
    rw [this]
    rfl
  · cases e
theorem number5_told {R : Type} (k : LV → Option R) (n : Int) : evk P (G5 m) (Kp [(89, cDigits)] []) 400 (.call 52 [(.int .i64 n)]) (hpOf P []) (obs0 k) =
  (tst (ilt n 0)
  (ast (inW (wrapF .u64 (0 - (wrapF .u64 n)))) <|
   ast (nle (nadd 1 (len (digS (wrapF .u64 (0 - (wrapF .u64 n)))))) 9223372036854775807) <|
   let x0 := app ([45]) (digS (wrapF .u64 (0 - (wrapF .u64 n))));
   k (.str x0))
  (ast (inW (wrapF .u64 n)) <|
   k (.str (digS (wrapF .u64 n))))) := by kernel_rfl
noncomputable def cNumber5 : PCon := fun args => match args with
  | [.int .i64 n] => [(inI n, .str (Lib.itoa n))]
  | _ => []
theorem number5_con : PConS P (G5 m) 52 cNumber5 := fun args v e h => by
  unfold cNumber5 at e
  split at e
  · rename_i n
    obtain ⟨hb, rfl⟩ := pick_one e
    have hb' := hb
    rw [inI_eq] at hb'
    refine (pure_con (kp_told (.cons digits_con .nil) .nil) (n := 400) (by
      rw [number5_told]
      simp only [kst, kast, ilt_eq]
      by_cases h0 : n < 0
      · rw [if_pos h0]
        have e1 : wrapF .u64 (0 - wrapF .u64 n) = -n := by
          show (0 - n % 18446744073709551616) % 18446744073709551616 = -n
          omega
        have i1 : inW (-n) = true := by rw [inW_eq]; omega
        have l1 := digS_len _ i1
        simp only [e1, i1, nle_eq, nadd_eq, len_eq, app_eq]
        rw [if_pos trivial, if_pos (by omega)]
        unfold digS Lib.itoa
        rw [if_pos h0]
        have : (-n).toNat = n.natAbs := by omega
        rw [this]
        rfl
      · rw [if_neg h0]
        have e1 : wrapF .u64 n = n := wrap_u64 _ (by omega) (by omega)
        have i1 : inW n = true := by rw [inW_eq]; omega
        simp only [e1, i1]
        rw [if_pos trivial]
        unfold digS Lib.itoa
        rw [if_neg h0]) rfl).toS
  · cases e
theorem reg5_told {R : Type} (k : LV → Option R) (n : Int) : evk P (G5 m) (Kp [(52, cNumber5)] []) 400 (.call 75 [(.int .i64 n)]) (hpOf P []) (obs0 k) =
  (ast (inI n) <|
  ast (nle (nadd 1 (len (Lib.itoa n))) 9223372036854775807) <|
  k (.str (app ([99]) (Lib.itoa n)))) := by kernel_rfl
theorem reg5_con : PConS P (G5 m) 75 cReg := fun args v e h => by
  unfold cReg at e
  split at e
  · rename_i n
    obtain ⟨hb, rfl⟩ := pick_one e
    have hl := itoa_len n hb
    refine (pure_con (kp_told (.cons number5_con .nil) .nil) (n := 400) (by
      rw [reg5_told]
      simp only [kst, kast, hb, nle_eq, nadd_eq, len_eq, app_eq]
      rw [if_pos trivial, if_pos (by omega)]
      rfl) rfl).toS
  · cases e
noncomputable abbrev R52 : List (FuncId × PCon) := (75, cReg) :: (52, cNumber5) :: R6
theorem R52_con : PConsS P (G5 m) R52 := .cons reg5_con (.cons number5_con (PConsS.glob rfl R6_con))
theorem text5_told {R : Type} (k : LV → Option R) (op rd rs1 rs2 n : Int) : evk P (G5 m) (Kp R52 []) 400 (.call 31 [(.agg [(.int .i64 op), (.int .i64 rd), (.int .i64 rs1), (.int .i64 rs2), (.int .i64 n)])]) (hpOf P []) (obs0 k) =
  (tst (ieq ((opn op).kind) 0)
  (ast (inI n) <|
   ast (nle (nadd (len (Lib.itoa n)) 1) 9223372036854775807) <|
   ast (inI rs1) <|
   ast (nle (nadd (len (app (Lib.itoa n) ([40]))) (len (regS rs1))) 9223372036854775807) <|
   let x0 := app (app (Lib.itoa n) ([40])) (regS rs1);
   ast (nle (nadd (len x0) 1) 9223372036854775807) <|
   k (.str ((opn op).name)))
  (tst (ieq ((opn op).kind) 1)
   (ast (inI n) <|
    ast (nle (nadd (len (Lib.itoa n)) 1) 9223372036854775807) <|
    ast (inI rs1) <|
    ast (nle (nadd (len (app (Lib.itoa n) ([40]))) (len (regS rs1))) 9223372036854775807) <|
    let x0 := app (app (Lib.itoa n) ([40])) (regS rs1);
    ast (nle (nadd (len x0) 1) 9223372036854775807) <|
    ast (nle (nadd (len ((opn op).name)) 1) 9223372036854775807) <|
    ast (inI rd) <|
    ast (nle (nadd (len (app ((opn op).name) ([32]))) (len (regS rd))) 9223372036854775807) <|
    let x1 := app (app ((opn op).name) ([32])) (regS rd);
    ast (nle (nadd (len x1) 2) 9223372036854775807) <|
    ast (inI rs1) <|
    ast (nle (nadd (len (app x1 ([44, 32]))) (len (regS rs1))) 9223372036854775807) <|
    ast (nle (nadd (len (app (app x1 ([44, 32])) (regS rs1))) 2) 9223372036854775807) <|
    let x2 := app (app (app x1 ([44, 32])) (regS rs1)) ([44, 32]);
    ast (inI rs2) <|
    ast (nle (nadd (len x2) (len (regS rs2))) 9223372036854775807) <|
    k (.str (app x2 (regS rs2))))
   (tst (ieq ((opn op).kind) 2)
    (ast (inI n) <|
     ast (nle (nadd (len (Lib.itoa n)) 1) 9223372036854775807) <|
     ast (inI rs1) <|
     ast (nle (nadd (len (app (Lib.itoa n) ([40]))) (len (regS rs1))) 9223372036854775807) <|
     let x0 := app (app (Lib.itoa n) ([40])) (regS rs1);
     ast (nle (nadd (len x0) 1) 9223372036854775807) <|
     ast (nle (nadd (len ((opn op).name)) 1) 9223372036854775807) <|
     ast (inI rd) <|
     ast (nle (nadd (len (app ((opn op).name) ([32]))) (len (regS rd))) 9223372036854775807) <|
     let x1 := app (app ((opn op).name) ([32])) (regS rd);
     ast (nle (nadd (len x1) 2) 9223372036854775807) <|
     ast (inI rs1) <|
     ast (nle (nadd (len (app x1 ([44, 32]))) (len (regS rs1))) 9223372036854775807) <|
     ast (nle (nadd (len (app (app x1 ([44, 32])) (regS rs1))) 2) 9223372036854775807) <|
     let x2 := app (app (app x1 ([44, 32])) (regS rs1)) ([44, 32]);
     ast (nle (nadd (len x2) (len (Lib.itoa n))) 9223372036854775807) <|
     k (.str (app x2 (Lib.itoa n))))
    (tst (ieq ((opn op).kind) 3)
     (ast (inI n) <|
      ast (nle (nadd (len (Lib.itoa n)) 1) 9223372036854775807) <|
      ast (inI rs1) <|
      ast (nle (nadd (len (app (Lib.itoa n) ([40]))) (len (regS rs1))) 9223372036854775807) <|
      let x0 := app (app (Lib.itoa n) ([40])) (regS rs1);
      ast (nle (nadd (len x0) 1) 9223372036854775807) <|
      ast (nle (nadd (len ((opn op).name)) 1) 9223372036854775807) <|
      ast (inI rd) <|
      ast (nle (nadd (len (app ((opn op).name) ([32]))) (len (regS rd))) 9223372036854775807) <|
      let x1 := app (app ((opn op).name) ([32])) (regS rd);
      ast (nle (nadd (len x1) 2) 9223372036854775807) <|
      ast (nle (nadd (len (app x1 ([44, 32]))) (len (app x0 ([41])))) 9223372036854775807) <|
      k (.str (app (app x1 ([44, 32])) (app x0 ([41])))))
     (tst (ieq ((opn op).kind) 4)
      (ast (inI n) <|
       ast (nle (nadd (len (Lib.itoa n)) 1) 9223372036854775807) <|
       ast (inI rs1) <|
       ast (nle (nadd (len (app (Lib.itoa n) ([40]))) (len (regS rs1))) 9223372036854775807) <|
       let x0 := app (app (Lib.itoa n) ([40])) (regS rs1);
       ast (nle (nadd (len x0) 1) 9223372036854775807) <|
       ast (nle (nadd (len ((opn op).name)) 1) 9223372036854775807) <|
       ast (inI rs2) <|
       ast (nle (nadd (len (app ((opn op).name) ([32]))) (len (regS rs2))) 9223372036854775807) <|
       let x1 := app (app ((opn op).name) ([32])) (regS rs2);
       ast (nle (nadd (len x1) 2) 9223372036854775807) <|
       ast (nle (nadd (len (app x1 ([44, 32]))) (len (app x0 ([41])))) 9223372036854775807) <|
       k (.str (app (app x1 ([44, 32])) (app x0 ([41])))))
      (tst (ieq ((opn op).kind) 5)
       (ast (inI n) <|
        ast (nle (nadd (len (Lib.itoa n)) 1) 9223372036854775807) <|
        ast (inI rs1) <|
        ast (nle (nadd (len (app (Lib.itoa n) ([40]))) (len (regS rs1))) 9223372036854775807) <|
        let x0 := app (app (Lib.itoa n) ([40])) (regS rs1);
        ast (nle (nadd (len x0) 1) 9223372036854775807) <|
        ast (nle (nadd (len ((opn op).name)) 1) 9223372036854775807) <|
        ast (inI rs1) <|
        ast (nle (nadd (len (app ((opn op).name) ([32]))) (len (regS rs1))) 9223372036854775807) <|
        let x1 := app (app ((opn op).name) ([32])) (regS rs1);
        ast (nle (nadd (len x1) 2) 9223372036854775807) <|
        ast (inI rs2) <|
        ast (nle (nadd (len (app x1 ([44, 32]))) (len (regS rs2))) 9223372036854775807) <|
        ast (nle (nadd (len (app (app x1 ([44, 32])) (regS rs2))) 2) 9223372036854775807) <|
        let x2 := app (app (app x1 ([44, 32])) (regS rs2)) ([44, 32]);
        ast (nle (nadd (len x2) (len (Lib.itoa n))) 9223372036854775807) <|
        k (.str (app x2 (Lib.itoa n))))
       (tst (ieq ((opn op).kind) 6)
        (ast (inI n) <|
         ast (nle (nadd (len (Lib.itoa n)) 1) 9223372036854775807) <|
         ast (inI rs1) <|
         ast (nle (nadd (len (app (Lib.itoa n) ([40]))) (len (regS rs1))) 9223372036854775807) <|
         let x0 := app (app (Lib.itoa n) ([40])) (regS rs1);
         ast (nle (nadd (len x0) 1) 9223372036854775807) <|
         ast (nle (nadd (len ((opn op).name)) 1) 9223372036854775807) <|
         ast (inI rd) <|
         ast (nle (nadd (len (app ((opn op).name) ([32]))) (len (regS rd))) 9223372036854775807) <|
         let x1 := app (app ((opn op).name) ([32])) (regS rd);
         ast (nle (nadd (len x1) 2) 9223372036854775807) <|
         ast (nle (nadd (len (app x1 ([44, 32]))) (len (Lib.itoa n))) 9223372036854775807) <|
         k (.str (app (app x1 ([44, 32])) (Lib.itoa n))))
        (tst (ieq ((opn op).kind) 7)
         (ast (inI n) <|
          ast (nle (nadd (len (Lib.itoa n)) 1) 9223372036854775807) <|
          ast (inI rs1) <|
          ast (nle (nadd (len (app (Lib.itoa n) ([40]))) (len (regS rs1))) 9223372036854775807) <|
          let x0 := app (app (Lib.itoa n) ([40])) (regS rs1);
          ast (nle (nadd (len x0) 1) 9223372036854775807) <|
          ast (nle (nadd (len ((opn op).name)) 1) 9223372036854775807) <|
          ast (inI rd) <|
          ast (nle (nadd (len (app ((opn op).name) ([32]))) (len (regS rd))) 9223372036854775807) <|
          let x1 := app (app ((opn op).name) ([32])) (regS rd);
          ast (nle (nadd (len x1) 2) 9223372036854775807) <|
          ast (nle (nadd (len (app x1 ([44, 32]))) (len (Lib.itoa n))) 9223372036854775807) <|
          k (.str (app (app x1 ([44, 32])) (Lib.itoa n))))
         (tst (ieq ((opn op).kind) 8)
          (ast (inI n) <|
           ast (nle (nadd (len (Lib.itoa n)) 1) 9223372036854775807) <|
           ast (inI rs1) <|
           ast (nle (nadd (len (app (Lib.itoa n) ([40]))) (len (regS rs1))) 9223372036854775807) <|
           let x0 := app (app (Lib.itoa n) ([40])) (regS rs1);
           ast (nle (nadd (len x0) 1) 9223372036854775807) <|
           ast (nle (nadd (len ((opn op).name)) 1) 9223372036854775807) <|
           ast (inI rd) <|
           ast (nle (nadd (len (app ((opn op).name) ([32]))) (len (regS rd))) 9223372036854775807) <|
           let x1 := app (app ((opn op).name) ([32])) (regS rd);
           ast (nle (nadd (len x1) 2) 9223372036854775807) <|
           ast (inI rs1) <|
           ast (nle (nadd (len (app x1 ([44, 32]))) (len (regS rs1))) 9223372036854775807) <|
           k (.str (app (app x1 ([44, 32])) (regS rs1))))
          (tst (ieq ((opn op).kind) 9)
           (ast (inI n) <|
            ast (nle (nadd (len (Lib.itoa n)) 1) 9223372036854775807) <|
            ast (inI rs1) <|
            ast (nle (nadd (len (app (Lib.itoa n) ([40]))) (len (regS rs1))) 9223372036854775807) <|
            let x0 := app (app (Lib.itoa n) ([40])) (regS rs1);
            ast (nle (nadd (len x0) 1) 9223372036854775807) <|
            k (.str ((opn op).name)))
           (ast (ieq ((opn op).kind) 10) <|
            ast (inI n) <|
            ast (nle (nadd (len (Lib.itoa n)) 1) 9223372036854775807) <|
            ast (inI rs1) <|
            ast (nle (nadd (len (app (Lib.itoa n) ([40]))) (len (regS rs1))) 9223372036854775807) <|
            let x0 := app (app (Lib.itoa n) ([40])) (regS rs1);
            ast (nle (nadd (len x0) 1) 9223372036854775807) <|
            ast (nle (nadd (len ((opn op).name)) 1) 9223372036854775807) <|
            ast (inI rs1) <|
            ast (nle (nadd (len (app ((opn op).name) ([32]))) (len (regS rs1))) 9223372036854775807) <|
            let x1 := app (app ((opn op).name) ([32])) (regS rs1);
            ast (nle (nadd (len x1) 2) 9223372036854775807) <|
            ast (inI rs2) <|
            ast (nle (nadd (len (app x1 ([44, 32]))) (len (regS rs2))) 9223372036854775807) <|
            k (.str (app (app x1 ([44, 32])) (regS rs2)))))))))))))) := by kernel_rfl
noncomputable def cText : PCon := fun args => match args with
  | [.agg [.int .i64 op, .int .i64 rd, .int .i64 rs1, .int .i64 rs2, .int .i64 n]] => [(band (inI rd) (band (inI rs1) (band (inI rs2) (inI n))), .str (textS op rd rs1 rs2 n))]
  | _ => []
theorem text5_con : PConS P (G5 m) 31 cText := fun args v e h => by
  unfold cText at e
  split at e
  · rename_i op rd rs1 rs2 n
    obtain ⟨hb, rfl⟩ := pick_one e
    simp only [band_eq'] at hb
    obtain ⟨h1, h2, h3, h4⟩ := hb
    have l1 := regS_len rd h1
    have l2 := regS_len rs1 h2
    have l3 := regS_len rs2 h3
    have l4 := itoa_len n h4
    have l5 := name_len op
    refine (pure_con (kp_told R52_con .nil) (n := 400) (by
      rw [text5_told]
      unfold textS
      rcases kind_cases op with hk | hk | hk | hk | hk | hk | hk | hk | hk | hk | hk <;>
      · simp only [kst, kast, h1, h2, h3, h4, hk, opsL, plcS, ieq_eq, nle_eq, nadd_eq, len_eq, app_eq, bnot_eq', band_eq', join2, join3, List.length_append, List.length_cons, List.length_nil]
        simp
        try ((repeat' apply And.intro) <;> first | omega | simp [join2, join3])) rfl).toS
  · cases e
noncomputable abbrev R53 : List (FuncId × PCon) := (31, cText) :: R52
theorem R53_con : PConsS P (G5 m) R53 := .cons text5_con R52_con
theorem RefPrint_told {R : Type} (k : LV → Option R) (op rd rs1 rs2 n : Int) : evk P (G5 m) (Kp R53 []) 400 (.call 14 [(.agg [(.int .i64 op), (.int .i64 rd), (.int .i64 rs1), (.int .i64 rs2), (.int .i64 n)])]) (hpOf P []) (obs0 k) =
  (ast (inI n) <|
  tst (bnot (ieq (encE op rd rs1 rs2 n) 0))
  (k (.tup [(.str []), (.int .i64 1)]))
  (ast (band (inI rd) (band (inI rs1) (band (inI rs2) (inI n)))) <|
   k (.tup [(.str (textS op rd rs1 rs2 n)), (.int .i64 0)]))) := by kernel_rfl
theorem RefPrint_con : PConS P (G5 m) 14 cPrint := fun args v e h => by
  unfold cPrint at e
  split at e
  · rename_i op rd rs1 rs2 n
    obtain ⟨hb, rfl⟩ := pick_one e
    have hb' := hb
    simp only [band_eq'] at hb'
    refine (pure_con (kp_told R53_con .nil) (n := 400) (by
      rw [RefPrint_told]
      unfold prS
      have : encE op rd rs1 rs2 n = 0 ∨ encE op rd rs1 rs2 n = 1 := by unfold encE; split <;> simp
      simp only [kst, kast, hb, hb'.2.2.2, ieq_eq, bnot_eq']
      rcases this with he | he
      · simp [he, ieq, band_eq', hb'.1, hb'.2.1, hb'.2.2.1]
      · simp [he, ieq]) rfl).toS
  · cases e
noncomputable abbrev M55 : List (FuncId × PCon) := [(12, cAwake5), (13, cPrint), (14, cPrint)]
theorem M55_con : PConsS P (G5 m) M55 := .cons awake5_con (.cons Print_con (.cons RefPrint_con .nil))
theorem LawPrints_told {R : Type} (k : LV → Option R) (op rd rs1 rs2 n : Int) : evk P (G5 m) (Kp M55 []) 400 (.call 3 [(.agg [(.int .i64 op), (.int .i64 rd), (.int .i64 rs1), (.int .i64 rs2), (.int .i64 n)])]) (hpOf P []) (obs0 k) =
  (ast (band (inI rd) (band (inI rs1) (band (inI rs2) (inI n)))) <|
  ast (band (inI rd) (band (inI rs1) (band (inI rs2) (inI n)))) <|
  let x0 := beqS (prS op rd rs1 rs2 n) (prS op rd rs1 rs2 n);
  tst (x0)
  (let x1 := ieq (encE op rd rs1 rs2 n) (encE op rd rs1 rs2 n);
   k (.bool x1))
  (k (.bool false))) := by kernel_rfl
end
end Go.Proofs.YtbnmhhbncggjkaaGreatDoor
