/- Layer 5: the text of an instruction, by the program. Conditions: none. -/
import Derived.Test.YtbnmhhbncggjkaaGreatDoorK5E
import Derived.Lib.ItoaLen
set_option linter.unusedVariables false
set_option linter.unusedSimpArgs false
namespace Go.Proofs.YtbnmhhbncggjkaaGreatDoor
open Go Eng Go.RowKit
set_option maxRecDepth 1000000
section
variable {m : Int}
noncomputable def cAwake5 : PCon := fun args => match args with | [] => [(true, .bool true)] | _ => []
theorem awake5_con : PConS P (G5 m) 12 cAwake5 := fun args v e h => by
  unfold cAwake5 at e
  split at e
  · obtain ⟨-, rfl⟩ := pick_one e
    exact (pure_con (kp_told M51_con L1_con) (n := 3000) (by rw [Awake_told]) rfl).toS
  · cases e
/-! texts -/
noncomputable def regS (n : Int) : List UInt8 := 99 :: Lib.itoa n
noncomputable def plcS (n r : Int) : List UInt8 := Lib.itoa n ++ 40 :: (regS r ++ [41])
noncomputable def opsL (kd rd rs1 rs2 n : Int) : List (List UInt8) :=
  if kd = 1 then [regS rd, regS rs1, regS rs2]
  else if kd = 2 then [regS rd, regS rs1, Lib.itoa n]
  else if kd = 3 then [regS rd, plcS n rs1]
  else if kd = 4 then [regS rs2, plcS n rs1]
  else if kd = 5 then [regS rs1, regS rs2, Lib.itoa n]
  else if kd = 6 ∨ kd = 7 then [regS rd, Lib.itoa n]
  else if kd = 8 then [regS rd, regS rs1]
  else if kd = 10 then [regS rs1, regS rs2]
  else []
noncomputable def textS (op rd rs1 rs2 n : Int) : List UInt8 := (opn op).name ++ (match opsL (opn op).kind rd rs1 rs2 n with | [] => [] | l => 32 :: Lib.join l [44, 32])
noncomputable def prS (op rd rs1 rs2 n : Int) : List UInt8 := if encE op rd rs1 rs2 n = 0 then textS op rd rs1 rs2 n else []
theorem itoa_len (n : Int) (h : inI n = true) : (Lib.itoa n).length ≤ 21 := by
  rw [inI_eq] at h
  exact Lib.itoa_length_le n h.1 h.2
theorem regS_len (n : Int) (h : inI n = true) : (regS n).length ≤ 22 := by
  have := itoa_len n h
  simp [regS]; omega
theorem name_len (op : Int) : (opn op).name.length ≤ 20 := by
  unfold opn
  split
  · rename_i h
    have hl : (op - 1).toNat < tbl.length := by rw [tbl_length]; omega
    rw [List.getD_eq_getElem?_getD, List.getElem?_eq_getElem hl]
    have : tbl.all (fun o => decide (o.name.length ≤ 20)) = true := by decide +kernel
    have := List.all_eq_true.1 this _ (List.getElem_mem hl)
    simpa using this
  · decide
theorem join2 (a b t : List UInt8) : Lib.join [a, b] t = a ++ (t ++ b) := by simp [Lib.join, List.intercalate]
theorem join3 (a b c t : List UInt8) : Lib.join [a, b, c] t = a ++ (t ++ (b ++ (t ++ c))) := by simp [Lib.join, List.intercalate]
theorem kind_cases (op : Int) : (opn op).kind = 0 ∨ (opn op).kind = 1 ∨ (opn op).kind = 2 ∨ (opn op).kind = 3 ∨ (opn op).kind = 4 ∨ (opn op).kind = 5 ∨ (opn op).kind = 6 ∨ (opn op).kind = 7 ∨ (opn op).kind = 8 ∨ (opn op).kind = 9 ∨ (opn op).kind = 10 := by
  have := kind_bd op
  omega
theorem nadd_eq (a b : Nat) : nadd a b = a + b := rfl
theorem reg_told {R : Type} (k : LV → Option R) (n : Int) : evk P (G5 m) (Kp M51 L1) 400 (.call 73 [(.int .i64 n)]) (hpOf P []) (obs0 k) =
  (ast (inI n) <|
  ast (nle (nadd 1 (len (Lib.itoa n))) 9223372036854775807) <|
  k (.str (app ([99]) (Lib.itoa n)))) := by kernel_rfl
noncomputable def cReg : PCon := fun args => match args with
  | [.int .i64 n] => [(inI n, .str (regS n))]
  | _ => []
theorem reg_con : PConS P (G5 m) 73 cReg := fun args v e h => by
  unfold cReg at e
  split at e
  · rename_i n
    obtain ⟨hb, rfl⟩ := pick_one e
    have hl := itoa_len n hb
    refine (pure_con (kp_told M51_con L1_con) (n := 400) (by
      rw [reg_told]
      simp only [kst, kast, hb, nle_eq, nadd_eq, len_eq, app_eq]
      rw [if_pos trivial, if_pos (by omega)]
      rfl) rfl).toS
  · cases e
noncomputable abbrev M52 : List (FuncId × PCon) := (73, cReg) :: M51
theorem M52_con : PConsS P (G5 m) M52 := .cons reg_con M51_con
theorem Print_told {R : Type} (k : LV → Option R) (op rd rs1 rs2 n : Int) : evk P (G5 m) (Kp M52 L1) 400 (.call 13 [(.agg [(.int .i64 op), (.int .i64 rd), (.int .i64 rs1), (.int .i64 rs2), (.int .i64 n)])]) (hpOf P []) (obs0 k) =
  (ast (inI n) <|
  tst (bnot (ieq (encE op rd rs1 rs2 n) 0))
  (k (.tup [(.str []), (.int .i64 (encE op rd rs1 rs2 n))]))
  (ast (band (inI n) true) <|
   tst (ieq ((opn op).kind) 1)
   (ast (inI rd) <|
    ast (inI rs1) <|
    ast (inI rs2) <|
    ast (nle (len (Lib.join [(regS rd), (regS rs1), (regS rs2)] ([44, 32]))) 140737488355328) <|
    let x0 := Lib.join [(regS rd), (regS rs1), (regS rs2)] ([44, 32]);
    ast (nle (nadd 1 (len x0)) 9223372036854775807) <|
    ast (nle (nadd (len ((opn op).name)) (len (app ([32]) x0))) 9223372036854775807) <|
    k (.tup [(.str (app ((opn op).name) (app ([32]) x0))), (.int .i64 0)]))
   (tst (ieq ((opn op).kind) 2)
    (ast (inI rd) <|
     ast (inI rs1) <|
     ast (nle (len (Lib.join [(regS rd), (regS rs1), (Lib.itoa n)] ([44, 32]))) 140737488355328) <|
     let x0 := Lib.join [(regS rd), (regS rs1), (Lib.itoa n)] ([44, 32]);
     ast (nle (nadd 1 (len x0)) 9223372036854775807) <|
     ast (nle (nadd (len ((opn op).name)) (len (app ([32]) x0))) 9223372036854775807) <|
     k (.tup [(.str (app ((opn op).name) (app ([32]) x0))), (.int .i64 0)]))
    (tst (ieq ((opn op).kind) 3)
     (ast (inI rd) <|
      ast (nle (nadd (len (Lib.itoa n)) 1) 9223372036854775807) <|
      ast (inI rs1) <|
      ast (nle (nadd (len (app (Lib.itoa n) ([40]))) (len (regS rs1))) 9223372036854775807) <|
      let x0 := app (app (Lib.itoa n) ([40])) (regS rs1);
      ast (nle (nadd (len x0) 1) 9223372036854775807) <|
      ast (nle (len (Lib.join [(regS rd), (app x0 ([41]))] ([44, 32]))) 140737488355328) <|
      let x1 := Lib.join [(regS rd), (app x0 ([41]))] ([44, 32]);
      ast (nle (nadd 1 (len x1)) 9223372036854775807) <|
      ast (nle (nadd (len ((opn op).name)) (len (app ([32]) x1))) 9223372036854775807) <|
      k (.tup [(.str (app ((opn op).name) (app ([32]) x1))), (.int .i64 0)]))
     (tst (ieq ((opn op).kind) 4)
      (ast (inI rs2) <|
       ast (nle (nadd (len (Lib.itoa n)) 1) 9223372036854775807) <|
       ast (inI rs1) <|
       ast (nle (nadd (len (app (Lib.itoa n) ([40]))) (len (regS rs1))) 9223372036854775807) <|
       let x0 := app (app (Lib.itoa n) ([40])) (regS rs1);
       ast (nle (nadd (len x0) 1) 9223372036854775807) <|
       ast (nle (len (Lib.join [(regS rs2), (app x0 ([41]))] ([44, 32]))) 140737488355328) <|
       let x1 := Lib.join [(regS rs2), (app x0 ([41]))] ([44, 32]);
       ast (nle (nadd 1 (len x1)) 9223372036854775807) <|
       ast (nle (nadd (len ((opn op).name)) (len (app ([32]) x1))) 9223372036854775807) <|
       k (.tup [(.str (app ((opn op).name) (app ([32]) x1))), (.int .i64 0)]))
      (tst (ieq ((opn op).kind) 5)
       (ast (inI rs1) <|
        ast (inI rs2) <|
        ast (nle (len (Lib.join [(regS rs1), (regS rs2), (Lib.itoa n)] ([44, 32]))) 140737488355328) <|
        let x0 := Lib.join [(regS rs1), (regS rs2), (Lib.itoa n)] ([44, 32]);
        ast (nle (nadd 1 (len x0)) 9223372036854775807) <|
        ast (nle (nadd (len ((opn op).name)) (len (app ([32]) x0))) 9223372036854775807) <|
        k (.tup [(.str (app ((opn op).name) (app ([32]) x0))), (.int .i64 0)]))
       (tst (ieq ((opn op).kind) 6)
        (ast (inI rd) <|
         ast (nle (len (Lib.join [(regS rd), (Lib.itoa n)] ([44, 32]))) 140737488355328) <|
         let x0 := Lib.join [(regS rd), (Lib.itoa n)] ([44, 32]);
         ast (nle (nadd 1 (len x0)) 9223372036854775807) <|
         ast (nle (nadd (len ((opn op).name)) (len (app ([32]) x0))) 9223372036854775807) <|
         k (.tup [(.str (app ((opn op).name) (app ([32]) x0))), (.int .i64 0)]))
        (tst (ieq ((opn op).kind) 7)
         (ast (inI rd) <|
          ast (nle (len (Lib.join [(regS rd), (Lib.itoa n)] ([44, 32]))) 140737488355328) <|
          let x0 := Lib.join [(regS rd), (Lib.itoa n)] ([44, 32]);
          ast (nle (nadd 1 (len x0)) 9223372036854775807) <|
          ast (nle (nadd (len ((opn op).name)) (len (app ([32]) x0))) 9223372036854775807) <|
          k (.tup [(.str (app ((opn op).name) (app ([32]) x0))), (.int .i64 0)]))
         (tst (ieq ((opn op).kind) 8)
          (ast (inI rd) <|
           ast (inI rs1) <|
           ast (nle (len (Lib.join [(regS rd), (regS rs1)] ([44, 32]))) 140737488355328) <|
           let x0 := Lib.join [(regS rd), (regS rs1)] ([44, 32]);
           ast (nle (nadd 1 (len x0)) 9223372036854775807) <|
           ast (nle (nadd (len ((opn op).name)) (len (app ([32]) x0))) 9223372036854775807) <|
           k (.tup [(.str (app ((opn op).name) (app ([32]) x0))), (.int .i64 0)]))
          (tst (ieq ((opn op).kind) 10)
           (ast (inI rs1) <|
            ast (inI rs2) <|
            ast (nle (len (Lib.join [(regS rs1), (regS rs2)] ([44, 32]))) 140737488355328) <|
            let x0 := Lib.join [(regS rs1), (regS rs2)] ([44, 32]);
            ast (nle (nadd 1 (len x0)) 9223372036854775807) <|
            ast (nle (nadd (len ((opn op).name)) (len (app ([32]) x0))) 9223372036854775807) <|
            k (.tup [(.str (app ((opn op).name) (app ([32]) x0))), (.int .i64 0)]))
           (k (.tup [(.str ((opn op).name)), (.int .i64 0)])))))))))))) := by kernel_rfl
noncomputable def inst5 (rd rs1 rs2 n : Int) : Bool := band (inI rd) (band (inI rs1) (band (inI rs2) (inI n)))
noncomputable def cPrint : PCon := fun args => match args with
  | [.agg [.int .i64 op, .int .i64 rd, .int .i64 rs1, .int .i64 rs2, .int .i64 n]] => [(band (inI rd) (band (inI rs1) (band (inI rs2) (inI n))), .tup [.str (prS op rd rs1 rs2 n), .int .i64 (encE op rd rs1 rs2 n)])]
  | _ => []
theorem Print_con : PConS P (G5 m) 13 cPrint := fun args v e h => by
  unfold cPrint at e
  split at e
  · rename_i op rd rs1 rs2 n
    obtain ⟨hb, rfl⟩ := pick_one e
    simp only [band_eq'] at hb
    obtain ⟨h1, h2, h3, h4⟩ := hb
    have l1 := regS_len rd h1
    have l2 := regS_len rs1 h2
    have l3 := regS_len rs2 h3
    have l4 := itoa_len n h4
    have l5 := name_len op
    have i0 : ieq (0 : Int) 0 = true := rfl
    refine (pure_con (kp_told M52_con L1_con) (n := 400) (by
      rw [Print_told]
      unfold prS
      by_cases he : encE op rd rs1 rs2 n = 0
      · unfold textS
        rcases kind_cases op with hk | hk | hk | hk | hk | hk | hk | hk | hk | hk | hk <;>
        · simp only [kst, kast, h1, h2, h3, h4, he, hk, opsL, plcS, ieq_eq, nle_eq, nadd_eq, len_eq, app_eq, bnot_eq', band_eq', join2, join3, List.length_append, List.length_cons, List.length_nil]
          simp [i0]
          try ((repeat' apply And.intro) <;> first | omega | simp [join2, join3])
      · simp [kst, kast, h4, he, ieq_eq, bnot_eq', ieq]) rfl).toS
  · cases e
end
end Go.Proofs.YtbnmhhbncggjkaaGreatDoor
