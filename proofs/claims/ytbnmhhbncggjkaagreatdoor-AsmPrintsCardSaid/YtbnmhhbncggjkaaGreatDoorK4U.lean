/- Layer 4's reference: contracts of Encode, Find, Decode. Conditions: none. -/
import Derived.Test.YtbnmhhbncggjkaaGreatDoorK4T
set_option linter.unusedVariables false
set_option linter.unusedSectionVars false
set_option linter.unusedSimpArgs false
namespace Go.Proofs.YtbnmhhbncggjkaaGreatDoor
open Go Eng
set_option maxRecDepth 1000000
def W0 : List Int := List.replicate 32 0
noncomputable def zW : List LV := wL W0
theorem W0_len : W0.length = 32 := rfl
theorem W0_get (j : Nat) : W0.getD j 0 = 0 := by
  rw [List.getD_eq_getElem?_getD]
  by_cases h : j < 32
  · rw [W0, List.getElem?_replicate, if_pos h]; rfl
  · rw [List.getElem?_eq_none (by rw [W0_len]; omega)]; rfl
theorem W0_bits : isBits W0 := fun b hb => .inl (List.eq_of_mem_replicate hb)
theorem zW_w : isW zW = true := decide_eq_true ⟨rfl, wL_top W0⟩
theorem RefEncode_told {R : Type} (k : LV → Option R) (op rd rs1 rs2 n : Int) : evk P G0 (Ko R4) 400 (.call 24 [(.agg [(.int .i64 op), (.int .i64 rd), (.int .i64 rs1), (.int .i64 rs2), (.int .i64 n)])]) (hpOf P []) (obs0 k) =
  (ast (inI n) <|
  tst (bnot (encB op rd rs1 rs2 n))
  (k (.tup [(.int .u32 0), (.int .i64 1)]))
  (tst (ieq ((opn op).kind) 0)
   (ast (band (layOk zW 0 7 0) (inI ((opn op).code))) <|
    let x0 := layC zW ((opn op).code) 0 7 0;
    ast (neq 32 (len x0)) <|
    ast (neq (len x0) 32) <|
    ast (nle (topL x0) 2) <|
    ast (neq (len x0) 32) <|
    ast (band (layOk x0 0 3 12) (inI ((opn op).f3))) <|
    ast (neq 32 (len (layC x0 ((opn op).f3) 0 3 12))) <|
    ast (neq (len (layC x0 ((opn op).f3) 0 3 12)) (len x0)) <|
    ast (nle (topL (layC x0 ((opn op).f3) 0 3 12)) 2) <|
    ast (neq (len (layC x0 ((opn op).f3) 0 3 12)) 32) <|
    ast (band (restOk (layC x0 ((opn op).f3) 0 3 12) ⟨((opn op).name), 0, ((opn op).code), ((opn op).f3), ((opn op).f7), ((opn op).shift)⟩) (inI n)) <|
    let x1 := restC (layC x0 ((opn op).f3) 0 3 12) ⟨((opn op).name), 0, ((opn op).code), ((opn op).f3), ((opn op).f7), ((opn op).shift)⟩ n;
    ast (neq 32 (len x1)) <|
    ast (neq (len x1) (len (layC x0 ((opn op).f3) 0 3 12))) <|
    ast (nle (topL x1) 2) <|
    ast (neq (len x1) 32) <|
    ast (bitsOk x1) <|
    k (.tup [(.int .u32 (valC x1)), (.int .i64 0)]))
   (tst (ieq ((opn op).kind) 1)
    (ast (band (layOk zW 0 7 0) (inI ((opn op).code))) <|
     let x0 := layC zW ((opn op).code) 0 7 0;
     ast (neq 32 (len x0)) <|
     ast (neq (len x0) 32) <|
     ast (nle (topL x0) 2) <|
     ast (neq (len x0) 32) <|
     ast (band (layOk x0 0 3 12) (inI ((opn op).f3))) <|
     ast (neq 32 (len (layC x0 ((opn op).f3) 0 3 12))) <|
     ast (neq (len (layC x0 ((opn op).f3) 0 3 12)) (len x0)) <|
     ast (nle (topL (layC x0 ((opn op).f3) 0 3 12)) 2) <|
     ast (neq (len (layC x0 ((opn op).f3) 0 3 12)) 32) <|
     ast (band (layOk (layC x0 ((opn op).f3) 0 3 12) 0 5 7) (inI rd)) <|
     let x1 := layC (layC x0 ((opn op).f3) 0 3 12) rd 0 5 7;
     ast (neq 32 (len x1)) <|
     ast (neq (len x1) (len (layC x0 ((opn op).f3) 0 3 12))) <|
     ast (nle (topL x1) 2) <|
     ast (neq (len x1) 32) <|
     ast (band (layOk x1 0 5 15) (inI rs1)) <|
     ast (neq 32 (len (layC x1 rs1 0 5 15))) <|
     ast (neq (len (layC x1 rs1 0 5 15)) (len x1)) <|
     ast (nle (topL (layC x1 rs1 0 5 15)) 2) <|
     ast (neq (len (layC x1 rs1 0 5 15)) 32) <|
     ast (band (layOk (layC x1 rs1 0 5 15) 0 5 20) (inI rs2)) <|
     ast (neq 32 (len (layC (layC x1 rs1 0 5 15) rs2 0 5 20))) <|
     ast (neq (len (layC (layC x1 rs1 0 5 15) rs2 0 5 20)) (len (layC x1 rs1 0 5 15))) <|
     ast (nle (topL (layC (layC x1 rs1 0 5 15) rs2 0 5 20)) 2) <|
     ast (neq (len (layC (layC x1 rs1 0 5 15) rs2 0 5 20)) 32) <|
     ast (band (restOk (layC (layC x1 rs1 0 5 15) rs2 0 5 20) ⟨((opn op).name), 1, ((opn op).code), ((opn op).f3), ((opn op).f7), ((opn op).shift)⟩) (inI n)) <|
     let x2 := restC (layC (layC x1 rs1 0 5 15) rs2 0 5 20) ⟨((opn op).name), 1, ((opn op).code), ((opn op).f3), ((opn op).f7), ((opn op).shift)⟩ n;
     ast (neq 32 (len x2)) <|
     ast (neq (len x2) (len (layC (layC x1 rs1 0 5 15) rs2 0 5 20))) <|
     ast (nle (topL x2) 2) <|
     ast (neq (len x2) 32) <|
     ast (bitsOk x2) <|
     k (.tup [(.int .u32 (valC x2)), (.int .i64 0)]))
    (tst (ieq ((opn op).kind) 2)
     (ast (band (layOk zW 0 7 0) (inI ((opn op).code))) <|
      let x0 := layC zW ((opn op).code) 0 7 0;
      ast (neq 32 (len x0)) <|
      ast (neq (len x0) 32) <|
      ast (nle (topL x0) 2) <|
      ast (neq (len x0) 32) <|
      ast (band (layOk x0 0 3 12) (inI ((opn op).f3))) <|
      ast (neq 32 (len (layC x0 ((opn op).f3) 0 3 12))) <|
      ast (neq (len (layC x0 ((opn op).f3) 0 3 12)) (len x0)) <|
      ast (nle (topL (layC x0 ((opn op).f3) 0 3 12)) 2) <|
      ast (neq (len (layC x0 ((opn op).f3) 0 3 12)) 32) <|
      ast (band (layOk (layC x0 ((opn op).f3) 0 3 12) 0 5 7) (inI rd)) <|
      let x1 := layC (layC x0 ((opn op).f3) 0 3 12) rd 0 5 7;
      ast (neq 32 (len x1)) <|
      ast (neq (len x1) (len (layC x0 ((opn op).f3) 0 3 12))) <|
      ast (nle (topL x1) 2) <|
      ast (neq (len x1) 32) <|
      ast (band (layOk x1 0 5 15) (inI rs1)) <|
      ast (neq 32 (len (layC x1 rs1 0 5 15))) <|
      ast (neq (len (layC x1 rs1 0 5 15)) (len x1)) <|
      ast (nle (topL (layC x1 rs1 0 5 15)) 2) <|
      ast (neq (len (layC x1 rs1 0 5 15)) 32) <|
      ast (band (restOk (layC x1 rs1 0 5 15) ⟨((opn op).name), 2, ((opn op).code), ((opn op).f3), ((opn op).f7), ((opn op).shift)⟩) (inI n)) <|
      let x2 := restC (layC x1 rs1 0 5 15) ⟨((opn op).name), 2, ((opn op).code), ((opn op).f3), ((opn op).f7), ((opn op).shift)⟩ n;
      ast (neq 32 (len x2)) <|
      ast (neq (len x2) (len (layC x1 rs1 0 5 15))) <|
      ast (nle (topL x2) 2) <|
      ast (neq (len x2) 32) <|
      ast (bitsOk x2) <|
      k (.tup [(.int .u32 (valC x2)), (.int .i64 0)]))
     (tst (ieq ((opn op).kind) 3)
      (ast (band (layOk zW 0 7 0) (inI ((opn op).code))) <|
       let x0 := layC zW ((opn op).code) 0 7 0;
       ast (neq 32 (len x0)) <|
       ast (neq (len x0) 32) <|
       ast (nle (topL x0) 2) <|
       ast (neq (len x0) 32) <|
       ast (band (layOk x0 0 3 12) (inI ((opn op).f3))) <|
       ast (neq 32 (len (layC x0 ((opn op).f3) 0 3 12))) <|
       ast (neq (len (layC x0 ((opn op).f3) 0 3 12)) (len x0)) <|
       ast (nle (topL (layC x0 ((opn op).f3) 0 3 12)) 2) <|
       ast (neq (len (layC x0 ((opn op).f3) 0 3 12)) 32) <|
       ast (band (layOk (layC x0 ((opn op).f3) 0 3 12) 0 5 7) (inI rd)) <|
       let x1 := layC (layC x0 ((opn op).f3) 0 3 12) rd 0 5 7;
       ast (neq 32 (len x1)) <|
       ast (neq (len x1) (len (layC x0 ((opn op).f3) 0 3 12))) <|
       ast (nle (topL x1) 2) <|
       ast (neq (len x1) 32) <|
       ast (band (layOk x1 0 5 15) (inI rs1)) <|
       ast (neq 32 (len (layC x1 rs1 0 5 15))) <|
       ast (neq (len (layC x1 rs1 0 5 15)) (len x1)) <|
       ast (nle (topL (layC x1 rs1 0 5 15)) 2) <|
       ast (neq (len (layC x1 rs1 0 5 15)) 32) <|
       ast (band (restOk (layC x1 rs1 0 5 15) ⟨((opn op).name), 3, ((opn op).code), ((opn op).f3), ((opn op).f7), ((opn op).shift)⟩) (inI n)) <|
       let x2 := restC (layC x1 rs1 0 5 15) ⟨((opn op).name), 3, ((opn op).code), ((opn op).f3), ((opn op).f7), ((opn op).shift)⟩ n;
       ast (neq 32 (len x2)) <|
       ast (neq (len x2) (len (layC x1 rs1 0 5 15))) <|
       ast (nle (topL x2) 2) <|
       ast (neq (len x2) 32) <|
       ast (bitsOk x2) <|
       k (.tup [(.int .u32 (valC x2)), (.int .i64 0)]))
      (tst (ieq ((opn op).kind) 4)
       (ast (band (layOk zW 0 7 0) (inI ((opn op).code))) <|
        let x0 := layC zW ((opn op).code) 0 7 0;
        ast (neq 32 (len x0)) <|
        ast (neq (len x0) 32) <|
        ast (nle (topL x0) 2) <|
        ast (neq (len x0) 32) <|
        ast (band (layOk x0 0 3 12) (inI ((opn op).f3))) <|
        ast (neq 32 (len (layC x0 ((opn op).f3) 0 3 12))) <|
        ast (neq (len (layC x0 ((opn op).f3) 0 3 12)) (len x0)) <|
        ast (nle (topL (layC x0 ((opn op).f3) 0 3 12)) 2) <|
        ast (neq (len (layC x0 ((opn op).f3) 0 3 12)) 32) <|
        ast (band (layOk (layC x0 ((opn op).f3) 0 3 12) 0 5 15) (inI rs1)) <|
        let x1 := layC (layC x0 ((opn op).f3) 0 3 12) rs1 0 5 15;
        ast (neq 32 (len x1)) <|
        ast (neq (len x1) (len (layC x0 ((opn op).f3) 0 3 12))) <|
        ast (nle (topL x1) 2) <|
        ast (neq (len x1) 32) <|
        ast (band (layOk x1 0 5 20) (inI rs2)) <|
        ast (neq 32 (len (layC x1 rs2 0 5 20))) <|
        ast (neq (len (layC x1 rs2 0 5 20)) (len x1)) <|
        ast (nle (topL (layC x1 rs2 0 5 20)) 2) <|
        ast (neq (len (layC x1 rs2 0 5 20)) 32) <|
        ast (band (restOk (layC x1 rs2 0 5 20) ⟨((opn op).name), 4, ((opn op).code), ((opn op).f3), ((opn op).f7), ((opn op).shift)⟩) (inI n)) <|
        let x2 := restC (layC x1 rs2 0 5 20) ⟨((opn op).name), 4, ((opn op).code), ((opn op).f3), ((opn op).f7), ((opn op).shift)⟩ n;
        ast (neq 32 (len x2)) <|
        ast (neq (len x2) (len (layC x1 rs2 0 5 20))) <|
        ast (nle (topL x2) 2) <|
        ast (neq (len x2) 32) <|
        ast (bitsOk x2) <|
        k (.tup [(.int .u32 (valC x2)), (.int .i64 0)]))
       (tst (ieq ((opn op).kind) 5)
        (ast (band (layOk zW 0 7 0) (inI ((opn op).code))) <|
         let x0 := layC zW ((opn op).code) 0 7 0;
         ast (neq 32 (len x0)) <|
         ast (neq (len x0) 32) <|
         ast (nle (topL x0) 2) <|
         ast (neq (len x0) 32) <|
         ast (band (layOk x0 0 3 12) (inI ((opn op).f3))) <|
         ast (neq 32 (len (layC x0 ((opn op).f3) 0 3 12))) <|
         ast (neq (len (layC x0 ((opn op).f3) 0 3 12)) (len x0)) <|
         ast (nle (topL (layC x0 ((opn op).f3) 0 3 12)) 2) <|
         ast (neq (len (layC x0 ((opn op).f3) 0 3 12)) 32) <|
         ast (band (layOk (layC x0 ((opn op).f3) 0 3 12) 0 5 15) (inI rs1)) <|
         let x1 := layC (layC x0 ((opn op).f3) 0 3 12) rs1 0 5 15;
         ast (neq 32 (len x1)) <|
         ast (neq (len x1) (len (layC x0 ((opn op).f3) 0 3 12))) <|
         ast (nle (topL x1) 2) <|
         ast (neq (len x1) 32) <|
         ast (band (layOk x1 0 5 20) (inI rs2)) <|
         ast (neq 32 (len (layC x1 rs2 0 5 20))) <|
         ast (neq (len (layC x1 rs2 0 5 20)) (len x1)) <|
         ast (nle (topL (layC x1 rs2 0 5 20)) 2) <|
         ast (neq (len (layC x1 rs2 0 5 20)) 32) <|
         ast (band (restOk (layC x1 rs2 0 5 20) ⟨((opn op).name), 5, ((opn op).code), ((opn op).f3), ((opn op).f7), ((opn op).shift)⟩) (inI n)) <|
         let x2 := restC (layC x1 rs2 0 5 20) ⟨((opn op).name), 5, ((opn op).code), ((opn op).f3), ((opn op).f7), ((opn op).shift)⟩ n;
         ast (neq 32 (len x2)) <|
         ast (neq (len x2) (len (layC x1 rs2 0 5 20))) <|
         ast (nle (topL x2) 2) <|
         ast (neq (len x2) 32) <|
         ast (bitsOk x2) <|
         k (.tup [(.int .u32 (valC x2)), (.int .i64 0)]))
        (tst (ieq ((opn op).kind) 6)
         (ast (band (layOk zW 0 7 0) (inI ((opn op).code))) <|
          let x0 := layC zW ((opn op).code) 0 7 0;
          ast (neq 32 (len x0)) <|
          ast (neq (len x0) 32) <|
          ast (nle (topL x0) 2) <|
          ast (neq (len x0) 32) <|
          ast (band (layOk x0 0 5 7) (inI rd)) <|
          ast (neq 32 (len (layC x0 rd 0 5 7))) <|
          ast (neq (len (layC x0 rd 0 5 7)) (len x0)) <|
          ast (nle (topL (layC x0 rd 0 5 7)) 2) <|
          ast (neq (len (layC x0 rd 0 5 7)) 32) <|
          ast (band (restOk (layC x0 rd 0 5 7) ⟨((opn op).name), 6, ((opn op).code), ((opn op).f3), ((opn op).f7), ((opn op).shift)⟩) (inI n)) <|
          let x1 := restC (layC x0 rd 0 5 7) ⟨((opn op).name), 6, ((opn op).code), ((opn op).f3), ((opn op).f7), ((opn op).shift)⟩ n;
          ast (neq 32 (len x1)) <|
          ast (neq (len x1) (len (layC x0 rd 0 5 7))) <|
          ast (nle (topL x1) 2) <|
          ast (neq (len x1) 32) <|
          ast (bitsOk x1) <|
          k (.tup [(.int .u32 (valC x1)), (.int .i64 0)]))
         (tst (ieq ((opn op).kind) 7)
          (ast (band (layOk zW 0 7 0) (inI ((opn op).code))) <|
           let x0 := layC zW ((opn op).code) 0 7 0;
           ast (neq 32 (len x0)) <|
           ast (neq (len x0) 32) <|
           ast (nle (topL x0) 2) <|
           ast (neq (len x0) 32) <|
           ast (band (layOk x0 0 5 7) (inI rd)) <|
           ast (neq 32 (len (layC x0 rd 0 5 7))) <|
           ast (neq (len (layC x0 rd 0 5 7)) (len x0)) <|
           ast (nle (topL (layC x0 rd 0 5 7)) 2) <|
           ast (neq (len (layC x0 rd 0 5 7)) 32) <|
           ast (band (restOk (layC x0 rd 0 5 7) ⟨((opn op).name), 7, ((opn op).code), ((opn op).f3), ((opn op).f7), ((opn op).shift)⟩) (inI n)) <|
           let x1 := restC (layC x0 rd 0 5 7) ⟨((opn op).name), 7, ((opn op).code), ((opn op).f3), ((opn op).f7), ((opn op).shift)⟩ n;
           ast (neq 32 (len x1)) <|
           ast (neq (len x1) (len (layC x0 rd 0 5 7))) <|
           ast (nle (topL x1) 2) <|
           ast (neq (len x1) 32) <|
           ast (bitsOk x1) <|
           k (.tup [(.int .u32 (valC x1)), (.int .i64 0)]))
          (tst (ieq ((opn op).kind) 8)
           (ast (band (layOk zW 0 7 0) (inI ((opn op).code))) <|
            let x0 := layC zW ((opn op).code) 0 7 0;
            ast (neq 32 (len x0)) <|
            ast (neq (len x0) 32) <|
            ast (nle (topL x0) 2) <|
            ast (neq (len x0) 32) <|
            ast (band (layOk x0 0 3 12) (inI ((opn op).f3))) <|
            ast (neq 32 (len (layC x0 ((opn op).f3) 0 3 12))) <|
            ast (neq (len (layC x0 ((opn op).f3) 0 3 12)) (len x0)) <|
            ast (nle (topL (layC x0 ((opn op).f3) 0 3 12)) 2) <|
            ast (neq (len (layC x0 ((opn op).f3) 0 3 12)) 32) <|
            ast (band (layOk (layC x0 ((opn op).f3) 0 3 12) 0 5 7) (inI rd)) <|
            let x1 := layC (layC x0 ((opn op).f3) 0 3 12) rd 0 5 7;
            ast (neq 32 (len x1)) <|
            ast (neq (len x1) (len (layC x0 ((opn op).f3) 0 3 12))) <|
            ast (nle (topL x1) 2) <|
            ast (neq (len x1) 32) <|
            ast (band (layOk x1 0 5 15) (inI rs1)) <|
            ast (neq 32 (len (layC x1 rs1 0 5 15))) <|
            ast (neq (len (layC x1 rs1 0 5 15)) (len x1)) <|
            ast (nle (topL (layC x1 rs1 0 5 15)) 2) <|
            ast (neq (len (layC x1 rs1 0 5 15)) 32) <|
            ast (band (restOk (layC x1 rs1 0 5 15) ⟨((opn op).name), 8, ((opn op).code), ((opn op).f3), ((opn op).f7), ((opn op).shift)⟩) (inI n)) <|
            let x2 := restC (layC x1 rs1 0 5 15) ⟨((opn op).name), 8, ((opn op).code), ((opn op).f3), ((opn op).f7), ((opn op).shift)⟩ n;
            ast (neq 32 (len x2)) <|
            ast (neq (len x2) (len (layC x1 rs1 0 5 15))) <|
            ast (nle (topL x2) 2) <|
            ast (neq (len x2) 32) <|
            ast (bitsOk x2) <|
            k (.tup [(.int .u32 (valC x2)), (.int .i64 0)]))
           (tst (ieq ((opn op).kind) 9)
            (ast (band (layOk zW 0 7 0) (inI ((opn op).code))) <|
             let x0 := layC zW ((opn op).code) 0 7 0;
             ast (neq 32 (len x0)) <|
             ast (neq (len x0) 32) <|
             ast (nle (topL x0) 2) <|
             ast (neq (len x0) 32) <|
             ast (band (layOk x0 0 3 12) (inI ((opn op).f3))) <|
             ast (neq 32 (len (layC x0 ((opn op).f3) 0 3 12))) <|
             ast (neq (len (layC x0 ((opn op).f3) 0 3 12)) (len x0)) <|
             ast (nle (topL (layC x0 ((opn op).f3) 0 3 12)) 2) <|
             ast (neq (len (layC x0 ((opn op).f3) 0 3 12)) 32) <|
             ast (band (restOk (layC x0 ((opn op).f3) 0 3 12) ⟨((opn op).name), 9, ((opn op).code), ((opn op).f3), ((opn op).f7), ((opn op).shift)⟩) (inI n)) <|
             let x1 := restC (layC x0 ((opn op).f3) 0 3 12) ⟨((opn op).name), 9, ((opn op).code), ((opn op).f3), ((opn op).f7), ((opn op).shift)⟩ n;
             ast (neq 32 (len x1)) <|
             ast (neq (len x1) (len (layC x0 ((opn op).f3) 0 3 12))) <|
             ast (nle (topL x1) 2) <|
             ast (neq (len x1) 32) <|
             ast (bitsOk x1) <|
             k (.tup [(.int .u32 (valC x1)), (.int .i64 0)]))
            (ast (ieq ((opn op).kind) 10) <|
             ast (band (layOk zW 0 7 0) (inI ((opn op).code))) <|
             let x0 := layC zW ((opn op).code) 0 7 0;
             ast (neq 32 (len x0)) <|
             ast (neq (len x0) 32) <|
             ast (nle (topL x0) 2) <|
             ast (neq (len x0) 32) <|
             ast (band (layOk x0 0 3 12) (inI ((opn op).f3))) <|
             ast (neq 32 (len (layC x0 ((opn op).f3) 0 3 12))) <|
             ast (neq (len (layC x0 ((opn op).f3) 0 3 12)) (len x0)) <|
             ast (nle (topL (layC x0 ((opn op).f3) 0 3 12)) 2) <|
             ast (neq (len (layC x0 ((opn op).f3) 0 3 12)) 32) <|
             ast (band (layOk (layC x0 ((opn op).f3) 0 3 12) 0 5 15) (inI rs1)) <|
             let x1 := layC (layC x0 ((opn op).f3) 0 3 12) rs1 0 5 15;
             ast (neq 32 (len x1)) <|
             ast (neq (len x1) (len (layC x0 ((opn op).f3) 0 3 12))) <|
             ast (nle (topL x1) 2) <|
             ast (neq (len x1) 32) <|
             ast (band (layOk x1 0 5 20) (inI rs2)) <|
             ast (neq 32 (len (layC x1 rs2 0 5 20))) <|
             ast (neq (len (layC x1 rs2 0 5 20)) (len x1)) <|
             ast (nle (topL (layC x1 rs2 0 5 20)) 2) <|
             ast (neq (len (layC x1 rs2 0 5 20)) 32) <|
             ast (band (restOk (layC x1 rs2 0 5 20) ⟨((opn op).name), 10, ((opn op).code), ((opn op).f3), ((opn op).f7), ((opn op).shift)⟩) (inI n)) <|
             let x2 := restC (layC x1 rs2 0 5 20) ⟨((opn op).name), 10, ((opn op).code), ((opn op).f3), ((opn op).f7), ((opn op).shift)⟩ n;
             ast (neq 32 (len x2)) <|
             ast (neq (len x2) (len (layC x1 rs2 0 5 20))) <|
             ast (nle (topL x2) 2) <|
             ast (neq (len x2) 32) <|
             ast (bitsOk x2) <|
             k (.tup [(.int .u32 (valC x2)), (.int .i64 0)]))))))))))))) := by kernel_rfl
/-- A word that is right, and its number. -/
def Is (c : List LV) (v : Int) : Prop := bitsOk c = true ∧ valC c = v
theorem Is_wL {w : List Int} (h : isBits w) (hl : w.length = 32) : Is (wL w) (val w) := ⟨bitsOk_wL w h hl, valC_wL w h⟩
theorem restC_1 {o : Opn} (h : o.kind = 1) (c : List LV) (n : Int) : restC c o n = layC c o.f7 0 7 25 := by unfold restC; rw [if_pos h]
theorem restC_26 {o : Opn} (h : o.kind = 2) (hs : o.shift = 6) (c : List LV) (n : Int) : restC c o n = layC (layC c n 0 6 20) o.f7 0 6 26 := by unfold restC; rw [if_neg (by omega), if_pos (by omega), if_pos hs]
theorem restC_25 {o : Opn} (h : o.kind = 2) (hs : o.shift = 5) (c : List LV) (n : Int) : restC c o n = layC (layC c n 0 5 20) o.f7 0 7 25 := by unfold restC; rw [if_neg (by omega), if_pos (by omega), if_neg (by omega), if_pos hs]
theorem restC_2 {o : Opn} (h : o.kind = 2 ∨ o.kind = 3) (hs : o.shift = 0) (c : List LV) (n : Int) : restC c o n = layC c n 0 12 20 := by unfold restC; rw [if_neg (by omega), if_pos h, if_neg (by omega), if_neg (by omega)]
theorem restC_4 {o : Opn} (h : o.kind = 4) (c : List LV) (n : Int) : restC c o n = layC (layC c n 0 5 7) n 5 7 25 := by unfold restC; rw [if_neg (by omega), if_neg (by omega), if_pos h]
theorem restC_5 {o : Opn} (h : o.kind = 5) (c : List LV) (n : Int) : restC c o n = layC (layC (layC (layC c n 12 1 31) n 5 6 25) n 1 4 8) n 11 1 7 := by unfold restC; rw [if_neg (by omega), if_neg (by omega), if_neg (by omega), if_pos h]
theorem restC_6 {o : Opn} (h : o.kind = 6) (c : List LV) (n : Int) : restC c o n = layC c n 12 20 12 := by unfold restC; rw [if_neg (by omega), if_neg (by omega), if_neg (by omega), if_neg (by omega), if_pos h]
theorem restC_7 {o : Opn} (h : o.kind = 7) (c : List LV) (n : Int) : restC c o n = layC (layC (layC (layC c n 20 1 31) n 1 10 21) n 11 1 20) n 12 8 12 := by unfold restC; rw [if_neg (by omega), if_neg (by omega), if_neg (by omega), if_neg (by omega), if_neg (by omega), if_pos h]
theorem restC_8 {o : Opn} (h : o.kind = 8) (c : List LV) (n : Int) : restC c o n = layC (layC c o.f7 0 5 20) 127 0 7 25 := by unfold restC; rw [if_neg (by omega), if_neg (by omega), if_neg (by omega), if_neg (by omega), if_neg (by omega), if_neg (by omega), if_pos h]
theorem restC_10 {o : Opn} (h : o.kind = 10) (c : List LV) (n : Int) : restC c o n = layC (layC c 1 0 5 7) o.f7 0 7 25 := by unfold restC; rw [if_neg (by omega), if_neg (by omega), if_neg (by omega), if_neg (by omega), if_neg (by omega), if_neg (by omega), if_neg (by omega), if_pos h]
theorem restC_9 {o : Opn} (h : o.kind = 9) (c : List LV) (n : Int) : restC c o n = layC c o.f7 0 12 20 := by unfold restC; rw [if_neg (by omega), if_neg (by omega), if_neg (by omega), if_neg (by omega), if_neg (by omega), if_neg (by omega), if_neg (by omega), if_neg (by omega)]
/-- Parts laid one after the other, the last one first. -/
def lays : List (Int × Nat × Nat × Nat) → List Int
  | [] => W0
  | (n, f, m, t) :: l => lay (lays l) n f m t
def sumL : List (Int × Nat × Nat × Nat) → Int
  | [] => 0
  | (n, f, m, t) :: l => sumL l + n / 2 ^ f % 2 ^ m * 2 ^ t
def offB (m t : Nat) : List (Int × Nat × Nat × Nat) → Bool
  | [] => true
  | (_, _, m', t') :: l => (Nat.ble (t + m) t' || Nat.ble (t' + m') t) && offB m t l
def disjB : List (Int × Nat × Nat × Nat) → Bool
  | [] => true
  | (_, _, m, t) :: l => Nat.ble (t + m) 32 && offB m t l && disjB l
theorem lays_len : ∀ l, (lays l).length = 32
  | [] => rfl
  | (n, f, m, t) :: l => by rw [lays, lay_length, lays_len l]
theorem lays_bits : ∀ l, isBits (lays l)
  | [] => W0_bits
  | (n, f, m, t) :: l => lay_bits _ _ _ _ _ (lays_bits l)
theorem lays_zero {m t : Nat} {j : Nat} (h1 : t ≤ j) (h2 : j < t + m) : ∀ l, offB m t l = true → (lays l).getD j 0 = 0
  | [], _ => W0_get j
  | (n, f, m', t') :: l, h => by
    simp only [offB, Bool.and_eq_true, Bool.or_eq_true, Nat.ble_eq] at h
    rw [lays, lay_getD _ _ _ _ _ _ (by omega)]
    exact lays_zero h1 h2 l h.2
theorem lays_val : ∀ l, disjB l = true → val (lays l) = sumL l
  | [], _ => rfl
  | (n, f, m, t) :: l, h => by
    simp only [disjB, Bool.and_eq_true, Nat.ble_eq] at h
    rw [lays, val_lay _ _ _ _ _ (by rw [lays_len]; exact h.1.1) (fun j h1 h2 => lays_zero h1 h2 l h.1.2), lays_val l h.2]
    rfl
theorem Is_lays (l : List (Int × Nat × Nat × Nat)) (h : disjB l = true) : Is (wL (lays l)) (sumL l) := by
  have := Is_wL (lays_bits l) (lays_len l)
  rwa [lays_val l h] at this
section
variable (o : Opn) (ho : o.ok) (n rd rs1 rs2 : Int) (b1 : 0 ≤ rd ∧ rd ≤ 31) (b2 : 0 ≤ rs1 ∧ rs1 ≤ 31) (b3 : 0 ≤ rs2 ∧ rs2 ≤ 31)
include ho b1 b2 b3
theorem word_1 (h : o.kind = 1) : Is (restC (layC (layC (layC (layC (layC zW o.code 0 7 0) o.f3 0 3 12) rd 0 5 7) rs1 0 5 15) rs2 0 5 20) o n) (laidN o n + rd * 128 + rs1 * 32768 + rs2 * 1048576) := by
  obtain ⟨k0, k1, c0, c1, f0, f1, g0, g1, s0, s1, s6, k2, k6, k8⟩ := ho
  rw [restC_1 h]
  simp only [zW, layC_wL, Int.reduceToNat]
  have hv := Is_lays [(o.f7, 0, 7, 25), (rs2, 0, 5, 20), (rs1, 0, 5, 15), (rd, 0, 5, 7), (o.f3, 0, 3, 12), (o.code, 0, 7, 0)] rfl
  simp only [lays, sumL] at hv
  refine ⟨hv.1, hv.2.trans ?_⟩
  simp only [Int.pow_zero, Int.reducePow, Int.ediv_one, Int.mul_one]
  unfold laidN restN
  simp only [h, Int.reduceEq, if_true, if_false, false_or, or_false, or_true, true_or]
  omega
theorem word_26 (h : o.kind = 2) (hs : o.shift = 6) (hn : 0 ≤ n ∧ n < 64) (zrs2 : rs2 = 0) : Is (restC (layC (layC (layC (layC zW o.code 0 7 0) o.f3 0 3 12) rd 0 5 7) rs1 0 5 15) o n) (laidN o n + rd * 128 + rs1 * 32768 + rs2 * 1048576) := by
  obtain ⟨k0, k1, c0, c1, f0, f1, g0, g1, s0, s1, s6, k2, k6, k8⟩ := ho
  rw [restC_26 h hs]
  simp only [zW, layC_wL, Int.reduceToNat]
  have hv := Is_lays [(o.f7, 0, 6, 26), (n, 0, 6, 20), (rs1, 0, 5, 15), (rd, 0, 5, 7), (o.f3, 0, 3, 12), (o.code, 0, 7, 0)] rfl
  simp only [lays, sumL] at hv
  refine ⟨hv.1, hv.2.trans ?_⟩
  simp only [Int.pow_zero, Int.reducePow, Int.ediv_one, Int.mul_one]
  unfold laidN restN
  simp only [h, hs, Int.reduceEq, if_true, if_false, false_or, or_false, or_true, true_or]
  omega
theorem word_25 (h : o.kind = 2) (hs : o.shift = 5) (hn : 0 ≤ n ∧ n < 32) (zrs2 : rs2 = 0) : Is (restC (layC (layC (layC (layC zW o.code 0 7 0) o.f3 0 3 12) rd 0 5 7) rs1 0 5 15) o n) (laidN o n + rd * 128 + rs1 * 32768 + rs2 * 1048576) := by
  obtain ⟨k0, k1, c0, c1, f0, f1, g0, g1, s0, s1, s6, k2, k6, k8⟩ := ho
  rw [restC_25 h hs]
  simp only [zW, layC_wL, Int.reduceToNat]
  have hv := Is_lays [(o.f7, 0, 7, 25), (n, 0, 5, 20), (rs1, 0, 5, 15), (rd, 0, 5, 7), (o.f3, 0, 3, 12), (o.code, 0, 7, 0)] rfl
  simp only [lays, sumL] at hv
  refine ⟨hv.1, hv.2.trans ?_⟩
  simp only [Int.pow_zero, Int.reducePow, Int.ediv_one, Int.mul_one]
  unfold laidN restN
  simp only [h, hs, Int.reduceEq, if_true, if_false, false_or, or_false, or_true, true_or]
  omega
theorem word_2 (h : o.kind = 2 ∨ o.kind = 3) (hs : o.shift = 0) (zrs2 : rs2 = 0) : Is (restC (layC (layC (layC (layC zW o.code 0 7 0) o.f3 0 3 12) rd 0 5 7) rs1 0 5 15) o n) (laidN o n + rd * 128 + rs1 * 32768 + rs2 * 1048576) := by
  obtain ⟨k0, k1, c0, c1, f0, f1, g0, g1, s0, s1, s6, k2, k6, k8⟩ := ho
  rw [restC_2 h hs]
  simp only [zW, layC_wL, Int.reduceToNat]
  have hv := Is_lays [(n, 0, 12, 20), (rs1, 0, 5, 15), (rd, 0, 5, 7), (o.f3, 0, 3, 12), (o.code, 0, 7, 0)] rfl
  simp only [lays, sumL] at hv
  refine ⟨hv.1, hv.2.trans ?_⟩
  simp only [Int.pow_zero, Int.reducePow, Int.ediv_one, Int.mul_one]
  unfold laidN restN
  simp only [h, hs, Int.reduceEq, if_true, if_false, false_or, or_false, or_true, true_or]
  omega
theorem word_8 (h : o.kind = 8) (zrs2 : rs2 = 0) : Is (restC (layC (layC (layC (layC zW o.code 0 7 0) o.f3 0 3 12) rd 0 5 7) rs1 0 5 15) o n) (laidN o n + rd * 128 + rs1 * 32768 + rs2 * 1048576) := by
  obtain ⟨k0, k1, c0, c1, f0, f1, g0, g1, s0, s1, s6, k2, k6, k8⟩ := ho
  rw [restC_8 h]
  simp only [zW, layC_wL, Int.reduceToNat]
  have hv := Is_lays [(127, 0, 7, 25), (o.f7, 0, 5, 20), (rs1, 0, 5, 15), (rd, 0, 5, 7), (o.f3, 0, 3, 12), (o.code, 0, 7, 0)] rfl
  simp only [lays, sumL] at hv
  refine ⟨hv.1, hv.2.trans ?_⟩
  simp only [Int.pow_zero, Int.reducePow, Int.ediv_one, Int.mul_one]
  unfold laidN restN
  simp only [h, Int.reduceEq, if_true, if_false, false_or, or_false, or_true, true_or]
  omega
theorem word_4 (h : o.kind = 4) (zrd : rd = 0) : Is (restC (layC (layC (layC (layC zW o.code 0 7 0) o.f3 0 3 12) rs1 0 5 15) rs2 0 5 20) o n) (laidN o n + rd * 128 + rs1 * 32768 + rs2 * 1048576) := by
  obtain ⟨k0, k1, c0, c1, f0, f1, g0, g1, s0, s1, s6, k2, k6, k8⟩ := ho
  rw [restC_4 h]
  simp only [zW, layC_wL, Int.reduceToNat]
  have hv := Is_lays [(n, 5, 7, 25), (n, 0, 5, 7), (rs2, 0, 5, 20), (rs1, 0, 5, 15), (o.f3, 0, 3, 12), (o.code, 0, 7, 0)] rfl
  simp only [lays, sumL] at hv
  refine ⟨hv.1, hv.2.trans ?_⟩
  simp only [Int.pow_zero, Int.reducePow, Int.ediv_one, Int.mul_one]
  unfold laidN restN
  simp only [h, Int.reduceEq, if_true, if_false, false_or, or_false, or_true, true_or]
  omega
theorem word_5 (h : o.kind = 5) (zrd : rd = 0) : Is (restC (layC (layC (layC (layC zW o.code 0 7 0) o.f3 0 3 12) rs1 0 5 15) rs2 0 5 20) o n) (laidN o n + rd * 128 + rs1 * 32768 + rs2 * 1048576) := by
  obtain ⟨k0, k1, c0, c1, f0, f1, g0, g1, s0, s1, s6, k2, k6, k8⟩ := ho
  rw [restC_5 h]
  simp only [zW, layC_wL, Int.reduceToNat]
  have hv := Is_lays [(n, 11, 1, 7), (n, 1, 4, 8), (n, 5, 6, 25), (n, 12, 1, 31), (rs2, 0, 5, 20), (rs1, 0, 5, 15), (o.f3, 0, 3, 12), (o.code, 0, 7, 0)] rfl
  simp only [lays, sumL] at hv
  refine ⟨hv.1, hv.2.trans ?_⟩
  simp only [Int.pow_zero, Int.reducePow, Int.ediv_one, Int.mul_one]
  unfold laidN restN
  simp only [h, Int.reduceEq, if_true, if_false, false_or, or_false, or_true, true_or]
  omega
theorem word_10 (h : o.kind = 10) (zrd : rd = 0) : Is (restC (layC (layC (layC (layC zW o.code 0 7 0) o.f3 0 3 12) rs1 0 5 15) rs2 0 5 20) o n) (laidN o n + rd * 128 + rs1 * 32768 + rs2 * 1048576) := by
  obtain ⟨k0, k1, c0, c1, f0, f1, g0, g1, s0, s1, s6, k2, k6, k8⟩ := ho
  rw [restC_10 h]
  simp only [zW, layC_wL, Int.reduceToNat]
  have hv := Is_lays [(o.f7, 0, 7, 25), (1, 0, 5, 7), (rs2, 0, 5, 20), (rs1, 0, 5, 15), (o.f3, 0, 3, 12), (o.code, 0, 7, 0)] rfl
  simp only [lays, sumL] at hv
  refine ⟨hv.1, hv.2.trans ?_⟩
  simp only [Int.pow_zero, Int.reducePow, Int.ediv_one, Int.mul_one]
  unfold laidN restN
  simp only [h, Int.reduceEq, if_true, if_false, false_or, or_false, or_true, true_or]
  omega
theorem word_6 (h : o.kind = 6) (zrs1 : rs1 = 0) (zrs2 : rs2 = 0) : Is (restC (layC (layC zW o.code 0 7 0) rd 0 5 7) o n) (laidN o n + rd * 128 + rs1 * 32768 + rs2 * 1048576) := by
  obtain ⟨k0, k1, c0, c1, f0, f1, g0, g1, s0, s1, s6, k2, k6, k8⟩ := ho
  rw [restC_6 h]
  simp only [zW, layC_wL, Int.reduceToNat]
  have hv := Is_lays [(n, 12, 20, 12), (rd, 0, 5, 7), (o.code, 0, 7, 0)] rfl
  simp only [lays, sumL] at hv
  refine ⟨hv.1, hv.2.trans ?_⟩
  simp only [Int.pow_zero, Int.reducePow, Int.ediv_one, Int.mul_one]
  unfold laidN restN
  simp only [h, Int.reduceEq, if_true, if_false, false_or, or_false, or_true, true_or]
  omega
theorem word_7 (h : o.kind = 7) (zrs1 : rs1 = 0) (zrs2 : rs2 = 0) : Is (restC (layC (layC zW o.code 0 7 0) rd 0 5 7) o n) (laidN o n + rd * 128 + rs1 * 32768 + rs2 * 1048576) := by
  obtain ⟨k0, k1, c0, c1, f0, f1, g0, g1, s0, s1, s6, k2, k6, k8⟩ := ho
  rw [restC_7 h]
  simp only [zW, layC_wL, Int.reduceToNat]
  have hv := Is_lays [(n, 12, 8, 12), (n, 11, 1, 20), (n, 1, 10, 21), (n, 20, 1, 31), (rd, 0, 5, 7), (o.code, 0, 7, 0)] rfl
  simp only [lays, sumL] at hv
  refine ⟨hv.1, hv.2.trans ?_⟩
  simp only [Int.pow_zero, Int.reducePow, Int.ediv_one, Int.mul_one]
  unfold laidN restN
  simp only [h, Int.reduceEq, if_true, if_false, false_or, or_false, or_true, true_or]
  omega
theorem word_9 (h : o.kind = 9) (zrd : rd = 0) (zrs1 : rs1 = 0) (zrs2 : rs2 = 0) : Is (restC (layC (layC zW o.code 0 7 0) o.f3 0 3 12) o n) (laidN o n + rd * 128 + rs1 * 32768 + rs2 * 1048576) := by
  obtain ⟨k0, k1, c0, c1, f0, f1, g0, g1, s0, s1, s6, k2, k6, k8⟩ := ho
  rw [restC_9 h]
  simp only [zW, layC_wL, Int.reduceToNat]
  have hv := Is_lays [(o.f7, 0, 12, 20), (o.f3, 0, 3, 12), (o.code, 0, 7, 0)] rfl
  simp only [lays, sumL] at hv
  refine ⟨hv.1, hv.2.trans ?_⟩
  simp only [Int.pow_zero, Int.reducePow, Int.ediv_one, Int.mul_one]
  unfold laidN restN
  simp only [h, Int.reduceEq, if_true, if_false, false_or, or_false, or_true, true_or]
  omega
end
noncomputable def cREncode : PCon := cEncode
theorem RefEncode_con : PConS P G0 24 cREncode := fun args v e h => by
  unfold cREncode cEncode at e
  split at e
  · rename_i op rd rs1 rs2 n
    obtain ⟨hn, rfl⟩ := pick_one e
    have ly : ∀ {c : List LV}, isW c = true → ∀ n f m t, isW (layC c n f m t) = true := fun h n f m t => isW_lay h n f m t
    have rs : ∀ {c : List LV}, isW c = true → ∀ (o : Opn) (n : Int), isW (restC c o n) = true := fun h o n => isW_rest h o n
    have zw := zW_w
    refine (pure_con (ko_told R4_con) (n := 400) (by
      rw [RefEncode_told]
      simp only [kst, kast, bnot_eq', band_eq', ieq_eq, neq_eq, nle_eq, hn, if_true, and_true]
      unfold encV encE
      cases hb : encB op rd rs1 rs2 n
      · rw [if_pos rfl]
        rfl
      · rw [if_neg (by simp)]
        have hb' := hb
        unfold encB at hb'
        simp only [Bool.and_eq_true] at hb'
        obtain ⟨⟨⟨⟨hk, q1⟩, q2⟩, q3⟩, hm⟩ := hb'
        have hx := known_lo op hk
        have ho := opn_ok op hx
        have hop := op_kind op
        have b1 := regB_bd _ _ q1
        have b2 := regB_bd _ _ q2
        have b3 := regB_bd _ _ q3
        have i1 : inI rd = true := by rw [inI_eq]; omega
        have i2 : inI rs1 = true := by rw [inI_eq]; omega
        have i3 : inI rs2 = true := by rw [inI_eq]; omega
        have i4 : inI (opn op).code = true := by rw [inI_eq]; have := ho.c0; have := ho.c1; omega
        have i5 : inI (opn op).f3 = true := by rw [inI_eq]; have := ho.f0; have := ho.f1; omega
        have i6 : inI (opn op).f7 = true := by rw [inI_eq]; have := ho.g0; have := ho.g1; omega
        have k0 := ho.k0
        have k1 := ho.k1
        have s0 := ho.s0
        have s1 := ho.s1
        have z1 : hasRd (opn op).kind = false → rd = 0 := fun hh => regB_zero _ (hh ▸ q1)
        have z2 : hasRs1 (opn op).kind = false → rs1 = 0 := fun hh => regB_zero _ (hh ▸ q2)
        have z3 : hasRs2 (opn op).kind = false → rs2 = 0 := fun hh => regB_zero _ (hh ▸ q3)
        have fin : ∀ {c : List LV}, Is c (laidN (opn op) n + rd * 128 + rs1 * 32768 + rs2 * 1048576) → (if bitsOk c = true then some (LV.tup [.int .u32 (valC c), .int .i64 0]) else none) = some (.tup [.int .u32 (if true = true then encN op rd rs1 rs2 n else 0), .int .i64 (if true = true then 0 else 1)]) := fun hh => by
          rw [if_pos hh.1, hh.2]
          rfl
        have rk : ∀ (k : Int) {c : List LV}, (opn op).kind = k → isW c = true → restOk c ⟨(opn op).name, k, (opn op).code, (opn op).f3, (opn op).f7, (opn op).shift⟩ = true := fun k c hk hc => by
          unfold restOk
          rw [hc]
          exact i6
        generalize hkd : (opn op).kind = kd at *
        obtain rfl | rfl | rfl | rfl | rfl | rfl | rfl | rfl | rfl | rfl : kd = 1 ∨ kd = 2 ∨ kd = 3 ∨ kd = 4 ∨ kd = 5 ∨ kd = 6 ∨ kd = 7 ∨ kd = 8 ∨ kd = 9 ∨ kd = 10 := by omega
        all_goals simp (maxDischargeDepth := 12) only [Int.reduceEq, if_false, if_true, isW_len, isW_top, isW_ok, ly, rs, zw, rk, i1, i2, i3, i4, i5, i6, and_self, Int.reduceLE, Int.reduceAdd, Nat.zero_le, Nat.reduceLeDiff]
        all_goals rw [hop _ rfl]
        · exact fin (word_1 (opn op) ho n rd rs1 rs2 b1 b2 b3 hkd)
        · rcases s0 with hs | hs | hs
          · exact fin (word_2 (opn op) ho n rd rs1 rs2 b1 b2 b3 (.inl hkd) hs (z3 rfl))
          · exact fin (word_25 (opn op) ho n rd rs1 rs2 b1 b2 b3 hkd hs (by unfold mayN at hm; rw [if_pos (by omega), hs] at hm; exact of_decide_eq_true hm) (z3 rfl))
          · exact fin (word_26 (opn op) ho n rd rs1 rs2 b1 b2 b3 hkd hs (by unfold mayN at hm; rw [if_pos (by omega), hs] at hm; exact of_decide_eq_true hm) (z3 rfl))
        · exact fin (word_2 (opn op) ho n rd rs1 rs2 b1 b2 b3 (.inr hkd) (by rcases s0 with hs | hs | hs; exact hs; exact absurd (s1 (by omega)) (by decide); exact absurd (s1 (by omega)) (by decide)) (z3 rfl))
        · exact fin (word_4 (opn op) ho n rd rs1 rs2 b1 b2 b3 hkd (z1 rfl))
        · exact fin (word_5 (opn op) ho n rd rs1 rs2 b1 b2 b3 hkd (z1 rfl))
        · exact fin (word_6 (opn op) ho n rd rs1 rs2 b1 b2 b3 hkd (z2 rfl) (z3 rfl))
        · exact fin (word_7 (opn op) ho n rd rs1 rs2 b1 b2 b3 hkd (z2 rfl) (z3 rfl))
        · exact fin (word_8 (opn op) ho n rd rs1 rs2 b1 b2 b3 hkd (z3 rfl))
        · exact fin (word_9 (opn op) ho n rd rs1 rs2 b1 b2 b3 hkd (z1 rfl) (z2 rfl) (z3 rfl))
        · exact fin (word_10 (opn op) ho n rd rs1 rs2 b1 b2 b3 hkd (z1 rfl))) rfl).toS
  · cases e
noncomputable abbrev R5 : List (FuncId × PCon) := (24, cREncode) :: R4
theorem R5_con : PConsS P G0 R5 := .cons RefEncode_con R4_con
end Go.Proofs.YtbnmhhbncggjkaaGreatDoor
