/- Layer 4: contracts of Find and Decode. Conditions: none. -/
import Derived.Test.YtbnmhhbncggjkaaGreatDoorK4B
set_option linter.unusedVariables false
set_option linter.unusedSimpArgs false
namespace Go.Proofs.YtbnmhhbncggjkaaGreatDoor
open Go Eng
set_option maxRecDepth 1000000
noncomputable def findK {R : Type} (s : List UInt8) (k : LV → Option R) : List Opn → Int → Option R := fun l => List.rec (fun _ => k (.int .i64 0)) (fun o _ ih i => tst (beqS o.name s) (k (.int .i64 i)) (ih (i + 1))) l
theorem Find_told {R : Type} (k : LV → Option R) (s : List UInt8) : evk P G0 (Ko M5) 400 (.call 33 [.str s]) (hpOf P []) (obs0 k) = findK s k tbl 1 := by kernel_rfl
theorem findK_eq (s : List UInt8) : ∀ (l : List Opn) (i : Int), findK s some l i = some (.int .i64 (match l.findIdx? (fun o => o.name == s) with | some j => i + (j : Int) | none => 0))
  | [], i => rfl
  | o :: l, i => by
    have h : findK s some (o :: l) i = tst (beqS o.name s) (some (.int .i64 i)) (findK s some l (i + 1)) := rfl
    rw [h, findK_eq s l (i + 1), beqS_eq, kst, List.findIdx?_cons]
    by_cases e : o.name = s
    · simp [e]
    · have e2 : (o.name == s) = false := by simpa using e
      rw [if_neg (by simpa using e), e2]
      cases l.findIdx? (fun o => o.name == s) with
      | none => rfl
      | some j => simp; omega
noncomputable def cFind : PCon := fun
  | [.str s] => [(true, .int .i64 (findN s))]
  | _ => []
theorem Find_con : PConS P G0 33 cFind := fun args v e h => by
  unfold cFind at e
  split at e
  · rename_i s
    obtain ⟨-, rfl⟩ := pick_one e
    refine (pure_con (ko_told M5_con) (n := 400) (by
      rw [Find_told, findK_eq]
      unfold findN
      cases tbl.findIdx? (fun o => o.name == s) with
      | none => rfl
      | some j => simp; omega) rfl).toS
  · cases e
/-! Decode: its loop -/
/-- The operation of a number, from some place of the table on. -/
def decJ (x : Int) (i : Nat) : Option Nat := (List.range' i (82 - i)).find? fun j => hitB ((j : Int) + 1) x
theorem decJ_end (x : Int) : decJ x 82 = none := rfl
theorem decJ_step (x : Int) (i : Nat) (h : i < 82) : decJ x i = if hitB ((i : Int) + 1) x = true then some i else decJ x (i + 1) := by
  unfold decJ
  rw [show 82 - i = (82 - (i + 1)) + 1 by omega, List.range'_succ, List.find?_cons]
  cases hitB ((i : Int) + 1) x <;> rfl
theorem decJ_lt (x : Int) (i j : Nat) (h : decJ x i = some j) : i ≤ j ∧ j < 82 ∧ hitB ((j : Int) + 1) x = true := by
  unfold decJ at h
  have h1 := List.find?_some h
  have h2 := List.mem_of_find?_eq_some h
  rw [List.mem_range'_1] at h2
  exact ⟨by omega, by omega, h1⟩
noncomputable def instV (op rd rs1 rs2 n : Int) : List LV := [.int .i64 op, .int .i64 rd, .int .i64 rs1, .int .i64 rs2, .int .i64 n]
/-- The instruction that an operation would have in a number. -/
noncomputable def inst (x : Int) (j : Nat) : List LV := instV ((j : Int) + 1) (fieldN (hasRd (opn ((j : Int) + 1)).kind) x 7) (fieldN (hasRs1 (opn ((j : Int) + 1)).kind) x 15) (fieldN (hasRs2 (opn ((j : Int) + 1)).kind) x 20) (immN (opn ((j : Int) + 1)) x)
noncomputable def zeroI : List LV := instV 0 0 0 0 0
def decB (x : Int) : Bool := (decJ x 0).isSome
def decN (x : Int) : Nat := (decJ x 0).getD 0
noncomputable def decOp (x : Int) : Int := if decB x = true then (decN x : Int) + 1 else 0
noncomputable def decRd (x : Int) : Int := if decB x = true then fieldN (hasRd (opn ((decN x : Int) + 1)).kind) x 7 else 0
noncomputable def decRs1 (x : Int) : Int := if decB x = true then fieldN (hasRs1 (opn ((decN x : Int) + 1)).kind) x 15 else 0
noncomputable def decRs2 (x : Int) : Int := if decB x = true then fieldN (hasRs2 (opn ((decN x : Int) + 1)).kind) x 20 else 0
noncomputable def decImm (x : Int) : Int := if decB x = true then immN (opn ((decN x : Int) + 1)) x else 0
noncomputable def decE (x : Int) : Int := if decB x = true then 0 else 40
noncomputable abbrev dSlots : List Nat := [0, 2, 12, 13]
noncomputable abbrev dVs (w i : Int) : List LV := [.int .u32 w, .ptr 0 0, .agg tblC, .int .i64 i]
noncomputable abbrev dOs (c : List LV) : List LObj := [.cells c 23 0 0 false false]
theorem Decode_round {R : Type} (kn : List LV → List LObj → Option R) (kx : Nat → List LV → List LObj → Option R) (kr : List LV → List LObj → Option R) (w i : Int) :
    evk P G0 (Ko M5) 400 (.code (loopOf P 54 0) none 54 62 (frZ [0, 2, 12, 13] [(.int .u32 w), (.ptr 0 0), (.agg tblC), (.int .i64 i)]) []) (hpOf P [.cells [(.int .i64 0), (.int .i64 0), (.int .i64 0), (.int .i64 0), (.int .i64 0)] 23 0 0 false false]) (kround P 0 1 [0, 2, 12, 13] [0, 2] [2, 3] kn kx kr) =
  (tst (ilt i 82)
  (ast (band (ile 0 i) (nlt (toN i) 82)) <|
   rdS (nth tblC (nmul (toN i) 6)) fun x0 =>
   rdI .i64 (nth tblC (nadd (nmul (toN i) 6) 1)) fun x1 =>
   rdI .u32 (nth tblC (nadd (nadd (nmul (toN i) 6) 1) 1)) fun x2 =>
   rdI .u32 (nth tblC (nadd (nadd (nadd (nmul (toN i) 6) 1) 1) 1)) fun x3 =>
   rdI .u32 (nth tblC (nadd (nadd (nadd (nadd (nmul (toN i) 6) 1) 1) 1) 1)) fun x4 =>
   rdI .i64 (nth tblC (nadd (nadd (nadd (nadd (nadd (nmul (toN i) 6) 1) 1) 1) 1) 1)) fun x5 =>
   tst (bnot (ieq (bAnd .u32 w 127) x2))
   (kn [(.int .u32 w), (.ptr 0 0), (.agg tblC), (.int .i64 (wrapF .i64 (i + 1)))] [.cells [(.int .i64 0), (.int .i64 0), (.int .i64 0), (.int .i64 0), (.int .i64 0)] 23 0 0 false false])
   (ast (band (okB ⟨x0, x1, x2, x3, x4, x5⟩) (inU w)) <|
    tst (hasRd x1)
    (ast (inU w) <|
     tst (hasRs1 x1)
     (ast (inU w) <|
      tst (hasRs2 x1)
      (ast (inU w) <|
       ast (inI (immN ⟨x0, x1, x2, x3, x4, x5⟩ w)) <|
       let x6 := encV (wrapF .i64 (i + 1)) (bitsN w 7 5) (bitsN w 15 5) (bitsN w 20 5) (immN ⟨x0, x1, x2, x3, x4, x5⟩ w);
       let x7 := encE (wrapF .i64 (i + 1)) (bitsN w 7 5) (bitsN w 15 5) (bitsN w 20 5) (immN ⟨x0, x1, x2, x3, x4, x5⟩ w);
       tst (ieq x7 0)
       (tst (ieq x6 w)
        (kr [(.ptr 0 0), (.int .i64 0)] [.cells [(.int .i64 (wrapF .i64 (i + 1))), (.int .i64 (bitsN w 7 5)), (.int .i64 (bitsN w 15 5)), (.int .i64 (bitsN w 20 5)), (.int .i64 (immN ⟨x0, x1, x2, x3, x4, x5⟩ w))] 23 0 0 false false])
        (kn [(.int .u32 w), (.ptr 0 0), (.agg tblC), (.int .i64 (wrapF .i64 (i + 1)))] [.cells [(.int .i64 0), (.int .i64 0), (.int .i64 0), (.int .i64 0), (.int .i64 0)] 23 0 0 false false]))
       (kn [(.int .u32 w), (.ptr 0 0), (.agg tblC), (.int .i64 (wrapF .i64 (i + 1)))] [.cells [(.int .i64 0), (.int .i64 0), (.int .i64 0), (.int .i64 0), (.int .i64 0)] 23 0 0 false false]))
      (ast (inI (immN ⟨x0, x1, x2, x3, x4, x5⟩ w)) <|
       let x6 := encV (wrapF .i64 (i + 1)) (bitsN w 7 5) (bitsN w 15 5) 0 (immN ⟨x0, x1, x2, x3, x4, x5⟩ w);
       let x7 := encE (wrapF .i64 (i + 1)) (bitsN w 7 5) (bitsN w 15 5) 0 (immN ⟨x0, x1, x2, x3, x4, x5⟩ w);
       tst (ieq x7 0)
       (tst (ieq x6 w)
        (kr [(.ptr 0 0), (.int .i64 0)] [.cells [(.int .i64 (wrapF .i64 (i + 1))), (.int .i64 (bitsN w 7 5)), (.int .i64 (bitsN w 15 5)), (.int .i64 0), (.int .i64 (immN ⟨x0, x1, x2, x3, x4, x5⟩ w))] 23 0 0 false false])
        (kn [(.int .u32 w), (.ptr 0 0), (.agg tblC), (.int .i64 (wrapF .i64 (i + 1)))] [.cells [(.int .i64 0), (.int .i64 0), (.int .i64 0), (.int .i64 0), (.int .i64 0)] 23 0 0 false false]))
       (kn [(.int .u32 w), (.ptr 0 0), (.agg tblC), (.int .i64 (wrapF .i64 (i + 1)))] [.cells [(.int .i64 0), (.int .i64 0), (.int .i64 0), (.int .i64 0), (.int .i64 0)] 23 0 0 false false])))
     (tst (hasRs2 x1)
      (ast (inU w) <|
       ast (inI (immN ⟨x0, x1, x2, x3, x4, x5⟩ w)) <|
       let x6 := encV (wrapF .i64 (i + 1)) (bitsN w 7 5) 0 (bitsN w 20 5) (immN ⟨x0, x1, x2, x3, x4, x5⟩ w);
       let x7 := encE (wrapF .i64 (i + 1)) (bitsN w 7 5) 0 (bitsN w 20 5) (immN ⟨x0, x1, x2, x3, x4, x5⟩ w);
       tst (ieq x7 0)
       (tst (ieq x6 w)
        (kr [(.ptr 0 0), (.int .i64 0)] [.cells [(.int .i64 (wrapF .i64 (i + 1))), (.int .i64 (bitsN w 7 5)), (.int .i64 0), (.int .i64 (bitsN w 20 5)), (.int .i64 (immN ⟨x0, x1, x2, x3, x4, x5⟩ w))] 23 0 0 false false])
        (kn [(.int .u32 w), (.ptr 0 0), (.agg tblC), (.int .i64 (wrapF .i64 (i + 1)))] [.cells [(.int .i64 0), (.int .i64 0), (.int .i64 0), (.int .i64 0), (.int .i64 0)] 23 0 0 false false]))
       (kn [(.int .u32 w), (.ptr 0 0), (.agg tblC), (.int .i64 (wrapF .i64 (i + 1)))] [.cells [(.int .i64 0), (.int .i64 0), (.int .i64 0), (.int .i64 0), (.int .i64 0)] 23 0 0 false false]))
      (ast (inI (immN ⟨x0, x1, x2, x3, x4, x5⟩ w)) <|
       let x6 := encV (wrapF .i64 (i + 1)) (bitsN w 7 5) 0 0 (immN ⟨x0, x1, x2, x3, x4, x5⟩ w);
       let x7 := encE (wrapF .i64 (i + 1)) (bitsN w 7 5) 0 0 (immN ⟨x0, x1, x2, x3, x4, x5⟩ w);
       tst (ieq x7 0)
       (tst (ieq x6 w)
        (kr [(.ptr 0 0), (.int .i64 0)] [.cells [(.int .i64 (wrapF .i64 (i + 1))), (.int .i64 (bitsN w 7 5)), (.int .i64 0), (.int .i64 0), (.int .i64 (immN ⟨x0, x1, x2, x3, x4, x5⟩ w))] 23 0 0 false false])
        (kn [(.int .u32 w), (.ptr 0 0), (.agg tblC), (.int .i64 (wrapF .i64 (i + 1)))] [.cells [(.int .i64 0), (.int .i64 0), (.int .i64 0), (.int .i64 0), (.int .i64 0)] 23 0 0 false false]))
       (kn [(.int .u32 w), (.ptr 0 0), (.agg tblC), (.int .i64 (wrapF .i64 (i + 1)))] [.cells [(.int .i64 0), (.int .i64 0), (.int .i64 0), (.int .i64 0), (.int .i64 0)] 23 0 0 false false]))))
    (tst (hasRs1 x1)
     (ast (inU w) <|
      tst (hasRs2 x1)
      (ast (inU w) <|
       ast (inI (immN ⟨x0, x1, x2, x3, x4, x5⟩ w)) <|
       let x6 := encV (wrapF .i64 (i + 1)) 0 (bitsN w 15 5) (bitsN w 20 5) (immN ⟨x0, x1, x2, x3, x4, x5⟩ w);
       let x7 := encE (wrapF .i64 (i + 1)) 0 (bitsN w 15 5) (bitsN w 20 5) (immN ⟨x0, x1, x2, x3, x4, x5⟩ w);
       tst (ieq x7 0)
       (tst (ieq x6 w)
        (kr [(.ptr 0 0), (.int .i64 0)] [.cells [(.int .i64 (wrapF .i64 (i + 1))), (.int .i64 0), (.int .i64 (bitsN w 15 5)), (.int .i64 (bitsN w 20 5)), (.int .i64 (immN ⟨x0, x1, x2, x3, x4, x5⟩ w))] 23 0 0 false false])
        (kn [(.int .u32 w), (.ptr 0 0), (.agg tblC), (.int .i64 (wrapF .i64 (i + 1)))] [.cells [(.int .i64 0), (.int .i64 0), (.int .i64 0), (.int .i64 0), (.int .i64 0)] 23 0 0 false false]))
       (kn [(.int .u32 w), (.ptr 0 0), (.agg tblC), (.int .i64 (wrapF .i64 (i + 1)))] [.cells [(.int .i64 0), (.int .i64 0), (.int .i64 0), (.int .i64 0), (.int .i64 0)] 23 0 0 false false]))
      (ast (inI (immN ⟨x0, x1, x2, x3, x4, x5⟩ w)) <|
       let x6 := encV (wrapF .i64 (i + 1)) 0 (bitsN w 15 5) 0 (immN ⟨x0, x1, x2, x3, x4, x5⟩ w);
       let x7 := encE (wrapF .i64 (i + 1)) 0 (bitsN w 15 5) 0 (immN ⟨x0, x1, x2, x3, x4, x5⟩ w);
       tst (ieq x7 0)
       (tst (ieq x6 w)
        (kr [(.ptr 0 0), (.int .i64 0)] [.cells [(.int .i64 (wrapF .i64 (i + 1))), (.int .i64 0), (.int .i64 (bitsN w 15 5)), (.int .i64 0), (.int .i64 (immN ⟨x0, x1, x2, x3, x4, x5⟩ w))] 23 0 0 false false])
        (kn [(.int .u32 w), (.ptr 0 0), (.agg tblC), (.int .i64 (wrapF .i64 (i + 1)))] [.cells [(.int .i64 0), (.int .i64 0), (.int .i64 0), (.int .i64 0), (.int .i64 0)] 23 0 0 false false]))
       (kn [(.int .u32 w), (.ptr 0 0), (.agg tblC), (.int .i64 (wrapF .i64 (i + 1)))] [.cells [(.int .i64 0), (.int .i64 0), (.int .i64 0), (.int .i64 0), (.int .i64 0)] 23 0 0 false false])))
     (tst (hasRs2 x1)
      (ast (inU w) <|
       ast (inI (immN ⟨x0, x1, x2, x3, x4, x5⟩ w)) <|
       let x6 := encV (wrapF .i64 (i + 1)) 0 0 (bitsN w 20 5) (immN ⟨x0, x1, x2, x3, x4, x5⟩ w);
       let x7 := encE (wrapF .i64 (i + 1)) 0 0 (bitsN w 20 5) (immN ⟨x0, x1, x2, x3, x4, x5⟩ w);
       tst (ieq x7 0)
       (tst (ieq x6 w)
        (kr [(.ptr 0 0), (.int .i64 0)] [.cells [(.int .i64 (wrapF .i64 (i + 1))), (.int .i64 0), (.int .i64 0), (.int .i64 (bitsN w 20 5)), (.int .i64 (immN ⟨x0, x1, x2, x3, x4, x5⟩ w))] 23 0 0 false false])
        (kn [(.int .u32 w), (.ptr 0 0), (.agg tblC), (.int .i64 (wrapF .i64 (i + 1)))] [.cells [(.int .i64 0), (.int .i64 0), (.int .i64 0), (.int .i64 0), (.int .i64 0)] 23 0 0 false false]))
       (kn [(.int .u32 w), (.ptr 0 0), (.agg tblC), (.int .i64 (wrapF .i64 (i + 1)))] [.cells [(.int .i64 0), (.int .i64 0), (.int .i64 0), (.int .i64 0), (.int .i64 0)] 23 0 0 false false]))
      (ast (inI (immN ⟨x0, x1, x2, x3, x4, x5⟩ w)) <|
       let x6 := encV (wrapF .i64 (i + 1)) 0 0 0 (immN ⟨x0, x1, x2, x3, x4, x5⟩ w);
       let x7 := encE (wrapF .i64 (i + 1)) 0 0 0 (immN ⟨x0, x1, x2, x3, x4, x5⟩ w);
       tst (ieq x7 0)
       (tst (ieq x6 w)
        (kr [(.ptr 0 0), (.int .i64 0)] [.cells [(.int .i64 (wrapF .i64 (i + 1))), (.int .i64 0), (.int .i64 0), (.int .i64 0), (.int .i64 (immN ⟨x0, x1, x2, x3, x4, x5⟩ w))] 23 0 0 false false])
        (kn [(.int .u32 w), (.ptr 0 0), (.agg tblC), (.int .i64 (wrapF .i64 (i + 1)))] [.cells [(.int .i64 0), (.int .i64 0), (.int .i64 0), (.int .i64 0), (.int .i64 0)] 23 0 0 false false]))
       (kn [(.int .u32 w), (.ptr 0 0), (.agg tblC), (.int .i64 (wrapF .i64 (i + 1)))] [.cells [(.int .i64 0), (.int .i64 0), (.int .i64 0), (.int .i64 0), (.int .i64 0)] 23 0 0 false false]))))))
  (kx 0 [(.int .u32 w), (.ptr 0 0)] [.cells [(.int .i64 0), (.int .i64 0), (.int .i64 0), (.int .i64 0), (.int .i64 0)] 23 0 0 false false])) := by kernel_rfl
theorem inst_imm (x : Int) (i : Nat) (hi : i < 82) : inI (immN (opn ((i : Int) + 1)) x) = true := by
  rw [inI_eq]; exact imm_bd _ x (opn_ok _ (by omega))
/-- A round: the number's own operation ends it. -/
theorem Decode_rd (w : Int) (i : Nat) (hw : inU w = true) (hi : i < 82) :
    evk P G0 (Ko M5) 400 (.code (loopOf P 54 0) none 54 62 (frZ dSlots (dVs w i)) []) (hpOf P (dOs zeroI)) (rdK P 0 1 dSlots [0, 2] [2, 3]) =
      if hitB ((i : Int) + 1) w = true then some (.out .ret [.ptr 0 0, .int .i64 0] (dOs (inst w i))) else some (.next (dVs w ((i + 1 : Nat) : Int)) (dOs zeroI)) := by
  have hw' := hw
  rw [inU_eq] at hw'
  have hk := (okB_iff _).2 (opn_ok ((i : Int) + 1) (by omega))
  have him := inst_imm w i hi
  have heta : (⟨(opn ((i : Int) + 1)).name, (opn ((i : Int) + 1)).kind, (opn ((i : Int) + 1)).code, (opn ((i : Int) + 1)).f3, (opn ((i : Int) + 1)).f7, (opn ((i : Int) + 1)).shift⟩ : Opn) = opn ((i : Int) + 1) := rfl
  rw [show frZ dSlots (dVs w i) = frZ [0, 2, 12, 13] [.int .u32 w, .ptr 0 0, .agg tblC, .int .i64 i] from rfl]
  rw [show (dOs zeroI) = [.cells [.int .i64 0, .int .i64 0, .int .i64 0, .int .i64 0, .int .i64 0] 23 0 0 false false] from rfl]
  rw [show rdK P 0 1 dSlots [0, 2] [2, 3] = kround P 0 1 [0, 2, 12, 13] [0, 2] [2, 3] (fun vs os => some (.next vs os)) (fun j vs os => some (.out (.exit j) vs os)) (fun vs os => some (.out .ret vs os)) from rfl]
  rw [Decode_round]
  have e1 : toN (i : Int) = i := rfl
  have e2 : wrapF .i64 ((i : Int) + 1) = (i : Int) + 1 := wrap_i64 _ (by omega) (by omega)
  simp only [kst, kast, bnot_eq', band_eq', ile_eq, ilt_eq, nlt_eq, ieq_eq, bAnd_eq, e1, e2]
  rw [if_pos (by omega), if_pos ⟨by omega, hi⟩, row_read i hi, and127 w (by omega) (by omega), heta]
  simp only [hw, hk, him, and_self, if_true]
  rw [show (((i + 1 : Nat) : Int)) = (i : Int) + 1 by omega]
  by_cases hc : w % 128 = (opn ((i : Int) + 1)).code
  · rw [if_neg (by simp [ieq, hc])]
    have fin : ∀ (a b c : Int), fieldN (hasRd (opn ((i : Int) + 1)).kind) w 7 = a → fieldN (hasRs1 (opn ((i : Int) + 1)).kind) w 15 = b → fieldN (hasRs2 (opn ((i : Int) + 1)).kind) w 20 = c →
        (if encE ((i : Int) + 1) a b c (immN (opn ((i : Int) + 1)) w) = 0 then if encV ((i : Int) + 1) a b c (immN (opn ((i : Int) + 1)) w) = w then
          some (Rd.out .ret [.ptr 0 0, .int .i64 0] [.cells [.int .i64 ((i : Int) + 1), .int .i64 a, .int .i64 b, .int .i64 c, .int .i64 (immN (opn ((i : Int) + 1)) w)] 23 0 0 false false])
          else some (Rd.next [.int .u32 w, .ptr 0 0, .agg tblC, .int .i64 ((i : Int) + 1)] [.cells [.int .i64 0, .int .i64 0, .int .i64 0, .int .i64 0, .int .i64 0] 23 0 0 false false])
          else some (Rd.next [.int .u32 w, .ptr 0 0, .agg tblC, .int .i64 ((i : Int) + 1)] [.cells [.int .i64 0, .int .i64 0, .int .i64 0, .int .i64 0, .int .i64 0] 23 0 0 false false])) =
        if hitB ((i : Int) + 1) w = true then some (.out .ret [.ptr 0 0, .int .i64 0] (dOs (inst w i))) else some (.next (dVs w ((i : Int) + 1)) [.cells [.int .i64 0, .int .i64 0, .int .i64 0, .int .i64 0, .int .i64 0] 23 0 0 false false]) := by
      rintro a b c rfl rfl rfl
      unfold hitB
      by_cases h1 : encE ((i : Int) + 1) (fieldN (hasRd (opn ((i : Int) + 1)).kind) w 7) (fieldN (hasRs1 (opn ((i : Int) + 1)).kind) w 15) (fieldN (hasRs2 (opn ((i : Int) + 1)).kind) w 20) (immN (opn ((i : Int) + 1)) w) = 0
      · by_cases h2 : encV ((i : Int) + 1) (fieldN (hasRd (opn ((i : Int) + 1)).kind) w 7) (fieldN (hasRs1 (opn ((i : Int) + 1)).kind) w 15) (fieldN (hasRs2 (opn ((i : Int) + 1)).kind) w 20) (immN (opn ((i : Int) + 1)) w) = w
        · rw [if_pos h1, if_pos h2, if_pos (by simp [hc, h1, h2])]
          rfl
        · rw [if_pos h1, if_neg h2, if_neg (by simp [h2])]
      · rw [if_neg h1, if_neg (by simp [h1])]
    have z : ∀ f, fieldN false w f = 0 := fun f => rfl
    have o : ∀ f, fieldN true w f = bitsN w f 5 := fun f => rfl
    cases h1 : hasRd (opn ((i : Int) + 1)).kind <;> cases h2 : hasRs1 (opn ((i : Int) + 1)).kind <;> cases h3 : hasRs2 (opn ((i : Int) + 1)).kind <;> simp only [if_true, Bool.false_eq_true, if_false] <;> exact fin _ _ _ (by rw [h1]; first | exact z _ | exact o _) (by rw [h2]; first | exact z _ | exact o _) (by rw [h3]; first | exact z _ | exact o _)
  · rw [if_pos (by simp [ieq, hc]), if_neg (by rw [hit_no hc]; simp)]
theorem Decode_end (w : Int) :
    evk P G0 (Ko M5) 400 (.code (loopOf P 54 0) none 54 62 (frZ dSlots (dVs w 82)) []) (hpOf P (dOs zeroI)) (rdK P 0 1 dSlots [0, 2] [2, 3]) = some (.out (.exit 0) [.int .u32 w, .ptr 0 0] (dOs zeroI)) := by
  rw [show frZ dSlots (dVs w 82) = frZ [0, 2, 12, 13] [.int .u32 w, .ptr 0 0, .agg tblC, .int .i64 82] from rfl]
  rw [show (dOs zeroI) = [.cells [.int .i64 0, .int .i64 0, .int .i64 0, .int .i64 0, .int .i64 0] 23 0 0 false false] from rfl]
  rw [show rdK P 0 1 dSlots [0, 2] [2, 3] = kround P 0 1 [0, 2, 12, 13] [0, 2] [2, 3] (fun vs os => some (.next vs os)) (fun j vs os => some (.out (.exit j) vs os)) (fun vs os => some (.out .ret vs os)) from rfl]
  rw [Decode_round]
  simp only [kst, ilt_eq]
  rw [if_neg (by decide)]
theorem Decode_isLoop : isLoop P 54 0 = true := by kernel_rfl
theorem Decode_loop (w : Int) (hw : inU w = true) (n i : Nat) (hn : n = 82 - i) (hi : i ≤ 82) :
    (∀ j, decJ w i = some j → LoopM P G0 54 0 62 1 dSlots (dVs w i) (dOs zeroI) .ret [2, 3] [.ptr 0 0, .int .i64 0] (dOs (inst w j))) ∧
    (decJ w i = none → LoopM P G0 54 0 62 1 dSlots (dVs w i) (dOs zeroI) (.exit 0) [0, 2] [.int .u32 w, .ptr 0 0] (dOs zeroI)) := by
  have T := ko_told M5_con
  have gd := good_loop T Decode_isLoop
  induction n generalizing i with
  | zero =>
    obtain rfl : i = 82 := by omega
    exact ⟨(fun j h => by rw [decJ_end] at h; cases h), fun _ => loop_exit T gd (Decode_end w)⟩
  | succ n ih =>
    have hlt : i < 82 := by omega
    have hr := Decode_rd w i hw hlt
    rw [decJ_step w i hlt]
    cases hh : hitB ((i : Int) + 1) w
    · rw [hh, if_neg (by simp)] at hr
      rw [if_neg (by simp)]
      obtain ⟨h1, h2⟩ := ih (i + 1) (by omega) (by omega)
      exact ⟨fun j h => loop_next T gd hr (h1 j h), fun h => loop_next T gd hr (h2 h)⟩
    · rw [hh, if_pos rfl] at hr
      rw [if_pos rfl]
      exact ⟨(fun j h => by cases h; exact loop_ret T gd hr), (fun h => by cases h)⟩
noncomputable def sDecode : List LV → List LObj → List (Bool × Ex × List LV × List LObj)
  | [.int .u32 w, .ptr 0 0, .agg c, .int .i64 i], [.cells z 23 0 0 false false] =>
    [(band (decB w) (band (inU w) (band (ieq i 0) (band (keqL c tblC) (keqL z zeroI)))), .ret, [.ptr 0 0, .int .i64 0], dOs (instV (decOp w) (decRd w) (decRs1 w) (decRs2 w) (decImm w))),
     (band (bnot (decB w)) (band (inU w) (band (ieq i 0) (band (keqL c tblC) (keqL z zeroI)))), .normal, [.int .u32 w, .ptr 0 0], dOs zeroI)]
  | _, _ => []
theorem pick_two {α : Type} {a b : Bool} {u v x : α} (e : pickR [(a, u), (b, v)] = some x) : (a = true ∧ x = u) ∨ (b = true ∧ x = v) := by
  cases a
  · cases b
    · cases e
    · exact .inr ⟨rfl, (Option.some.inj e).symm⟩
  · exact .inl ⟨rfl, (Option.some.inj e).symm⟩
theorem keqL_eq {x y : List LV} (h : keqL x y = true) : x = y := eqL_eq (eqL_k h)
theorem Decode_spec : SpecS P G0 54 0 62 1 dSlots [0, 2] [2, 3] sDecode := fun vs os e vs' os' h => by
  unfold sDecode at h
  split at h
  · rename_i w c i z
    have key := fun hw => Decode_loop w hw 82 0 rfl (by omega)
    rcases pick_two h with ⟨hb, he⟩ | ⟨hb, he⟩
    · simp only [band_eq', ieq_eq] at hb
      obtain ⟨h1, hw, rfl, hc, hz⟩ := hb
      rw [keqL_eq hc, keqL_eq hz]
      simp only [Prod.mk.injEq] at he
      obtain ⟨rfl, rfl, rfl⟩ := he
      refine .inr ⟨rfl, ?_⟩
      have h2 : decJ w 0 = some (decN w) := by
        unfold decB at h1
        unfold decN
        cases hd : decJ w 0 with
        | none => rw [hd] at h1; cases h1
        | some j => rfl
      have := (key hw).1 _ h2
      rwa [show inst w (decN w) = instV (decOp w) (decRd w) (decRs1 w) (decRs2 w) (decImm w) by unfold inst decOp decRd decRs1 decRs2 decImm; simp only [h1, if_true]] at this
    · simp only [band_eq', ieq_eq, bnot_eq'] at hb
      obtain ⟨h1, hw, rfl, hc, hz⟩ := hb
      rw [keqL_eq hc, keqL_eq hz]
      simp only [Prod.mk.injEq] at he
      obtain ⟨rfl, rfl, rfl⟩ := he
      exact .inl ⟨rfl, (key hw).2 (by unfold decB at h1; cases hd : decJ w 0 with | none => rfl | some j => rw [hd] at h1; cases h1)⟩
  · cases h
noncomputable abbrev cutDecode : Cut := cutCon P 62 0 1 dSlots [0, 2] [2, 3] sDecode
noncomputable abbrev cDecode := cutDecode
theorem Decode_told {R : Type} (k : LV → Option R) (w : Int) : evk P G0 (⟨tabP M5, tab [], cutT [(54, 0, cDecode)]⟩) 400 (.call 54 [(.int .u32 w)]) (hpOf P []) (obs0 k) =
  (tst (band (decB w) (band (inU w) true))
  (k (.tup [(.agg [(.int .i64 (decOp w)), (.int .i64 (decRd w)), (.int .i64 (decRs1 w)), (.int .i64 (decRs2 w)), (.int .i64 (decImm w))]), (.int .i64 0)]))
  (ast (band (bnot (decB w)) (band (inU w) true)) <|
   k (.tup [(.agg [(.int .i64 0), (.int .i64 0), (.int .i64 0), (.int .i64 0), (.int .i64 0)]), (.int .i64 40)]))) := by kernel_rfl
theorem Decode_T : Eng.Told P G0 (KOrc.orc ⟨tabP M5, tab [], cutT [(54, 0, cDecode)]⟩) := told_cut P_base M5_con .nil (.cons Decode_isLoop Decode_spec .nil)
noncomputable def pDecode : PCon := fun
  | [.int .u32 w] => [(inU w, .tup [.agg [.int .i64 (decOp w), .int .i64 (decRd w), .int .i64 (decRs1 w), .int .i64 (decRs2 w), .int .i64 (decImm w)], .int .i64 (decE w)])]
  | _ => []
theorem Decode_con : PConS P G0 54 pDecode := fun args v e h => by
  unfold pDecode at e
  split at e
  · rename_i w
    obtain ⟨hw, rfl⟩ := pick_one e
    refine (pure_con Decode_T (n := 400) (by
      rw [Decode_told]
      simp only [kst, kast, band_eq', bnot_eq', hw, and_true]
      cases hd : decB w
      · simp [decOp, decRd, decRs1, decRs2, decImm, decE, hd]
      · simp [decOp, decRd, decRs1, decRs2, decImm, decE, hd]) rfl).toS
  · cases e
noncomputable abbrev M6 : List (FuncId × PCon) := (54, pDecode) :: (33, cFind) :: M5
theorem M6_con : PConsS P G0 M6 := .cons Decode_con (.cons Find_con M5_con)
end Go.Proofs.YtbnmhhbncggjkaaGreatDoor
