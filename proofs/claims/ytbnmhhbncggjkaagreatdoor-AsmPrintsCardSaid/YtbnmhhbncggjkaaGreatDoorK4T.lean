/- Layer 4's reference: contracts of Right, rest, Encode, Find, Decode. Conditions: none. -/
import Derived.Test.YtbnmhhbncggjkaaGreatDoorK4S
set_option linter.unusedVariables false
set_option linter.unusedSimpArgs false
namespace Go.Proofs.YtbnmhhbncggjkaaGreatDoor
open Go Eng
set_option maxRecDepth 1000000
theorem Right_told {R : Type} (k : LV → Option R) (op rd rs1 rs2 n : Int) : evk P G0 (Ko R3) 400 (.call 61 [(.agg [(.int .i64 op), (.int .i64 rd), (.int .i64 rs1), (.int .i64 rs2), (.int .i64 n)])]) (hpOf P []) (obs0 k) =
  (tst (ieq ((opn op).kind) 0)
  (tst (beqS ((opn op).name) [])
   (k (.bool false))
   (ast (band (okB ⟨((opn op).name), 0, ((opn op).code), ((opn op).f3), ((opn op).f7), ((opn op).shift)⟩) (inI n)) <|
    let x0 := mayN ⟨((opn op).name), 0, ((opn op).code), ((opn op).f3), ((opn op).f7), ((opn op).shift)⟩ n;
    tst (bnot x0)
    (k (.bool false))
    (tst (ilt rd 0)
     (k (.bool false))
     (tst (ilt 31 rd)
      (k (.bool false))
      (tst (ilt rs1 0)
       (k (.bool false))
       (tst (ilt 31 rs1)
        (k (.bool false))
        (tst (ilt rs2 0)
         (k (.bool false))
         (tst (ilt 31 rs2)
          (k (.bool false))
          (tst (ieq rd 0)
           (tst (ieq rs1 0)
            (k (.bool (ieq rs2 0)))
            (k (.bool false)))
           (k (.bool false)))))))))))
  (tst (ieq ((opn op).kind) 1)
   (tst (beqS ((opn op).name) [])
    (k (.bool false))
    (ast (band (okB ⟨((opn op).name), 1, ((opn op).code), ((opn op).f3), ((opn op).f7), ((opn op).shift)⟩) (inI n)) <|
     let x0 := mayN ⟨((opn op).name), 1, ((opn op).code), ((opn op).f3), ((opn op).f7), ((opn op).shift)⟩ n;
     tst (bnot x0)
     (k (.bool false))
     (tst (ilt rd 0)
      (k (.bool false))
      (tst (ilt 31 rd)
       (k (.bool false))
       (tst (ilt rs1 0)
        (k (.bool false))
        (tst (ilt 31 rs1)
         (k (.bool false))
         (tst (ilt rs2 0)
          (k (.bool false))
          (tst (ilt 31 rs2)
           (k (.bool false))
           (k (.bool true))))))))))
   (tst (ieq ((opn op).kind) 2)
    (tst (beqS ((opn op).name) [])
     (k (.bool false))
     (ast (band (okB ⟨((opn op).name), 2, ((opn op).code), ((opn op).f3), ((opn op).f7), ((opn op).shift)⟩) (inI n)) <|
      let x0 := mayN ⟨((opn op).name), 2, ((opn op).code), ((opn op).f3), ((opn op).f7), ((opn op).shift)⟩ n;
      tst (bnot x0)
      (k (.bool false))
      (tst (ilt rd 0)
       (k (.bool false))
       (tst (ilt 31 rd)
        (k (.bool false))
        (tst (ilt rs1 0)
         (k (.bool false))
         (tst (ilt 31 rs1)
          (k (.bool false))
          (tst (ilt rs2 0)
           (k (.bool false))
           (tst (ilt 31 rs2)
            (k (.bool false))
            (k (.bool (ieq rs2 0)))))))))))
    (tst (ieq ((opn op).kind) 3)
     (tst (beqS ((opn op).name) [])
      (k (.bool false))
      (ast (band (okB ⟨((opn op).name), 3, ((opn op).code), ((opn op).f3), ((opn op).f7), ((opn op).shift)⟩) (inI n)) <|
       let x0 := mayN ⟨((opn op).name), 3, ((opn op).code), ((opn op).f3), ((opn op).f7), ((opn op).shift)⟩ n;
       tst (bnot x0)
       (k (.bool false))
       (tst (ilt rd 0)
        (k (.bool false))
        (tst (ilt 31 rd)
         (k (.bool false))
         (tst (ilt rs1 0)
          (k (.bool false))
          (tst (ilt 31 rs1)
           (k (.bool false))
           (tst (ilt rs2 0)
            (k (.bool false))
            (tst (ilt 31 rs2)
             (k (.bool false))
             (k (.bool (ieq rs2 0)))))))))))
     (tst (ieq ((opn op).kind) 4)
      (tst (beqS ((opn op).name) [])
       (k (.bool false))
       (ast (band (okB ⟨((opn op).name), 4, ((opn op).code), ((opn op).f3), ((opn op).f7), ((opn op).shift)⟩) (inI n)) <|
        let x0 := mayN ⟨((opn op).name), 4, ((opn op).code), ((opn op).f3), ((opn op).f7), ((opn op).shift)⟩ n;
        tst (bnot x0)
        (k (.bool false))
        (tst (ilt rd 0)
         (k (.bool false))
         (tst (ilt 31 rd)
          (k (.bool false))
          (tst (ilt rs1 0)
           (k (.bool false))
           (tst (ilt 31 rs1)
            (k (.bool false))
            (tst (ilt rs2 0)
             (k (.bool false))
             (tst (ilt 31 rs2)
              (k (.bool false))
              (tst (ieq rd 0)
               (k (.bool true))
               (k (.bool false)))))))))))
      (tst (ieq ((opn op).kind) 5)
       (tst (beqS ((opn op).name) [])
        (k (.bool false))
        (ast (band (okB ⟨((opn op).name), 5, ((opn op).code), ((opn op).f3), ((opn op).f7), ((opn op).shift)⟩) (inI n)) <|
         let x0 := mayN ⟨((opn op).name), 5, ((opn op).code), ((opn op).f3), ((opn op).f7), ((opn op).shift)⟩ n;
         tst (bnot x0)
         (k (.bool false))
         (tst (ilt rd 0)
          (k (.bool false))
          (tst (ilt 31 rd)
           (k (.bool false))
           (tst (ilt rs1 0)
            (k (.bool false))
            (tst (ilt 31 rs1)
             (k (.bool false))
             (tst (ilt rs2 0)
              (k (.bool false))
              (tst (ilt 31 rs2)
               (k (.bool false))
               (tst (ieq rd 0)
                (k (.bool true))
                (k (.bool false)))))))))))
       (tst (ieq ((opn op).kind) 6)
        (tst (beqS ((opn op).name) [])
         (k (.bool false))
         (ast (band (okB ⟨((opn op).name), 6, ((opn op).code), ((opn op).f3), ((opn op).f7), ((opn op).shift)⟩) (inI n)) <|
          let x0 := mayN ⟨((opn op).name), 6, ((opn op).code), ((opn op).f3), ((opn op).f7), ((opn op).shift)⟩ n;
          tst (bnot x0)
          (k (.bool false))
          (tst (ilt rd 0)
           (k (.bool false))
           (tst (ilt 31 rd)
            (k (.bool false))
            (tst (ilt rs1 0)
             (k (.bool false))
             (tst (ilt 31 rs1)
              (k (.bool false))
              (tst (ilt rs2 0)
               (k (.bool false))
               (tst (ilt 31 rs2)
                (k (.bool false))
                (tst (ieq rs1 0)
                 (k (.bool (ieq rs2 0)))
                 (k (.bool false)))))))))))
        (tst (ieq ((opn op).kind) 7)
         (tst (beqS ((opn op).name) [])
          (k (.bool false))
          (ast (band (okB ⟨((opn op).name), 7, ((opn op).code), ((opn op).f3), ((opn op).f7), ((opn op).shift)⟩) (inI n)) <|
           let x0 := mayN ⟨((opn op).name), 7, ((opn op).code), ((opn op).f3), ((opn op).f7), ((opn op).shift)⟩ n;
           tst (bnot x0)
           (k (.bool false))
           (tst (ilt rd 0)
            (k (.bool false))
            (tst (ilt 31 rd)
             (k (.bool false))
             (tst (ilt rs1 0)
              (k (.bool false))
              (tst (ilt 31 rs1)
               (k (.bool false))
               (tst (ilt rs2 0)
                (k (.bool false))
                (tst (ilt 31 rs2)
                 (k (.bool false))
                 (tst (ieq rs1 0)
                  (k (.bool (ieq rs2 0)))
                  (k (.bool false)))))))))))
         (tst (ieq ((opn op).kind) 8)
          (tst (beqS ((opn op).name) [])
           (k (.bool false))
           (ast (band (okB ⟨((opn op).name), 8, ((opn op).code), ((opn op).f3), ((opn op).f7), ((opn op).shift)⟩) (inI n)) <|
            let x0 := mayN ⟨((opn op).name), 8, ((opn op).code), ((opn op).f3), ((opn op).f7), ((opn op).shift)⟩ n;
            tst (bnot x0)
            (k (.bool false))
            (tst (ilt rd 0)
             (k (.bool false))
             (tst (ilt 31 rd)
              (k (.bool false))
              (tst (ilt rs1 0)
               (k (.bool false))
               (tst (ilt 31 rs1)
                (k (.bool false))
                (tst (ilt rs2 0)
                 (k (.bool false))
                 (tst (ilt 31 rs2)
                  (k (.bool false))
                  (k (.bool (ieq rs2 0)))))))))))
          (tst (ieq ((opn op).kind) 9)
           (tst (beqS ((opn op).name) [])
            (k (.bool false))
            (ast (band (okB ⟨((opn op).name), 9, ((opn op).code), ((opn op).f3), ((opn op).f7), ((opn op).shift)⟩) (inI n)) <|
             let x0 := mayN ⟨((opn op).name), 9, ((opn op).code), ((opn op).f3), ((opn op).f7), ((opn op).shift)⟩ n;
             tst (bnot x0)
             (k (.bool false))
             (tst (ilt rd 0)
              (k (.bool false))
              (tst (ilt 31 rd)
               (k (.bool false))
               (tst (ilt rs1 0)
                (k (.bool false))
                (tst (ilt 31 rs1)
                 (k (.bool false))
                 (tst (ilt rs2 0)
                  (k (.bool false))
                  (tst (ilt 31 rs2)
                   (k (.bool false))
                   (tst (ieq rd 0)
                    (tst (ieq rs1 0)
                     (k (.bool (ieq rs2 0)))
                     (k (.bool false)))
                    (k (.bool false)))))))))))
           (ast (ieq ((opn op).kind) 10) <|
            tst (beqS ((opn op).name) [])
            (k (.bool false))
            (ast (band (okB ⟨((opn op).name), 10, ((opn op).code), ((opn op).f3), ((opn op).f7), ((opn op).shift)⟩) (inI n)) <|
             let x0 := mayN ⟨((opn op).name), 10, ((opn op).code), ((opn op).f3), ((opn op).f7), ((opn op).shift)⟩ n;
             tst (bnot x0)
             (k (.bool false))
             (tst (ilt rd 0)
              (k (.bool false))
              (tst (ilt 31 rd)
               (k (.bool false))
               (tst (ilt rs1 0)
                (k (.bool false))
                (tst (ilt 31 rs1)
                 (k (.bool false))
                 (tst (ilt rs2 0)
                  (k (.bool false))
                  (tst (ilt 31 rs2)
                   (k (.bool false))
                   (tst (ieq rd 0)
                    (k (.bool true))
                    (k (.bool false))))))))))))))))))))) := by kernel_rfl
theorem named_all : ((List.range 82).all fun k => !(opn ((k : Int) + 1)).name.isEmpty) = true := by decide +kernel
theorem named (op : Int) (h : 1 ≤ op ∧ op ≤ 82) : beqS (opn op).name [] = false := by
  have h1 := List.all_eq_true.1 named_all (op - 1).toNat (List.mem_range.2 (by omega))
  rw [show (((op - 1).toNat : Nat) : Int) + 1 = op by omega] at h1
  rw [beqS_eq]
  cases hn : (opn op).name with
  | nil => rw [hn] at h1; simp at h1
  | cons a l => simp
noncomputable def cRight : PCon := fun
  | [.agg [.int .i64 op, .int .i64 rd, .int .i64 rs1, .int .i64 rs2, .int .i64 n]] => [(inI n, .bool (encB op rd rs1 rs2 n))]
  | _ => []
theorem okB_kind (op : Int) (h : 1 ≤ op ∧ op ≤ 82) (k : Int) (hk : (opn op).kind = k) : okB ⟨(opn op).name, k, (opn op).code, (opn op).f3, (opn op).f7, (opn op).shift⟩ = true := by
  subst hk
  exact (okB_iff _).2 (opn_ok op h)
theorem op_kind (op k : Int) (hk : (opn op).kind = k) : (⟨(opn op).name, k, (opn op).code, (opn op).f3, (opn op).f7, (opn op).shift⟩ : Opn) = opn op := by
  subst hk
  rfl
theorem Right_con : PConS P G0 61 cRight := fun args v e h => by
  unfold cRight at e
  split at e
  · rename_i op rd rs1 rs2 n
    obtain ⟨hn, rfl⟩ := pick_one e
    refine (pure_con (ko_told R3_con) (n := 400) (by
      rw [Right_told]
      simp only [kst, kast, bnot_eq', band_eq', ile_eq, ilt_eq, ieq_eq, hn, and_true, true_and]
      cases hk : knownB op
      · rw [opn_off op hk]
        rw [if_pos (by rfl), if_pos (by rfl)]
        simp [encB, hk]
      · have hx := known_lo op hk
        have hnm := named op hx
        have ho := opn_ok op hx
        have hok := okB_kind op hx
        have hop := op_kind op
        simp only [hnm, Bool.false_eq_true, if_false]
        have k0 := ho.k0
        have k1 := ho.k1
        generalize hkd : (opn op).kind = kd at *
        have hb : encB op rd rs1 rs2 n = (regB rd (hasRd kd) && regB rs1 (hasRs1 kd) && regB rs2 (hasRs2 kd) && mayN (opn op) n) := by unfold encB; rw [hk, hkd]; rfl
        rw [hb]
        obtain rfl | rfl | rfl | rfl | rfl | rfl | rfl | rfl | rfl | rfl : kd = 1 ∨ kd = 2 ∨ kd = 3 ∨ kd = 4 ∨ kd = 5 ∨ kd = 6 ∨ kd = 7 ∨ kd = 8 ∨ kd = 9 ∨ kd = 10 := by omega
        all_goals simp only [Int.reduceEq, if_false, if_true]
        all_goals rw [hop _ rfl]
        all_goals rw [if_pos (by rw [← hop _ rfl]; exact hok _ rfl)]
        all_goals
          cases hm : mayN (opn op) n
          · rw [if_pos rfl, Bool.and_false]
          · rw [if_neg (by simp), Bool.and_true]
            repeat' split
            all_goals refine congrArg (fun b => some (LV.bool b)) (Bool.eq_iff_iff.2 ?_)
            all_goals simp [regB, hasRd, hasRs1, hasRs2, ieq]
            all_goals omega) rfl).toS
  · cases e
/-! rest -/
noncomputable def restC (c : List LV) (o : Opn) (n : Int) : List LV :=
  if o.kind = 1 then layC c o.f7 0 7 25
  else if o.kind = 2 ∨ o.kind = 3 then (if o.shift = 6 then layC (layC c n 0 6 20) o.f7 0 6 26 else if o.shift = 5 then layC (layC c n 0 5 20) o.f7 0 7 25 else layC c n 0 12 20)
  else if o.kind = 4 then layC (layC c n 0 5 7) n 5 7 25
  else if o.kind = 5 then layC (layC (layC (layC c n 12 1 31) n 5 6 25) n 1 4 8) n 11 1 7
  else if o.kind = 6 then layC c n 12 20 12
  else if o.kind = 7 then layC (layC (layC (layC c n 20 1 31) n 1 10 21) n 11 1 20) n 12 8 12
  else if o.kind = 8 then layC (layC c o.f7 0 5 20) 127 0 7 25
  else if o.kind = 10 then layC (layC c 1 0 5 7) o.f7 0 7 25
  else layC c o.f7 0 12 20
noncomputable def isW (c : List LV) : Bool := decide (c.length = 32 ∧ topL c = 0)
theorem isW_lay {c : List LV} (h : isW c = true) (n f m t : Int) : isW (layC c n f m t) = true := by
  have h := of_decide_eq_true h
  exact decide_eq_true ⟨by rw [layC, layN_len, h.1], layN_top c n _ _ _ h.2⟩
theorem isW_ok {c : List LV} (h : isW c = true) (f m t : Int) (h2 : 0 ≤ f ∧ 0 ≤ m ∧ 0 ≤ t ∧ f + m ≤ 63 ∧ t + m ≤ 32) : layOk c f m t = true := by
  have h := of_decide_eq_true h
  exact decide_eq_true ⟨h.1, h.2, h2⟩
theorem isW_len {c : List LV} (h : isW c = true) : len c = 32 := by rw [len_eq]; exact (of_decide_eq_true h).1
theorem isW_top {c : List LV} (h : isW c = true) : topL c = 0 := (of_decide_eq_true h).2
theorem isW_rest {c : List LV} (h : isW c = true) (o : Opn) (n : Int) : isW (restC c o n) = true := by
  have l : ∀ {c : List LV}, isW c = true → ∀ n f m t, isW (layC c n f m t) = true := fun h n f m t => isW_lay h n f m t
  unfold restC
  split
  · exact l h _ _ _ _
  split
  · split
    · exact l (l h _ _ _ _) _ _ _ _
    · split
      · exact l (l h _ _ _ _) _ _ _ _
      · exact l h _ _ _ _
  split
  · exact l (l h _ _ _ _) _ _ _ _
  split
  · exact l (l (l (l h _ _ _ _) _ _ _ _) _ _ _ _) _ _ _ _
  split
  · exact l h _ _ _ _
  split
  · exact l (l (l (l h _ _ _ _) _ _ _ _) _ _ _ _) _ _ _ _
  split
  · exact l (l h _ _ _ _) _ _ _ _
  split
  · exact l (l h _ _ _ _) _ _ _ _
  · exact l h _ _ _ _
theorem rest_told {R : Type} (k : LV → Option R) (w : List LV) (nm : List UInt8) (kd c f g s n : Int) : evk P G0 (Ko R3) 400 (.call 64 [(.agg w), (.agg [(.str nm), (.int .i64 kd), (.int .i64 c), (.int .i64 f), (.int .i64 g), (.int .i64 s)]), (.int .i64 n)]) (hpOf P []) (obs0 k) =
  (tst (ieq kd 1)
  (ast (neq (len w) 32) <|
   ast (band (layOk w 0 7 25) (inI g)) <|
   ast (neq 32 (len (layC w g 0 7 25))) <|
   ast (neq (len (layC w g 0 7 25)) 32) <|
   ast (nle (topL (layC w g 0 7 25)) 2) <|
   ast (neq (len (layC w g 0 7 25)) 32) <|
   tst (nle (topL (layC w g 0 7 25)) 0)
   (k (.agg (layC w g 0 7 25)))
   (none))
  (tst (ieq kd 2)
   (tst (ieq s 6)
    (ast (neq (len w) 32) <|
     ast (band (layOk w 0 6 20) (inI n)) <|
     ast (band (layOk (layC w n 0 6 20) 0 6 26) (inI g)) <|
     ast (neq 32 (len (layC (layC w n 0 6 20) g 0 6 26))) <|
     ast (neq (len (layC (layC w n 0 6 20) g 0 6 26)) 32) <|
     ast (nle (topL (layC (layC w n 0 6 20) g 0 6 26)) 2) <|
     ast (neq (len (layC (layC w n 0 6 20) g 0 6 26)) 32) <|
     tst (nle (topL (layC (layC w n 0 6 20) g 0 6 26)) 0)
     (k (.agg (layC (layC w n 0 6 20) g 0 6 26)))
     (none))
    (tst (ieq s 5)
     (ast (neq (len w) 32) <|
      ast (band (layOk w 0 5 20) (inI n)) <|
      ast (band (layOk (layC w n 0 5 20) 0 7 25) (inI g)) <|
      ast (neq 32 (len (layC (layC w n 0 5 20) g 0 7 25))) <|
      ast (neq (len (layC (layC w n 0 5 20) g 0 7 25)) 32) <|
      ast (nle (topL (layC (layC w n 0 5 20) g 0 7 25)) 2) <|
      ast (neq (len (layC (layC w n 0 5 20) g 0 7 25)) 32) <|
      tst (nle (topL (layC (layC w n 0 5 20) g 0 7 25)) 0)
      (k (.agg (layC (layC w n 0 5 20) g 0 7 25)))
      (none))
     (ast (neq (len w) 32) <|
      ast (band (layOk w 0 12 20) (inI n)) <|
      ast (neq 32 (len (layC w n 0 12 20))) <|
      ast (neq (len (layC w n 0 12 20)) 32) <|
      ast (nle (topL (layC w n 0 12 20)) 2) <|
      ast (neq (len (layC w n 0 12 20)) 32) <|
      tst (nle (topL (layC w n 0 12 20)) 0)
      (k (.agg (layC w n 0 12 20)))
      (none))))
   (tst (ieq kd 3)
    (tst (ieq s 6)
     (ast (neq (len w) 32) <|
      ast (band (layOk w 0 6 20) (inI n)) <|
      ast (band (layOk (layC w n 0 6 20) 0 6 26) (inI g)) <|
      ast (neq 32 (len (layC (layC w n 0 6 20) g 0 6 26))) <|
      ast (neq (len (layC (layC w n 0 6 20) g 0 6 26)) 32) <|
      ast (nle (topL (layC (layC w n 0 6 20) g 0 6 26)) 2) <|
      ast (neq (len (layC (layC w n 0 6 20) g 0 6 26)) 32) <|
      tst (nle (topL (layC (layC w n 0 6 20) g 0 6 26)) 0)
      (k (.agg (layC (layC w n 0 6 20) g 0 6 26)))
      (none))
     (tst (ieq s 5)
      (ast (neq (len w) 32) <|
       ast (band (layOk w 0 5 20) (inI n)) <|
       ast (band (layOk (layC w n 0 5 20) 0 7 25) (inI g)) <|
       ast (neq 32 (len (layC (layC w n 0 5 20) g 0 7 25))) <|
       ast (neq (len (layC (layC w n 0 5 20) g 0 7 25)) 32) <|
       ast (nle (topL (layC (layC w n 0 5 20) g 0 7 25)) 2) <|
       ast (neq (len (layC (layC w n 0 5 20) g 0 7 25)) 32) <|
       tst (nle (topL (layC (layC w n 0 5 20) g 0 7 25)) 0)
       (k (.agg (layC (layC w n 0 5 20) g 0 7 25)))
       (none))
      (ast (neq (len w) 32) <|
       ast (band (layOk w 0 12 20) (inI n)) <|
       ast (neq 32 (len (layC w n 0 12 20))) <|
       ast (neq (len (layC w n 0 12 20)) 32) <|
       ast (nle (topL (layC w n 0 12 20)) 2) <|
       ast (neq (len (layC w n 0 12 20)) 32) <|
       tst (nle (topL (layC w n 0 12 20)) 0)
       (k (.agg (layC w n 0 12 20)))
       (none))))
    (tst (ieq kd 4)
     (ast (neq (len w) 32) <|
      ast (band (layOk w 0 5 7) (inI n)) <|
      ast (band (layOk (layC w n 0 5 7) 5 7 25) (inI n)) <|
      ast (neq 32 (len (layC (layC w n 0 5 7) n 5 7 25))) <|
      ast (neq (len (layC (layC w n 0 5 7) n 5 7 25)) 32) <|
      ast (nle (topL (layC (layC w n 0 5 7) n 5 7 25)) 2) <|
      ast (neq (len (layC (layC w n 0 5 7) n 5 7 25)) 32) <|
      tst (nle (topL (layC (layC w n 0 5 7) n 5 7 25)) 0)
      (k (.agg (layC (layC w n 0 5 7) n 5 7 25)))
      (none))
     (tst (ieq kd 5)
      (ast (neq (len w) 32) <|
       ast (band (layOk w 12 1 31) (inI n)) <|
       ast (band (layOk (layC w n 12 1 31) 5 6 25) (inI n)) <|
       ast (band (layOk (layC (layC w n 12 1 31) n 5 6 25) 1 4 8) (inI n)) <|
       let x0 := layC (layC (layC w n 12 1 31) n 5 6 25) n 1 4 8;
       ast (band (layOk x0 11 1 7) (inI n)) <|
       ast (neq 32 (len (layC x0 n 11 1 7))) <|
       ast (neq (len (layC x0 n 11 1 7)) 32) <|
       ast (nle (topL (layC x0 n 11 1 7)) 2) <|
       ast (neq (len (layC x0 n 11 1 7)) 32) <|
       tst (nle (topL (layC x0 n 11 1 7)) 0)
       (k (.agg (layC x0 n 11 1 7)))
       (none))
      (tst (ieq kd 6)
       (ast (neq (len w) 32) <|
        ast (band (layOk w 12 20 12) (inI n)) <|
        ast (neq 32 (len (layC w n 12 20 12))) <|
        ast (neq (len (layC w n 12 20 12)) 32) <|
        ast (nle (topL (layC w n 12 20 12)) 2) <|
        ast (neq (len (layC w n 12 20 12)) 32) <|
        tst (nle (topL (layC w n 12 20 12)) 0)
        (k (.agg (layC w n 12 20 12)))
        (none))
       (tst (ieq kd 7)
        (ast (neq (len w) 32) <|
         ast (band (layOk w 20 1 31) (inI n)) <|
         ast (band (layOk (layC w n 20 1 31) 1 10 21) (inI n)) <|
         ast (band (layOk (layC (layC w n 20 1 31) n 1 10 21) 11 1 20) (inI n)) <|
         let x0 := layC (layC (layC w n 20 1 31) n 1 10 21) n 11 1 20;
         ast (band (layOk x0 12 8 12) (inI n)) <|
         ast (neq 32 (len (layC x0 n 12 8 12))) <|
         ast (neq (len (layC x0 n 12 8 12)) 32) <|
         ast (nle (topL (layC x0 n 12 8 12)) 2) <|
         ast (neq (len (layC x0 n 12 8 12)) 32) <|
         tst (nle (topL (layC x0 n 12 8 12)) 0)
         (k (.agg (layC x0 n 12 8 12)))
         (none))
        (tst (ieq kd 8)
         (ast (neq (len w) 32) <|
          ast (band (layOk w 0 5 20) (inI g)) <|
          ast (band (layOk (layC w g 0 5 20) 0 7 25) true) <|
          ast (neq 32 (len (layC (layC w g 0 5 20) 127 0 7 25))) <|
          ast (neq (len (layC (layC w g 0 5 20) 127 0 7 25)) 32) <|
          ast (nle (topL (layC (layC w g 0 5 20) 127 0 7 25)) 2) <|
          ast (neq (len (layC (layC w g 0 5 20) 127 0 7 25)) 32) <|
          tst (nle (topL (layC (layC w g 0 5 20) 127 0 7 25)) 0)
          (k (.agg (layC (layC w g 0 5 20) 127 0 7 25)))
          (none))
         (tst (ieq kd 10)
          (ast (neq (len w) 32) <|
           ast (band (layOk w 0 5 7) true) <|
           ast (band (layOk (layC w 1 0 5 7) 0 7 25) (inI g)) <|
           ast (neq 32 (len (layC (layC w 1 0 5 7) g 0 7 25))) <|
           ast (neq (len (layC (layC w 1 0 5 7) g 0 7 25)) 32) <|
           ast (nle (topL (layC (layC w 1 0 5 7) g 0 7 25)) 2) <|
           ast (neq (len (layC (layC w 1 0 5 7) g 0 7 25)) 32) <|
           tst (nle (topL (layC (layC w 1 0 5 7) g 0 7 25)) 0)
           (k (.agg (layC (layC w 1 0 5 7) g 0 7 25)))
           (none))
          (ast (neq (len w) 32) <|
           ast (band (layOk w 0 12 20) (inI g)) <|
           ast (neq 32 (len (layC w g 0 12 20))) <|
           ast (neq (len (layC w g 0 12 20)) 32) <|
           ast (nle (topL (layC w g 0 12 20)) 2) <|
           ast (neq (len (layC w g 0 12 20)) 32) <|
           tst (nle (topL (layC w g 0 12 20)) 0)
           (k (.agg (layC w g 0 12 20)))
           (none))))))))))) := by kernel_rfl
noncomputable def restOk (c : List LV) (o : Opn) : Bool := isW c && inI o.f7
noncomputable def cRest : PCon := fun
  | [.agg w, .agg [.str nm, .int .i64 a, .int .i64 b, .int .i64 c, .int .i64 d, .int .i64 e], .int .i64 n] => [(band (restOk w ⟨nm, a, b, c, d, e⟩) (inI n), .agg (restC w ⟨nm, a, b, c, d, e⟩ n))]
  | _ => []
theorem rest_con : PConS P G0 64 cRest := fun args v e h => by
  unfold cRest at e
  split at e
  · rename_i w nm kd c f g s n
    obtain ⟨hb, rfl⟩ := pick_one e
    rw [band_eq'] at hb
    obtain ⟨h1, hn⟩ := hb
    unfold restOk at h1
    rw [Bool.and_eq_true] at h1
    obtain ⟨hw, hg⟩ := h1
    dsimp only at hg
    have ly : ∀ {c : List LV}, isW c = true → ∀ n f m t, isW (layC c n f m t) = true := fun h n f m t => isW_lay h n f m t
    refine (pure_con (ko_told R3_con) (n := 400) (by
      rw [rest_told]
      simp only [kst, kast, ieq_eq, band_eq', neq_eq, nle_eq, hn, hg, and_true]
      unfold restC
      dsimp only
      by_cases k1 : kd = 1
      · simp (maxDischargeDepth := 8) [k1, isW_len, isW_top, isW_ok, ly, hw]
      · by_cases k2 : kd = 2
        · by_cases s6 : s = 6
          · simp (maxDischargeDepth := 8) [k1, k2, s6, isW_len, isW_top, isW_ok, ly, hw]
          · by_cases s5 : s = 5 <;> simp (maxDischargeDepth := 8) [k1, k2, s6, s5, isW_len, isW_top, isW_ok, ly, hw]
        · by_cases k3 : kd = 3
          · by_cases s6 : s = 6
            · simp (maxDischargeDepth := 8) [k1, k3, s6, isW_len, isW_top, isW_ok, ly, hw]
            · by_cases s5 : s = 5 <;> simp (maxDischargeDepth := 8) [k1, k3, s6, s5, isW_len, isW_top, isW_ok, ly, hw]
          · by_cases k4 : kd = 4
            · simp (maxDischargeDepth := 8) [k1, k2, k3, k4, isW_len, isW_top, isW_ok, ly, hw]
            · by_cases k5 : kd = 5
              · simp (maxDischargeDepth := 8) [k1, k2, k3, k4, k5, isW_len, isW_top, isW_ok, ly, hw]
              · by_cases k6 : kd = 6
                · simp (maxDischargeDepth := 8) [k1, k2, k3, k4, k5, k6, isW_len, isW_top, isW_ok, ly, hw]
                · by_cases k7 : kd = 7
                  · simp (maxDischargeDepth := 8) [k1, k2, k3, k4, k5, k6, k7, isW_len, isW_top, isW_ok, ly, hw]
                  · by_cases k8 : kd = 8
                    · simp (maxDischargeDepth := 8) [k1, k2, k3, k4, k5, k6, k7, k8, isW_len, isW_top, isW_ok, ly, hw]
                    · by_cases k10 : kd = 10
                      · simp (maxDischargeDepth := 8) [k1, k2, k3, k4, k5, k6, k7, k8, k10, isW_len, isW_top, isW_ok, ly, hw]
                      · simp (maxDischargeDepth := 8) [k1, k2, k3, k4, k5, k6, k7, k8, k10, isW_len, isW_top, isW_ok, ly, hw]) (by show max (topL w) _ = 0; rw [isW_top hw]; rfl)).toS
  · cases e
noncomputable abbrev R4 : List (FuncId × PCon) := (64, cRest) :: (61, cRight) :: R3
theorem R4_con : PConsS P G0 R4 := .cons rest_con (.cons Right_con R3_con)
end Go.Proofs.YtbnmhhbncggjkaaGreatDoor
