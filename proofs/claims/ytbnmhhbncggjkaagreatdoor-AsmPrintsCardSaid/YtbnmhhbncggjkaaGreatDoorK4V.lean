/- Layer 4's reference: contracts of Find, Decode. Conditions: none. -/
import Derived.Test.YtbnmhhbncggjkaaGreatDoorK4U
set_option linter.unusedVariables false
set_option linter.unusedSimpArgs false
namespace Go.Proofs.YtbnmhhbncggjkaaGreatDoor
open Go Eng
set_option maxRecDepth 1000000
theorem RefFind_told {R : Type} (k : LV → Option R) (s : List UInt8) : evk P G0 (Ko []) 1000 (.call 23 [.str s]) (hpOf P []) (obs0 k) = findK s k tbl 1 := by kernel_rfl
theorem RefFind_con : PConS P G0 23 cFind := fun args v e h => by
  unfold cFind at e
  split at e
  · rename_i s
    obtain ⟨-, rfl⟩ := pick_one e
    refine (pure_con (ko_told .nil) (n := 1000) (by
      rw [RefFind_told, findK_eq]
      unfold findN
      cases tbl.findIdx? (fun o => o.name == s) with
      | none => rfl
      | some j => simp; omega) rfl).toS
  · cases e
theorem RefDecode_round {R : Type} (kn : List LV → List LObj → Option R) (kx : Nat → List LV → List LObj → Option R) (kr : List LV → List LObj → Option R) (w i : Int) :
    evk P G0 (Ko R5) 400 (.code (loopOf P 58 0) none 58 57 (frZ [0, 2, 4] [(.int .u32 w), (.ptr 0 0), (.int .i64 i)]) []) (hpOf P [.cells [(.int .i64 0), (.int .i64 0), (.int .i64 0), (.int .i64 0), (.int .i64 0)] 23 0 0 false false]) (kround P 0 1 [0, 2, 4] [0, 2] [2, 3] kn kx kr) =
  (tst (ile i 82)
  (tst (ieq ((opn i).kind) 0)
   (ast (band (okB ⟨((opn i).name), 0, ((opn i).code), ((opn i).f3), ((opn i).f7), ((opn i).shift)⟩) (inU w)) <|
    let x0 := immN ⟨((opn i).name), 0, ((opn i).code), ((opn i).f3), ((opn i).f7), ((opn i).shift)⟩ w;
    ast (inI x0) <|
    tst (ieq (encE i 0 0 0 x0) 0)
    (tst (ieq (encV i 0 0 0 x0) w)
     (kr [(.ptr 0 0), (.int .i64 0)] [.cells [(.int .i64 i), (.int .i64 0), (.int .i64 0), (.int .i64 0), (.int .i64 x0)] 23 0 0 false false])
     (kn [(.int .u32 w), (.ptr 0 0), (.int .i64 (wrapF .i64 (i + 1)))] [.cells [(.int .i64 0), (.int .i64 0), (.int .i64 0), (.int .i64 0), (.int .i64 0)] 23 0 0 false false]))
    (kn [(.int .u32 w), (.ptr 0 0), (.int .i64 (wrapF .i64 (i + 1)))] [.cells [(.int .i64 0), (.int .i64 0), (.int .i64 0), (.int .i64 0), (.int .i64 0)] 23 0 0 false false]))
   (tst (ieq ((opn i).kind) 1)
    (ast (band (okB ⟨((opn i).name), 1, ((opn i).code), ((opn i).f3), ((opn i).f7), ((opn i).shift)⟩) (inU w)) <|
     let x0 := immN ⟨((opn i).name), 1, ((opn i).code), ((opn i).f3), ((opn i).f7), ((opn i).shift)⟩ w;
     ast (inU w) <|
     ast (inU w) <|
     ast (inU w) <|
     ast (inI x0) <|
     let x1 := encV i (bitsN w 7 5) (bitsN w 15 5) (bitsN w 20 5) x0;
     let x2 := encE i (bitsN w 7 5) (bitsN w 15 5) (bitsN w 20 5) x0;
     tst (ieq x2 0)
     (tst (ieq x1 w)
      (kr [(.ptr 0 0), (.int .i64 0)] [.cells [(.int .i64 i), (.int .i64 (bitsN w 7 5)), (.int .i64 (bitsN w 15 5)), (.int .i64 (bitsN w 20 5)), (.int .i64 x0)] 23 0 0 false false])
      (kn [(.int .u32 w), (.ptr 0 0), (.int .i64 (wrapF .i64 (i + 1)))] [.cells [(.int .i64 0), (.int .i64 0), (.int .i64 0), (.int .i64 0), (.int .i64 0)] 23 0 0 false false]))
     (kn [(.int .u32 w), (.ptr 0 0), (.int .i64 (wrapF .i64 (i + 1)))] [.cells [(.int .i64 0), (.int .i64 0), (.int .i64 0), (.int .i64 0), (.int .i64 0)] 23 0 0 false false]))
    (tst (ieq ((opn i).kind) 2)
     (ast (band (okB ⟨((opn i).name), 2, ((opn i).code), ((opn i).f3), ((opn i).f7), ((opn i).shift)⟩) (inU w)) <|
      let x0 := immN ⟨((opn i).name), 2, ((opn i).code), ((opn i).f3), ((opn i).f7), ((opn i).shift)⟩ w;
      ast (inU w) <|
      ast (inU w) <|
      ast (inI x0) <|
      let x1 := encV i (bitsN w 7 5) (bitsN w 15 5) 0 x0;
      let x2 := encE i (bitsN w 7 5) (bitsN w 15 5) 0 x0;
      tst (ieq x2 0)
      (tst (ieq x1 w)
       (kr [(.ptr 0 0), (.int .i64 0)] [.cells [(.int .i64 i), (.int .i64 (bitsN w 7 5)), (.int .i64 (bitsN w 15 5)), (.int .i64 0), (.int .i64 x0)] 23 0 0 false false])
       (kn [(.int .u32 w), (.ptr 0 0), (.int .i64 (wrapF .i64 (i + 1)))] [.cells [(.int .i64 0), (.int .i64 0), (.int .i64 0), (.int .i64 0), (.int .i64 0)] 23 0 0 false false]))
      (kn [(.int .u32 w), (.ptr 0 0), (.int .i64 (wrapF .i64 (i + 1)))] [.cells [(.int .i64 0), (.int .i64 0), (.int .i64 0), (.int .i64 0), (.int .i64 0)] 23 0 0 false false]))
     (tst (ieq ((opn i).kind) 3)
      (ast (band (okB ⟨((opn i).name), 3, ((opn i).code), ((opn i).f3), ((opn i).f7), ((opn i).shift)⟩) (inU w)) <|
       let x0 := immN ⟨((opn i).name), 3, ((opn i).code), ((opn i).f3), ((opn i).f7), ((opn i).shift)⟩ w;
       ast (inU w) <|
       ast (inU w) <|
       ast (inI x0) <|
       let x1 := encV i (bitsN w 7 5) (bitsN w 15 5) 0 x0;
       let x2 := encE i (bitsN w 7 5) (bitsN w 15 5) 0 x0;
       tst (ieq x2 0)
       (tst (ieq x1 w)
        (kr [(.ptr 0 0), (.int .i64 0)] [.cells [(.int .i64 i), (.int .i64 (bitsN w 7 5)), (.int .i64 (bitsN w 15 5)), (.int .i64 0), (.int .i64 x0)] 23 0 0 false false])
        (kn [(.int .u32 w), (.ptr 0 0), (.int .i64 (wrapF .i64 (i + 1)))] [.cells [(.int .i64 0), (.int .i64 0), (.int .i64 0), (.int .i64 0), (.int .i64 0)] 23 0 0 false false]))
       (kn [(.int .u32 w), (.ptr 0 0), (.int .i64 (wrapF .i64 (i + 1)))] [.cells [(.int .i64 0), (.int .i64 0), (.int .i64 0), (.int .i64 0), (.int .i64 0)] 23 0 0 false false]))
      (tst (ieq ((opn i).kind) 4)
       (ast (band (okB ⟨((opn i).name), 4, ((opn i).code), ((opn i).f3), ((opn i).f7), ((opn i).shift)⟩) (inU w)) <|
        let x0 := immN ⟨((opn i).name), 4, ((opn i).code), ((opn i).f3), ((opn i).f7), ((opn i).shift)⟩ w;
        ast (inU w) <|
        ast (inU w) <|
        ast (inI x0) <|
        let x1 := encV i 0 (bitsN w 15 5) (bitsN w 20 5) x0;
        let x2 := encE i 0 (bitsN w 15 5) (bitsN w 20 5) x0;
        tst (ieq x2 0)
        (tst (ieq x1 w)
         (kr [(.ptr 0 0), (.int .i64 0)] [.cells [(.int .i64 i), (.int .i64 0), (.int .i64 (bitsN w 15 5)), (.int .i64 (bitsN w 20 5)), (.int .i64 x0)] 23 0 0 false false])
         (kn [(.int .u32 w), (.ptr 0 0), (.int .i64 (wrapF .i64 (i + 1)))] [.cells [(.int .i64 0), (.int .i64 0), (.int .i64 0), (.int .i64 0), (.int .i64 0)] 23 0 0 false false]))
        (kn [(.int .u32 w), (.ptr 0 0), (.int .i64 (wrapF .i64 (i + 1)))] [.cells [(.int .i64 0), (.int .i64 0), (.int .i64 0), (.int .i64 0), (.int .i64 0)] 23 0 0 false false]))
       (tst (ieq ((opn i).kind) 5)
        (ast (band (okB ⟨((opn i).name), 5, ((opn i).code), ((opn i).f3), ((opn i).f7), ((opn i).shift)⟩) (inU w)) <|
         let x0 := immN ⟨((opn i).name), 5, ((opn i).code), ((opn i).f3), ((opn i).f7), ((opn i).shift)⟩ w;
         ast (inU w) <|
         ast (inU w) <|
         ast (inI x0) <|
         let x1 := encV i 0 (bitsN w 15 5) (bitsN w 20 5) x0;
         let x2 := encE i 0 (bitsN w 15 5) (bitsN w 20 5) x0;
         tst (ieq x2 0)
         (tst (ieq x1 w)
          (kr [(.ptr 0 0), (.int .i64 0)] [.cells [(.int .i64 i), (.int .i64 0), (.int .i64 (bitsN w 15 5)), (.int .i64 (bitsN w 20 5)), (.int .i64 x0)] 23 0 0 false false])
          (kn [(.int .u32 w), (.ptr 0 0), (.int .i64 (wrapF .i64 (i + 1)))] [.cells [(.int .i64 0), (.int .i64 0), (.int .i64 0), (.int .i64 0), (.int .i64 0)] 23 0 0 false false]))
         (kn [(.int .u32 w), (.ptr 0 0), (.int .i64 (wrapF .i64 (i + 1)))] [.cells [(.int .i64 0), (.int .i64 0), (.int .i64 0), (.int .i64 0), (.int .i64 0)] 23 0 0 false false]))
        (tst (ieq ((opn i).kind) 6)
         (ast (band (okB ⟨((opn i).name), 6, ((opn i).code), ((opn i).f3), ((opn i).f7), ((opn i).shift)⟩) (inU w)) <|
          let x0 := immN ⟨((opn i).name), 6, ((opn i).code), ((opn i).f3), ((opn i).f7), ((opn i).shift)⟩ w;
          ast (inU w) <|
          ast (inI x0) <|
          tst (ieq (encE i (bitsN w 7 5) 0 0 x0) 0)
          (tst (ieq (encV i (bitsN w 7 5) 0 0 x0) w)
           (kr [(.ptr 0 0), (.int .i64 0)] [.cells [(.int .i64 i), (.int .i64 (bitsN w 7 5)), (.int .i64 0), (.int .i64 0), (.int .i64 x0)] 23 0 0 false false])
           (kn [(.int .u32 w), (.ptr 0 0), (.int .i64 (wrapF .i64 (i + 1)))] [.cells [(.int .i64 0), (.int .i64 0), (.int .i64 0), (.int .i64 0), (.int .i64 0)] 23 0 0 false false]))
          (kn [(.int .u32 w), (.ptr 0 0), (.int .i64 (wrapF .i64 (i + 1)))] [.cells [(.int .i64 0), (.int .i64 0), (.int .i64 0), (.int .i64 0), (.int .i64 0)] 23 0 0 false false]))
         (tst (ieq ((opn i).kind) 7)
          (ast (band (okB ⟨((opn i).name), 7, ((opn i).code), ((opn i).f3), ((opn i).f7), ((opn i).shift)⟩) (inU w)) <|
           let x0 := immN ⟨((opn i).name), 7, ((opn i).code), ((opn i).f3), ((opn i).f7), ((opn i).shift)⟩ w;
           ast (inU w) <|
           ast (inI x0) <|
           tst (ieq (encE i (bitsN w 7 5) 0 0 x0) 0)
           (tst (ieq (encV i (bitsN w 7 5) 0 0 x0) w)
            (kr [(.ptr 0 0), (.int .i64 0)] [.cells [(.int .i64 i), (.int .i64 (bitsN w 7 5)), (.int .i64 0), (.int .i64 0), (.int .i64 x0)] 23 0 0 false false])
            (kn [(.int .u32 w), (.ptr 0 0), (.int .i64 (wrapF .i64 (i + 1)))] [.cells [(.int .i64 0), (.int .i64 0), (.int .i64 0), (.int .i64 0), (.int .i64 0)] 23 0 0 false false]))
           (kn [(.int .u32 w), (.ptr 0 0), (.int .i64 (wrapF .i64 (i + 1)))] [.cells [(.int .i64 0), (.int .i64 0), (.int .i64 0), (.int .i64 0), (.int .i64 0)] 23 0 0 false false]))
          (tst (ieq ((opn i).kind) 8)
           (ast (band (okB ⟨((opn i).name), 8, ((opn i).code), ((opn i).f3), ((opn i).f7), ((opn i).shift)⟩) (inU w)) <|
            let x0 := immN ⟨((opn i).name), 8, ((opn i).code), ((opn i).f3), ((opn i).f7), ((opn i).shift)⟩ w;
            ast (inU w) <|
            ast (inU w) <|
            ast (inI x0) <|
            let x1 := encV i (bitsN w 7 5) (bitsN w 15 5) 0 x0;
            let x2 := encE i (bitsN w 7 5) (bitsN w 15 5) 0 x0;
            tst (ieq x2 0)
            (tst (ieq x1 w)
             (kr [(.ptr 0 0), (.int .i64 0)] [.cells [(.int .i64 i), (.int .i64 (bitsN w 7 5)), (.int .i64 (bitsN w 15 5)), (.int .i64 0), (.int .i64 x0)] 23 0 0 false false])
             (kn [(.int .u32 w), (.ptr 0 0), (.int .i64 (wrapF .i64 (i + 1)))] [.cells [(.int .i64 0), (.int .i64 0), (.int .i64 0), (.int .i64 0), (.int .i64 0)] 23 0 0 false false]))
            (kn [(.int .u32 w), (.ptr 0 0), (.int .i64 (wrapF .i64 (i + 1)))] [.cells [(.int .i64 0), (.int .i64 0), (.int .i64 0), (.int .i64 0), (.int .i64 0)] 23 0 0 false false]))
           (tst (ieq ((opn i).kind) 9)
            (ast (band (okB ⟨((opn i).name), 9, ((opn i).code), ((opn i).f3), ((opn i).f7), ((opn i).shift)⟩) (inU w)) <|
             let x0 := immN ⟨((opn i).name), 9, ((opn i).code), ((opn i).f3), ((opn i).f7), ((opn i).shift)⟩ w;
             ast (inI x0) <|
             tst (ieq (encE i 0 0 0 x0) 0)
             (tst (ieq (encV i 0 0 0 x0) w)
              (kr [(.ptr 0 0), (.int .i64 0)] [.cells [(.int .i64 i), (.int .i64 0), (.int .i64 0), (.int .i64 0), (.int .i64 x0)] 23 0 0 false false])
              (kn [(.int .u32 w), (.ptr 0 0), (.int .i64 (wrapF .i64 (i + 1)))] [.cells [(.int .i64 0), (.int .i64 0), (.int .i64 0), (.int .i64 0), (.int .i64 0)] 23 0 0 false false]))
             (kn [(.int .u32 w), (.ptr 0 0), (.int .i64 (wrapF .i64 (i + 1)))] [.cells [(.int .i64 0), (.int .i64 0), (.int .i64 0), (.int .i64 0), (.int .i64 0)] 23 0 0 false false]))
            (ast (ieq ((opn i).kind) 10) <|
             ast (band (okB ⟨((opn i).name), 10, ((opn i).code), ((opn i).f3), ((opn i).f7), ((opn i).shift)⟩) (inU w)) <|
             let x0 := immN ⟨((opn i).name), 10, ((opn i).code), ((opn i).f3), ((opn i).f7), ((opn i).shift)⟩ w;
             ast (inU w) <|
             ast (inU w) <|
             ast (inI x0) <|
             let x1 := encV i 0 (bitsN w 15 5) (bitsN w 20 5) x0;
             let x2 := encE i 0 (bitsN w 15 5) (bitsN w 20 5) x0;
             tst (ieq x2 0)
             (tst (ieq x1 w)
              (kr [(.ptr 0 0), (.int .i64 0)] [.cells [(.int .i64 i), (.int .i64 0), (.int .i64 (bitsN w 15 5)), (.int .i64 (bitsN w 20 5)), (.int .i64 x0)] 23 0 0 false false])
              (kn [(.int .u32 w), (.ptr 0 0), (.int .i64 (wrapF .i64 (i + 1)))] [.cells [(.int .i64 0), (.int .i64 0), (.int .i64 0), (.int .i64 0), (.int .i64 0)] 23 0 0 false false]))
             (kn [(.int .u32 w), (.ptr 0 0), (.int .i64 (wrapF .i64 (i + 1)))] [.cells [(.int .i64 0), (.int .i64 0), (.int .i64 0), (.int .i64 0), (.int .i64 0)] 23 0 0 false false]))))))))))))
  (kx 0 [(.int .u32 w), (.ptr 0 0)] [.cells [(.int .i64 0), (.int .i64 0), (.int .i64 0), (.int .i64 0), (.int .i64 0)] 23 0 0 false false])) := by kernel_rfl
/-- A number that an instruction has begins with its operation's code. -/
theorem encV_code {op rd rs1 rs2 n : Int} (h : encB op rd rs1 rs2 n = true) : encN op rd rs1 rs2 n % 128 = (opn op).code := by
  unfold encB at h
  simp only [Bool.and_eq_true] at h
  obtain ⟨⟨⟨⟨hk, q1⟩, q2⟩, q3⟩, hm⟩ := h
  obtain ⟨k0, k1, c0, c1, f0, f1, g0, g1, s0, s1, s6, k2, k6, k8⟩ := opn_ok op (known_lo op hk)
  unfold encN laidN restN
  generalize opn op = o at *
  rcases s0 with hs | hs | hs <;> simp only [hs, Int.reduceEq, if_true, if_false]
  all_goals
    repeat' split
    all_goals omega
theorem hitB_eq (op x : Int) (a b c : Int) (ha : fieldN (hasRd (opn op).kind) x 7 = a) (hb : fieldN (hasRs1 (opn op).kind) x 15 = b) (hc : fieldN (hasRs2 (opn op).kind) x 20 = c) :
    hitB op x = (decide (encE op a b c (immN (opn op) x) = 0) && decide (encV op a b c (immN (opn op) x) = x)) := by
  subst ha hb hc
  unfold hitB
  rw [Bool.eq_iff_iff]
  simp only [Bool.and_eq_true, decide_eq_true_eq, beq_iff_eq]
  constructor
  · rintro ⟨⟨h1, h2⟩, h3⟩; exact ⟨h2, h3⟩
  · rintro ⟨h2, h3⟩
    refine ⟨⟨?_, h2⟩, h3⟩
    have hb : encB op (fieldN (hasRd (opn op).kind) x 7) (fieldN (hasRs1 (opn op).kind) x 15) (fieldN (hasRs2 (opn op).kind) x 20) (immN (opn op) x) = true := by
      unfold encE at h2
      split at h2
      · assumption
      · cases h2
    have := encV_code hb
    unfold encV at h3
    rw [if_pos hb] at h3
    rw [h3] at this
    exact this
noncomputable abbrev rSlots : List Nat := [0, 2, 4]
noncomputable abbrev rVs (w i : Int) : List LV := [.int .u32 w, .ptr 0 0, .int .i64 i]
theorem RefDecode_rd (w : Int) (j : Nat) (hw : inU w = true) (hj : j < 82) :
    evk P G0 (Ko R5) 400 (.code (loopOf P 58 0) none 58 57 (frZ rSlots (rVs w ((j : Int) + 1))) []) (hpOf P (dOs zeroI)) (rdK P 0 1 rSlots [0, 2] [2, 3]) =
      if hitB ((j : Int) + 1) w = true then some (.out .ret [.ptr 0 0, .int .i64 0] (dOs (inst w j))) else some (.next (rVs w (((j + 1 : Nat) : Int) + 1)) (dOs zeroI)) := by
  refine (RefDecode_round (fun vs os => some (Rd.next vs os)) (fun j vs os => some (Rd.out (.exit j) vs os)) (fun vs os => some (Rd.out .ret vs os)) w ((j : Int) + 1)).trans ?_
  have hx : 1 ≤ (j : Int) + 1 ∧ (j : Int) + 1 ≤ 82 := by omega
  have ho := opn_ok _ hx
  have hop := op_kind ((j : Int) + 1)
  have hok := okB_kind ((j : Int) + 1) hx
  have him := inst_imm w j hj
  have hcast : (((j + 1 : Nat) : Int)) = (j : Int) + 1 := by omega
  have k0 := ho.k0
  have k1 := ho.k1
  have z : ∀ f, fieldN false w f = 0 := fun f => rfl
  have o : ∀ f, fieldN true w f = bitsN w f 5 := fun f => rfl
  have hit := hitB_eq ((j : Int) + 1) w
  simp only [wrap_i64 ((j : Int) + 1 + 1) (by omega) (by omega), kst, kast, ile_eq, ieq_eq, band_eq', hw, hcast]
  rw [if_pos (by omega)]
  unfold inst
  have fin : ∀ (a b c : Int), fieldN (hasRd (opn ((j : Int) + 1)).kind) w 7 = a → fieldN (hasRs1 (opn ((j : Int) + 1)).kind) w 15 = b → fieldN (hasRs2 (opn ((j : Int) + 1)).kind) w 20 = c →
      (if encE ((j : Int) + 1) a b c (immN (opn ((j : Int) + 1)) w) = 0 then if encV ((j : Int) + 1) a b c (immN (opn ((j : Int) + 1)) w) = w then
        some (Rd.out .ret [.ptr 0 0, .int .i64 0] [.cells [.int .i64 ((j : Int) + 1), .int .i64 a, .int .i64 b, .int .i64 c, .int .i64 (immN (opn ((j : Int) + 1)) w)] 23 0 0 false false])
        else some (Rd.next [.int .u32 w, .ptr 0 0, .int .i64 ((j : Int) + 1 + 1)] [.cells [.int .i64 0, .int .i64 0, .int .i64 0, .int .i64 0, .int .i64 0] 23 0 0 false false])
        else some (Rd.next [.int .u32 w, .ptr 0 0, .int .i64 ((j : Int) + 1 + 1)] [.cells [.int .i64 0, .int .i64 0, .int .i64 0, .int .i64 0, .int .i64 0] 23 0 0 false false])) =
      if hitB ((j : Int) + 1) w = true then some (.out .ret [.ptr 0 0, .int .i64 0] (dOs (instV ((j : Int) + 1) (fieldN (hasRd (opn ((j : Int) + 1)).kind) w 7) (fieldN (hasRs1 (opn ((j : Int) + 1)).kind) w 15) (fieldN (hasRs2 (opn ((j : Int) + 1)).kind) w 20) (immN (opn ((j : Int) + 1)) w)))) else some (.next (rVs w ((j : Int) + 1 + 1)) (dOs zeroI)) := by
    intro a b c ha hb hc
    rw [hit a b c ha hb hc, ha, hb, hc]
    by_cases h1 : encE ((j : Int) + 1) a b c (immN (opn ((j : Int) + 1)) w) = 0
    · by_cases h2 : encV ((j : Int) + 1) a b c (immN (opn ((j : Int) + 1)) w) = w
      · rw [if_pos h1, if_pos h2, if_pos (by simp [h1, h2])]
        rfl
      · rw [if_pos h1, if_neg h2, if_neg (by simp [h2])]
        rfl
    · rw [if_neg h1, if_neg (by simp [h1])]
      rfl
  generalize hkd : (opn ((j : Int) + 1)).kind = kd at *
  obtain rfl | rfl | rfl | rfl | rfl | rfl | rfl | rfl | rfl | rfl : kd = 1 ∨ kd = 2 ∨ kd = 3 ∨ kd = 4 ∨ kd = 5 ∨ kd = 6 ∨ kd = 7 ∨ kd = 8 ∨ kd = 9 ∨ kd = 10 := by omega
  all_goals simp only [Int.reduceEq, if_false, if_true, hok _ rfl, and_self]
  all_goals rw [hop _ rfl]
  all_goals simp only [him, if_true]
  all_goals exact fin _ _ _ (by first | exact z _ | exact o _) (by first | exact z _ | exact o _) (by first | exact z _ | exact o _)
theorem RefDecode_end (w : Int) :
    evk P G0 (Ko R5) 400 (.code (loopOf P 58 0) none 58 57 (frZ rSlots (rVs w 83)) []) (hpOf P (dOs zeroI)) (rdK P 0 1 rSlots [0, 2] [2, 3]) = some (.out (.exit 0) [.int .u32 w, .ptr 0 0] (dOs zeroI)) := by
  refine (RefDecode_round (fun vs os => some (Rd.next vs os)) (fun j vs os => some (Rd.out (.exit j) vs os)) (fun vs os => some (Rd.out .ret vs os)) w 83).trans ?_
  simp only [kst, ile_eq]
  rw [if_neg (by decide)]
  rfl
theorem RefDecode_isLoop : isLoop P 58 0 = true := by kernel_rfl
theorem RefDecode_loop (w : Int) (hw : inU w = true) (n i : Nat) (hn : n = 82 - i) (hi : i ≤ 82) :
    (∀ j, decJ w i = some j → LoopM P G0 58 0 57 1 rSlots (rVs w ((i : Int) + 1)) (dOs zeroI) .ret [2, 3] [.ptr 0 0, .int .i64 0] (dOs (inst w j))) ∧
    (decJ w i = none → LoopM P G0 58 0 57 1 rSlots (rVs w ((i : Int) + 1)) (dOs zeroI) (.exit 0) [0, 2] [.int .u32 w, .ptr 0 0] (dOs zeroI)) := by
  have T := ko_told R5_con
  have gd := good_loop T RefDecode_isLoop
  induction n generalizing i with
  | zero =>
    obtain rfl : i = 82 := by omega
    exact ⟨(fun j h => by rw [decJ_end] at h; cases h), fun _ => loop_exit T gd (RefDecode_end w)⟩
  | succ n ih =>
    have hlt : i < 82 := by omega
    have hr := RefDecode_rd w i hw hlt
    rw [decJ_step w i hlt]
    cases hh : hitB ((i : Int) + 1) w
    · rw [hh, if_neg (by simp)] at hr
      rw [if_neg (by simp)]
      obtain ⟨h1, h2⟩ := ih (i + 1) (by omega) (by omega)
      exact ⟨fun j h => loop_next T gd hr (h1 j h), fun h => loop_next T gd hr (h2 h)⟩
    · rw [hh, if_pos rfl] at hr
      rw [if_pos rfl]
      exact ⟨(fun j h => by cases h; exact loop_ret T gd hr), (fun h => by cases h)⟩
noncomputable def sRDecode : List LV → List LObj → List (Bool × Ex × List LV × List LObj)
  | [.int .u32 w, .ptr 0 0, .int .i64 i], [.cells z 23 0 0 false false] =>
    [(band (decB w) (band (inU w) (band (ieq i 1) (keqL z zeroI))), .ret, [.ptr 0 0, .int .i64 0], dOs (instV (decOp w) (decRd w) (decRs1 w) (decRs2 w) (decImm w))),
     (band (bnot (decB w)) (band (inU w) (band (ieq i 1) (keqL z zeroI))), .normal, [.int .u32 w, .ptr 0 0], dOs zeroI)]
  | _, _ => []
theorem RefDecode_spec : SpecS P G0 58 0 57 1 rSlots [0, 2] [2, 3] sRDecode := fun vs os e vs' os' h => by
  unfold sRDecode at h
  split at h
  · rename_i w i z
    have key := fun hw => RefDecode_loop w hw 82 0 rfl (by omega)
    rcases pick_two h with ⟨hb, he⟩ | ⟨hb, he⟩
    · simp only [band_eq', ieq_eq] at hb
      obtain ⟨h1, hw, rfl, hz⟩ := hb
      rw [keqL_eq hz]
      simp only [Prod.mk.injEq] at he
      obtain ⟨rfl, rfl, rfl⟩ := he
      refine .inr ⟨rfl, ?_⟩
      have h2 : decJ w 0 = some (decN w) := by
        unfold decB at h1
        unfold decN
        cases hd : decJ w 0 with
        | none => rw [hd] at h1; cases h1
        | some j => rfl
      have := (key hw).1 _ h2
      rwa [show inst w (decN w) = instV (decOp w) (decRd w) (decRs1 w) (decRs2 w) (decImm w) by unfold inst decOp decRd decRs1 decRs2 decImm; simp only [h1, if_true]] at this
    · simp only [band_eq', ieq_eq, bnot_eq'] at hb
      obtain ⟨h1, hw, rfl, hz⟩ := hb
      rw [keqL_eq hz]
      simp only [Prod.mk.injEq] at he
      obtain ⟨rfl, rfl, rfl⟩ := he
      exact .inl ⟨rfl, (key hw).2 (by unfold decB at h1; cases hd : decJ w 0 with | none => rfl | some j => rw [hd] at h1; cases h1)⟩
  · cases h
noncomputable abbrev cutRDecode : Cut := cutCon P 57 0 1 rSlots [0, 2] [2, 3] sRDecode
theorem RefDecode_told {R : Type} (k : LV → Option R) (w : Int) : evk P G0 (⟨tabP R5, tab [], cutT [(58, 0, cutRDecode)]⟩) 400 (.call 58 [(.int .u32 w)]) (hpOf P []) (obs0 k) =
  (tst (band (decB w) (band (inU w) true))
  (k (.tup [(.agg [(.int .i64 (decOp w)), (.int .i64 (decRd w)), (.int .i64 (decRs1 w)), (.int .i64 (decRs2 w)), (.int .i64 (decImm w))]), (.int .i64 0)]))
  (ast (band (bnot (decB w)) (band (inU w) true)) <|
   k (.tup [(.agg [(.int .i64 0), (.int .i64 0), (.int .i64 0), (.int .i64 0), (.int .i64 0)]), (.int .i64 40)]))) := by kernel_rfl
theorem RefDecode_T : Eng.Told P G0 (KOrc.orc ⟨tabP R5, tab [], cutT [(58, 0, cutRDecode)]⟩) := told_cut P_base R5_con .nil (.cons RefDecode_isLoop RefDecode_spec .nil)
theorem RefDecode_con : PConS P G0 58 pDecode := fun args v e h => by
  unfold pDecode at e
  split at e
  · rename_i w
    obtain ⟨hw, rfl⟩ := pick_one e
    refine (pure_con RefDecode_T (n := 400) (by
      rw [RefDecode_told]
      simp only [kst, kast, band_eq', bnot_eq', hw, and_true]
      cases hd : decB w
      · simp [decOp, decRd, decRs1, decRs2, decImm, decE, hd]
      · simp [decOp, decRd, decRs1, decRs2, decImm, decE, hd]) rfl).toS
  · cases e
noncomputable abbrev R6 : List (FuncId × PCon) := (58, pDecode) :: (23, cFind) :: R5
theorem R6_con : PConsS P G0 R6 := .cons RefDecode_con (.cons RefFind_con R5_con)
end Go.Proofs.YtbnmhhbncggjkaaGreatDoor
