/- Layer 4, walks: Decode. Conditions: the number is a uint32. -/
import Derived.Test.YtnnalefglpnoaaaIsaG
import Derived.Test.YtnnalefglpnoaaaW2
import Derived.Deep.DeepCutAuto
set_option linter.unusedVariables false
set_option linter.unusedSimpArgs false
namespace Go.Proofs.Ytnnalefglpnoaaa
open Go.RowKit Wd
theorem HeldI.other {g b : Nat} {op rd rs1 rs2 n : Int} {w W W1 : World} (h : HeldI g op rd rs1 rs2 n w W) (lo : ∀ w0 : World, w0.heap.size ≤ b → Below w0.heap.size w0 W → Below w0.heap.size w0 W1)
    (ot : ∀ g' cs' t', g' ≠ b → Blk W g' cs' t' → Blk W1 g' cs' t') (hne : g ≠ b) (hb : w.heap.size ≤ b) : HeldI g op rd rs1 rs2 n w W1 := ⟨ot _ _ _ hne h.box, lo _ hb h.low, h.new⟩
theorem hit_no {op x : Int} (h : ¬ x % 128 = (opn op).code) : hitB op x = false := by simp [hitB, h]
theorem nohit_step {k : Nat} {x : Int} (h : ∀ j : Nat, j < k → hitB ((j : Int) + 1) x = false) (h1 : hitB ((k : Int) + 1) x = false) : ∀ j : Nat, j < k + 1 → hitB ((j : Int) + 1) x = false := fun j hj => by
  rcases Nat.lt_or_ge j k with h' | h'
  · exact h j h'
  · obtain rfl : j = k := by omega
    exact h1
set_option maxRecDepth 100000 in
set_option maxHeartbeats 8000000 in
theorem Decode_walk (x : Int) (w : World) (h0 : 0 ≤ x) (h1 : x < 4294967296) (R : Ending → World → Prop)
    (hhit : ∀ (k : Nat) (w' : World), k < 82 → hitB ((k : Int) + 1) x = true → (∀ j : Nat, j < k → hitB ((j : Int) + 1) x = false) → Below w.heap.size w w' →
      R (.returned (.tuple #[.agg #[.int .i64 ((k : Int) + 1), .int .i64 (fieldN (hasRd (opn ((k : Int) + 1)).kind) x 7), .int .i64 (fieldN (hasRs1 (opn ((k : Int) + 1)).kind) x 15), .int .i64 (fieldN (hasRs2 (opn ((k : Int) + 1)).kind) x 20), .int .i64 (immN (opn ((k : Int) + 1)) x)], .int .i64 0])) w')
    (hnone : ∀ w' : World, (∀ j : Nat, j < 82 → hitB ((j : Int) + 1) x = false) → Below w.heap.size w w' → R (.returned (.tuple #[.agg #[.int .i64 0, .int .i64 0, .int .i64 0, .int .i64 0, .int .i64 0], .int .i64 40])) w') :
    Calls Try.prog 10 #[.int .u32 x] w R := by
  have HH := Lib.hid hhit
  have HZ := Lib.hid hnone
  clear hhit hnone
  have hand := and127 x h0 h1
  go_enter Try.func10, Try.ntmps10
  go_wp2_with (first
    | (refine ev_new rfl (N := 2) rfl zeroInst 25 (by kernel_rfl) ?_; intro g w1 hg hB hb hlt; have H1 := HeldI.mk hB hb hg)
    | (go_at_call 20; refine (operations_calls _).mono ?_; rintro e w2 ⟨rfl, hb2⟩; have H2 := H1.step hb2))
  go_loopw [13] (fun i wr => ∃ k : Nat, k ≤ 82 ∧ i = .int .i64 k ∧ HeldI g 0 0 0 0 0 w wr ∧ ∀ j : Nat, j < k → hitB ((j : Int) + 1) x = false) (fun i _ => 82 - (intOf i).toNat)
  case atStart => exact ⟨0, by omega, rfl, H2, fun j hj => absurd hj (by omega)⟩
  case round =>
    obtain ⟨k, hk, rfl, H, hno⟩ := hrel
    have HN := Lib.hid hno
    clear hno
    by_cases hlt : k < 82
    · have hix := index_tbl (k : Int) (by omega) (by omega)
      have ho := opn_ok ((k : Int) + 1) (by omega)
      have HO := Lib.hid ho
      have hkd := kind_bd ((k : Int) + 1)
      have HK := Lib.hid hkd
      have HI := Lib.hid (imm_bd _ x ho)
      clear ho hkd
      have HH' := Lib.hid (HH.out k)
      clear HH HZ
      by_cases hc : x % 128 = (opn ((k : Int) + 1)).code
      · have hc' : (x % 128 != (opn ((k : Int) + 1)).code) = false := by simpa using hc
        have HC := Lib.hid hc
        clear hc
        go_upto_if 35 with (first
          | (refine ev_new rfl (N := 5) rfl Opn.zero.cells 43 (by kernel_rfl) ?_; intro b5 w3 hb5 B5 hl5 ht5; have hne5 : g ≠ b5 := (by have := H.box.lt; omega); have hlo5 := Nat.le_trans H.low.size hb5; have H := H.step hl5)
          | (refine ev_store rfl rfl (t := 43) (p := .tmp 5) (x := .tmp 16) rfl rfl B5 rfl rfl (seg := (opn ((k : Int) + 1)).cells) (by kernel_rfl) rfl rfl ?_; intro w4 B5 lo4 ot4; have H := H.other lo4 ot4 hne5 hlo5; have f1 : w4.cell? ⟨b5, 1, none⟩ = some (.int .i64 (opn ((k : Int) + 1)).kind) := (B5.cell 1).trans rfl; have f2 : w4.cell? ⟨b5, 2, none⟩ = some (.int .u32 (opn ((k : Int) + 1)).code) := (B5.cell 2).trans rfl)
          | (refine ev_load rfl (t := 43) (p := .tmp 5) rfl rfl B5 Try.underlying43 rfl (by kernel_rfl) rfl ?_)
          | (go_at_call 21; refine (read_calls (opn ((k : Int) + 1)) _ _ HO.out h0 h1).mono ?_; rintro e w5 ⟨rfl, hb6⟩; have H := H.step hb6; have B5 := B5.below hb6; have hl5b := B5.lt)
          | (refine ev_new rfl (N := 6) rfl zeroInst 25 (by kernel_rfl) ?_; intro b6 w6 hb7 B6 hl7 ht7; have hne6 : g ≠ b6 := (by have := H.box.lt; omega); have hne56 : b5 ≠ b6 := (by omega); have hlo6 := Nat.le_trans H.low.size hb7; have H := H.step hl7; have B5 := B5.below hl7)
          | (refine ev_store rfl rfl (t := 25) (p := .tmp 6) (x := .tmp 27) rfl rfl B6 rfl rfl (seg := instCells ((k : Int) + 1) 0 0 0 (immN (opn ((k : Int) + 1)) x)) (by kernel_rfl) rfl rfl ?_; intro w7 B6 lo7 ot7; have H := H.other lo7 ot7 hne6 hlo6; have B5 := ot7 _ _ _ hne56 B5; have f1 : w7.cell? ⟨b5, 1, none⟩ = some (.int .i64 (opn ((k : Int) + 1)).kind) := (B5.cell 1).trans rfl)
          | (go_at_call 22; refine (has_calls _ _ HK.out.1 HK.out.2).mono ?_; rintro e w8 ⟨rfl, rfl⟩))
        clear f1 f2
        go_cut [7] (fun _ wx => HeldI g 0 0 0 0 0 w wx ∧ Blk wx b6 (instCells ((k : Int) + 1) (fieldN (hasRd (opn ((k : Int) + 1)).kind) x 7) 0 0 (immN (opn ((k : Int) + 1)) x)) 25)
        case first =>
          go_wp2_with (first | (go_at_call 23; refine (bits_calls _ _ _ _ h0 h1 (by decide) (by decide) (by decide)).mono ?_; rintro e w9 ⟨rfl, rfl⟩) | (refine ev_set rfl rfl (t := 3) (p := .tmp 38) (x := .tmp 37) (u := .int .i64 (bitsN x 7 5)) rfl rfl B6 rfl rfl (by kernel_rfl) (show (1 : Nat) < 5 by decide) rfl ?_; intro w10 B6 lo10 ot10; have H := H.other lo10 ot10 hne6 hlo6))
          all_goals go_meet
          all_goals exact ⟨H, B6.congr (by simp [instCells, fieldN, *])⟩
        case rest =>
          obtain ⟨H, B6⟩ := hcut
          go_upto_if 39 with fail
          go_cut [8] (fun _ wx => HeldI g 0 0 0 0 0 w wx ∧ Blk wx b6 (instCells ((k : Int) + 1) (fieldN (hasRd (opn ((k : Int) + 1)).kind) x 7) (fieldN (hasRs1 (opn ((k : Int) + 1)).kind) x 15) 0 (immN (opn ((k : Int) + 1)) x)) 25)
          case first =>
            go_wp2_with (first | (go_at_call 23; refine (bits_calls _ _ _ _ h0 h1 (by decide) (by decide) (by decide)).mono ?_; rintro e w9 ⟨rfl, rfl⟩) | (refine ev_set rfl rfl (t := 3) (p := .tmp 42) (x := .tmp 41) (u := .int .i64 (bitsN x 15 5)) rfl rfl B6 rfl rfl (by kernel_rfl) (show (2 : Nat) < 5 by decide) rfl ?_; intro w10 B6 lo10 ot10; have H := H.other lo10 ot10 hne6 hlo6))
            all_goals go_meet
            all_goals exact ⟨H, B6.congr (by simp [instCells, fieldN, *])⟩
          case rest =>
            obtain ⟨H, B6⟩ := hcut
            go_upto_if 43 with fail
            go_cut [9] (fun _ wx => HeldI g 0 0 0 0 0 w wx ∧ Blk wx b6 (instCells ((k : Int) + 1) (fieldN (hasRd (opn ((k : Int) + 1)).kind) x 7) (fieldN (hasRs1 (opn ((k : Int) + 1)).kind) x 15) (fieldN (hasRs2 (opn ((k : Int) + 1)).kind) x 20) (immN (opn ((k : Int) + 1)) x)) 25)
            case first =>
              go_wp2_with (first | (go_at_call 23; refine (bits_calls _ _ _ _ h0 h1 (by decide) (by decide) (by decide)).mono ?_; rintro e w9 ⟨rfl, rfl⟩) | (refine ev_set rfl rfl (t := 3) (p := .tmp 46) (x := .tmp 45) (u := .int .i64 (bitsN x 20 5)) rfl rfl B6 rfl rfl (by kernel_rfl) (show (3 : Nat) < 5 by decide) rfl ?_; intro w10 B6 lo10 ot10; have H := H.other lo10 ot10 hne6 hlo6))
              all_goals go_meet
              all_goals exact ⟨H, B6.congr (by simp [instCells, fieldN, *])⟩
            case rest =>
              obtain ⟨H, B6⟩ := hcut
              go_wp2_with (first
                | (refine ev_load rfl (t := 25) (p := .tmp 6) rfl rfl B6 Try.underlying25 rfl (by kernel_rfl) rfl ?_)
                | (go_at_call 12; refine (Encode_calls _ _ _ _ _ _ HI.out.1 HI.out.2).mono ?_; rintro e w11 ⟨rfl, hb11⟩; have H := H.step hb11; have B6 := B6.below hb11)
                | (refine ev_store rfl rfl (t := 25) (p := .tmp 2) (x := .tmp 59) rfl rfl H.box rfl (seg := (instCells ((k : Int) + 1) (fieldN (hasRd (opn ((k : Int) + 1)).kind) x 7) (fieldN (hasRs1 (opn ((k : Int) + 1)).kind) x 15) (fieldN (hasRs2 (opn ((k : Int) + 1)).kind) x 20) (immN (opn ((k : Int) + 1)) x))) rfl (by kernel_rfl) rfl rfl ?_; intro w12 B2 lo12 ot12; have hL := lo12 _ H.new H.low))
              · refine bodyPost_ret (results_two rfl _ _ g 25 (instCells ((k : Int) + 1) (fieldN (hasRd (opn ((k : Int) + 1)).kind) x 7) (fieldN (hasRs1 (opn ((k : Int) + 1)).kind) x 15) (fieldN (hasRs2 (opn ((k : Int) + 1)).kind) x 20) (immN (opn ((k : Int) + 1)) x)) _ rfl B2 Try.underlying25 rfl (by kernel_rfl)) rfl ?_
                refine HH'.out _ hlt ?_ HN.out hL
                simp only [hitB, Bool.and_eq_true]
                exact ⟨⟨decide_eq_true HC.out, beq_iff_eq.2 (by assumption)⟩, by assumption⟩
              all_goals
                refine ⟨⟨k + 1, by omega, by go_num, H, nohit_step HN.out ?_⟩, by simp [intOf]; omega⟩
                simp only [hitB, Bool.and_eq_false_iff]
                first | exact Or.inr (by assumption) | exact Or.inl (Or.inr (beq_eq_false_iff_ne.2 (by assumption)))
      · have hc' : (x % 128 != (opn ((k : Int) + 1)).code) = true := by simpa using hc
        go_wp2_with (first
          | (refine ev_new rfl (N := 5) rfl Opn.zero.cells 43 (by kernel_rfl) ?_; intro b5 w3 hb5 B5 hl5 ht5; have hne5 : g ≠ b5 := (by have := H.box.lt; omega); have hlo5 := Nat.le_trans H.low.size hb5; have H := H.step hl5)
          | (refine ev_store rfl rfl (t := 43) (p := .tmp 5) (x := .tmp 16) rfl rfl B5 rfl rfl (seg := (opn ((k : Int) + 1)).cells) (by kernel_rfl) rfl rfl ?_; intro w4 B5 lo4 ot4; have H := H.other lo4 ot4 hne5 hlo5; have f1 : w4.cell? ⟨b5, 1, none⟩ = some (.int .i64 (opn ((k : Int) + 1)).kind) := (B5.cell 1).trans rfl; have f2 : w4.cell? ⟨b5, 2, none⟩ = some (.int .u32 (opn ((k : Int) + 1)).code) := (B5.cell 2).trans rfl))
        exact ⟨⟨k + 1, by omega, by go_num, H, nohit_step HN.out (hit_no hc)⟩, by simp [intOf]; omega⟩
    · obtain rfl : k = 82 := by omega
      go_wp2_with (first
          | (refine ev_store rfl rfl (t := 25) (p := .tmp 2) (x := .tmp 61) rfl rfl H.box rfl (seg := zeroInst) rfl (by kernel_rfl) rfl rfl ?_; intro w12 B2 lo12 ot12; have hL := lo12 _ H.new H.low))
      refine bodyPost_ret (results_two rfl _ _ g 25 zeroInst _ rfl B2 Try.underlying25 rfl (by kernel_rfl)) rfl ?_
      exact HZ.out _ HN.out hL
end Go.Proofs.Ytnnalefglpnoaaa
