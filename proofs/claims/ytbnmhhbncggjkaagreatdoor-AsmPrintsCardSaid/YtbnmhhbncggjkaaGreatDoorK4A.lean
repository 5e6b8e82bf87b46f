/- Layers 1 and 4: contracts of the functions that reckon alone, from what they tell. Conditions: none. -/
import Derived.Test.YtbnmhhbncggjkaaGreatDoorProg
import Derived.Test.YtbnmhhbncggjkaaGreatDoorEngLp
import Derived.Test.YtbnmhhbncggjkaaGreatDoorKIsaP
set_option linter.unusedVariables false
set_option linter.unusedSimpArgs false
namespace Go.Proofs.YtbnmhhbncggjkaaGreatDoor
open Go Eng
/-! what is told, in plain words -/
theorem kst {R : Type} {b : Bool} {x y : Option R} : tst b x y = if b = true then x else y := by cases b <;> rfl
theorem kast {R : Type} {b : Bool} {x : Option R} : ast b x = if b = true then x else none := by cases b <;> rfl
theorem ile_eq (a b : Int) : (ile a b = true) = (a ≤ b) := by simp [ile]
theorem ilt_eq (a b : Int) : (ilt a b = true) = (a < b) := by simp [ilt]
theorem ieq_eq (a b : Int) : (ieq a b = true) = (a = b) := by simp [ieq]
theorem band_eq' (a b : Bool) : (band a b = true) = (a = true ∧ b = true) := by rw [band_true]
theorem bnot_eq' (a : Bool) : (bnot a = true) = (a = false) := by cases a <;> simp [bnot]
theorem nle_eq (a b : Nat) : (nle a b = true) = (a ≤ b) := by rw [nle, Nat.ble_eq]
theorem nlt_eq (a b : Nat) : (nlt a b = true) = (a < b) := by rw [nlt, Nat.blt_eq]
theorem neq_eq (a b : Nat) : (Eng.neq a b = true) = (a = b) := by rw [Eng.neq, Nat.beq_eq]
theorem wrap_i64 (x : Int) (h0 : -9223372036854775808 ≤ x) (h1 : x ≤ 9223372036854775807) : wrapF .i64 x = x := by rw [wrapF_eq, i64_wrap]; omega
theorem wrap_u64 (x : Int) (h0 : 0 ≤ x) (h1 : x ≤ 18446744073709551615) : wrapF .u64 x = x := by show x % 18446744073709551616 = x; omega
theorem wrap_u32 (x : Int) (h0 : 0 ≤ x) (h1 : x ≤ 4294967295) : wrapF .u32 x = x := by show x % 4294967296 = x; omega
theorem w64 (x : Int) : IntKind.i64.wrap x = RowKit.wrap64 x := by rw [i64_wrap]; unfold RowKit.wrap64; omega
theorem bOr_eq (k : IntKind) (x y : Int) : bOr k x y = Go.bits .or k x y := by unfold bOr Go.bits; rw [wrapF_eq]
theorem bAnd_eq (k : IntKind) (x y : Int) : bAnd k x y = Go.bits .and k x y := by unfold bAnd Go.bits; rw [wrapF_eq]
theorem shl_eq (k : IntKind) (a b : Int) : shlI k a b = wrapF k (a * 2 ^ min b.toNat k.bits) := rfl
theorem shr_eq (k : IntKind) (a b : Int) : shrI k a b = a / 2 ^ min b.toNat k.bits := by
  unfold shrI
  exact Int.fdiv_eq_ediv_of_nonneg _ (Int.pow_nonneg (by decide))
noncomputable def inI (n : Int) : Bool := decide (-9223372036854775808 ≤ n ∧ n ≤ 9223372036854775807)
noncomputable def inU (n : Int) : Bool := decide (0 ≤ n ∧ n ≤ 4294967295)
noncomputable def inW (n : Int) : Bool := decide (0 ≤ n ∧ n ≤ 18446744073709551615)
theorem inI_eq (n : Int) : (inI n = true) = (-9223372036854775808 ≤ n ∧ n ≤ 9223372036854775807) := by simp [inI]
theorem inU_eq (n : Int) : (inU n = true) = (0 ≤ n ∧ n ≤ 4294967295) := by simp [inU]
theorem inW_eq (n : Int) : (inW n = true) = (0 ≤ n ∧ n ≤ 18446744073709551615) := by simp [inW]
/-! the program -/
noncomputable def G0 : Gl := ⟨fun _ => none, true⟩
noncomputable abbrev P : Program := Tryz.prog
theorem P_base : Base P where
  name := by
    have h : (P.funcs.toList.all fun fn => !(fn.name == "runtime.NumGoroutine")) = true := by kernel_rfl
    intro f fn hf _
    have := List.all_eq_true.1 h fn (by rw [← Array.getElem?_toList] at hf; exact List.mem_of_getElem? hf)
    simpa using this
  mix := by kernel_rfl
/-- Contracts, as far as they are told. -/
noncomputable abbrev Ko (M : List (FuncId × PCon)) : KOrc := ⟨tabP M, tab [], cutT []⟩
theorem ko_told {M : List (FuncId × PCon)} (A : PConsS P G0 M) : Eng.Told P G0 (Ko M).orc := told_cut P_base A .nil .nil
/-- One way, told under a test. -/
theorem pick_one {α : Type} {b : Bool} {u v : α} (e : pickR [(b, u)] = some v) : b = true ∧ v = u := by
  cases b
  · cases e
  · exact ⟨rfl, (Option.some.inj e).symm⟩
set_option maxRecDepth 1000000
/-! word.Bits, Sign, Fits -/
noncomputable def cBits : PCon := fun
  | [.int .u64 x, .int .i64 f, .int .i64 m] => [(band (ile 0 f) (band (ile 1 m) (ile (f + m) 64)), .int .u64 (bitsN x f m))]
  | _ => []
theorem Bits_told {R : Type} (k : LV → Option R) (w f m : Int) : evk P G0 (Ko []) 200 (.call 126 [.int .u64 w, .int .i64 f, .int .i64 m]) (hpOf P []) (obs0 k) =
    tst (ilt f 0) (k (.int .u64 0)) (tst (ilt 63 f) (k (.int .u64 0)) (tst (ilt m 1) (k (.int .u64 0)) (tst (ilt (wrapF .i64 (64 - f)) m) (k (.int .u64 0))
      (tst (ilt (wrapF .i64 ((wrapF .i64 (64 - f)) - m)) 0) none (tst (ilt (wrapF .i64 (64 - m)) 0) none
        (k (.int .u64 (shrI .u64 (shlI .u64 w (wrapF .i64 ((wrapF .i64 (64 - f)) - m))) (wrapF .i64 (64 - m))))))))))  := by kernel_rfl
theorem Bits_con : PConS P G0 126 cBits := fun args v e h => by
  unfold cBits at e
  split at e
  · rename_i x f m
    obtain ⟨hb, rfl⟩ := pick_one e
    simp only [band_eq', ile_eq] at hb
    refine (pure_con (ko_told .nil) (n := 200) (by
      rw [Bits_told]
      rw [wrap_i64 (64 - f) (by omega) (by omega), wrap_i64 (64 - f - m) (by omega) (by omega), wrap_i64 (64 - m) (by omega) (by omega)]
      simp only [kst, ilt_eq]
      rw [if_neg (by omega), if_neg (by omega), if_neg (by omega), if_neg (by omega), if_neg (by omega), if_neg (by omega)]
      rw [shr_eq, shl_eq, wrapF_eq]
      rw [show min (64 - f - m).toNat IntKind.u64.bits = (64 - f - m).toNat from Nat.min_eq_left (by show _ ≤ 64; omega), show min (64 - m).toNat IntKind.u64.bits = (64 - m).toNat from Nat.min_eq_left (by show _ ≤ 64; omega)]
      rw [bits_eq x f m hb.1 hb.2.1 hb.2.2]) rfl).toS
  · cases e
noncomputable abbrev M1 : List (FuncId × PCon) := [(126, cBits)]
theorem M1_con : PConsS P G0 M1 := .cons Bits_con .nil
noncomputable def cSign : PCon := fun
  | [.int .u64 x, .int .i64 m] => [(band (ile 1 m) (ile m 64), .int .u64 (wrapF .u64 (sgnN x m)))]
  | _ => []
theorem Sign_told {R : Type} (k : LV → Option R) (x m : Int) : evk P G0 (Ko []) 200 (.call 129 [.int .u64 x, .int .i64 m]) (hpOf P []) (obs0 k) =
    tst (ilt m 1) (k (.int .u64 0)) (tst (ilt 64 m) (k (.int .u64 0)) (tst (ilt (wrapF .i64 (64 - m)) 0) none (tst (ilt (wrapF .i64 (64 - m)) 0) none
      (k (.int .u64 (wrapF .u64 (shrI .i64 (wrapF .i64 (shlI .u64 x (wrapF .i64 (64 - m)))) (wrapF .i64 (64 - m))))))))) := by kernel_rfl
theorem Sign_con : PConS P G0 129 cSign := fun args v e h => by
  unfold cSign at e
  split at e
  · rename_i x m
    obtain ⟨hb, rfl⟩ := pick_one e
    simp only [band_eq', ile_eq] at hb
    refine (pure_con (ko_told .nil) (n := 200) (by
      rw [Sign_told, wrap_i64 (64 - m) (by omega) (by omega)]
      simp only [kst, ilt_eq]
      rw [if_neg (by omega), if_neg (by omega), if_neg (by omega), if_neg (by omega)]
      rw [shr_eq, shl_eq, show min (64 - m).toNat IntKind.u64.bits = (64 - m).toNat from Nat.min_eq_left (by show _ ≤ 64; omega), show min (64 - m).toNat IntKind.i64.bits = (64 - m).toNat from Nat.min_eq_left (by show _ ≤ 64; omega)]
      simp only [wrapF_eq]
      rw [w64, sgn_eq x m hb.1 hb.2]) rfl).toS
  · cases e
noncomputable abbrev M2 : List (FuncId × PCon) := (129, cSign) :: M1
theorem M2_con : PConsS P G0 M2 := .cons Sign_con M1_con
noncomputable def cFits : PCon := fun
  | [.int .i64 n, .int .i64 m] => [(band (ile 1 m) (band (ile m 64) (inI n)), .bool (fitsB n m))]
  | _ => []
theorem Fits_told {R : Type} (k : LV → Option R) (n m : Int) : evk P G0 (Ko M2) 200 (.call 100 [.int .i64 n, .int .i64 m]) (hpOf P []) (obs0 k) =
    tst (ile 1 m) (tst (ile m 64) (ast (band (ile 1 m) (ile m 64)) (k (.bool (ieq (wrapF .u64 (sgnN (wrapF .u64 n) m)) (wrapF .u64 n))))) (k (.bool false))) (k (.bool false)) := by kernel_rfl
theorem Fits_con : PConS P G0 100 cFits := fun args v e h => by
  unfold cFits at e
  split at e
  · rename_i n m
    obtain ⟨hb, rfl⟩ := pick_one e
    simp only [band_eq', ile_eq, inI_eq] at hb
    refine (pure_con (ko_told M2_con) (n := 200) (by
      rw [Fits_told]
      simp only [kst, kast, ile_eq, band_eq']
      rw [if_pos hb.1, if_pos hb.2.1, if_pos ⟨hb.1, hb.2.1⟩]
      rw [wrapF_eq, wrapF_eq, ← fits_eq n m hb.1 hb.2.1 hb.2.2.1 hb.2.2.2]
      rfl) rfl).toS
  · cases e
noncomputable def partN (n f m t : Int) : Int := bitsN n f m * 2 ^ t.toNat
noncomputable def cPart : PCon := fun
  | [.int .i64 n, .int .i64 f, .int .i64 m, .int .i64 t] => [(band (ile 0 f) (band (ile 1 m) (band (ile (f + m) 64) (band (ile 0 t) (ile (m + t) 32)))), .int .u32 (partN n f m t))]
  | _ => []
theorem part_told {R : Type} (k : LV → Option R) (n f m t : Int) : evk P G0 (Ko M2) 200 (.call 101 [.int .i64 n, .int .i64 f, .int .i64 m, .int .i64 t]) (hpOf P []) (obs0 k) =
    ast (band (ile 0 f) (band (ile 1 m) (ile (f + m) 64))) (tst (ilt t 0) none (k (.int .u32 (wrapF .u32 (shlI .u64 (bitsN (wrapF .u64 n) f m) t))))) := by kernel_rfl
theorem pow_add32 (x f m t : Int) (hm : 1 ≤ m) (ht : 0 ≤ t) (hmt : m + t ≤ 32) : 0 ≤ bitsN x f m * 2 ^ t.toNat ∧ bitsN x f m * 2 ^ t.toNat < 4294967296 := by
  obtain ⟨h0, h1⟩ := bitsN_bd x f m
  have hp : (0 : Int) < 2 ^ t.toNat := Int.pow_pos (by decide)
  refine ⟨Int.mul_nonneg h0 (by omega), ?_⟩
  have h2 : bitsN x f m * 2 ^ t.toNat < 2 ^ m.toNat * 2 ^ t.toNat := Int.mul_lt_mul_of_pos_right h1 hp
  rw [← Int.pow_add] at h2
  have := pow_le32 (m.toNat + t.toNat) (by omega)
  omega
theorem part_con : PConS P G0 101 cPart := fun args v e h => by
  unfold cPart at e
  split at e
  · rename_i n f m t
    obtain ⟨hb, rfl⟩ := pick_one e
    simp only [band_eq', ile_eq] at hb
    obtain ⟨h1, h2, h3, h4, h5⟩ := hb
    have hw := pow_add32 n f m t h2 h4 h5
    refine (pure_con (ko_told M2_con) (n := 200) (by
      rw [part_told]
      simp only [kst, kast, ile_eq, band_eq', ilt_eq]
      rw [if_pos ⟨h1, h2, h3⟩, if_neg (by omega), shl_eq, show min t.toNat IntKind.u64.bits = t.toNat from Nat.min_eq_left (by show _ ≤ 64; omega)]
      rw [show bitsN (wrapF .u64 n) f m = bitsN n f m from bitsN_wrap n f m h1 h2 h3]
      rw [wrap_u64 _ hw.1 (by omega), wrap_u32 _ hw.1 (by omega)]
      rfl) rfl).toS
  · cases e
noncomputable def cbits : PCon := fun
  | [.int .u32 x, .int .i64 f, .int .i64 m] => [(band (ile 0 f) (band (ile 1 m) (band (ile (f + m) 32) (inU x))), .int .i64 (bitsN x f m))]
  | _ => []
theorem bits_told {R : Type} (k : LV → Option R) (x f m : Int) : evk P G0 (Ko M2) 200 (.call 92 [.int .u32 x, .int .i64 f, .int .i64 m]) (hpOf P []) (obs0 k) =
    ast (band (ile 0 f) (band (ile 1 m) (ile (f + m) 64))) (k (.int .i64 (wrapF .i64 (bitsN (wrapF .u64 x) f m)))) := by kernel_rfl
theorem bits_con : PConS P G0 92 cbits := fun args v e h => by
  unfold cbits at e
  split at e
  · rename_i x f m
    obtain ⟨hb, rfl⟩ := pick_one e
    simp only [band_eq', ile_eq, inU_eq] at hb
    obtain ⟨h1, h2, h3, h4⟩ := hb
    have hw := bitsN_bd x f m
    have hp := pow_le32 m.toNat (by omega)
    refine (pure_con (ko_told M2_con) (n := 200) (by
      rw [bits_told]
      simp only [kast, ile_eq, band_eq']
      rw [if_pos ⟨h1, h2, by omega⟩, wrap_u64 x (by omega) (by omega), wrap_i64 _ (by omega) (by omega)]) rfl).toS
  · cases e
noncomputable def cSigned : PCon := fun
  | [.int .i64 x, .int .i64 m] => [(band (ile 1 m) (ile m 32), .int .i64 (sgnN x m))]
  | _ => []
theorem signed_told {R : Type} (k : LV → Option R) (x m : Int) : evk P G0 (Ko M2) 200 (.call 125 [.int .i64 x, .int .i64 m]) (hpOf P []) (obs0 k) =
    ast (band (ile 1 m) (ile m 64)) (k (.int .i64 (wrapF .i64 (wrapF .u64 (sgnN (wrapF .u64 x) m))))) := by kernel_rfl
theorem signed_con : PConS P G0 125 cSigned := fun args v e h => by
  unfold cSigned at e
  split at e
  · rename_i x m
    obtain ⟨hb, rfl⟩ := pick_one e
    simp only [band_eq', ile_eq] at hb
    have hp := pow_le32 m.toNat (by omega)
    have hs : -4294967296 ≤ sgnN x m ∧ sgnN x m ≤ 4294967296 := by
      unfold sgnN
      have h : (0 : Int) < 2 ^ m.toNat := Int.pow_pos (by decide)
      have h1 := Int.emod_nonneg x (Int.ne_of_gt h)
      have h2 := Int.emod_lt_of_pos x h
      split <;> omega
    refine (pure_con (ko_told M2_con) (n := 200) (by
      rw [signed_told]
      simp only [kast, ile_eq, band_eq']
      rw [if_pos ⟨hb.1, by omega⟩, show sgnN (wrapF .u64 x) m = sgnN x m from sgnN_wrap x m hb.1 (by omega)]
      rw [wrapF_eq, wrapF_eq, i64_wrap, u64_wrap, show (if (9223372036854775808 : Int) ≤ sgnN x m % 18446744073709551616 % 18446744073709551616 then sgnN x m % 18446744073709551616 % 18446744073709551616 - 18446744073709551616 else sgnN x m % 18446744073709551616 % 18446744073709551616) = sgnN x m by omega]) rfl).toS
  · cases e
noncomputable def cHas : PCon := fun
  | [.int .i64 x] => [(true, .tup [.bool (hasRd x), .bool (hasRs1 x), .bool (hasRs2 x)])]
  | _ => []
theorem has_told {R : Type} (k : LV → Option R) (x : Int) : evk P G0 (Ko M2) 200 (.call 66 [.int .i64 x]) (hpOf P []) (obs0 k) =
    tst (ieq x 1) (k (.tup [.bool true, .bool true, .bool true]))
    (tst (ieq x 2) (k (.tup [.bool true, .bool true, .bool false])) (tst (ieq x 3) (k (.tup [.bool true, .bool true, .bool false])) (tst (ieq x 8) (k (.tup [.bool true, .bool true, .bool false]))
    (tst (ieq x 4) (k (.tup [.bool false, .bool true, .bool true])) (tst (ieq x 5) (k (.tup [.bool false, .bool true, .bool true])) (tst (ieq x 10) (k (.tup [.bool false, .bool true, .bool true]))
    (tst (ieq x 6) (k (.tup [.bool true, .bool false, .bool false])) (tst (ieq x 7) (k (.tup [.bool true, .bool false, .bool false])) (k (.tup [.bool false, .bool false, .bool false])))))))))) := by kernel_rfl
theorem has_con : PConS P G0 66 cHas := fun args v e h => by
  unfold cHas at e
  split at e
  · rename_i x
    obtain ⟨-, rfl⟩ := pick_one e
    refine (pure_con (ko_told M2_con) (n := 200) (by
      rw [has_told]
      simp only [kst, ieq_eq]
      by_cases h1 : x = 1; · subst h1; rfl
      by_cases h2 : x = 2; · subst h2; rfl
      by_cases h3 : x = 3; · subst h3; rfl
      by_cases h4 : x = 4; · subst h4; rfl
      by_cases h5 : x = 5; · subst h5; rfl
      by_cases h6 : x = 6; · subst h6; rfl
      by_cases h7 : x = 7; · subst h7; rfl
      by_cases h8 : x = 8; · subst h8; rfl
      by_cases h10 : x = 10; · subst h10; rfl
      simp [hasRd, hasRs1, hasRs2, *]) rfl).toS
  · cases e
noncomputable def cRegister : PCon := fun
  | [.int .i64 r, .bool b] => [(true, .bool (regB r b))]
  | _ => []
theorem register_told {R : Type} (k : LV → Option R) (r : Int) (b : Bool) : evk P G0 (Ko M2) 200 (.call 68 [.int .i64 r, .bool b]) (hpOf P []) (obs0 k) =
    tst (ile 0 r) (tst (ile r 31) (tst b (k (.bool true)) (k (.bool (ieq r 0)))) (k (.bool false))) (k (.bool false)) := by kernel_rfl
theorem register_con : PConS P G0 68 cRegister := fun args v e h => by
  unfold cRegister at e
  split at e
  · rename_i r b
    obtain ⟨-, rfl⟩ := pick_one e
    refine (pure_con (ko_told M2_con) (n := 200) (by
      rw [register_told]
      simp only [kst, ile_eq]
      by_cases h1 : 0 ≤ r <;> by_cases h2 : r ≤ 31 <;> cases b <;> simp [regB, ieq, h1, h2] <;> (first | rfl | omega)) rfl).toS
  · cases e
end Go.Proofs.YtbnmhhbncggjkaaGreatDoor
