/- Layer 5: the library's functions that it reaches, as contracts of the logical machine. Conditions: none. -/
import Derived.Test.YtbnmhhbncggjkaaGreatDoorK4A
import Derived.Test.YtbnmhhbncggjkaaGreatDoorK5L
import Derived.Test.YtbnmhhbncggjkaaGreatDoorEngBf
import Derived.Lib.QuietBelow
import Derived.Lib.AppendIntMem
import Derived.Lib.AtoiErrMem
set_option linter.unusedVariables false
set_option linter.unusedSimpArgs false
namespace Go.Proofs.YtbnmhhbncggjkaaGreatDoor
open Go Eng Go.RowKit
set_option maxRecDepth 1000000
/-! the package variables -/
noncomputable def countsL : List LV := [.int .i64 0, .int .i64 3, .int .i64 3, .int .i64 2, .int .i64 2, .int .i64 3, .int .i64 2, .int .i64 2, .int .i64 2, .int .i64 0, .int .i64 2]
noncomputable def errL : List LV := [.ifc 176 .any]
noncomputable def glL (m : Int) : List (Nat × List LV) := [(0, countsL), (1, [.int .i64 m]), (2, Lib.pow10Tab.map fun z => .int .u64 z), (3, errL), (4, errL)]
noncomputable def G5 (m : Int) : Gl := ⟨tabG (glL m), true⟩
section
variable {m : Int}
theorem lay_body {f : FuncId} {fn : Func} {c : Code} (hf : P.funcs[f]? = some fn) (hb : fn.body = some c) (hn : (fn.name == "runtime.NumGoroutine") = false)
    {args : List LV} {v : LV} {h : Hp} (k : ∀ (ρ : Rho) (w : World) (pargs : Array Value), GR (G5 m) w → LR ρ args pargs.toList → Calls P f pargs w fun e w' => ∃ pv, e = .returned pv ∧ VR (fun _ => none) v pv ∧ Below w.heap.size w w') : CallS P (G5 m) f args h v h :=
  fromBelow hf hb hn fun ρ w pargs hR hl => k ρ w pargs hR.glob hl
theorem g_max {w : World} (r : GR (G5 m) w) : w.cell? ⟨1, 0, none⟩ = some (.int .i64 m) := glob_int r (l := []) rfl
theorem g_pow {w : World} (r : GR (G5 m) w) : Lib.TabIs P w "internal/strconv.uint64pow10" .u64 Lib.pow10Tab := by
  obtain ⟨t, fz, h⟩ := glob_tab (g := 2) (q := .u64) (zs := Lib.pow10Tab) r rfl
  unfold Lib.TabIs World.var?
  have : P.globalNamed "internal/strconv.uint64pow10" = some 2 := by kernel_rfl
  rw [this]
  simp [h]
theorem size_str (l : List UInt8) : (ByteArray.mk l.toArray).size = l.length := by simp [ByteArray.size]
noncomputable def cCut : PCon := fun args => match args with
  | [.str s, .str t] => [(nlt (len s) 4294967281, .tup [.str (Lib.cut s t).1, .str (Lib.cut s t).2.1, .bool (Lib.cut s t).2.2])]
  | _ => []
theorem Cut_con : PConS P (G5 m) 32 cCut := fun args v e h => by
  unfold cCut at e
  split at e
  · rename_i s t
    obtain ⟨hb, rfl⟩ := pick_one e
    simp only [nlt_eq, len_eq] at hb
    refine lay_body Tryz.func32 rfl (by kernel_rfl) fun ρ w pargs g hl => ?_
    obtain ⟨x, y, rfl, hx, hy⟩ := args2 hl
    obtain rfl := vr_str hx
    obtain rfl := vr_str hy
    refine (Any.strings_Cut { l145 with } _ _ m w (by rw [size_str]; exact hb) (g_max g)).mono ?_
    rintro e w' ⟨rfl, n, rfl⟩
    exact ⟨_, rfl, vr_tup (lr_cons (.str _) (lr_cons (.str _) (lr_cons (.bool _) lr_nil))), below_drew _ _ _⟩
  · cases e
noncomputable def cCutPrefix : PCon := fun args => match args with
  | [.str s, .str t] => [(true, .tup [.str (Lib.trimPrefix s t), .bool (Lib.hasPrefix s t)])]
  | _ => []
theorem CutPrefix_con : PConS P (G5 m) 78 cCutPrefix := fun args v e h => by
  unfold cCutPrefix at e
  split at e
  · rename_i s t
    obtain ⟨hb, rfl⟩ := pick_one e
    refine lay_body Tryz.func78 rfl (by kernel_rfl) fun ρ w pargs g hl => ?_
    obtain ⟨x, y, rfl, hx, hy⟩ := args2 hl
    obtain rfl := vr_str hx
    obtain rfl := vr_str hy
    refine (Any.strings_CutPrefix l103 _ _ w).mono ?_
    rintro e w' ⟨rfl, rfl⟩
    exact ⟨_, rfl, vr_tup (lr_cons (.str _) (lr_cons (.bool _) lr_nil)), Below.refl _ _⟩
  · cases e
noncomputable def cCutSuffix : PCon := fun args => match args with
  | [.str s, .str t] => [(nle (len s) 9223372036854775807, .tup [.str (Lib.trimSuffix s t), .bool (Lib.hasSuffix s t)])]
  | _ => []
theorem CutSuffix_con : PConS P (G5 m) 80 cCutSuffix := fun args v e h => by
  unfold cCutSuffix at e
  split at e
  · rename_i s t
    obtain ⟨hb, rfl⟩ := pick_one e
    simp only [nle_eq, len_eq] at hb
    refine lay_body Tryz.func80 rfl (by kernel_rfl) fun ρ w pargs g hl => ?_
    obtain ⟨x, y, rfl, hx, hy⟩ := args2 hl
    obtain rfl := vr_str hx
    obtain rfl := vr_str hy
    refine (Any.strings_CutSuffix l104 _ _ w (by rw [size_str]; exact hb)).mono ?_
    rintro e w' ⟨rfl, rfl⟩
    exact ⟨_, rfl, vr_tup (lr_cons (.str _) (lr_cons (.bool _) lr_nil)), Below.refl _ _⟩
  · cases e
noncomputable def cTrimSuffix : PCon := fun args => match args with
  | [.str s, .str t] => [(nle (len s) 9223372036854775807, .str (Lib.trimSuffix s t))]
  | _ => []
theorem TrimSuffix_con : PConS P (G5 m) 83 cTrimSuffix := fun args v e h => by
  unfold cTrimSuffix at e
  split at e
  · rename_i s t
    obtain ⟨hb, rfl⟩ := pick_one e
    simp only [nle_eq, len_eq] at hb
    refine lay_body Tryz.func83 rfl (by kernel_rfl) fun ρ w pargs g hl => ?_
    obtain ⟨x, y, rfl, hx, hy⟩ := args2 hl
    obtain rfl := vr_str hx
    obtain rfl := vr_str hy
    refine (Any.strings_TrimSuffix l102 _ _ w (by rw [size_str]; exact hb)).mono ?_
    rintro e w' ⟨rfl, rfl⟩
    exact ⟨_, rfl, .str _, Below.refl _ _⟩
  · cases e
noncomputable def cTrim : PCon := fun args => match args with
  | [.str s, .str [c]] => [(band (nle (len s) 9223372036854775807) (nlt c.toNat 128), .str (Lib.trimB s c))]
  | _ => []
theorem Trim_con : PConS P (G5 m) 84 cTrim := fun args v e h => by
  unfold cTrim at e
  split at e
  · rename_i s c
    obtain ⟨hb, rfl⟩ := pick_one e
    simp only [band_eq', nle_eq, nlt_eq, len_eq] at hb
    refine lay_body Tryz.func84 rfl (by kernel_rfl) fun ρ w pargs g hl => ?_
    obtain ⟨x, y, rfl, hx, hy⟩ := args2 hl
    obtain rfl := vr_str hx
    obtain rfl := vr_str hy
    refine (Any.strings_Trim_one l160 _ c hb.2 w (by rw [size_str]; exact hb.1)).mono ?_
    rintro e w' ⟨rfl, rfl | rfl⟩
    · exact ⟨_, rfl, .str _, Below.refl _ _⟩
    · exact ⟨_, rfl, .str _, below_drew _ w 1⟩
  · cases e
noncomputable def cLastIndex : PCon := fun args => match args with
  | [.str s, .str t] => [(nlt (len s) 4611686018427387904, .int .i64 (Lib.lastIndex s t))]
  | _ => []
theorem LastIndex_con : PConS P (G5 m) 86 cLastIndex := fun args v e h => by
  unfold cLastIndex at e
  split at e
  · rename_i s t
    obtain ⟨hb, rfl⟩ := pick_one e
    simp only [nlt_eq, len_eq] at hb
    refine lay_body Tryz.func86 rfl (by kernel_rfl) fun ρ w pargs g hl => ?_
    obtain ⟨x, y, rfl, hx, hy⟩ := args2 hl
    obtain rfl := vr_str hx
    obtain rfl := vr_str hy
    refine (Any.strings_LastIndex l148 _ _ (by rw [size_str]; exact hb) w).mono ?_
    rintro e w' ⟨rfl, rfl⟩
    exact ⟨_, rfl, .int _ _, Below.refl _ _⟩
  · cases e
noncomputable def cIndexByte : PCon := fun args => match args with
  | [.str s, .int .u8 c] => [(true, .int .i64 (Lib.indexByte s c.toNat.toUInt8))]
  | _ => []
theorem IndexByte_con : PConS P (G5 m) 113 cIndexByte := fun args v e h => by
  unfold cIndexByte at e
  split at e
  · rename_i s c
    obtain ⟨hb, rfl⟩ := pick_one e
    refine lay_body Tryz.func113 rfl (by kernel_rfl) fun ρ w pargs g hl => ?_
    obtain ⟨x, y, rfl, hx, hy⟩ := args2 hl
    obtain rfl := vr_str hx
    obtain rfl := vr_int hy
    refine (Any.strings_IndexByte l137 _ _ w).mono ?_
    rintro e w' ⟨rfl, rfl⟩
    exact ⟨_, rfl, .int _ _, Below.refl _ _⟩
  · cases e
noncomputable def cItoa : PCon := fun args => match args with
  | [.int .i64 n] => [(inI n, .str (Lib.itoa n))]
  | _ => []
theorem Itoa_con : PConS P (G5 m) 46 cItoa := fun args v e h => by
  unfold cItoa at e
  split at e
  · rename_i n
    obtain ⟨hb, rfl⟩ := pick_one e
    simp only [inI_eq] at hb
    refine lay_body Tryz.func46 rfl (by kernel_rfl) fun ρ w pargs g hl => ?_
    obtain ⟨x, rfl, hx⟩ := args1 hl
    obtain rfl := vr_int hx
    refine (Any.strconv_Itoa l171 n hb.1 hb.2 w (g_pow g)).mono ?_
    rintro e w' ⟨rfl, k, os, rfl⟩
    exact ⟨_, rfl, .str _, Lib.below_grow _ w (Nat.le_refl _) k os⟩
  · cases e
noncomputable def cFormatInt : PCon := fun args => match args with
  | [.int .i64 n, .int .i64 b] => [(band (inI n) (ieq b 10), .str (Lib.itoa n))]
  | _ => []
theorem FormatInt_con : PConS P (G5 m) 72 cFormatInt := fun args v e h => by
  unfold cFormatInt at e
  split at e
  · rename_i n b
    obtain ⟨hb, rfl⟩ := pick_one e
    simp only [band_eq', inI_eq, ieq_eq] at hb
    obtain ⟨hb, rfl⟩ := hb
    refine lay_body Tryz.func72 rfl (by kernel_rfl) fun ρ w pargs g hl => ?_
    obtain ⟨x, y, rfl, hx, hy⟩ := args2 hl
    obtain rfl := vr_int hx
    obtain rfl := vr_int hy
    refine (Any.strconv_FormatInt_10 l173 n hb.1 hb.2 w (g_pow g)).mono ?_
    rintro e w' ⟨rfl, k, os, rfl⟩
    exact ⟨_, rfl, .str _, Lib.below_grow _ w (Nat.le_refl _) k os⟩
  · cases e
end
end Go.Proofs.YtbnmhhbncggjkaaGreatDoor
