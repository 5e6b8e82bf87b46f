/- Layer 5: the examples hold. Conditions: none. -/
import Derived.Test.YtbnmhhbncggjkaaGreatDoorK4V
import Derived.Test.YtbnmhhbncggjkaaGreatDoorK5D
set_option linter.unusedVariables false
set_option linter.unusedSimpArgs false
namespace Go.Proofs.YtbnmhhbncggjkaaGreatDoor
open Go Eng Go.RowKit
set_option maxRecDepth 1000000
section
variable {m : Int}
noncomputable abbrev Kp (M : List (FuncId × PCon)) (L : List (FuncId × Con)) : KOrc := ⟨tabP M, tab L, cutT []⟩
theorem kp_told {M : List (FuncId × PCon)} {L : List (FuncId × Con)} (A : PConsS P (G5 m) M) (B : ConsS P (G5 m) L) : Eng.Told P (G5 m) (Kp M L).orc := told_cut P_base A B .nil
/-- The library's functions. -/
noncomputable abbrev S1 : List (FuncId × PCon) := [(32, cCut), (78, cCutPrefix), (80, cCutSuffix), (83, cTrimSuffix), (84, cTrim), (86, cLastIndex), (113, cIndexByte), (46, cItoa), (72, cFormatInt), (79, cParseInt)]
theorem S1_con : PConsS P (G5 m) S1 := .cons Cut_con (.cons CutPrefix_con (.cons CutSuffix_con (.cons TrimSuffix_con (.cons Trim_con (.cons LastIndex_con (.cons IndexByte_con (.cons Itoa_con (.cons FormatInt_con (.cons ParseInt_con .nil)))))))))
noncomputable abbrev L1 : List (FuncId × Con) := [(35, cSplit), (30, cJoin), (93, cCopyCheck), (57, cString)]
theorem L1_con : ConsS P (G5 m) L1 := .cons Split_con (.cons Join_con (.cons CopyCheck_con (.cons String_con .nil)))
noncomputable abbrev M51 : List (FuncId × PCon) := S1 ++ M6
theorem M51_con : PConsS P (G5 m) M51 := S1_con.append (PConsS.glob rfl M6_con)
theorem Awake_told {R : Type} (k : LV → Option R) : evk P (G5 m) (Kp M51 L1) 3000 (.call 12 []) (hpOf P []) (obs0 k) = k (.bool true) := by kernel_rfl
end
end Go.Proofs.YtbnmhhbncggjkaaGreatDoor
