/- Layer 5: strings.Builder, as contracts of the logical machine. Conditions: none. -/
import Derived.Test.YtbnmhhbncggjkaaGreatDoorK5B
set_option linter.unusedVariables false
set_option linter.unusedSimpArgs false
namespace Go.Proofs.YtbnmhhbncggjkaaGreatDoor
open Go Eng Go.RowKit Go.Lib
set_option maxRecDepth 1000000
section
variable {m : Int}
theorem liesAt_off {Q : Program} {e : TypeId} (hc : Q.cellsOf e = 1) (count o n : Nat) (hn : o + n ≤ count) : liesAt Q Q.depth e count o e n = true := by
  have hd : Q.depth = (2 * (Q.types.size + Made.depth) + 1) + 1 := rfl
  rw [hd]
  simp only [liesAt, Bool.or_eq_true]
  left
  rw [hd]
  simp only [rowAt, hc]
  simp [hn, sameLayout, Nat.mod_one]
theorem run_unsafeString_off {Q : Program} {w : World} (pt it ty e : TypeId) (hp : Q.underlying pt = some (.pointer e)) (hc : Q.cellsOf e = 1) (g x cells : Nat) (hsh : w.shape? g = some (e, cells)) (l : List UInt8) (h0 : l ≠ []) (hn : x + l.length ≤ cells) (h63 : l.length ≤ 9223372036854775807)
    (hcell : ∀ j y, l[j]? = some y → w.cell? ((⟨g, x, none⟩ : Addr).add j) = some (.int .u8 y.toNat)) :
    (Builtin.unsafeString_ #[pt, it] ty #[.pointer (some ⟨g, x, none⟩), .int .i64 l.length]).run Q w = .ok (.string ⟨l.toArray⟩) (w.freeze ⟨g, x, none⟩ l.length) := by
  have hl : l.length ≠ 0 := by simpa using h0
  have hlb := run_loadBytes (P := Q) w l ⟨g, x, none⟩ .empty hcell
  have hlies := liesAt_off (Q := Q) hc (cells / Q.cellsOf e) x l.length (by rw [hc]; simpa using hn)
  have h63' : ¬ (9223372036854775807 : Int) < (l.length : Int) := by omega
  have hdef : Builtin.unsafeString_ #[pt, it] ty #[.pointer (some ⟨g, x, none⟩), .int .i64 l.length] =
      (do
        let n ← asInt (.int .i64 l.length)
        if n < 0 then runtimePanic (.error "unsafe.String: len out of range")
        if n > IntKind.i64.max then unsupported (.unsafePointer "String: a length above the largest int")
        if n = 0 then pure (.string .empty)
        else if ← variablesAt ⟨g, x, none⟩ (← elemOf pt) n.toNat then do
          let s ← loadBytes ⟨g, x, none⟩ .empty n.toNat
          freeze ⟨g, x, none⟩ n.toNat
          pure (.string s)
        else unsupported (.unsafePointer "String: not so many bytes at ptr")) := rfl
  rw [hdef]
  have hmax : IntKind.i64.max = 9223372036854775807 := rfl
  have hneg : ¬ (l.length : Int) < 0 := by omega
  simp [asInt, asIntOf, hmax, h63', hneg, hl, variablesAt, hsh, elemOf, run_underlying hp, hlies, hlb]
set_option maxHeartbeats 2000000 in
/-- A row of bytes, read as a text. -/
theorem Builder_String_row {P : Program} {ρ : Go.Shelf.Ren} (L : Lays.n169 P ρ) (X : Builder.Extra P ρ) (b g x c : Nat) (p : Value) (cur : Array Value) (fz : Nat × Nat) (l : List UInt8) (w : World) (h0 : l ≠ [])
    (hbk : w.heap[b]? = some (.cells #[p, .slice (some ⟨g, x, none⟩) l.length c] (ρ.t 72) (0, 0))) (hg : w.heap[g]? = some (.cells cur (ρ.t 5) fz)) (hx : x + l.length ≤ cur.size) (hc : l.length ≤ c) (hm : l.length ≤ 9223372036854775807)
    (hcell : ∀ (j : Nat) y, l[j]? = some y → cur[x + j]? = some (.int .u8 y.toNat)) :
    Calls P (ρ.f 169) #[.pointer (some ⟨b, 0, none⟩)] w fun e w' => e = .returned (.string ⟨l.toArray⟩) ∧ w' = w.drew.freeze ⟨g, x, none⟩ l.length := by
  have hl0 : l.length ≠ 0 := by simpa using h0
  have c1 : w.drew.cell? ⟨b, 1, none⟩ = some (.slice (some ⟨g, x, none⟩) l.length c) := by
    have : w.drew.heap[b]? = some (.cells #[p, .slice (some ⟨g, x, none⟩) l.length c] (ρ.t 72) (0, 0)) := hbk
    rw [Lib.cell_of_heap this]; rfl
  have hSD : (Builtin.unsafeSliceData_ #[(ρ.t 37)] (ρ.t 127) #[.slice (some ⟨g, x, none⟩) l.length c]).run P w.drew = .ok (.pointer (some ⟨g, x, none⟩)) w.drew :=
    Lib.run_unsafeSliceData_row _ _ _ _ _ _ (by omega)
  have hUS : (Builtin.unsafeString_ #[(ρ.t 127), (ρ.t 3)] (ρ.t 9) #[.pointer (some ⟨g, x, none⟩), .int .i64 l.length]).run P w.drew = .ok (.string ⟨l.toArray⟩) (w.drew.freeze ⟨g, x, none⟩ l.length) := by
    have hg' : w.drew.heap[g]? = some (.cells cur (ρ.t 5) fz) := hg
    refine run_unsafeString_off (ρ.t 127) (ρ.t 3) (ρ.t 9) (ρ.t 5) L.t127 X.cellsByte g x cur.size (by simp [World.shape?, hg']) l h0 hx hm ?_
    intro j y hy
    have ha : (⟨g, x, none⟩ : Addr).add j = ⟨g, x + j, none⟩ := by
      unfold Addr.add
      by_cases hj : j = 0
      · subst hj; simp
      · simp [hj]
    rw [ha, Lib.cell_of_heap hg']
    exact hcell j y hy
  have mixed := L.mixed
  have t72 := L.t72; have a72 := L.a72; have z72 := L.z72; have v72 := L.v72; have u72 := run_underlying L.t72
  have t70 := L.t70; have a70 := L.a70; have z70 := L.z70; have v70 := L.v70; have u70 := run_underlying L.t70
  have t37 := L.t37; have a37 := L.a37; have z37 := L.z37; have v37 := L.v37; have u37 := run_underlying L.t37
  have t127 := L.t127; have a127 := L.a127; have z127 := L.z127; have v127 := L.v127; have u127 := run_underlying L.t127
  have t3 := L.t3; have a3 := L.a3; have z3 := L.z3; have v3 := L.v3; have u3 := run_underlying L.t3
  have t9 := L.t9; have a9 := L.a9; have z9 := L.z9; have v9 := L.v9; have u9 := run_underlying L.t9
  have t5 := X.t5; have a5 := X.a5; have z5 := X.z5; have v5 := X.v5; have u5 := run_underlying X.t5
  go_enter L.f169, Body.n169_ntmps ρ
  go_wp2
  go_region_o
  all_goals (go_wp2; go_ret; exact ⟨rfl, rfl⟩)
end
end Go.Proofs.YtbnmhhbncggjkaaGreatDoor
