/- Layer 5: what a row's list gives. Conditions: none. -/
import Derived.Test.YtbnmhhbncggjkaaGreatDoorK5G
import Derived.Test.YtbnmhhbncggjkaaGreatDoorCards
import Derived.Test.YtbnmhhbncggjkaaGreatDoorTie
import Derived.WalkKit
import Derived.ProofKit
import Derived.OpenShut
import Derived.Deep.DeepHandedRow
import Derived.Lib.LaidTab
import Derived.LaidSub
set_option linter.unusedVariables false
set_option linter.unusedSimpArgs false
namespace Go.Proofs.YtbnmhhbncggjkaaGreatDoor
open Go Eng Go.RowKit
set_option maxRecDepth 1000000
theorem tabG_mem {g : Nat} {c : List LV} : ∀ {l : List (Nat × List LV)}, tabG l g = some c → (g, c) ∈ l
  | [], e => by cases e
  | x :: l, e => by
    have e' : Bool.rec (tabG l g) (some x.2) (Nat.beq g x.1) = some c := e
    cases hb : Nat.beq g x.1 <;> rw [hb] at e'
    · exact .tail _ (tabG_mem e')
    · have := Nat.eq_of_beq_eq_true hb
      subst this
      cases e'
      exact .head _
/-- The rows' list. -/
noncomputable abbrev laidL : List (String × DataW Unit) := Rows.asmPrintsRow.laid
theorem met_one {W : World} (h : laidMetH P laidL W) (n : String) (d : DataW Unit) (e : (laidL.filter (fun x => x.1 == n)).filter (fun x => x.2.handleName?.isNone) = [(n, d)]) : laidMet P [(n, d)] W := by
  have := (laidMetH_iff.1 (h.filter (fun x => x.1 == n))).1
  rwa [e] at this
theorem tab_counts {W : World} (h : laidMetH P laidL W) : Lib.TabIs P W "curtilage/asm.counts" .i64 [0, 3, 3, 2, 2, 3, 2, 2, 2, 0, 2] :=
  Lib.tabIs_of_head (rest := []) (g := 0) (t := 55) (by kernel_rfl) (by kernel_rfl) Tryz.underlying55 Tryz.underlying3 (by kernel_rfl) (by kernel_rfl) (met_one h "curtilage/asm.counts" _ (by kernel_rfl))
theorem tab_pow {W : World} (h : laidMetH P laidL W) : Lib.TabIs P W "internal/strconv.uint64pow10" .u64 Lib.pow10Tab :=
  Lib.tabIs_of_head (rest := []) (g := 2) (t := 163) (by kernel_rfl) (by kernel_rfl) Tryz.underlying163 Tryz.underlying42 (by kernel_rfl) (by kernel_rfl) (met_one h "internal/strconv.uint64pow10" _ (by kernel_rfl))
theorem star_row (u : TypeId) (h : P.typeName? 3 u = some "*errors.errorString") : u = 176 := by
  have star : 176 = 176 := rfl
  exact typeName_ptr_named (nm := "errors.errorString") (by kernel_rfl) (by kernel_rfl) (by decide) u h
theorem err_cell {W : World} {n : String} {g : Nat} {text : List UInt8} (hg : P.globalNamed n = some g) (hty : (P.globals[g]?).map (·.type) = some 83) (h : laidMet P [(n, .iface "*errors.errorString" (.ptr (.agg [.lit (.string text)])))] W) :
    ∃ x fz t, W.heap[g]? = some (.cells #[.iface 176 x] t fz) := by
  obtain ⟨ps, ⟨g', t', cs, fuel, p, q, hg', ht', hvar, hd, _, _⟩, hnd, hrows⟩ := h
  obtain rfl := Option.some.inj (hg.symm.trans hg')
  obtain rfl := Option.some.inj (hty.symm.trans ht')
  obtain ⟨l⟩ := cs
  obtain ⟨f1, u, v, hl, hn, h1⟩ := iface_of_trod Tryz.underlying83 hd
  obtain rfl := star_row u hn
  have hl' : l = [.iface 176 v] := hl
  subst hl'
  unfold World.var? at hvar
  rw [hg] at hvar
  simp only [Option.bind_some] at hvar
  split at hvar
  · rename_i cs t fz hw
    cases hvar
    exact ⟨v, _, _, hw⟩
  · cases hvar
theorem shape_max {W : World} (hsh : W.ShapedOpen P) : ∃ m pc t fz, W.heap[1]? = some (.cells pc t fz) ∧ pc = #[.int .i64 m] := by
  obtain ⟨m, hm⟩ := l145.s1_3 W hsh
  obtain ⟨h1, -⟩ := hsh
  obtain ⟨cs, h2, h3, -⟩ := h1 1 #[.int .i64 0] 3 (of_decide_eq_true (by kernel_rfl)) (by kernel_rfl)
  refine ⟨m, cs, _, _, h2, ?_⟩
  obtain ⟨l⟩ := cs
  match l, h3 with
  | [x], _ =>
    have hm' : W.cell? ⟨1, 0, none⟩ = some (.int .i64 m) := hm
    simp [World.cell?, h2] at hm'
    rw [hm']
theorem gr5 {W : World} (h : laidMetH P laidL W) (hsh : W.ShapedOpen P) : ∃ m, GR (G5 m) W := by
  obtain ⟨m, pc0, t0, fz0, hm, rfl⟩ := shape_max hsh
  refine ⟨m, fun g c e => ?_⟩
  have tabOf : ∀ {n : String} {k : IntKind} {zs : List Int} {g : Nat}, P.globalNamed n = some g → Lib.TabIs P W n k zs → ∃ pc e fz, W.heap[g]? = some (.cells pc e fz) ∧ (zs.map fun z => LV.int k z).length = pc.size ∧ (∀ (i : Nat) v v', (zs.map fun z => LV.int k z)[i]? = some v → pc[i]? = some v' → VR (fun _ => none) v v') ∧ ∀ (i : Nat) u, pc[i]? = some u → u.oneCell' = true := fun {n k zs g} hg ht => by
    unfold Lib.TabIs World.var? at ht
    rw [hg] at ht
    simp only [Option.bind_some] at ht
    split at ht
    · rename_i cs t fz hw
      cases ht
      refine ⟨_, _, _, hw, by simp, fun i v v' e1 e2 => ?_, fun i u e1 => ?_⟩
      · simp at e1 e2
        obtain ⟨z, hz, rfl⟩ := e1
        obtain ⟨z', hz', rfl⟩ := e2
        rw [hz] at hz'
        cases hz'
        exact .int _ _
      · simp at e1
        obtain ⟨z, -, rfl⟩ := e1
        rfl
    · cases ht
  have errOf : ∀ {n : String} {g : Nat}, (∃ x fz t, W.heap[g]? = some (.cells #[.iface 176 x] t fz)) → ∃ pc e fz, W.heap[g]? = some (.cells pc e fz) ∧ errL.length = pc.size ∧ (∀ (i : Nat) v v', errL[i]? = some v → pc[i]? = some v' → VR (fun _ => none) v v') ∧ ∀ (i : Nat) u, pc[i]? = some u → u.oneCell' = true := fun {n g} ⟨x, fz, t, hw⟩ => by
    refine ⟨_, _, _, hw, rfl, fun i v v' e1 e2 => ?_, fun i u e1 => ?_⟩
    · match i with
      | 0 => simp [errL] at e1 e2; subst e1 e2; exact .ifc _ (.any _)
      | i + 1 => simp [errL] at e1
    · match i with
      | 0 => simp at e1; subst e1; rfl
      | i + 1 => simp at e1
  have hmem := tabG_mem (show tabG (glL m) g = some c from e)
  simp only [glL, List.mem_cons, Prod.mk.injEq, List.not_mem_nil, or_false] at hmem
  rcases hmem with ⟨rfl, rfl⟩ | ⟨rfl, rfl⟩ | ⟨rfl, rfl⟩ | ⟨rfl, rfl⟩ | ⟨rfl, rfl⟩
  · exact tabOf (by kernel_rfl) (tab_counts h)
  · exact ⟨_, _, _, hm, rfl, fun i v v' e1 e2 => (by
      match i with
      | 0 => simp at e1 e2; subst e1 e2; exact .int _ _
      | i + 1 => simp at e1), fun i u e1 => (by
      match i with
      | 0 => simp at e1; subst e1; rfl
      | i + 1 => simp at e1)⟩
  · exact tabOf (by kernel_rfl) (tab_pow h)
  · exact errOf (n := "") (err_cell (n := "strconv.ErrSyntax") (text := [105, 110, 118, 97, 108, 105, 100, 32, 115, 121, 110, 116, 97, 120]) (by kernel_rfl) (by kernel_rfl) (met_one h "strconv.ErrSyntax" Rows.laid_strconv_ErrSyntax (by kernel_rfl)))
  · exact errOf (n := "") (err_cell (n := "strconv.ErrRange") (text := [118, 97, 108, 117, 101, 32, 111, 117, 116, 32, 111, 102, 32, 114, 97, 110, 103, 101]) (by kernel_rfl) (by kernel_rfl) (met_one h "strconv.ErrRange" Rows.laid_strconv_ErrRange (by kernel_rfl)))
end Go.Proofs.YtbnmhhbncggjkaaGreatDoor
