/- Loops: a round's outcome, a loop's, and the contract of a block that holds one. Conditions: none. -/
import Derived.Test.YtbnmhhbncggjkaaGreatDoorEngZ
set_option linter.unusedVariables false
set_option linter.unusedSimpArgs false
namespace Go.Proofs.Eng
open Go
noncomputable section
/-- A frame that holds some slots alone. -/
def frZ : List Nat → List LV → Fr
  | i :: is, v :: vs => (frZ is vs).put i v
  | _, _ => .lf
/-- How a round ends. -/
inductive Rd where
  | next (vs : List LV) (os : List LObj)
  | out (e : Ex) (vs : List LV) (os : List LObj)
--BEGIN
section
variable (P : Program) {R : Type}
/-- A round's end: the slots that the next round wants, or those that are wanted behind the loop, or by the function's end. -/
def kround (keep m : Nat) (slots xs rs : List Nat) (kn : List LV → List LObj → Out R) (kx : Nat → List LV → List LObj → Out R) (kr : List LV → List LObj → Out R) : Res → Out R
  | .ex .normal a [] h => kcanon P keep m h (slots.map a.get) kn
  | .ex (.exit j) a [] h => kcanon P keep m h (xs.map a.get) (kx j)
  | .ex .ret a [] h => kcanon P keep m h (rs.map a.get) kr
  | _ => none'
/-- The contract of a block: by the heap as it lies ahead of it, told anew. -/
def cutCon (size keep m : Nat) (slots xs rs : List Nat) (spec : List LV → List LObj → List (B × Ex × List LV × List LObj)) (sz : Nat) (a : Fr) (h : Hp) : List (B × Ex × Fr × Hp) := bif Nat.beq sz size && Nat.beq h.n m then
    (match canon P keep m h (slots.map a.get) with
      | some q => (spec q.1 q.2.1).map fun x => (band q.2.2 x.1, x.2.1, frZ (match x.2.1 with | .ret => rs | _ => xs) x.2.2.1, hpOf P x.2.2.2)
      | none => [])
    else []
end
--FINISH
/-- All blocks of code with a number. -/
def blocks (i : Nat) : Code → List Code
  | .seq x y => app (blocks i x) (blocks i y)
  | .cond _ x y => app (blocks i x) (blocks i y)
  | .block j b => bif Nat.beq i j then b :: blocks i b else blocks i b
  | .loop b => blocks i b
  | _ => []
def bodyOf (P : Program) (f : FuncId) : Code := match (P.funcs[f]?).bind (·.body) with
  | some c => c
  | none => .skip
def loopOf (P : Program) (f : FuncId) (i : Nat) : Code := match blocks i (bodyOf P f) with
  | [.loop b] => b
  | _ => .skip
def isLoop (P : Program) (f : FuncId) (i : Nat) : Bool := match blocks i (bodyOf P f) with
  | [.loop _] => true
  | _ => false
abbrev Cut := Nat → Fr → Hp → List (Bool × Ex × Fr × Hp)
def cutT (l : List (FuncId × Nat × Cut)) : FuncId → Nat → Option Cut := List.rec (fun _ _ => none) (fun x _ ih f i => Bool.rec (ih f i) (Bool.rec (ih f i) (some x.2.2) (Nat.beq i x.2.1)) (Nat.beq f x.1)) l
end
section
variable {P : Program} {G : Gl} {R : Type} {K : KOrc} {H h h' : Hp} {r : R} {fn : FuncId} {size keep m n i : Nat} {b : Code} {vs vs' : List LV} {os os' : List LObj} {slots xs rs : List Nat} {e : Ex} {a a' : Fr}
theorem frZ_le {f : Nat → Option Nat} : ∀ slots : List Nat, FLe f a (frZ slots (reL f (slots.map a.get)))
  | [] => fun i => by
    show VLe f _ (Fr.get .lf i)
    exact .any _
  | s :: slots => fun i => by
    simp only [List.map, reL, frZ]
    rw [Fr.get_put]
    split
    · rename_i hi; subst hi; exact .re _
    · exact frZ_le slots i
theorem kround_some {kn : List LV → List LObj → Option R} {kx : Nat → List LV → List LObj → Option R} {kr : List LV → List LObj → Option R} {ds : List Nat} (e1 : kround P keep m slots xs rs kn kx kr (.ex e a ds H) = some r) :
    ds = [] ∧ ∃ ys vs os src f, FLe f a (frZ ys vs) ∧ Ren m H (hpOf P os) src f ∧ match (motive := Ex → Prop) e with
      | .normal => ys = slots ∧ kn vs os = some r
      | .exit j => ys = xs ∧ kx j vs os = some r
      | .ret => ys = rs ∧ kr vs os = some r := by
  unfold kround at e1
  cases ds with
  | cons _ _ => cases e <;> cases e1
  | nil =>
  refine ⟨rfl, ?_⟩
  cases e with
  | normal => obtain ⟨vs, os, src, f, h1, rfl, h3, -⟩ := kcanon_some e1; exact ⟨_, _, _, src, f, frZ_le _, h3, rfl, h1⟩
  | exit j => obtain ⟨vs, os, src, f, h1, rfl, h3, -⟩ := kcanon_some e1; exact ⟨_, _, _, src, f, frZ_le _, h3, rfl, h1⟩
  | ret => obtain ⟨vs, os, src, f, h1, rfl, h3, -⟩ := kcanon_some e1; exact ⟨_, _, _, src, f, frZ_le _, h3, rfl, h1⟩
/-- A round, told. -/
noncomputable abbrev rdK (P : Program) (keep m : Nat) (slots xs rs : List Nat) : Res → Option Rd := kround P keep m slots xs rs (fun vs os => some (.next vs os)) (fun j vs os => some (.out (.exit j) vs os)) (fun vs os => some (.out .ret vs os))
/-- A loop from a state on. -/
def LoopM (P : Program) (G : Gl) (fn : FuncId) (i size m : Nat) (slots : List Nat) (vs : List LV) (os : List LObj) (e : Ex) (ys : List Nat) (vs' : List LV) (os' : List LObj) : Prop :=
  CodeM m P G (.loop (loopOf P fn i)) fn size (frZ slots vs) [] (hpOf P os) e (frZ ys vs') (hpOf P os')
theorem loop_next (HT : Told P G K.orc) (gd : Good P G K.orc fn (loopOf P fn i)) (e1 : evk P G K n (.code (loopOf P fn i) none fn size (frZ slots vs) []) (hpOf P os) (rdK P keep m slots xs rs) = some (.next vs' os')) {ys : List Nat} {vs2 : List LV} {os2 : List LObj} (k : LoopM P G fn i size m slots vs' os' e ys vs2 os2) : LoopM P G fn i size m slots vs os e ys vs2 os2 := by
  obtain ⟨x, a', ds', h', k1, k2⟩ := evk_code HT gd e1
  obtain ⟨rfl, zs, v1, o1, src, f, h1, h2, h3⟩ := kround_some k2
  cases x with
  | normal =>
    obtain ⟨rfl, h3⟩ := h3
    cases h3
    exact CodeM.loop ((k1.toM m).post (fun d hd => by cases hd) h2 h1) k
  | exit j => obtain ⟨rfl, h3⟩ := h3; cases h3
  | ret => obtain ⟨rfl, h3⟩ := h3; cases h3
theorem loop_exit (HT : Told P G K.orc) (gd : Good P G K.orc fn (loopOf P fn i)) {j : Nat} (e1 : evk P G K n (.code (loopOf P fn i) none fn size (frZ slots vs) []) (hpOf P os) (rdK P keep m slots xs rs) = some (.out (.exit j) vs' os')) : LoopM P G fn i size m slots vs os (.exit j) xs vs' os' := by
  obtain ⟨x, a', ds', h', k1, k2⟩ := evk_code HT gd e1
  obtain ⟨rfl, zs, v1, o1, src, f, h1, h2, h3⟩ := kround_some k2
  cases x with
  | normal => obtain ⟨rfl, h3⟩ := h3; cases h3
  | exit j' =>
    obtain ⟨rfl, h3⟩ := h3
    cases h3
    exact CodeM.loop_out (by simp) ((k1.toM m).post (fun d hd => by cases hd) h2 h1)
  | ret => obtain ⟨rfl, h3⟩ := h3; cases h3
theorem loop_ret (HT : Told P G K.orc) (gd : Good P G K.orc fn (loopOf P fn i)) (e1 : evk P G K n (.code (loopOf P fn i) none fn size (frZ slots vs) []) (hpOf P os) (rdK P keep m slots xs rs) = some (.out .ret vs' os')) : LoopM P G fn i size m slots vs os .ret rs vs' os' := by
  obtain ⟨x, a', ds', h', k1, k2⟩ := evk_code HT gd e1
  obtain ⟨rfl, zs, v1, o1, src, f, h1, h2, h3⟩ := kround_some k2
  cases x with
  | normal => obtain ⟨rfl, h3⟩ := h3; cases h3
  | exit j' => obtain ⟨rfl, h3⟩ := h3; cases h3
  | ret =>
    obtain ⟨rfl, h3⟩ := h3
    cases h3
    exact CodeM.loop_out (by simp) ((k1.toM m).post (fun d hd => by cases hd) h2 h1)
/-- What a block's contract promises: of the loop in it. -/
def SpecS (P : Program) (G : Gl) (fn : FuncId) (i size m : Nat) (slots xs rs : List Nat) (spec : List LV → List LObj → List (Bool × Ex × List LV × List LObj)) : Prop :=
  ∀ vs os e vs' os', pickR (spec vs os) = some (e, vs', os') → (e = .normal ∧ LoopM P G fn i size m slots vs os (.exit i) xs vs' os') ∨ (e = .ret ∧ LoopM P G fn i size m slots vs os .ret rs vs' os')
theorem pickR_map {α β : Type} {b : Bool} {g : α → β} : ∀ {l : List (Bool × α)} {y : β}, pickR (l.map fun x => (band b x.1, g x.2)) = some y → b = true ∧ ∃ x, pickR l = some x ∧ y = g x
  | [], y, e => by cases e
  | x :: l, y, e => by
    simp only [List.map_cons, pickR] at e ⊢
    cases hb : band b x.1 <;> rw [hb] at e
    · obtain ⟨h1, z, h2, h3⟩ := pickR_map e
      subst h1
      have : x.1 = false := hb
      rw [this]
      exact ⟨rfl, z, h2, h3⟩
    · cases e
      rw [band_true] at hb
      rw [hb.2]
      exact ⟨hb.1, _, rfl, rfl⟩
theorem cut_sound {spec : List LV → List LObj → List (Bool × Ex × List LV × List LObj)} (hs : SpecS P G fn i size m slots xs rs spec) {sz : Nat} (e1 : pickR (cutCon P size keep m slots xs rs spec sz a h) = some (e, a', h')) : CodeS P G (.block i (.loop (loopOf P fn i))) none fn sz a [] h e a' [] h' := by
  unfold cutCon at e1
  cases hb : (Nat.beq sz size && Nat.beq h.n m) <;> rw [hb] at e1
  · cases e1
  · rw [Bool.and_eq_true] at hb
    have hsz := Nat.eq_of_beq_eq_true hb.1
    have hm := Nat.eq_of_beq_eq_true hb.2
    subst hsz
    simp only [cond_true] at e1
    split at e1
    · rename_i q hq
      obtain ⟨h1, x, h2, h3⟩ := pickR_map (g := fun x : Ex × List LV × List LObj => (x.1, frZ (match x.1 with | .ret => rs | _ => xs) x.2.1, hpOf P x.2.2)) e1
      obtain ⟨src, f, h4, h5, -⟩ := canon_some hq h1
      obtain ⟨e0, v0, o0⟩ := x
      simp only [Prod.mk.injEq] at h3
      obtain ⟨rfl, rfl, rfl⟩ := h3
      subst hm
      have pre : ∀ {e' : Ex} {a2 : Fr} {h2 : Hp}, CodeM h.n P G (.loop (loopOf P fn i)) fn sz (frZ slots q.1) [] (hpOf P q.2.1) e' a2 h2 → CodeS P G (.loop (loopOf P fn i)) none fn sz a [] h e' a2 [] h2 := fun k =>
        (k.pre (fun d hd => by cases hd) h5 (by rw [h4]; exact frZ_le slots)).toS
      rcases hs _ _ _ _ _ h2 with ⟨rfl, k⟩ | ⟨rfl, k⟩
      · exact code_block (e := .exit i) (by simp) (pre k)
      · exact code_block (e := .ret) rfl (pre k)
    · cases e1
/-! blocks of a function -/
theorem good_of {C : Orc} : ∀ c : Code, (∀ i b, b ∈ blocks i c → ∀ ct, C.cut fn i = some ct → ∀ (size : Nat) (a : Fr) (h : Hp) (e : Ex) (a' : Fr) (h' : Hp), ct size a h = some (e, a', h') → CodeS P G (.block i b) none fn size a [] h e a' [] h') → Good P G C fn c
  | .seq x y, hc => ⟨good_of x fun i b hb => hc i b (by simp only [blocks, app_eq]; exact List.mem_append_left _ hb), good_of y fun i b hb => hc i b (by simp only [blocks, app_eq]; exact List.mem_append_right _ hb)⟩
  | .cond _ x y, hc => ⟨good_of x fun i b hb => hc i b (by simp only [blocks, app_eq]; exact List.mem_append_left _ hb), good_of y fun i b hb => hc i b (by simp only [blocks, app_eq]; exact List.mem_append_right _ hb)⟩
  | .block j b, hc => ⟨fun ct e => hc j b (by simp only [blocks, Nat.beq_refl]; exact .head _) ct e, good_of b fun i b' hb => hc i b' (by
      simp only [blocks]
      cases Nat.beq i j
      · exact hb
      · exact .tail _ hb)⟩
  | .loop b, hc => good_of (C := C) b hc
  | .skip, _ | .region _ _ _, _ | .rangeFunc _ _ _ _, _ | .exit _, _ | .scope _, _ | .label _, _ | .goto _, _ | .ret, _ | .refuse _, _ => trivial
theorem loopOf_mem {b : Code} (hl : isLoop P fn i = true) (hb : b ∈ blocks i (bodyOf P fn)) : b = .loop (loopOf P fn i) := by
  unfold isLoop at hl
  unfold loopOf
  generalize blocks i (bodyOf P fn) = l at hl hb ⊢
  split at hl
  · simpa using hb
  · cases hl
theorem Good.sub {C : Orc} {i : Nat} {b : Code} : ∀ c : Code, Good P G C fn c → b ∈ blocks i c → Good P G C fn b
  | .seq x y, g, hb => by
    simp only [blocks, app_eq, List.mem_append] at hb
    rcases hb with hb | hb
    · exact Good.sub x g.1 hb
    · exact Good.sub y g.2 hb
  | .cond _ x y, g, hb => by
    simp only [blocks, app_eq, List.mem_append] at hb
    rcases hb with hb | hb
    · exact Good.sub x g.1 hb
    · exact Good.sub y g.2 hb
  | .block j c, g, hb => by
    simp only [blocks] at hb
    cases hj : Nat.beq i j <;> rw [hj] at hb
    · exact Good.sub c g.2 hb
    · simp only [cond_true, List.mem_cons] at hb
      rcases hb with rfl | hb
      · exact g.2
      · exact Good.sub c g.2 hb
  | .loop c, g, hb => Good.sub (C := C) c g hb
  | .skip, _, hb | .region _ _ _, _, hb | .rangeFunc _ _ _ _, _, hb | .exit _, _, hb | .scope _, _, hb | .label _, _, hb | .goto _, _, hb | .ret, _, hb | .refuse _, _, hb => by simp [blocks] at hb
theorem good_loop {C : Orc} (HT : Told P G C) (hl : isLoop P fn i = true) : Good P G C fn (loopOf P fn i) := by
  cases hf : P.funcs[fn]? with
  | none => unfold isLoop bodyOf at hl; rw [hf] at hl; simp [blocks] at hl
  | some f =>
    cases hb : f.body with
    | none => unfold isLoop bodyOf at hl; rw [hf] at hl; simp [hb, blocks] at hl
    | some c =>
      have g := HT.good fn f c hf hb
      have e : bodyOf P fn = c := by unfold bodyOf; rw [hf]; simp [hb]
      have hm : (Code.loop (loopOf P fn i)) ∈ blocks i c := by
        rw [← e]
        unfold isLoop at hl
        unfold loopOf
        split at hl
        · rename_i c' hc'
          rw [hc']
          exact .head _
        · cases hl
      have g2 : Good P G C fn (.loop (loopOf P fn i)) := Good.sub c g hm
      exact g2
variable {L : List (FuncId × Con)} {M : List (FuncId × PCon)}
theorem cutT_mem {f : FuncId} {c : Cut} : ∀ {l : List (FuncId × Nat × Cut)}, cutT l f i = some c → (f, i, c) ∈ l
  | [], e => by cases e
  | x :: l, e => by
    have e' : Bool.rec (cutT l f i) (Bool.rec (cutT l f i) (some x.2.2) (Nat.beq i x.2.1)) (Nat.beq f x.1) = some c := e
    cases h1 : Nat.beq f x.1 <;> rw [h1] at e'
    · exact .tail _ (cutT_mem e')
    · cases h2 : Nat.beq i x.2.1 <;> rw [h2] at e'
      · exact .tail _ (cutT_mem e')
      · have := Nat.eq_of_beq_eq_true h1
        subst this
        have := Nat.eq_of_beq_eq_true h2
        subst this
        cases e'
        exact .head _
/-- Blocks' contracts hold. -/
def CutsS (P : Program) (G : Gl) (l : List (FuncId × Nat × Cut)) : Prop := ∀ x ∈ l, isLoop P x.1 x.2.1 = true ∧ ∀ sz a h e a' h', pickR (x.2.2 sz a h) = some (e, a', h') → CodeS P G (.block x.2.1 (.loop (loopOf P x.1 x.2.1))) none x.1 sz a [] h e a' [] h'
theorem CutsS.nil : CutsS P G [] := fun x hx => by simp at hx
theorem CutsS.cons {l : List (FuncId × Nat × Cut)} {spec : List LV → List LObj → List (Bool × Ex × List LV × List LObj)} (hl : isLoop P fn i = true) (hs : SpecS P G fn i size m slots xs rs spec) (k : CutsS P G l) : CutsS P G ((fn, i, cutCon P size keep m slots xs rs spec) :: l) := fun x hx => by
  rcases List.mem_cons.1 hx with rfl | hx
  · exact ⟨hl, fun sz a h e a' h' => cut_sound hs⟩
  · exact k x hx
theorem told_cut {l : List (FuncId × Nat × Cut)} (b : Base P) (A : PConsS P G M) (B : ConsS P G L) (D : CutsS P G l) : Told P G (KOrc.orc ⟨tabP M, tab L, cutT l⟩) where
  name := b.name
  mix := b.mix
  good := fun f fn c hf hb => good_of c fun i b' hb' ct hct size a h e a' h' q => by
    have hct' : (cutT l f i).map (fun c size a h => pickR (c size a h)) = some ct := hct
    obtain ⟨c', e1, rfl⟩ := Option.map_eq_some_iff.1 hct'
    obtain ⟨h1, h2⟩ := D _ (cutT_mem e1)
    have e2 : bodyOf P f = c := by unfold bodyOf; rw [hf]; simp [hb]
    have := loopOf_mem h1 (by rw [e2]; exact hb')
    simp only at this h2
    rw [this]
    exact h2 _ _ _ _ _ _ q
  con := orc_con A B
end
end Go.Proofs.Eng
