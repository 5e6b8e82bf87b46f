/- A call in a heap that holds more than it sees. Conditions: none. -/
import Derived.Test.YtbnmhhbncggjkaaGreatDoorEngX
set_option linter.unusedVariables false
set_option linter.unusedSimpArgs false
namespace Go.Proofs.Eng
open Go
def shO : LObj → Bool
  | .cells _ _ _ _ sh _ => sh
  | _ => false
theorem SameG.sh {a b : LObj} (k : SameG a b) : shO a = true ∧ shO b = true := by
  unfold SameG at k
  split at k
  · exact ⟨rfl, rfl⟩
  · exact k.elim
section
variable {P : Program} {G : Gl} {h h' H H' : Hp} {f : Nat → Option Nat} {src : Nat → Nat}
/-- Where a name of the smaller heap lies in the greater one. -/
def backN (n N : Nat) (src : Nat → Nat) (j : Nat) : Nat := if j < n then src j else N + (j - n)
def back (n N : Nat) (src : Nat → Nat) (j : Nat) : Option Nat := some (backN n N src j)
structure Fits (h h' H H' : Hp) (src : Nat → Nat) : Prop where
  le : h.n ≤ h'.n
  n : H'.n = H.n + (h'.n - h.n)
  ups : ∀ u ∈ H.ups, u ∈ H'.ups
  own : ∀ j, j < h.n → lv (H.at (src j)) = true
  wrt : ∀ j, wr (h.at j) = true → wr (H.at (src j)) = true ∧ shO (H.at (src j)) = false
  sh : ∀ j, shO (h'.at j) = false
  new : ∀ j, h.n ≤ j → lv (h'.at j) = true → wr (h'.at j) = true
  obj : ∀ j, j < h'.n → (h.n ≤ j ∨ wr (h.at j) = true) → OLe (back h.n H.n src) (h'.at j) (H'.at (backN h.n H.n src j)) ∧ (lv (H'.at (backN h.n H.n src j)) = true → lv (h'.at j) = true) ∧ (wr (H'.at (backN h.n H.n src j)) = true → wr (h'.at j) = true) ∧
    (∀ g, grpOf (H'.at (backN h.n H.n src j)) = some g → g ≤ backN h.n H.n src j) ∧ ((backN h.n H.n src j, H'.n) ∈ H'.ups ∨ OTop (backN h.n H.n src j + 1) (H'.at (backN h.n H.n src j)))
  other : ∀ i, i < H.n → (∀ j, j < h.n → wr (h.at j) = true → src j ≠ i) → H'.at i = H.at i
theorem CallE.frame {g : FuncId} {args argsB : List LV} {v vB : LV} (k : CallE P G g args h v h') (e : Emb H h src f) (F : Fits h h' H H' src) (hl : argsB.length = args.length) (ha : ∀ (i : Nat) x y, argsB[i]? = some x → args[i]? = some y → VLe f x y) (hv : VLe (back h.n H.n src) v vB) : CallE P G g argsB H vB H' := fun ρ w pargs hR hla => by
  have hla' : LR (ρ.via h.n src) args pargs.toList := ⟨by rw [← hl]; exact hla.1, fun i y pv e1 e2 => by
    have hi : i < argsB.length := by rw [hl]; exact (List.getElem?_eq_some_iff.1 e1).1
    have e3 : argsB[i]? = some argsB[i] := List.getElem?_eq_getElem hi
    exact ha i _ _ e3 e1 ρ _ pv e.tr (hla.2 i _ pv e3 e2)⟩
  obtain ⟨k1, k2⟩ := k _ w pargs (hR.restrict e) hla'
  refine ⟨k1, k2.mono fun x w' ⟨ρs, pv, h1, s, r, hvr⟩ => ?_⟩
  let ρ' : Rho := fun i => if i < H.n then ρ i else ρs (i - H.n + h.n)
  have old : ∀ i, i < H.n → ρ' i = ρ i := fun i hi => if_pos hi
  have srcLt : ∀ j, j < h.n → src j < H.n := fun j hj => lv_lt (F.own j hj)
  have place : ∀ j, j < h.n → ∃ p, ρ (src j) = some p := fun j hj => by
    have ho := hR.obj (src j)
    have hlv := F.own j hj
    cases hb : H.at (src j) <;> rw [hb] at ho hlv
    · cases hlv
    · obtain ⟨p, h1, -⟩ := ho; exact ⟨p, h1⟩
    · obtain ⟨p, _, h1, -⟩ := ho; exact ⟨p, h1⟩
    · obtain ⟨p, _, _, h1, -⟩ := ho; exact ⟨p, h1⟩
    · obtain ⟨p, h1, -⟩ := ho; exact ⟨p, h1⟩
  have small : ∀ j p, j < h.n → ρs j = some p → ρ (src j) = some p := fun j p hj hp => by
    obtain ⟨q, hq⟩ := place j hj
    have : ρ.via h.n src j = some q := by rw [Rho.via_lt hj, hq]
    have := s.ext j q this
    rw [hp] at this
    cases this
    exact hq
  have tr : Tr (back h.n H.n src) ρs ρ' := fun b j p hf hp => by
    cases hf
    unfold backN
    split
    · rename_i hb
      rw [old _ (srcLt b hb), small b p hb hp]
    · show (if _ then _ else _) = _
      rw [if_neg (by omega), show H.n + (b - h.n) - H.n + h.n = b by omega, hp]
  have ext : Ext ρ ρ' := fun i p hp => by rw [old i (hR.fresh i p hp)]; exact hp
  have inv : ∀ i p, ρ' i = some p → i < H.n ∧ ρ i = some p ∨ ∃ j, h.n ≤ j ∧ j < h'.n ∧ i = backN h.n H.n src j ∧ ρs j = some p := fun i p hp => by
    by_cases hi : i < H.n
    · exact .inl ⟨hi, by rw [← old i hi]; exact hp⟩
    · have hp' : ρs (i - H.n + h.n) = some p := by
        have : ρ' i = ρs (i - H.n + h.n) := if_neg hi
        rw [← this]; exact hp
      refine .inr ⟨i - H.n + h.n, by omega, r.fresh _ p hp', ?_, hp'⟩
      unfold backN
      rw [if_neg (by omega)]
      omega
  have wrLt : ∀ j, wr (h.at j) = true → j < h.n := fun j hw => lv_lt (lv_of_wr hw)
  -- an untouched block's place is none that is written
  have apart : ∀ i p j q, i < H.n → (∀ j, j < h.n → wr (h.at j) = true → src j ≠ i) → lv (H.at i) = true → ρ i = some p → wr (h.at j) = true → ρ (src j) = some q → p.pb ≠ q.pb := fun i p j q hi hno hli hp hw hq hpq => by
    have := hR.sep i (src j) p q (fun e => hno j (wrLt j hw) hw e.symm) hli (F.own j (wrLt j hw)) hp hq hpq
    have := this.sh.2
    rw [(F.wrt j hw).2] at this
    cases this
  have still : ∀ b, b < w.heap.size → (∀ j q, wr (h.at j) = true → ρ (src j) = some q → q.pb ≠ b) → w'.heap[b]? = w.heap[b]? := fun b hb hno => s.frame b hb fun j q hw hq => hno j q hw (Rho.via_some hq).2
  have keepO : ∀ i, i < H.n → (∀ j, j < h.n → wr (h.at j) = true → src j ≠ i) → ∀ p, lv (H.at i) = true → ρ i = some p → w'.heap[p.pb]? = w.heap[p.pb]? := fun i hi hno p hli hp =>
    still _ (hR.low hli hp) fun j q hw hq hqp => apart i p j q hi hno hli hp hw hq hqp.symm
  -- which blocks there are
  have kinds : ∀ i, i < H'.n → (i < H.n ∧ (∀ j, j < h.n → wr (h.at j) = true → src j ≠ i) ∧ H'.at i = H.at i) ∨ ∃ j, j < h'.n ∧ (h.n ≤ j ∨ wr (h.at j) = true) ∧ i = backN h.n H.n src j := fun i hi => by
    by_cases hiH : i < H.n
    · by_cases hex : ∃ j, j < h.n ∧ wr (h.at j) = true ∧ src j = i
      · obtain ⟨j, hj, hw, rfl⟩ := hex
        exact .inr ⟨j, Nat.lt_of_lt_of_le hj F.le, .inr hw, by unfold backN; rw [if_pos hj]⟩
      · have hno : ∀ j, j < h.n → wr (h.at j) = true → src j ≠ i := fun j hj hw he => hex ⟨j, hj, hw, he⟩
        exact .inl ⟨hiH, hno, F.other i hiH hno⟩
    · rw [F.n] at hi
      refine .inr ⟨i - H.n + h.n, by have := F.le; omega, .inl (by omega), ?_⟩
      unfold backN
      rw [if_neg (by omega)]
      omega
  have placeK : ∀ j p, j < h'.n → (h.n ≤ j ∨ wr (h.at j) = true) → ρ' (backN h.n H.n src j) = some p → lv (h'.at j) = true → ρs j = some p := fun j p hj hk hp hlj => by
    by_cases hjn : j < h.n
    · unfold backN at hp
      rw [if_pos hjn, old _ (srcLt j hjn)] at hp
      exact s.ext j p (by rw [Rho.via_lt hjn, hp])
    · unfold backN at hp
      rw [if_neg hjn] at hp
      have : ρ' (H.n + (j - h.n)) = ρs (H.n + (j - h.n) - H.n + h.n) := if_neg (by omega)
      rw [this, show H.n + (j - h.n) - H.n + h.n = j by omega] at hp
      exact hp
  have wrK : ∀ j, j < h'.n → (h.n ≤ j ∨ wr (h.at j) = true) → lv (h'.at j) = true → wr (h.at j) = true ∨ wr (h'.at j) = true := fun j hj hk hl => by
    rcases hk with hk | hk
    · exact .inr (F.new j hk hl)
    · exact .inl hk
  -- places of touched and new blocks: written ones of old, or new ones
  have where' : ∀ j p, j < h'.n → (h.n ≤ j ∨ wr (h.at j) = true) → lv (h'.at j) = true → ρs j = some p → (∃ j2 q, wr (h.at j2) = true ∧ ρ (src j2) = some q ∧ q.pb = p.pb) ∨ w.heap.size ≤ p.pb := fun j p hj hk hl hp => by
    rcases wrK j hj hk hl with hw | hw
    · exact .inl ⟨j, p, hw, small j p (wrLt j hw) hp, rfl⟩
    · rcases s.img j p hw hp with ⟨j2, q, h1, h2, h3⟩ | hge
      · exact .inl ⟨j2, q, h1, (Rho.via_some h2).2, h3⟩
      · exact .inr hge
  have mixed : ∀ i j p q, i < H.n → (∀ j, j < h.n → wr (h.at j) = true → src j ≠ i) → lv (H.at i) = true → ρ i = some p → j < h'.n → (h.n ≤ j ∨ wr (h.at j) = true) → lv (h'.at j) = true → ρs j = some q → p.pb ≠ q.pb := fun i j p q hi hno hli hp hj hk hlj hq hpq => by
    rcases where' j q hj hk hlj hq with ⟨j2, q2, h1, h2, h3⟩ | hge
    · exact apart i p j2 q2 hi hno hli hp h1 h2 (hpq.trans h3.symm)
    · have := hR.low hli hp
      omega
  have obj : ∀ i, OR ρ' w' i (H'.at i) := fun i => by
    by_cases hi : i < H'.n
    · rcases kinds i hi with ⟨h1, h2, h3⟩ | ⟨j, h1, h2, rfl⟩
      · rw [h3]
        exact (hR.obj i).keep ext (fun p hl hp => keepO i h1 h2 p hl hp)
      · exact (F.obj j h1 h2).1 ρs ρ' w' j _ tr rfl (r.obj j)
    · rw [Hp.at_eq, if_neg hi]; trivial
  have sep : ∀ i k p q, i ≠ k → lv (H'.at i) = true → lv (H'.at k) = true → ρ' i = some p → ρ' k = some q → p.pb = q.pb → (i < H.n ∧ H'.at i = H.at i ∧ ρ i = some p) ∧ (k < H.n ∧ H'.at k = H.at k ∧ ρ k = some q) := fun i k p q hik hli hlk hp hq hpq => by
    rcases kinds i (lv_lt hli) with ⟨a1, a2, a3⟩ | ⟨j1, a1, a2, rfl⟩
    · rcases kinds k (lv_lt hlk) with ⟨b1, b2, b3⟩ | ⟨j2, b1, b2, rfl⟩
      · exact ⟨⟨a1, a3, by rw [← old i a1]; exact hp⟩, ⟨b1, b3, by rw [← old k b1]; exact hq⟩⟩
      · have hl2 := (F.obj j2 b1 b2).2.1 hlk
        exact absurd hpq (mixed i j2 p q a1 a2 (by rw [← a3]; exact hli) (by rw [← old i a1]; exact hp) b1 b2 hl2 (placeK j2 q b1 b2 hq hl2))
    · have hl1 := (F.obj j1 a1 a2).2.1 hli
      rcases kinds k (lv_lt hlk) with ⟨b1, b2, b3⟩ | ⟨j2, b1, b2, rfl⟩
      · exact absurd hpq.symm (mixed k j1 q p b1 b2 (by rw [← b3]; exact hlk) (by rw [← old k b1]; exact hq) a1 a2 hl1 (placeK j1 p a1 a2 hp hl1))
      · have hl2 := (F.obj j2 b1 b2).2.1 hlk
        have := r.sep j1 j2 p q (fun e => hik (by rw [e])) hl1 hl2 (placeK j1 p a1 a2 hp hl1) (placeK j2 q b1 b2 hq hl2) hpq
        have := this.sh.1
        rw [F.sh j1] at this
        cases this
  refine ⟨ρ', pv, h1, ⟨ext, fun i p hw hp => ?_, fun b hb hno => ?_, s.size, s.os, s.tape, s.output⟩, ⟨obj, fun i p hp => ?_, fun i k p q hik hli hlk hp hq hpq => ?_, r.glob, fun i p g hli hp hg => ?_, fun i g hg => ?_, fun b n hb hu => ?_, fun i k p q hik hli hlk hp hq hpq => ?_⟩, hv ρs ρ' pv tr hvr⟩
  · -- img
    rcases kinds i (lv_lt (lv_of_wr hw)) with ⟨a1, a2, a3⟩ | ⟨j, a1, a2, rfl⟩
    · exact .inl ⟨i, p, by rw [← a3]; exact hw, by rw [← old i a1]; exact hp, rfl⟩
    · have hwj := (F.obj j a1 a2).2.2.1 hw
      rcases where' j p a1 a2 (lv_of_wr hwj) (placeK j p a1 a2 hp (lv_of_wr hwj)) with ⟨j2, q, b1, b2, b3⟩ | hge
      · exact .inl ⟨_, q, (F.wrt j2 b1).1, b2, b3⟩
      · exact .inr hge
  · -- frame
    exact still b hb fun j q hw hq => hno _ q (F.wrt j hw).1 hq
  · -- fresh
    rcases inv i p hp with ⟨h1, -⟩ | ⟨j, h1, h2, rfl, -⟩
    · have := F.n; omega
    · unfold backN
      rw [if_neg (by omega), F.n]
      omega
  · -- sep
    obtain ⟨⟨a1, a2, a3⟩, b1, b2, b3⟩ := sep i k p q hik hli hlk hp hq hpq
    rw [a2, b2]
    exact hR.sep i k p q hik (by rw [← a2]; exact hli) (by rw [← b2]; exact hlk) a3 b3 hpq
  · -- gsep
    rcases kinds i (lv_lt hli) with ⟨a1, a2, a3⟩ | ⟨j, a1, a2, rfl⟩
    · exact hR.gsep i p g (by rw [← a3]; exact hli) (by rw [← old i a1]; exact hp) hg
    · have hlj := (F.obj j a1 a2).2.1 hli
      exact r.gsep j p g hlj (placeK j p a1 a2 hp hlj) hg
  · -- grp
    by_cases hi : i < H'.n
    · rcases kinds i hi with ⟨a1, a2, a3⟩ | ⟨j, a1, a2, rfl⟩
      · rw [a3] at hg
        exact hR.grp i g hg
      · exact (F.obj j a1 a2).2.2.2.1 g hg
    · rw [Hp.at_eq, if_neg hi] at hg
      cases hg
  · -- told
    by_cases hi : b < H'.n
    · rcases kinds b hi with ⟨a1, a2, a3⟩ | ⟨j, a1, a2, rfl⟩
      · rw [a3]
        have := hR.told b n hb (fun u hm => hu u (F.ups u hm))
        exact this.keep (Rho.cut_mono ext n) (fun p hl hp => keepO b a1 a2 p hl (Rho.cut_ext n _ _ hp))
      · rcases (F.obj j a1 a2).2.2.2.2 with hm | ht
        · have := hu _ hm
          simp only at this
          have hn : H'.n ≤ n := by omega
          rw [Rho.cut_all fun i p hp => Nat.lt_of_lt_of_le (show i < H'.n by
            rcases inv i p hp with ⟨h1, -⟩ | ⟨j, h1, h2, rfl, -⟩
            · have := F.n; omega
            · unfold backN
              rw [if_neg (by omega), F.n]
              omega) hn]
          exact obj _
        · exact (obj _).cutO hb (ht.mono (by omega))
    · rw [Hp.at_eq, if_neg hi]; trivial
  · -- mono
    obtain ⟨⟨a1, a2, a3⟩, b1, b2, b3⟩ := sep i k p q (by omega) hli hlk hp hq hpq
    rw [a2, b2]
    exact hR.mono i k p q hik (by rw [← a2]; exact hli) (by rw [← b2]; exact hlk) a3 b3 hpq
end
end Go.Proofs.Eng
