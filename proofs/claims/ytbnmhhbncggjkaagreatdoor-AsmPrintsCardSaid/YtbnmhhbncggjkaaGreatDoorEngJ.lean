/- The logical machine: conversions; composites. Conditions: none. -/
import Derived.Test.YtbnmhhbncggjkaaGreatDoorEngI
set_option linter.unusedVariables false
set_option linter.unusedSimpArgs false
namespace Go.Proofs.Eng
open Go
section
variable {P : Program} {G : Gl} {ρ : Rho} {h h' : Hp} {w : World} {a : Fr} {o : Oper} {v : LV}
theorem run_conv {s d : TypeId} {x : Operand} {pa : Act} {pv : Value} {w' : World} (ho : o.op = .convert s d x) (e : (convert s d (pa.eval x)).run P w = .ok pv w') : (execOp pa.eval o).run P w = .ok (.value pv) w' := by
  unfold execOp; simp only [ho]; exact run_v e
/-- A frozen end of a new row is a new row. -/
theorem freeze_alloc (w : World) (pc : Array Value) (e : TypeId) : (w.alloc (.cells pc e)).freeze ⟨w.heap.size, pc.size, none⟩ 1 = w.alloc (.cells pc e (pc.size, pc.size + 1)) := by
  unfold World.freeze
  rw [if_neg (by decide)]
  have key : ∀ (H : Array Obj) (x : Obj) (f : Obj → Obj), (H.push x).modify H.size f = H.push (f x) := fun H x f => by
    apply Array.ext
    · simp
    · intro i h1 h2
      simp only [Array.size_modify, Array.size_push] at h1
      rw [Array.getElem_modify (by simpa using h1)]
      by_cases e : H.size = i
      · subst e; simp
      · rw [if_neg e, Array.getElem_push, Array.getElem_push, dif_pos (by omega), dif_pos (by omega)]
  show World.mk _ _ _ _ _ = World.mk _ _ _ _ _
  congr 1
  refine (key w.heap _ _).trans ?_
  simp
theorem ofBytes_LR (l : List UInt8) : LR ρ (ofBytes l) (l.map fun b => Value.int .u8 b.toNat) := by
  unfold ofBytes
  induction l with
  | nil => exact .nil
  | cons x r ih => exact .cons (.int _ _) ih
theorem new_cells' {c : List LV} {pc : List Value} {fz : Nat × Nat} {more : List Value} (r : Real G ρ h w) (hl : LR ρ c pc) (h1 : ∀ u ∈ pc ++ more, u.oneCell' = true) (hfz : (pc ++ more).length ≤ fz.1 ∨ fz.2 ≤ fz.1) (e t : TypeId) (st g : Nat) (sh : Bool) (hg : g ≤ h.n) (het : e = t) (hti : st = 0 → c = []) :
    Real G (ρ.add h.n ⟨w.heap.size, 0, (pc ++ more).length, st⟩) (h.new (.cells c t st g sh false)) (w.alloc (.cells (pc ++ more).toArray e fz)) ∧ St ρ h w (ρ.add h.n ⟨w.heap.size, 0, (pc ++ more).length, st⟩) (h.new (.cells c t st g sh false)) (w.alloc (.cells (pc ++ more).toArray e fz)) := by
  refine real_new r _ _ _ rfl (fun g' e => by simp [grpOf] at e; omega) ⟨_, Rho.add_same _ _, ⟨rfl, _, _, by subst het; exact heap_alloc_at w _, fun a b => absurd (hti a) b⟩, ?_⟩
  refine CR.mono (Rho.ext_add r _) ⟨_, e, fz, heap_alloc_at w _, by simp, by simp [hl.1], fun i v v' e1 e2 => ?_, fun i u e1 => h1 u (List.mem_of_getElem? (by simpa using e1)), fun i hi => ?_⟩
  · have hi : i < pc.length := by rw [← hl.1]; exact (List.getElem?_eq_some_iff.1 e1).1
    refine hl.2 i v v' e1 ?_
    rw [← e2]
    simp [List.getElem?_append_left hi]
  · simp at hi
    simp at hfz
    rw [Bool.and_eq_false_iff]
    by_cases h0 : fz.1 ≤ i
    · right; simp; omega
    · left; simp; omega
theorem op_conv {s d : TypeId} {x : Operand} (ho : o.op = .convert s d x) (hv : oConv P h (P.underlying s) (P.underlying d) (aev a x) = some (.val v h')) : OpS P G h a o v h' := by
  unfold oConv at hv
  split at hv
  · rename_i k k0 k' n es ed ex
    cases hv
    refine opS_still fun ρ w pa hr hf => ?_
    have hx := aev_VR hf x
    rw [ex] at hx
    refine ⟨.int k0 (k0.wrap n), by rw [wrapF_eq]; exact .int _ _, run_conv ho ?_⟩
    rw [hx.int_inv]
    simp [convert, Sem.run_bind, run_underlying es, run_underlying ed, Result.andThen, Conv.intToInt]
  · rename_i l es ed ex
    cases hv
    refine opS_still fun ρ w pa hr hf => ?_
    have hx := aev_VR hf x
    rw [ex] at hx
    refine ⟨_, .str l, run_conv ho ?_⟩
    rw [hx.str_inv]
    simp [convert, Sem.run_bind, run_underlying es, run_underlying ed, Result.andThen]
  · rename_i el es ed
    split at hv <;> first | (cases hv; done) | skip
    · rename_i eu ey
      cases hv
      refine opS_still fun ρ w pa hr hf => ?_
      have hx := aev_VR hf x
      rw [ey] at hx
      refine ⟨_, .str [], run_conv ho ?_⟩
      rw [hx.nils_inv, run_convert_bytes_string w s d el none 0 0 es eu ed]
      rfl
    · rename_i b off n c eu ey
      unfold oBytes at hv
      obtain ⟨m, e1, hv⟩ := Option.bind_eq_some_iff.1 hv
      cases e1
      obtain ⟨cs, e2, hv⟩ := Option.bind_eq_some_iff.1 hv
      obtain ⟨l, e3, hv⟩ := Option.map_eq_some_iff.1 hv
      cases hv
      refine opS_still fun ρ w pa hr hf => ?_
      have hx := aev_VR hf x
      rw [ey] at hx
      obtain ⟨p, c', x', hρ, ex', hnc, hk, hs, hx'⟩ := hx.slc_inv
      obtain ⟨pcs, hl, hlen, hone, hcell⟩ := rowOf_slc hr hρ (Nat.le_refl _) hnc hx' e2
      obtain ⟨ns, rfl, rfl⟩ := toBytes_inv e3
      obtain rfl := hl.ints
      refine ⟨_, .str _, run_conv ho ?_⟩
      rw [ex', run_convert_bytes_string w s d el _ n c' es eu ed]
      have hload := run_loadCells_list (P := P) (w := w) ⟨p.pb, x', none⟩ (ns.map (Value.int .u8)) hcell
      rw [hlen, Nat.mul_one] at hload
      rw [run_bytesToString w _ n c' ns hload]
      have := foldl_push ns []
      rw [show (ByteArray.empty) = ⟨([] : List UInt8).toArray⟩ from rfl, this]
      simp
  · rename_i el l es ed ex
    split at hv <;> first | (cases hv; done) | skip
    rename_i eu
    cases hv
    intro ρ w pa hr hf
    have hx := aev_VR hf x
    rw [ex] at hx
    have hcap := grownCap_ge w l.length 0 el
    let pc : List Value := l.map fun b => Value.int .u8 b.toNat
    let more : List Value := List.replicate (grownCap w l.length 0 el - l.length) (.int .u8 0)
    have hr' := Real.drew hr
    obtain ⟨r1, s1⟩ := new_cells' (fz := ((pc ++ more).length, (pc ++ more).length + 1)) (more := more) hr' (ofBytes_LR l) (fun u hu => by
      rcases List.mem_append.1 hu with hu | hu
      · obtain ⟨b, -, rfl⟩ := List.mem_map.1 hu; rfl
      · rw [List.eq_of_mem_replicate hu]; rfl) (.inl (Nat.le_refl _)) el el 1 h.n false (Nat.le_refl _) rfl (fun e => by cases e)
    have hlen : (pc ++ more).length = grownCap w l.length 0 el := by simp [pc, more]; omega
    refine ⟨_, _, .slice (some ⟨w.heap.size, 0, none⟩) l.length (grownCap w l.length 0 el), ⟨s1.ext, s1.img, s1.frame, s1.size, s1.os, s1.tape, s1.output⟩, r1, ?_, .inl (run_conv ho ?_)⟩
    · rw [len_eq]
      exact .slc 0 _ none (Rho.add_same _ _) hcap (fun k e => by cases e) (fun _ => by simp only [Nat.add_zero, Nat.zero_add, Nat.mul_one]; exact Nat.le_of_eq hlen.symm) (.inr rfl)
    · rw [hx.str_inv]
      have e1 : (⟨l.toArray⟩ : ByteArray).size = l.length := rfl
      have hq : (Question.appendCap l.length 0 el).forced = false := rfl
      have e2 : (l.toArray.map fun b : UInt8 => Value.int .u8 (b.toNat : Int)) ++ Array.replicate (grownCap w l.length 0 el - l.length) (.int .u8 0) = (pc ++ more).toArray := by
        apply Array.ext'
        simp [pc, more]
      have hgc : (Question.appendCap l.length 0 el).cut (w.tape w.drawn (Question.appendCap l.length 0 el)) = grownCap w l.length 0 el := rfl
      have hshape : (w.drew.alloc (.cells (pc ++ more).toArray el)).shape? w.drew.heap.size = some (el, (pc ++ more).toArray.size) := by
        simp only [World.shape?, heap_alloc_at]
      simp only [convert, Sem.run_bind, run_underlying es, run_underlying ed, run_underlying eu, Result.andThen, Conv.stringToBytes, e1, run_choose_drew, hq, Bool.false_eq_true, if_false, hgc, e2, newRow, run_newObj_alloc, Sem.run_pure, markStringish, run_shape, hshape, run_freeze, freeze_alloc]
      simp [pc]
  · rename_i k n es ed ex
    cases hv
    refine opS_still fun ρ w pa hr hf => ?_
    have hx := aev_VR hf x
    rw [ex] at hx
    refine ⟨_, .str _, run_conv ho ?_⟩
    rw [hx.int_inv]
    simp [convert, Sem.run_bind, run_underlying es, run_underlying ed, Result.andThen, Conv.intToString]
  · cases hv
end
end Go.Proofs.Eng
