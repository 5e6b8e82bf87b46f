/- Logical values, a logical heap, and a program's run over them: definitions. Conditions: none. -/
import GoSem.Step
import Derived.KernelRfl
set_option linter.unusedVariables false
namespace Go.Proofs.Eng
open Go
/-- A tree of numbered things. -/
inductive T (α : Type) where
  | lf
  | nd (v : α) (l r : T α)
--REC
noncomputable def T.get {α : Type} (z : α) (t : T α) : Nat → α := T.rec (fun _ => z) (fun x _ _ iha ihb i => Bool.rec (Bool.rec (ihb (Nat.sub (Nat.div i 2) 1)) (iha (Nat.div i 2)) (Nat.beq (Nat.mod i 2) 1)) x (Nat.beq i 0)) t
noncomputable def T.one {α : Type} (z v : α) (fuel : Nat) : Nat → T α := Nat.rec (fun _ => .nd v .lf .lf) (fun _ ih i => Bool.rec (Bool.rec (.nd z .lf (ih (Nat.sub (Nat.div i 2) 1))) (.nd z (ih (Nat.div i 2)) .lf) (Nat.beq (Nat.mod i 2) 1)) (.nd v .lf .lf) (Nat.beq i 0)) fuel
noncomputable def T.set {α : Type} (z v : α) (t : T α) : Nat → T α := T.rec (fun i => T.one z v i i) (fun x a b iha ihb i => Bool.rec (Bool.rec (.nd x a (ihb (Nat.sub (Nat.div i 2) 1))) (.nd x (iha (Nat.div i 2)) b) (Nat.beq (Nat.mod i 2) 1)) (.nd v a b) (Nat.beq i 0)) t
noncomputable def len {α : Type} (l : List α) : Nat := List.rec 0 (fun _ _ ih => Nat.succ ih) l
noncomputable def tak {α : Type} (l : List α) : Nat → List α := List.rec (fun _ => []) (fun x _ ih n => Nat.rec [] (fun k _ => x :: ih k) n) l
noncomputable def drp {α : Type} (l : List α) : Nat → List α := List.rec (fun _ => []) (fun x xs ih n => Nat.rec (x :: xs) (fun k _ => ih k) n) l
noncomputable def app {α : Type} (l m : List α) : List α := List.rec m (fun x _ ih => x :: ih) l
noncomputable def nth {α : Type} (l : List α) : Nat → Option α := List.rec (fun _ => none) (fun x _ ih n => Nat.rec (some x) (fun k _ => ih k) n) l
noncomputable def rep {α : Type} (x : List α) (n : Nat) : List α := Nat.rec [] (fun _ ih => app x ih) n
noncomputable def beqS (l : List UInt8) : List UInt8 → Bool := List.rec (fun m => List.rec true (fun _ _ _ => false) m) (fun x _ ih m => List.rec false (fun y ys _ => Bool.rec false (ih ys) (Nat.beq x.toNat y.toNat)) m) l
--END
/-- A value, its blocks named by numbers of one's own; 'any': not known. -/
inductive LV where
  | any
  | bool (b : Bool)
  | int (k : IntKind) (n : Int)
  | str (l : List UInt8)
  | nilp
  | ptr (b off : Nat)
  | gptr (g off : Nat)
  | nils
  | slc (b off len : Nat) (cap : Option Nat)
  | nilm
  | map (r : Nat)
  | nilf
  | fn (f : Fn) (first cap : List LV)
  | nili
  | ifc (t : TypeId) (v : LV)
  | agg (l : List LV)
  | tup (l : List LV)
  deriving Inhabited
abbrev Fr := T LV
noncomputable abbrev Fr.get (a : Fr) (i : Nat) : LV := T.get .any a i
noncomputable abbrev Fr.put (a : Fr) (i : Nat) (v : LV) : Fr := T.set .any v a i
/-- Cells of globals; and whether an append leaves the elder block to be told of. -/
structure Gl where
  fn : Nat → Option (List LV)
  weak : Bool
instance : CoeFun Gl (fun _ => Nat → Option (List LV)) := ⟨Gl.fn⟩
inductive LObj where
  | dead
  | cells (c : List LV) (t : TypeId) (st g : Nat) (sh ro : Bool)
  | map (es : List (LV × LV × Nat)) (clock : Nat)
  | loop (state : LoopState) (pending : Option Code) (fn : FuncId) (tmps : Fr) (size : Nat) (params : List Tmp) (assign body : Code) (defers : Nat)
  | defd
  deriving Inhabited
/-- The heap: how many blocks; the blocks; which block was told of a later one. -/
structure Hp where
  n : Nat
  t : T LObj
  ups : List (Nat × Nat)
noncomputable def Hp.at (h : Hp) (b : Nat) : LObj := bif Nat.blt b h.n then T.get .dead h.t b else .dead
noncomputable def Hp.new (h : Hp) (o : LObj) : Hp := ⟨h.n + 1, T.set .dead o h.t h.n, h.ups⟩
noncomputable def Hp.put (h : Hp) (b : Nat) (o : LObj) : Hp := ⟨h.n, T.set .dead o h.t b, h.ups⟩
noncomputable def oneC : Value → Bool
  | .agg _ | .tuple _ => false
  | _ => true
/-- A value without addresses. -/
noncomputable def ofV : Nat → Value → LV
  | _, .bool b => .bool b
  | _, .int k n => .int k n
  | _, .string s => .str s.data.toList
  | _, .pointer none => .nilp
  | _, .slice none 0 0 => .nils
  | _, .map none => .nilm
  | _, .nilFunc => .nilf
  | _, .nilIface => .nili
  | n + 1, .agg cs => bif cs.toList.all oneC then .agg (cs.toList.map (ofV n)) else .any
  | n + 1, .tuple cs => .tup (cs.toList.map (ofV n))
  | _, _ => .any
/-- The cells that a value fills: not told of what is not known. -/
noncomputable def LV.cells : LV → Option (List LV)
  | .agg l => some l
  | .any => none
  | .tup _ => none
  | v => some [v]
noncomputable def wrapF (k : IntKind) (n : Int) : Int :=
  match k with
  | .i64 => bif decide (n % 18446744073709551616 < 9223372036854775808) then n % 18446744073709551616 else n % 18446744073709551616 - 18446744073709551616
  | .u64 => n % 18446744073709551616
  | .u32 => n % 4294967296
  | .u8 => n % 256
  | k => k.wrap n
section
variable (P : Program)
noncomputable def szOf (t : TypeId) : Option Nat := (P.info? t).map (·.size)
noncomputable def aggD : TypeDesc → Bool
  | .struct _ | .array _ _ => true
  | _ => false
noncomputable def aggT (t : TypeId) : Option Bool := (P.underlying t).map aggD
noncomputable def zeroOf (t : TypeId) : Option LV := ((P.info? t).bind (·.zero)).map (ofV 3)
/-- A part of a composite's cells. -/
noncomputable def lpart (t : TypeId) (cs : List LV) (off : Nat) : Option LV :=
  (aggT P t).bind fun b => bif b then (szOf P t).bind fun n => bif Nat.ble (off + n) (len cs) then some (.agg (tak (drp cs off) n)) else none
  else nth cs off
noncomputable def lbits (op : BinOp) (k : IntKind) (x y : Int) : Option Int :=
  match op with
  | .and => some (wrapF k (BitVec.ofInt k.bits x &&& BitVec.ofInt k.bits y).toNat)
  | .or => some (wrapF k (BitVec.ofInt k.bits x ||| BitVec.ofInt k.bits y).toNat)
  | .xor => some (wrapF k (BitVec.ofInt k.bits x ^^^ BitVec.ofInt k.bits y).toNat)
  | .andNot => some (wrapF k (BitVec.ofInt k.bits x &&& ~~~BitVec.ofInt k.bits y).toNat)
  | _ => none
noncomputable def lint (op : BinOp) (k : IntKind) (x y : Int) : Option LV :=
  match op with
  | .add => some (.int k (wrapF k (x + y)))
  | .sub => some (.int k (wrapF k (x - y)))
  | .mul => some (.int k (wrapF k (x * y)))
  | .quo => bif decide (y = 0) then none else some (.int k (wrapF k (x.tdiv y)))
  | .rem => bif decide (y = 0) then none else some (.int k (x.tmod y))
  | .eql => some (.bool (decide (x = y)))
  | .neq => some (.bool (!decide (x = y)))
  | .lss => some (.bool (decide (x < y)))
  | .leq => some (.bool (decide (x ≤ y)))
  | .gtr => some (.bool (decide (y < x)))
  | .geq => some (.bool (decide (y ≤ x)))
  | op => (lbits op k x y).map (.int k ·)
noncomputable def lstr (op : BinOp) (x y : List UInt8) : Option LV :=
  match op with
  | .add => bif Nat.ble (len x + len y) 9223372036854775807 then some (.str (app x y)) else none
  | .eql => some (.bool (beqS x y))
  | .neq => some (.bool (!(beqS x y)))
  | .lss => some (.bool (Op.bytesLess x y))
  | .leq => some (.bool (Op.bytesLess x y || beqS x y))
  | .gtr => some (.bool (!(Op.bytesLess x y || beqS x y)))
  | .geq => some (.bool (!Op.bytesLess x y))
  | _ => none
noncomputable def leqA (eq : TypeId → LV → LV → Option Bool) (e : TypeId) (n : Nat) (xs ys : List LV) : Nat → Nat → Option Bool
  | 0, _ => some true
  | k + 1, i => (lpart P e xs (i * n)).bind fun x => (lpart P e ys (i * n)).bind fun y => (eq e x y).bind fun b => bif b then leqA eq e n xs ys k (i + 1) else some false
noncomputable def leqF (eq : TypeId → LV → LV → Option Bool) (xs ys : List LV) : List Field → Option Bool
  | [] => some true
  | f :: r => if f.name == "_" then none else (lpart P f.type xs f.offset).bind fun x => (lpart P f.type ys f.offset).bind fun y => (eq f.type x y).bind fun b => bif b then leqF eq xs ys r else some false
noncomputable def leq : Nat → TypeId → LV → LV → Option Bool
  | 0, _, _, _ => none
  | d + 1, t, x, y =>
    match P.underlying t, x, y with
    | some .bool, .bool a, .bool b => some (a == b)
    | some (.int _), .int k a, .int k' b => if k = k' then some (decide (a = b)) else none
    | some .string, .str a, .str b => some (beqS a b)
    | some (.pointer _), .nilp, .nilp => some true
    | some (.pointer _), .nilp, .ptr _ _ => some false
    | some (.pointer _), .ptr _ _, .nilp => some false
    | some (.interface _), .nili, .nili => some true
    | some (.interface _), .nili, .ifc _ _ => some false
    | some (.interface _), .ifc _ _, .nili => some false
    | some (.struct fs), .agg xs, .agg ys => if P.stoodInHeld t then none else leqF P (leq d) xs ys fs.toList
    | some (.array n e), .agg xs, .agg ys => (szOf P e).bind fun m => leqA P (leq d) e m xs ys n 0
    | some (.slice _), .nils, .nils => some true
    | some (.slice _), .nils, .slc .. => some false
    | some (.slice _), .slc .., .nils => some false
    | some (.map _ _), .nilm, .nilm => some true
    | some (.map _ _), .nilm, .map _ => some false
    | some (.map _ _), .map _, .nilm => some false
    | some (.func _ _ _), .nilf, .nilf => some true
    | some (.func _ _ _), .nilf, .fn .. => some false
    | some (.func _ _ _), .fn .., .nilf => some false
    | _, _, _ => none
/-- May these be held against each other? (two nils of an interface's kind) -/
noncomputable def eqOk (t : TypeId) (cx cy : Bool) : LV → LV → Bool
  | .nili, .nili => cx || cy || (match P.underlying t with | some (.interface ms) => ms.isEmpty | _ => false)
  | .agg _, .agg _ => !P.eqGuardType P.depth t
  | _, _ => true
noncomputable def isC : Operand → Bool
  | .const _ => true
  | _ => false
noncomputable def lshl (k : IntKind) (a b : Int) : Option LV := bif decide (b < 0) then none else some (.int k (wrapF k (a * 2 ^ (min b.toNat k.bits))))
noncomputable def lshr (k : IntKind) (a b : Int) : Option LV := bif decide (b < 0) then none else some (.int k (a.fdiv (2 ^ (min b.toNat k.bits))))
noncomputable def lbin (op : BinOp) (t : TypeId) (cx cy : Bool) (x y : LV) : Option LV :=
  match x, y with
  | .int k a, .int k' b => match op with
    | .shl => lshl k a b
    | .shr => lshr k a b
    | op => if k = k' then lint op k a b else none
  | .str a, .str b => lstr op a b
  | x, y => match op with
    | .eql => bif eqOk P t cx cy x y then (leq P 50 t x y).map .bool else none
    | .neq => bif eqOk P t cx cy x y then (leq P 50 t x y).map (fun b => .bool !b) else none
    | _ => none
noncomputable def lun (op : UnOp) (x : LV) : Option LV :=
  match op, x with
  | .neg, .int k n => some (.int k (wrapF k (0 - n)))
  | .xor, .int k n => (lbits .xor k (if k.signed then -1 else k.max) n).map (.int k ·)
  | .not, .bool b => some (.bool !b)
  | _, _ => none
/-- Values of a byte each. -/
noncomputable def toBytes : List LV → Option (List UInt8)
  | [] => some []
  | .int .u8 n :: r => (toBytes r).map (UInt8.ofNat n.toNat :: ·)
  | _ => none
noncomputable def ofBytes (l : List UInt8) : List LV := l.map fun b => .int .u8 b.toNat
/-- Parts laid into a row of cells, from left to right. -/
noncomputable def lfill (place : Nat → Option (Nat × Nat)) (pos : Nat) (cells : List LV) : List (Nat × LV) → Option (List LV)
  | [] => some cells
  | (i, v) :: rest => (place i).bind fun p => v.cells.bind fun vs =>
    bif Nat.ble pos p.1 && Nat.beq (len vs) p.2 && Nat.ble (p.1 - pos + p.2) (len cells) then
      (lfill place (p.1 + p.2) (drp cells (p.1 - pos + p.2)) rest).map fun r => app (tak cells (p.1 - pos)) (app vs r)
    else none
/-- What a slice holds, cell by cell. -/
noncomputable def rowOf (h : Hp) (size : Nat) (n : Nat) : LV → Option (List LV)
  | .nils => some []
  | .slc b off _ _ => match h.at b with
    | .cells c _ _ _ _ _ => bif Nat.ble (off + n * size) (len c) then some (tak (drp c off) (n * size)) else none
    | _ => none
  | .str s => some (ofBytes (tak s n))
  | _ => none
noncomputable def lenOf' : LV → Option Nat
  | .nils => some 0
  | .slc _ _ n _ => some n
  | .str s => some (len s)
  | _ => none
noncomputable def kill1 (keep : Nat → Bool) (g i : Nat) (h : Hp) : LObj → Hp
  | .cells _ _ _ g' _ _ => bif Nat.beq g g' && !keep i then h.put i .dead else h
  | _ => h
/-- Other members of a block's group go. -/
noncomputable def killG (keep : Nat → Bool) (g : Nat) : Nat → Hp → Hp
  | 0, h => h
  | k + 1, h => killG keep g k (kill1 keep g (g + k) h (h.at (g + k)))
mutual
/-- The latest block that a value names, and one. -/
noncomputable def topV : LV → Nat
  | .ptr b _ => b + 1
  | .slc b _ _ _ => b + 1
  | .map r => r + 1
  | .fn (.yield l) f c => max (l + 1) (max (topL f) (topL c))
  | .fn _ f c => max (topL f) (topL c)
  | .ifc _ v => topV v
  | .agg l => topL l
  | .tup l => topL l
  | _ => 0
noncomputable def topL : List LV → Nat
  | [] => 0
  | v :: r => max (topV v) (topL r)
end
noncomputable def Hp.tell (h : Hp) (b m : Nat) : Hp := bif Nat.ble m b then h else ⟨h.n, h.t, (b, m) :: h.ups⟩
/-- A block's cells turned. -/
noncomputable def putCells (h : Hp) (b off : Nat) (vs : List LV) : Option Hp :=
  match h.at b with
  | .cells c t st g sh false =>
    bif Nat.ble (off + len vs) (len c) then
      some (((bif sh then killG (Nat.beq b) g (h.n - g) h else h).put b (.cells (app (tak c off) (app vs (drp c (off + len vs)))) t st g sh false)).tell b (topL vs))
    else none
  | _ => none
noncomputable def newB (h : Hp) (c : List LV) (t : TypeId) (st : Nat) : Hp := h.new (.cells c t st h.n false false)
noncomputable def lload (G : Gl) (h : Hp) (t : TypeId) : LV → Option LV
  | .ptr b off => match h.at b with
    | .cells c _ _ _ _ _ => lpart P t c off
    | _ => none
  | .gptr g off => (G g).bind fun c => lpart P t c off
  | _ => none
noncomputable def lstore (h : Hp) (t : TypeId) (p x : LV) : Option Hp :=
  match p with
  | .ptr b off => (szOf P t).bind fun n => x.cells.bind fun vs => bif Nat.beq n (len vs) then putCells h b off vs else none
  | _ => none
noncomputable def idx (n : Nat) : LV → Option Nat
  | .int _ i => bif decide (0 ≤ i) && Nat.blt i.toNat n then some i.toNat else none
  | _ => none
noncomputable def bnd (y : Nat) : Option LV → Nat → Option Nat
  | some (.int _ i), _ => bif decide (0 ≤ i) && Nat.ble i.toNat y then some i.toNat else none
  | none, d => some d
  | _, _ => none
noncomputable def cutStr (s : List UInt8) (lo hi : Option LV) : Option LV := (bnd (len s) hi (len s)).bind fun h => (bnd h lo 0).map fun l => .str (drp (tak s h) l)
noncomputable def stOf (h : Hp) (b : Nat) : Option Nat := match h.at b with
  | .cells _ _ st _ _ _ => some st
  | _ => none
noncomputable def cutRow (h : Hp) (e : TypeId) (b off n : Nat) (cap : Option Nat) (arr : Bool) (lo hi : Option LV) : Option LV :=
  (bnd n hi n).bind fun hh => (bnd hh lo 0).bind fun l => (szOf P e).bind fun s => (stOf h b).bind fun st => bif Nat.beq st 0 || (!arr && Nat.beq st s) then some (.slc b (off + l * s) (hh - l) (cap.map (· - l))) else none
noncomputable def lslice (h : Hp) (t : TypeId) (x : LV) (lo hi : Option LV) : Option LV :=
  match P.underlying t, x with
  | some .string, .str s => cutStr s lo hi
  | some (.slice e), .nils => (szOf P e).bind fun _ => (bnd 0 hi 0).bind fun hh => (bnd hh lo 0).map fun _ => .nils
  | some (.slice e), .slc b off n cap => cutRow P h e b off n cap false lo hi
  | some (.array n e), .ptr b off => cutRow P h e b off n (some n) true lo hi
  | some (.pointer a), .ptr b off => match P.underlying a with
    | some (.array n e) => cutRow P h e b off n (some n) true lo hi
    | _ => none
  | _, _ => none
noncomputable def keyD : TypeDesc → Bool
  | .int _ | .string | .bool => true
  | _ => false
noncomputable def keySame (d : TypeDesc) (x y : LV) : Option Bool :=
  match d, x, y with
  | .int _, .int k a, .int k' b => if k = k' then some (decide (a = b)) else none
  | .string, .str a, .str b => some (beqS a b)
  | .bool, .bool a, .bool b => some (a == b)
  | _, _, _ => none
inductive Found where
  | no
  | yes (i : Nat) (v : LV) (born : Nat)
noncomputable def keyFind (d : TypeDesc) (k : LV) : List (LV × LV × Nat) → Nat → Option Found
  | [], _ => some .no
  | e :: r, i => (keySame d k e.1).bind fun b => bif b then some (.yes i e.2.1 e.2.2) else keyFind d k r (i + 1)
noncomputable def keyT (t : TypeId) : Option TypeDesc := (P.underlying t).bind fun d => bif keyD d then some d else none
/-- An operation's outcome. -/
inductive Nx where
  | val (v : LV) (h : Hp)
  | call (f : FuncId) (args : List LV) (h : Hp)
  | yield (l : Nat) (args : List LV) (h : Hp)
variable (G : Gl)
noncomputable def aev (a : Fr) : Operand → LV
  | .tmp t => a.get t
  | .const v => ofV 3 v
  | .global g => .gptr g 0
  | .func f => .fn (.func f) [] []
noncomputable def appendTo (h : Hp) (e : TypeId) (size m n : Nat) (old new : List LV) : LV → Option (LV × Hp)
  | .slc b off _ _ => match h.at b with
    | .cells c t st g sh false => bif Nat.beq st size && Nat.beq t e then
        bif !G.weak && Nat.beq (off + m * size) (len c) then
          some (.slc h.n 0 (m + n) none, ((bif sh then killG (fun i => Nat.ble i b) g (h.n - g) h else h).put b (.cells c t st g true false)).new (.cells (app old new) e size g true false))
        else some (.slc h.n 0 (m + n) none, ((bif sh then killG (Nat.beq b) g (h.n - g) h else h).put b .dead).new (.cells (app old new) e size g true false))
      else none
    | _ => none
  | .nils => some (.slc h.n 0 (m + n) none, newB h (app old new) e size)
  | _ => none
noncomputable def sameS (h : Hp) : LV → Option (LV × Hp)
  | .nils => some (.nils, h)
  | .slc b off n c => some (.slc b off n c, h)
  | _ => none
noncomputable def strOk (size : Nat) : LV → Bool
  | .str _ => Nat.beq size 1
  | _ => true
noncomputable def lappendE (h : Hp) (e : TypeId) (s x : LV) : Option (LV × Hp) := (P.info? e).bind fun i => (zeroOf P e).bind fun z => z.cells.bind fun zs =>
  (lenOf' x).bind fun n => (lenOf' s).bind fun m => (rowOf h i.size m s).bind fun old => (rowOf h i.size n x).bind fun new =>
    bif Nat.beq n 0 then sameS h s else bif Nat.beq (len zs) i.size && Nat.ble ((m + n) * i.bytes) 140737488355328 && Nat.ble (m + n) 9223372036854775807 && strOk i.size x then appendTo G h e i.size m n old new s else none
noncomputable def sliceOf : Option TypeDesc → Option TypeId
  | some (.slice e) => some e
  | _ => none
noncomputable def rowT : Option TypeDesc → Bool
  | some (.slice _) | some .string => true
  | _ => false
noncomputable def lappend (h : Hp) (ts : List TypeId) (s x : LV) : Option (LV × Hp) :=
  match ts with
  | [t, u] => (sliceOf (P.underlying t)).bind fun e => bif rowT (P.underlying u) then lappendE P G h e s x else none
  | _ => none
noncomputable def llen (h : Hp) (t : Option TypeDesc) (x : LV) : Option Nat :=
  match t, x with
  | some .string, .str s => some (len s)
  | some (.array n _), _ => some n
  | some (.slice _), .nils => some 0
  | some (.slice _), .slc _ _ n _ => some n
  | some (.map _ _), .nilm => some 0
  | some (.map _ _), .map r => match h.at r with
    | .map es _ => some (len es)
    | _ => none
  | _, _ => none
noncomputable def copyTo (h : Hp) (n : Nat) (cs : List LV) : LV → Option (LV × Hp)
  | .slc b off _ _ => (putCells h b off cs).map fun h' => (.int .i64 n, h')
  | .nils => some (.int .i64 n, h)
  | _ => none
noncomputable def lcopy (h : Hp) (t : Option TypeDesc) (d s : LV) : Option (LV × Hp) :=
  (sliceOf t).bind fun e => (szOf P e).bind fun size => (lenOf' s).bind fun n => (lenOf' d).bind fun m => (rowOf h size (Nat.min n m) s).bind fun cs => copyTo h (Nat.min n m) cs d
noncomputable def min1 (lt : Int → Int → Bool) : LV → LV → Option LV
  | .int _ y, .int k x => some (.int k (bif lt y x then y else x))
  | _, _ => none
noncomputable def lmin (lt : Int → Int → Bool) : List LV → LV → Option LV
  | [], x => some x
  | y :: r, x => (min1 lt y x).bind (lmin lt r)
noncomputable def ltOf (y x : Int) : Bool := decide (y < x)
noncomputable def gtOf (y x : Int) : Bool := decide (x < y)
noncomputable def under (t : Option TypeId) : Option TypeDesc := t.bind P.underlying
noncomputable def lbuiltin (h : Hp) (b : Builtin) (ts : Array TypeId) (args : List LV) : Option (LV × Hp) :=
  match b, args with
  | .len, [x] => (llen h (under P ts[0]?) x).map fun (n : Nat) => (.int .i64 (Int.ofNat n), h)
  | .append, [s, x] => lappend P G h ts.toList s x
  | .copy, [d, s] => lcopy P h (under P ts[0]?) d s
  | .min, x :: r => (lmin ltOf r x).map (·, h)
  | .max, x :: r => (lmin gtOf r x).map (·, h)
  | _, _ => none
noncomputable def lIndexByte (args : List LV) (h : Hp) : Option (LV × Hp) :=
  match args with
  | [.str s, .int .u8 c] => some (.int .i64 (match s.findIdx? (fun b => Nat.beq b.toNat c.toNat) with | some i => i | none => -1), h)
  | _ => none
noncomputable def lCountByte (args : List LV) (h : Hp) : Option (LV × Hp) :=
  match args with
  | [.str s, .int .u8 c] => some (.int .i64 (s.countP (fun b => Nat.beq b.toNat c.toNat)), h)
  | _ => none
noncomputable def ltarget (h : Hp) (args : List LV) : LV → Option Nx
  | .fn (.func f) first cap => some (.call f (app first (app args cap)) h)
  | .fn (.yield l) first _ => some (.yield l (app first args) h)
  | _ => none
noncomputable def fldPlace (fs : Array Field) (i : Nat) : Option (Nat × Nat) := (fs[i]?).bind fun f => (szOf P f.type).map (f.offset, ·)
noncomputable def lparts (a : Fr) (ps : Array (Nat × Operand)) : List (Nat × LV) := ps.toList.map fun p => (p.1, aev a p.2)
noncomputable def allSized (fs : List Field) : Bool := fs.all fun f => (szOf P f.type).isSome
noncomputable def oBuild (h : Hp) (t : TypeId) (ps : List (Nat × LV)) : Option Nx := (zeroOf P t).bind fun z => match P.underlying t with
  | some (.struct fs) => bif allSized P fs.toList then z.cells.bind fun zs => (lfill (fldPlace P fs) 0 zs ps).map fun cs => .val (.agg cs) h else none
  | some (.array _ el) => (szOf P el).bind fun s => z.cells.bind fun zs => (lfill (fun i => some (i * s, s)) 0 zs ps).map fun cs => .val (.agg cs) h
  | _ => none
noncomputable def oBuildSlice (h : Hp) (t : TypeId) (n : Nat) (ps : List (Nat × LV)) : Option Nx := match P.underlying t with
  | some (.slice el) => (szOf P el).bind fun s => (zeroOf P el).bind fun z => z.cells.bind fun zs => bif Nat.beq (len zs) s && Nat.ble (n * s) 16777216 then (lfill (fun i => some (i * s, s)) 0 (rep zs n) ps).map fun cs => .val (.slc h.n 0 n (some n)) (newB h cs el s) else none
  | _ => none
noncomputable def oPick (h : Hp) (x y : LV) : LV → Option Nx
  | .bool b => some (.val (bif b then x else y) h)
  | _ => none
noncomputable def oNil (h : Hp) : LV → Option Nx
  | .ptr b o => some (.val (.ptr b o) h)
  | .gptr b o => some (.val (.gptr b o) h)
  | .fn (.func f) x y => some (.val (.fn (.func f) x y) h)
  | .fn (.yield f) x y => some (.val (.fn (.yield f) x y) h)
  | .ifc t v => some (.val (.ifc t v) h)
  | _ => none
noncomputable def oBytes (h : Hp) (x : LV) : Option Nx := (lenOf' x).bind fun n => (rowOf h 1 n x).bind fun cs => (toBytes cs).map fun l => .val (.str l) h
noncomputable def oConv (h : Hp) (s d : Option TypeDesc) (x : LV) : Option Nx :=
  match s, d, x with
  | some (.int _), some (.int k), .int _ n => some (.val (.int k (wrapF k n)) h)
  | some .string, some .string, .str l => some (.val (.str l) h)
  | some (.slice el), some .string, x => match P.underlying el, x with
    | some (.int .u8), .nils => some (.val (.str []) h)
    | some (.int .u8), .slc b off n c => oBytes h (.slc b off n c)
    | _, _ => none
  | some .string, some (.slice el), .str l => match P.underlying el with
    | some (.int .u8) => some (.val (.slc h.n 0 (len l) none) (newB h (ofBytes l) el 1))
    | _ => none
  | some (.int _), some .string, .int _ n => some (.val (.str (Utf8.encode n).data.toList) h)
  | _, _, _ => none
noncomputable def oIface (h : Hp) (t : TypeId) (x : LV) : Option Nx := match P.underlying t with
  | some (.interface _) => none
  | some _ => some (.val (.ifc t x) h)
  | none => none
noncomputable def oMakeSlice (h : Hp) (t : TypeId) (l c : LV) : Option Nx := match P.underlying t, l, c with
  | some (.slice el), .int _ n, .int _ m => (P.info? el).bind fun i => (zeroOf P el).bind fun z => z.cells.bind fun zs =>
    bif decide (0 ≤ n) && decide (n ≤ m) && decide (m ≤ 140737488355328) && decide (i.bytes * m ≤ 140737488355328) && Nat.beq (len zs) i.size then some (.val (.slc h.n 0 n.toNat none) (newB h (rep zs n.toNat) el i.size)) else none
  | _, _, _ => none
noncomputable def oFieldAddr (h : Hp) (s : TypeId) (x : LV) (f : Nat) : Option Nx := match P.underlying s with
  | some (.struct fs) => (fs[f]?).bind fun fd => (szOf P fd.type).bind fun n => bif Nat.beq n 0 then none else match x with
    | .ptr b off => some (.val (.ptr b (off + fd.offset)) h)
    | .gptr b off => some (.val (.gptr b (off + fd.offset)) h)
    | _ => none
  | _ => none
noncomputable def oField (h : Hp) (t : TypeId) (x : LV) (f : Nat) : Option Nx := match P.underlying t, x with
  | some (.struct fs), .agg cs => (fs[f]?).bind fun fd => (lpart P fd.type cs fd.offset).map (.val · h)
  | _, _ => none
noncomputable def oIndexAddr (h : Hp) (t : TypeId) (x i : LV) : Option Nx := match P.underlying t, x with
  | some (.array n el), .ptr b off => (idx n i).bind fun j => (szOf P el).map fun s => .val (.ptr b (off + j * s)) h
  | some (.array n el), .gptr b off => (idx n i).bind fun j => (szOf P el).map fun s => .val (.gptr b (off + j * s)) h
  | some (.slice el), .slc b off n _ => (idx n i).bind fun j => (szOf P el).map fun s => .val (.ptr b (off + j * s)) h
  | _, _ => none
noncomputable def oIndex (h : Hp) (t : TypeId) (x i : LV) : Option Nx := match P.underlying t, x with
  | some (.array n el), .agg cs => (idx n i).bind fun j => (szOf P el).bind fun s => (lpart P el cs (j * s)).map (.val · h)
  | some .string, .str s => (idx (len s) i).bind fun j => (nth s j).map fun b => .val (.int .u8 b.toNat) h
  | _, _ => none
noncomputable def mapAt (h : Hp) : LV → Option (List (LV × LV × Nat))
  | .nilm => some []
  | .map r => match h.at r with
    | .map es _ => some es
    | _ => none
  | _ => none
noncomputable def mapD : Option TypeDesc → Option (TypeId × TypeId)
  | some (.map k v) => some (k, v)
  | _ => none
noncomputable def lookEnd (h : Hp) (vT : TypeId) (ok : Bool) : Found → Option Nx
  | .yes _ y _ => some (.val (bif ok then .tup [y, .bool true] else y) h)
  | .no => (zeroOf P vT).map fun z => .val (bif ok then .tup [z, .bool false] else z) h
noncomputable def oLookup (h : Hp) (t : TypeId) (x k : LV) (ok : Bool) : Option Nx := (mapD (P.underlying t)).bind fun kv => (keyT P kv.1).bind fun d => (mapAt h x).bind fun es => (keyFind d k es 0).bind (lookEnd P h kv.2 ok)
noncomputable def updEnd (h : Hp) (r : Nat) (k x : LV) (es : List (LV × LV × Nat)) (c : Nat) : Found → Nx
  | .yes i _ b => .val .any ((h.put r (.map (es.set i (k, x, b)) c)).tell r (topL [k, x]))
  | .no => .val .any ((h.put r (.map (app es [(k, x, c)]) (c + 1))).tell r (topL [k, x]))
noncomputable def updAt (h : Hp) (d : TypeDesc) (r : Nat) (k x : LV) : LObj → Option Nx
  | .map es c => (keyFind d k es 0).map (updEnd h r k x es c)
  | _ => none
noncomputable def oMapUpdate (h : Hp) (t : TypeId) (m k x : LV) : Option Nx := match m with
  | .map r => (mapD (P.underlying t)).bind fun kv => (keyT P kv.1).bind fun d => updAt h d r k x (h.at r)
  | _ => none
noncomputable def oAssert (h : Hp) (aT : TypeId) (ok : Bool) (x : LV) : Option Nx := match P.underlying aT, x with
  | some (.interface want), .ifc t y => (P.info? t).bind fun i => match Instr.missingMethod want i.methods with
    | none => some (.val (bif ok then .tup [.ifc t y, .bool true] else .ifc t y) h)
    | some _ => none
  | some (.interface _), .nili => none
  | some _, .ifc t y => bif Nat.beq t aT then some (.val (bif ok then .tup [y, .bool true] else y) h)
    else bif ok then (zeroOf P aT).map fun z => .val (.tup [z, .bool false]) h else none
  | some _, .nili => bif ok then (zeroOf P aT).map fun z => .val (.tup [z, .bool false]) h else none
  | _, _ => none
noncomputable def oExtract (h : Hp) (i : Nat) : LV → Option Nx
  | .tup l => (nth l i).map (.val · h)
  | _ => none
noncomputable def oCall (h : Hp) (a : Fr) (c : Call) : Option Nx := match c.callee with
  | .value f => ltarget h (c.args.toList.map (aev a)) (aev a f)
  | .builtin b => (lbuiltin P G h b c.argTypes (c.args.toList.map (aev a))).map fun r => .val r.1 r.2
  | .invoke _ _ => none
noncomputable def oAlloc (h : Hp) (t : TypeId) : Option Nx := (zeroOf P t).bind fun z => z.cells.map fun zs => .val (.ptr h.n 0) (newB h zs t 0)
noncomputable def oBox (h : Hp) (t : TypeId) (x : LV) : Option Nx := x.cells.map fun vs => .val (.ptr h.n 0) (newB h vs t 0)
noncomputable def oVal (h : Hp) (x : Option LV) : Option Nx := x.map (.val · h)
noncomputable def oStore (h : Hp) (t : TypeId) (p x : LV) : Option Nx := (lstore P h t p x).map (.val .any ·)
noncomputable def oSlice (h : Hp) (t : TypeId) (x : LV) (lo hi : Option LV) : Option LV → Option Nx
  | none => oVal h (lslice P h t x lo hi)
  | some _ => none
noncomputable def oMakeFunc (h : Hp) (fn : Fn) (fs cs : List LV) : Option Nx := match fn with
  | .func g => some (.val (.fn (.func g) fs cs) h)
  | _ => none
noncomputable def vOnly : Option Nx → Option Nx
  | some (.val v h) => some (.val v h)
  | _ => none
noncomputable def lop (h : Hp) (a : Fr) (o : Oper) : Option Nx :=
  match o.op with
  | .move x | .assign x => some (.val (aev a x) h)
  | .pick c x y => vOnly (oPick h (aev a x) (aev a y) (aev a c))
  | .alloc t => oAlloc P h t
  | .box t x => oBox h t (aev a x)
  | .build t ps => vOnly (oBuild P h t (lparts a ps))
  | .buildSlice t n ps => vOnly (oBuildSlice P h t n (lparts a ps))
  | .load t p => oVal h (lload P G h t (aev a p))
  | .store t p x => oStore P h t (aev a p) (aev a x)
  | .nilCheck x => vOnly (oNil h (aev a x))
  | .binOp op t x y _ => oVal h (lbin P op t (isC x) (isC y) (aev a x) (aev a y))
  | .unOp op _ x => oVal h (lun op (aev a x))
  | .convert s d x => vOnly (oConv P h (P.underlying s) (P.underlying d) (aev a x))
  | .makeInterface t x => vOnly (oIface P h t (aev a x))
  | .makeFunc fn f c => vOnly (oMakeFunc h fn (f.toList.map (aev a)) (c.toList.map (aev a)))
  | .makeMap _ none => some (.val (.map h.n) (h.new (.map [] 0)))
  | .makeSlice t l c => vOnly (oMakeSlice P h t (aev a l) (aev a c))
  | .slice t x lo hi mx => oSlice P h t (aev a x) (lo.map (aev a)) (hi.map (aev a)) (mx.map (aev a))
  | .fieldAddr s x f => vOnly (oFieldAddr P h s (aev a x) f)
  | .field t x f => vOnly (oField P h t (aev a x) f)
  | .indexAddr t x i => vOnly (oIndexAddr P h t (aev a x) (aev a i))
  | .index t x i => vOnly (oIndex P h t (aev a x) (aev a i))
  | .lookup t x k ok => vOnly (oLookup P h t (aev a x) (aev a k) ok)
  | .mapUpdate t m k x | .insert t m k x => vOnly (oMapUpdate P h t (aev a m) (aev a k) (aev a x))
  | .typeAssert x _ aT ok => vOnly (oAssert P h aT ok (aev a x))
  | .extract t i => vOnly (oExtract h i (aev a t))
  | .call c => oCall P G h a c
  | _ => none
inductive Ex where
  | normal | exit (id : Nat) | ret
noncomputable def lresult (h : Hp) (a : Fr) : ResultVar → Option LV
  | .tmp t => some (a.get t)
  | .cell p t => lload P G h t (a.get p)
noncomputable def lresultL (h : Hp) (a : Fr) : List ResultVar → Option (List LV)
  | [] => some []
  | r :: rs => (lresult P G h a r).bind fun v => (lresultL h a rs).map (v :: ·)
noncomputable def oneOf : List LV → LV
  | [v] => v
  | vs => .tup vs
/-- What a call leaves behind. -/
noncomputable def gc (n : Nat) (v : LV) (h : Hp) : Hp := bif Nat.ble n h.n && Nat.ble (topV v) n && h.ups.all (fun u => Nat.ble n u.1 || Nat.ble u.2 n) then ⟨n, h.t, h.ups.filter fun u => !Nat.ble n u.1⟩ else h
inductive Cmd where
  | call (f : FuncId) (args : List LV)
  | code (c : Code) (rnd : Option Nat) (fn : FuncId) (size : Nat) (a : Fr) (ds : List Nat)
  | ops (ops : Array Oper) (l : List Oper) (size : Nat) (a : Fr)
  | yield (l : Nat) (args : List LV)
inductive Res where
  | val (v : LV) (h : Hp)
  | ex (e : Ex) (a : Fr) (ds : List Nat) (h : Hp)
abbrev IH := Cmd → Hp → Option Res
/-- Contracts of functions; contracts of blocks of code. -/
structure Orc where
  fn : FuncId → Option (List LV → Hp → Option (LV × Hp))
  cut : FuncId → Nat → Option (Nat → Fr → Hp → Option (Ex × Fr × Hp))
  pure : FuncId → Bool
  pok : ∀ f, pure f = true → ∃ g : List LV → Option LV, fn f = some fun args h => (g args).map (·, h)
instance : CoeFun Orc (fun _ => FuncId → Option (List LV → Hp → Option (LV × Hp))) := ⟨Orc.fn⟩
variable (C : Orc)
noncomputable def frOf (a : Fr) (i : Nat) : List LV → Fr
  | [] => a
  | v :: r => frOf (a.put i v) (i + 1) r
noncomputable def unmark : List Nat → Hp → Option Hp
  | [], h => some h
  | d :: ds, h => match h.at d with
    | .defd => unmark ds (h.put d .dead)
    | _ => none
noncomputable def evRet (h0 : Hp) (fn : Func) : Option Res → Option Res
  | some (.ex .normal a ds h') | some (.ex .ret a ds h') => (unmark ds h').bind fun h2 => (lresultL P G h2 a fn.results.toList).map fun vs => .val (oneOf vs) (gc h0.n (oneOf vs) h2)
  | _ => none
noncomputable def evBody (ih : IH) (f : FuncId) (args : List LV) (h : Hp) (fn : Func) : Option Code → Option Res
  | none => none
  | some c => evRet P G h fn (ih (.code c none f (max fn.ntmps (len args)) (frOf .lf 0 args) []) h)
noncomputable def evCall (ih : IH) (f : FuncId) (args : List LV) (h : Hp) : Option Res := (P.funcs[f]?).bind fun fn => evBody P G ih f args h fn fn.body
noncomputable def jumpOf : Ex → Option Code
  | .normal => none
  | .ret => some .ret
  | .exit i => some (.exit i)
noncomputable def endRd (l : Nat) (e : Ex) (h2 : Hp) : LObj → Option Res
  | .loop .busy _ fn tmps size params assign body d => some (.val (.bool (jumpOf e).isNone) (h2.put l (.loop (bif (jumpOf e).isNone then .ready else .done) (jumpOf e) fn tmps size params assign body d)))
  | _ => none
noncomputable def evYieldB (l : Nat) : Option Res → Option Res
  | some (.ex e _ _ h2) => endRd l e h2 (h2.at l)
  | _ => none
noncomputable def evYieldM (ih : IH) (l : Nat) (fn : FuncId) (size : Nat) (body : Code) (t1 : Fr) (ds : List Nat) (h1 : Hp) : LObj → Option Res
  | .loop .ready pd fn' tmps' size' ps' as' bd' d' => evYieldB l (ih (.code body (some l) fn size t1 ds) (h1.put l (.loop .busy pd fn' tmps' size' ps' as' bd' d')))
  | _ => none
noncomputable def evYieldA (ih : IH) (l : Nat) (fn : FuncId) (size : Nat) (body : Code) : Option Res → Option Res
  | some (.ex .normal t1 ds h1) => evYieldM ih l fn size body t1 ds h1 (h1.at l)
  | _ => none
noncomputable def setAll (size : Nat) : Fr → List Tmp → List LV → Option Fr
  | t, i :: is, x :: xs => bif Nat.blt i size then setAll size (t.put i x) is xs else none
  | t, [], [] => some t
  | _, _, _ => none
noncomputable def evYieldO (ih : IH) (l : Nat) (args : List LV) (h : Hp) : LObj → Option Res
  | .loop _ _ fn tmps size params assign body _ => (setAll size tmps params args).bind fun t => evYieldA ih l fn size body (ih (.code assign (some l) fn size t []) h)
  | _ => none
noncomputable def evYield (ih : IH) (l : Nat) (args : List LV) (h : Hp) : Option Res := evYieldO ih l args h (h.at l)
noncomputable def putL (size : Nat) (a : Fr) (d : Option Tmp) (v : LV) : Option Fr := match d with | some d => bif Nat.blt d size then some (a.put d v) else none | none => some a
noncomputable def evNext (ih : IH) (ops : Array Oper) (o : Oper) (r : List Oper) (size : Nat) (a : Fr) (v : LV) (h : Hp) : Option Res := (putL size a o.dst v).bind fun a' => ih (.ops ops r size a') h
noncomputable def evCont (ih : IH) (ops : Array Oper) (o : Oper) (r : List Oper) (size : Nat) (a : Fr) : Option Res → Option Res
  | some (.val v h') => evNext ih ops o r size a v h'
  | _ => none
noncomputable def evC (ih : IH) (f : FuncId) (args : List LV) (h : Hp) : Option Res :=
  match C f with
  | some c => (c args h).map fun r => .val r.1 r.2
  | none => ih (.call f args) h
noncomputable def evNx (ih : IH) (ops : Array Oper) (o : Oper) (r : List Oper) (size : Nat) (a : Fr) : Option Nx → Option Res
  | some (.val v h') => evNext ih ops o r size a v h'
  | some (.call f args h') => evCont ih ops o r size a (evC C ih f args h')
  | some (.yield l args h') => evCont ih ops o r size a (ih (.yield l args) h')
  | none => none
noncomputable def evRun (ih : IH) (ops : Array Oper) (o : Oper) (r : List Oper) (size : Nat) (a : Fr) (h : Hp) : Option Res := evNx C ih ops o r size a (lop P G h a o)
noncomputable def evSkip (ih : IH) (ops : Array Oper) (o : Oper) (r : List Oper) (size : Nat) (a : Fr) (h : Hp) : Option Res := evNext ih ops o r size a (.tup []) h
noncomputable def bxor (a b : Bool) : Bool := match a, b with | true, true => false | false, false => false | _, _ => true
noncomputable def evG (ih : IH) (ops : Array Oper) (o : Oper) (r : List Oper) (size : Nat) (a : Fr) (h : Hp) (w : Bool) : LV → Option Res
  | .bool b => bif bxor b w then evSkip ih ops o r size a h else evRun P G C ih ops o r size a h
  | .any => none
  | _ => evSkip ih ops o r size a h
noncomputable def evOp (ih : IH) (ops : Array Oper) (o : Oper) (r : List Oper) (size : Nat) (a : Fr) (h : Hp) : Option Res :=
  match o.guard with
  | none => evRun P G C ih ops o r size a h
  | some (j, w) => match (ops[j]?).bind (·.dst) with
    | some d => evG P G C ih ops o r size a h w (a.get d)
    | none => evSkip ih ops o r size a h
noncomputable def valOf : Option Res → Option (LV × Hp)
  | some (.val v h) => some (v, h)
  | _ => none
noncomputable def oneNx (ih : IH) : Option Nx → Option (LV × Hp)
  | some (.val v h) => some (v, h)
  | some (.call f args h) => valOf (evC C ih f args h)
  | some (.yield l args h) => valOf (ih (.yield l args) h)
  | none => none
noncomputable def oneG (ih : IH) (o : Oper) (a : Fr) (h : Hp) (w : Bool) : LV → Option (LV × Hp)
  | .bool b => bif bxor b w then some (.tup [], h) else oneNx C ih (lop P G h a o)
  | .any => none
  | _ => some (.tup [], h)
noncomputable def gTmp (ops : Array Oper) (o : Oper) : Option Tmp := o.guard.bind fun g => (ops[g.1]?).bind (·.dst)
/-- One operation, with its guard. -/
noncomputable def one (ih : IH) (ops : Array Oper) (o : Oper) (a : Fr) (h : Hp) : Option (LV × Hp) :=
  match o.guard with
  | none => oneNx C ih (lop P G h a o)
  | some g => match gTmp ops o with
    | some d => oneG P G C ih o a h g.2 (a.get d)
    | none => some (.tup [], h)
noncomputable def tmpOf : Operand → Option Tmp
  | .tmp t => some t
  | _ => none
noncomputable def looks (ops : Array Oper) (o : Oper) : List Tmp := app (gTmp ops o).toList (o.op.operands.toList.filterMap tmpOf)
/-- 0: no heap is seen; 1: the heap is read; 2: it may be turned. -/
noncomputable def kindC : LV → Nat
  | .int _ _ => 0
  | .slc .. => 1
  | .nils => 1
  | _ => 2
noncomputable def callKind : Callee → Nat
  | .builtin .len => 1
  | _ => 2
noncomputable def kindOf (a : Fr) (o : Oper) : Nat :=
  match o.op with
  | .move _ | .assign _ | .pick .. | .build .. | .nilCheck _ | .binOp .. | .unOp .. | .makeInterface .. | .makeFunc .. | .fieldAddr .. | .field .. | .indexAddr .. | .index .. | .typeAssert .. | .extract .. => 0
  | .load .. | .slice .. | .lookup .. => 1
  | .convert _ _ x => kindC (aev a x)
  | .call c => callKind c.callee
  | _ => 2
/-- Is it a call that sees no heap? -/
noncomputable def pureCall : Callee → Bool
  | .value (.func f) => C.pure f
  | _ => false
noncomputable def pureOp : Op → Bool
  | .call c => pureCall C c.callee
  | _ => false
noncomputable def kindP (a : Fr) (o : Oper) : Nat := bif pureOp C o.op then 0 else kindOf a o
structure Row where
  o : Oper
  a : Fr
  h : Hp
  v : LV
  h1 : Hp
  k : Nat
  b : Nat
  l : List Tmp
noncomputable def bitsOf (bs : List Nat) (i : Nat) : List Edge → Option Nat
  | [] => some 0
  | e :: r => (bitsOf bs i r).bind fun s => bif Region.binds .any e then (bif Nat.blt e.on i then (nth bs e.on).map fun x => s ||| (2 ^ e.on ||| x) else none) else some s
/-- The region in its own order, and what lies ahead of each operation. -/
noncomputable def trace (ih : IH) (ops : Array Oper) (size : Nat) : List Oper → Nat → List Nat → Fr → Hp → Option (List Row × Fr × Hp)
  | [], _, _, a, h => some ([], a, h)
  | o :: r, i, bs, a, h => (bitsOf bs i o.after.toList).bind fun b => (one P G C ih ops o a h).bind fun p => (putL size a o.dst p.1).bind fun a' =>
    (trace ih ops size r (i + 1) (app bs [b]) a' p.2).map fun q => (⟨o, a, h, p.1, p.2, kindP C a o, b, looks ops o⟩ :: q.1, q.2)
noncomputable def memT (t : Tmp) : List Tmp → Bool
  | [] => false
  | x :: r => Nat.beq t x || memT t r
noncomputable def hits (d : Option Tmp) (l : List Tmp) : Bool := match d with
  | some d => memT d l
  | none => false
noncomputable def sameD (d e : Option Tmp) : Bool := match d, e with
  | some d, some e => Nat.beq d e
  | _, _ => false
/-- Two rows, the first ahead: must their order be kept? -/
noncomputable def clash (x y : Row) : Bool := hits x.o.dst y.l || hits y.o.dst x.l || sameD x.o.dst y.o.dst || (Nat.beq x.k 2 && Nat.beq y.k 2)
noncomputable def okPair (y : Row) : List Row → Nat → Bool
  | [], _ => true
  | x :: r, i => (Nat.testBit y.b i || !clash x y) && okPair y r (i + 1)
noncomputable def okPairs (all : List Row) : List Row → Nat → Bool
  | [], _ => true
  | y :: r, j => okPair y (tak all j) 0 && okPairs all r (j + 1)
noncomputable def eqB : Bool → Bool → Bool
  | true, true => true
  | false, false => true
  | _, _ => false
noncomputable def eqO : Option Nat → Option Nat → Bool
  | none, none => true
  | some a, some b => Nat.beq a b
  | _, _ => false
noncomputable def eq0 : LV → LV → Bool
  | .bool a, .bool b => eqB a b
  | .int k a, .int k' b => if k = k' then decide (a = b) else false
  | .str a, .str b => beqS a b
  | .nilp, .nilp => true
  | .ptr a b, .ptr c d => Nat.beq a c && Nat.beq b d
  | .gptr a b, .gptr c d => Nat.beq a c && Nat.beq b d
  | .nils, .nils => true
  | .slc a b c k, .slc d e f k' => Nat.beq a d && Nat.beq b e && Nat.beq c f && eqO k k'
  | .nilm, .nilm => true
  | .map a, .map b => Nat.beq a b
  | .nilf, .nilf => true
  | .fn (.func f) [] [], .fn (.func g) [] [] => Nat.beq f g
  | .fn (.yield f) [] [], .fn (.yield g) [] [] => Nat.beq f g
  | .nili, .nili => true
  | _, _ => false
noncomputable def eqL : List LV → List LV → Bool
  | [], [] => true
  | x :: r, y :: s => eq0 x y && eqL r s
  | _, _ => false
noncomputable def eqV : LV → LV → Bool
  | .ifc t a, .ifc u b => Nat.beq t u && eq0 a b
  | .agg a, .agg b => eqL a b
  | .tup a, .tup b => eqL a b
  | x, y => eq0 x y
/-- May an operation come with so many rows' movers done? -/
noncomputable def may (b i k : Nat) : List Row → Nat → Bool
  | [], _ => true
  | m :: r, j => (bif Nat.beq m.k 2 then (bif Nat.blt j k then !Nat.testBit m.b i else !Nat.testBit b j) else true) && may b i k r (j + 1)
noncomputable def epochs : List Row → Nat → List (Nat × Hp)
  | [], _ => []
  | x :: r, i => bif Nat.beq x.k 2 then (i + 1, x.h1) :: epochs r (i + 1) else epochs r (i + 1)
noncomputable def sameAt (v : LV) : Option (LV × Hp) → Bool
  | some (u, _) => eqV u v
  | none => false
noncomputable def okRead (ih : IH) (ops : Array Oper) (all : List Row) (x : Row) (i own : Nat) : List (Nat × Hp) → Bool
  | [] => true
  | e :: es => (bif !Nat.beq e.1 own && may x.b i e.1 all 0 then sameAt x.v (one P G C ih ops x.o x.a e.2) else true) && okRead ih ops all x i own es
noncomputable def okReads (ih : IH) (ops : Array Oper) (all : List Row) (eps : List (Nat × Hp)) : List Row → Nat → Nat → Bool
  | [], _, _ => true
  | x :: r, i, own => (bif Nat.beq x.k 1 then okRead P G C ih ops all x i own eps else true) && okReads ih ops all eps r (i + 1) (bif Nat.beq x.k 2 then i + 1 else own)
/-- A region whose order is drawn. -/
noncomputable def evDraw (ih : IH) (ops : Array Oper) (size : Nat) (a : Fr) (ds : List Nat) (h : Hp) : Option Res :=
  (trace P G C ih ops size ops.toList 0 [] a h).bind fun q => bif okPairs q.1 q.1 0 && okReads P G C ih ops q.1 ((0, h) :: epochs q.1 0) q.1 0 0 then some (.ex .normal q.2.1 ds q.2.2) else none
noncomputable def evSeq (ih : IH) (y : Code) (rnd : Option Nat) (fn : FuncId) (size : Nat) : Option Res → Option Res
  | some (.ex .normal a' ds h') => ih (.code y rnd fn size a' ds) h'
  | r => r
noncomputable def evBlk (i : Nat) : Option Res → Option Res
  | some (.ex (.exit j) a' ds h') => bif Nat.beq j i then some (.ex .normal a' ds h') else some (.ex (.exit j) a' ds h')
  | r => r
noncomputable def evCond (ih : IH) (x y : Code) (rnd : Option Nat) (fn : FuncId) (size : Nat) (a : Fr) (ds : List Nat) (h : Hp) : LV → Option Res
  | .bool true => ih (.code x rnd fn size a ds) h
  | .bool false => ih (.code y rnd fn size a ds) h
  | _ => none
noncomputable def isJump : Code → Bool
  | .ret | .exit _ => true
  | _ => false
noncomputable def evRfObj (ih : IH) (l : Nat) (rnd : Option Nat) (fn : FuncId) (size : Nat) (a : Fr) (ds : List Nat) (h4 : Hp) : LObj → Option Res
  | .loop .ready none _ _ _ _ _ _ _ => some (.ex .normal a ds (h4.put l .dead))
  | .loop .done (some p) _ _ _ _ _ _ _ => bif isJump p then ih (.code p rnd fn size a ds) (h4.put l .dead) else none
  | _ => none
noncomputable def evRfEnd (ih : IH) (l : Nat) (rnd : Option Nat) (fn : FuncId) (size : Nat) (a : Fr) (ds : List Nat) : Option Res → Option Res
  | some (.val _ h4) => evRfObj ih l rnd fn size a ds h4 (h4.at l)
  | _ => none
noncomputable def evRfCall (ih : IH) (l : Nat) (rnd : Option Nat) (fn : FuncId) (size : Nat) (a : Fr) (ds : List Nat) : Option Nx → Option Res
  | some (.call g args h3) => evRfEnd ih l rnd fn size a ds (ih (.call g args) h3)
  | _ => none
noncomputable def evRf (ih : IH) (f : Operand) (params : Array Tmp) (assign body : Code) (rnd : Option Nat) (fn : FuncId) (size : Nat) (a : Fr) (ds : List Nat) (h1 : Hp) (d : Nat) : Option Res :=
  evRfCall ih h1.n rnd fn size a ds (ltarget (h1.new (.loop .ready none fn a size params.toList assign body d)) [.fn (.yield h1.n) [] []] (aev a f))
noncomputable def evRange (ih : IH) (f : Operand) (params : Array Tmp) (assign body : Code) (rnd : Option Nat) (fn : FuncId) (size : Nat) (a : Fr) (ds : List Nat) (h : Hp) : Option Res :=
  match rnd with
  | none => evRf ih f params assign body rnd fn size a (h.n :: ds) (h.new .defd) h.n
  | some l => match h.at l with
    | .loop _ _ _ _ _ _ _ _ d => evRf ih f params assign body rnd fn size a ds h d
    | _ => none
noncomputable def cutOf (rnd : Option Nat) (ds : List Nat) (fn : FuncId) (i : Nat) : Option (Nat → Fr → Hp → Option (Ex × Fr × Hp)) := match rnd, ds with
  | none, [] => C.cut fn i
  | _, _ => none
noncomputable def evCut (size : Nat) (a : Fr) (ds : List Nat) (h : Hp) (q : Option Res) : Option (Nat → Fr → Hp → Option (Ex × Fr × Hp)) → Option Res
  | some c => (c size a h).map fun r => .ex r.1 r.2.1 ds r.2.2
  | none => q
noncomputable def evOps (ds : List Nat) : Option Res → Option Res
  | some (.ex e a _ h) => some (.ex e a ds h)
  | _ => none
noncomputable def evCode (ih : IH) (c : Code) (rnd : Option Nat) (fn : FuncId) (size : Nat) (a : Fr) (ds : List Nat) (h : Hp) : Option Res :=
  match c with
  | .skip | .label _ => some (.ex .normal a ds h)
  | .ret => some (.ex .ret a ds h)
  | .exit i => some (.ex (.exit i) a ds h)
  | .seq x y => evSeq ih y rnd fn size (ih (.code x rnd fn size a ds) h)
  | .cond b x y => evCond ih x y rnd fn size a ds h (aev a b)
  | .block i b => evCut size a ds h (evBlk i (ih (.code b rnd fn size a ds) h)) (cutOf C rnd ds fn i)
  | .loop b => evSeq ih (.loop b) rnd fn size (ih (.code b rnd fn size a ds) h)
  | .region _ ops d => bif d then evDraw P G C ih ops size a ds h else evOps ds (ih (.ops ops ops.toList size a) h)
  | .rangeFunc f params assign body => evRange ih f params assign body rnd fn size a ds h
  | _ => none
noncomputable def evStep (ih : IH) : Cmd → Hp → Option Res
  | .call f args, h => evCall P G ih f args h
  | .yield l args, h => evYield ih l args h
  | .ops _ [] _ a, h => some (.ex .normal a [] h)
  | .ops ops (o :: r) size a, h => evOp P G C ih ops o r size a h
  | .code c rnd fn size a ds, h => evCode P G C ih c rnd fn size a ds h
noncomputable def ev (n : Nat) : Cmd → Hp → Option Res := Nat.rec (fun _ _ => none) (fun _ ih => evStep P G C ih) n
end
end Go.Proofs.Eng
