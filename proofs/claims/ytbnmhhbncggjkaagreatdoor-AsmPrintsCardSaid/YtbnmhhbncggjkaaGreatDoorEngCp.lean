/- The logical machine with what comes behind handed on: so that a test that is not decided splits what comes behind it. Definitions. Conditions: none. -/
import Derived.Test.YtbnmhhbncggjkaaGreatDoorEngDefs
set_option linter.unusedVariables false
namespace Go.Proofs.Eng
open Go
--DOM
noncomputable section
abbrev N := Nat
abbrev I := Int
abbrev B := Bool
abbrev S := List UInt8
abbrev Cs := List LV
abbrev Out (R : Type) := Option R
def nadd (a b : Nat) : Nat := Nat.add a b
def nmul (a b : Nat) : Nat := Nat.mul a b
def nsub (a b : Nat) : Nat := Nat.sub a b
def nmin (a b : Nat) : Nat := Nat.min a b
def nle (a b : Nat) : Bool := Nat.ble a b
def nlt (a b : Nat) : Bool := Nat.blt a b
def neq (a b : Nat) : Bool := Nat.beq a b
def ofN (a : Nat) : Int := Int.ofNat a
def toN (a : Int) : Nat := Int.toNat a
def ilt (a b : Int) : Bool := decide (a < b)
def ile (a b : Int) : Bool := decide (a ≤ b)
def ieq (a b : Int) : Bool := decide (a = b)
def band (a b : Bool) : Bool := Bool.rec false b a
def bnot (a : Bool) : Bool := Bool.rec true false a
/-- A byte of a text. -/
def bt (s : List UInt8) (j : Nat) : Int := match nth s j with
  | some b => Int.ofNat b.toNat
  | none => 0
def shlI (k : IntKind) (a b : Int) : Int := wrapF k (a * 2 ^ (min b.toNat k.bits))
def shrI (k : IntKind) (a b : Int) : Int := a.fdiv (2 ^ (min b.toNat k.bits))
def bAnd (k : IntKind) (x y : Int) : Int := wrapF k (BitVec.ofInt k.bits x &&& BitVec.ofInt k.bits y).toNat
def bOr (k : IntKind) (x y : Int) : Int := wrapF k (BitVec.ofInt k.bits x ||| BitVec.ofInt k.bits y).toNat
def bXor (k : IntKind) (x y : Int) : Int := wrapF k (BitVec.ofInt k.bits x ^^^ BitVec.ofInt k.bits y).toNat
def bAndNot (k : IntKind) (x y : Int) : Int := wrapF k (BitVec.ofInt k.bits x &&& ~~~BitVec.ofInt k.bits y).toNat
def nilC : List LV := []
def imulN (a : Nat) (b : Int) : Int := a * b
def litEq (a : Nat) (b : Nat) : Bool := Nat.beq a b
def litLe (a : Nat) (b : Nat) : Bool := Nat.ble a b
def impB (a b : Bool) : Bool := Bool.rec true b a
def sameCap : Option Nat → Option Nat → Bool
  | none, none => true
  | some _, some _ => true
  | _, _ => false
def capB : Option Nat → Option Nat → B
  | some a, some b => neq a b
  | _, _ => true
def utf8 (n : Int) : List UInt8 := (Utf8.encode n).data.toList
section
variable {R : Type}
def none' : Option R := none
def tst (b : Bool) (x y : Option R) : Option R := Bool.rec y x b
def ast (b : Bool) (x : Option R) : Option R := Bool.rec none x b
def kEq (a b : IntKind) : Bool := decide (a = b)
def rdI (k : IntKind) (o : Option LV) (f : Int → Option R) : Option R := match o with
  | some (.int k' n) => bif kEq k k' then f n else none
  | _ => none
def rdB (o : Option LV) (f : Bool → Option R) : Option R := match o with
  | some (.bool b) => f b
  | _ => none
def rdS (o : Option LV) (f : List UInt8 → Option R) : Option R := match o with
  | some (.str s) => f s
  | _ => none
def rdV (o : Option LV) (f : LV → Option R) : Option R := match o with
  | some v => f v
  | none => none
def rdBytes (cs : List LV) (f : List UInt8 → Option R) : Option R := match toBytes cs with
  | some l => f l
  | none => none
def kfnd (d : TypeDesc) (k : LV) (es : List (LV × LV × Nat)) (yes : Nat → LV → Nat → Option R) (no : Option R) : Option R := match keyFind d k es 0 with
  | some (.yes i v b) => yes i v b
  | some .no => no
  | none => none
def isFnd (d : TypeDesc) (k : LV) (es : List (LV × LV × Nat)) : Bool := (keyFind d k es 0).isSome
def msetE (d : TypeDesc) (k x : LV) (es : List (LV × LV × Nat)) (c : Nat) : List (LV × LV × Nat) := match keyFind d k es 0 with
  | some (.yes i _ b) => es.set i (k, x, b)
  | _ => app es [(k, x, c)]
def msetC (d : TypeDesc) (k x : LV) (es : List (LV × LV × Nat)) (c : Nat) : Nat := match keyFind d k es 0 with
  | some (.yes _ _ _) => c
  | _ => c + 1
/-- The first of some ways that is open. -/
def pickR {α : Type} : List (Bool × α) → Option α
  | [] => none
  | x :: r => bif x.1 then some x.2 else pickR r
--BEGIN
def kpick {α : Type} : List (B × α) → (α → Out R) → Out R
  | [], _ => none'
  | x :: r, f => tst x.1 (f x.2) (kpick r f)
inductive Kd where
  | int (k : IntKind) | bool | str | other
def kdOf : TypeDesc → Kd
  | .int k => .int k
  | .bool => .bool
  | .string => .str
  | _ => .other
def rd (k : Kd) (o : Option LV) (f : LV → Out R) : Out R := match k with
  | .int k => rdI k o fun n => f (.int k n)
  | .bool => rdB o fun b => f (.bool b)
  | .str => rdS o fun s => f (.str s)
  | .other => rdV o f
section
variable (P : Program)
def catL (g : TypeId → Option (List Kd)) : List Field → Nat → Option (List Kd)
  | [], _ => some []
  | f :: r, pos => bif Nat.beq f.offset pos then (g f.type).bind fun l => (catL g r (pos + len l)).map fun m => app l m else none
def repL (l : List Kd) : Nat → List Kd
  | 0 => []
  | n + 1 => app l (repL l n)
/-- The kinds of a type's cells, if they are few. -/
def leaves : Nat → TypeId → Option (List Kd)
  | 0, _ => none
  | d + 1, t => match P.underlying t with
    | some (.struct fs) => catL (leaves d) fs.toList 0
    | some (.array n e) => bif Nat.ble n 10 then (leaves d e).map fun l => repL l n else none
    | some d => some [kdOf d]
    | none => none
def plainK : Kd → Bool
  | .other => false
  | _ => true
/-- Has a type no addresses? -/
def noNames : Nat → TypeId → Bool
  | 0, _ => false
  | d + 1, t => match P.underlying t with
    | some (.struct fs) => fs.toList.all fun f => noNames d f.type
    | some (.array _ e) => noNames d e
    | some d => plainK (kdOf d)
    | none => false
def rdL (c : Cs) (off : N) : List Kd → (List LV → Out R) → Out R
  | [], f => f []
  | k :: ks, f => rd k (nth c off) fun v => rdL c (nadd off 1) ks fun l => f (v :: l)
def klpart (t : TypeId) (c : Cs) (off : N) (f : LV → Out R) : Out R := match P.underlying t with
  | none => none'
  | some d => bif aggD d then
      (match leaves P 9 t, szOf P t with
        | some (k :: ks), some n => bif Nat.beq n (len (k :: ks)) then rdL c off (k :: ks) fun l => f (.agg l) else none'
        | _, some n => ast (nle (nadd off n) (len c)) (f (.agg (tak (drp c off) n)))
        | _, none => none')
    else rd (kdOf d) (nth c off) f
def kshl (k : IntKind) (a b : I) (f : LV → Out R) : Out R := tst (ilt b 0) none' (f (.int k (shlI k a b)))
def kshr (k : IntKind) (a b : I) (f : LV → Out R) : Out R := tst (ilt b 0) none' (f (.int k (shrI k a b)))
def klint (op : BinOp) (k : IntKind) (x y : I) (f : LV → Out R) : Out R := match op with
  | .quo => tst (ieq y 0) none' (f (.int k (wrapF k (x.tdiv y))))
  | .rem => tst (ieq y 0) none' (f (.int k (x.tmod y)))
  | .eql => f (.bool (ieq x y))
  | .neq => f (.bool (bnot (ieq x y)))
  | .lss => f (.bool (ilt x y))
  | .leq => f (.bool (ile x y))
  | .gtr => f (.bool (ilt y x))
  | .geq => f (.bool (ile y x))
  | op => match lint op k x y with
    | some v => f v
    | none => none'
def klstr (op : BinOp) (x y : S) (f : LV → Out R) : Out R := match op with
  | .add => ast (nle (nadd (len x) (len y)) 9223372036854775807) (f (.str (app x y)))
  | op => match lstr op x y with
    | some v => f v
    | none => none'
/-- Equality, all parts asked. -/
def allA (eq : TypeId → LV → LV → Option B) (e : TypeId) (n : Nat) (xs ys : Cs) : Nat → Nat → Option B
  | 0, _ => some true
  | k + 1, i => (lpart P e xs (i * n)).bind fun x => (lpart P e ys (i * n)).bind fun y => (eq e x y).bind fun b => (allA eq e n xs ys k (i + 1)).map fun c => band b c
def allF (eq : TypeId → LV → LV → Option B) (xs ys : Cs) : List Field → Option B
  | [] => some true
  | f :: r => bif f.name == "_" then none else (lpart P f.type xs f.offset).bind fun x => (lpart P f.type ys f.offset).bind fun y => (eq f.type x y).bind fun b => (allF eq xs ys r).map fun c => band b c
def keq : Nat → TypeId → LV → LV → Option B
  | 0, _, _, _ => none
  | d + 1, t, x, y =>
    match P.underlying t, x, y with
    | some (.int _), .int k a, .int k' b => if k = k' then some (ieq a b) else none
    | some (.struct fs), .agg xs, .agg ys => if P.stoodInHeld t then none else allF P (keq d) xs ys fs.toList
    | some (.array n e), .agg xs, .agg ys => (szOf P e).bind fun m => allA P (keq d) e m xs ys n 0
    | some (.struct _), _, _ => none
    | some (.array _ _), _, _ => none
    | _, x, y => leq P (d + 1) t x y
def klbin (op : BinOp) (t : TypeId) (cx cy : Bool) (x y : LV) (f : LV → Out R) : Out R := match x, y with
  | .int k a, .int k' b => match op with
    | .shl => kshl k a b f
    | .shr => kshr k a b f
    | op => if k = k' then klint op k a b f else none'
  | .str a, .str b => klstr op a b f
  | x, y => match op with
    | .eql => bif eqOk P t cx cy x y then (match keq P 50 t x y with | some b => f (.bool b) | none => none') else none'
    | .neq => bif eqOk P t cx cy x y then (match keq P 50 t x y with | some b => f (.bool (bnot b)) | none => none') else none'
    | _ => none'
def kidx (n : N) (v : LV) (f : N → Out R) : Out R := match v with
  | .int _ i => ast (band (ile 0 i) (nlt (toN i) n)) (f (toN i))
  | _ => none'
def kbnd (y : N) (o : Option LV) (d : N) (f : N → Out R) : Out R := match o with
  | some (.int _ i) => ast (band (ile 0 i) (nle (toN i) y)) (f (toN i))
  | none => f d
  | _ => none'
def kcutStr (s : S) (lo hi : Option LV) (f : LV → Out R) : Out R := kbnd (len s) hi (len s) fun h => kbnd h lo 0 fun l => f (.str (drp (tak s h) l))
def kcutRow (h : Hp) (e : TypeId) (b : Nat) (off n : N) (cap : Option N) (arr : Bool) (lo hi : Option LV) (f : LV → Out R) : Out R :=
  kbnd n hi n fun hh => kbnd hh lo 0 fun l => match szOf P e, stOf h b with
    | some s, some st => bif Nat.beq st 0 || (!arr && Nat.beq st s) then f (.slc b (nadd off (nmul l s)) (nsub hh l) (cap.map fun c => nsub c l)) else none'
    | _, _ => none'
def kslice (h : Hp) (t : TypeId) (x : LV) (lo hi : Option LV) (f : LV → Out R) : Out R :=
  match P.underlying t, x with
  | some .string, .str s => kcutStr s lo hi f
  | some (.slice e), .nils => (match szOf P e with | some _ => kbnd 0 hi 0 fun hh => kbnd hh lo 0 fun _ => f .nils | none => none')
  | some (.slice e), .slc b off n cap => kcutRow P h e b off n cap false lo hi f
  | some (.array n e), .ptr b off => kcutRow P h e b off n (some n) true lo hi f
  | some (.pointer a), .ptr b off => (match P.underlying a with
    | some (.array n e) => kcutRow P h e b off n (some n) true lo hi f
    | _ => none')
  | _, _ => none'
def ktell (h : Hp) (b : Nat) (vs : Cs) (sc : Bool) (f : Hp → Out R) : Out R := bif sc then ast (nle (topL vs) b) (f h) else f (h.tell b (topL vs))
def kput (h : Hp) (b : Nat) (off : N) (vs : Cs) (sc : Bool) (f : Hp → Out R) : Out R := match h.at b with
  | .cells c t st g sh false => ast (nle (nadd off (len vs)) (len c)) (ktell ((bif sh then killG (Nat.beq b) g (h.n - g) h else h).put b (.cells (app (tak c off) (app vs (drp c (nadd off (len vs))))) t st g sh false)) b vs sc f)
  | _ => none'
variable (G : Gl)
def isBig (t : TypeId) : Bool := (leaves P 9 t).isNone
def kload (h : Hp) (t : TypeId) (p : LV) (f : LV → Out R) : Out R := match p with
  | .ptr b off => (match h.at b with
    | .cells c u st _ _ _ => bif Nat.beq t u && Nat.beq st 0 && isBig P t then (match aggT P t, szOf P t with
        | some true, some n => ast (neq off 0) (ast (neq (len c) n) (f (.agg c)))
        | _, _ => none') else klpart P t c off f
    | _ => none')
  | .gptr g off => (match G g with
    | some c => klpart P t c off f
    | none => none')
  | _ => none'
def kwhole (h : Hp) (t : TypeId) (b : Nat) (off : N) (n : Nat) (vs : Cs) (f : Hp → Out R) : Out R := match h.at b with
  | .cells c u st g sh false => ast (neq off 0) (ast (neq n (len vs)) (ast (neq (len vs) (len c)) (ktell ((bif sh then killG (Nat.beq b) g (h.n - g) h else h).put b (.cells vs u st g sh false)) b vs (noNames P 9 t) f)))
  | _ => none'
def isWhole (h : Hp) (t : TypeId) (b : Nat) : Bool := match h.at b with
  | .cells _ u st _ _ _ => Nat.beq t u && Nat.beq st 0 && isBig P t
  | _ => false
def kstore (h : Hp) (t : TypeId) (p x : LV) (f : Hp → Out R) : Out R := match p with
  | .ptr b off => (match szOf P t, x.cells with
    | some n, some vs => bif isWhole P h t b then kwhole P h t b off n vs f else ast (neq n (len vs)) (kput h b off vs (noNames P 9 t) f)
    | _, _ => none')
  | _ => none'
def krow (h : Hp) (size : Nat) (n : N) (v : LV) (f : Cs → Out R) : Out R := match v with
  | .nils => f nilC
  | .slc b off _ _ => (match h.at b with
    | .cells c _ _ _ _ _ => ast (nle (nadd off (nmul n size)) (len c)) (f (tak (drp c off) (nmul n size)))
    | _ => none')
  | .str s => f (ofBytes (tak s n))
  | _ => none'
def kappendE (h : Hp) (e : TypeId) (s x : LV) (f : LV → Hp → Out R) : Out R := match P.info? e, (zeroOf P e).bind (·.cells), lenOf' x, lenOf' s with
  | some i, some zs, some n, some m => krow h i.size m s fun old => krow h i.size n x fun new =>
    tst (neq n 0) (match sameS h s with | some r => f r.1 r.2 | none => none')
      (bif litEq (len zs) i.size && strOk i.size x then ast (nle (nmul (nadd m n) i.bytes) 140737488355328) (ast (nle (nadd m n) 9223372036854775807)
        (match appendTo G h e i.size m n old new s with | some r => f r.1 r.2 | none => none')) else none')
  | _, _, _, _ => none'
def kappend (h : Hp) (ts : List TypeId) (s x : LV) (f : LV → Hp → Out R) : Out R := match ts with
  | [t, u] => (match sliceOf (P.underlying t) with
    | some e => bif rowT (P.underlying u) then kappendE P G h e s x f else none'
    | none => none')
  | _ => none'
def kcopy (h : Hp) (t : Option TypeDesc) (d s : LV) (f : LV → Hp → Out R) : Out R := match sliceOf t, lenOf' s, lenOf' d with
  | some e, some n, some m => (match szOf P e with
    | some size => krow h size (nmin n m) s fun cs => (match d with
      | .slc b off _ _ => kput h b off cs (noNames P 9 e) fun h' => f (.int .i64 (ofN (nmin n m))) h'
      | .nils => f (.int .i64 (ofN (nmin n m))) h
      | _ => none')
    | none => none')
  | _, _, _ => none'
def kbuiltin (h : Hp) (b : Builtin) (ts : Array TypeId) (args : List LV) (f : LV → Hp → Out R) : Out R := match b, args with
  | .append, [s, x] => kappend P G h ts.toList s x f
  | .copy, [d, s] => kcopy P h (under P ts[0]?) d s f
  | b, args => match lbuiltin P G h b ts args with
    | some r => f r.1 r.2
    | none => none'
def kfill (place : Nat → Option (Nat × Nat)) (pos : Nat) (cells : Cs) : List (Nat × LV) → (Cs → Out R) → Out R
  | [], f => f cells
  | (i, v) :: rest, f => (match place i, v.cells with
    | some p, some vs => bif Nat.ble pos p.1 then ast (neq (len vs) p.2) (ast (nle (nadd (p.1 - pos) p.2) (len cells)) (kfill place (p.1 + p.2) (drp cells (p.1 - pos + p.2)) rest fun r => f (app (tak cells (p.1 - pos)) (app vs r)))) else none'
    | _, _ => none')
def kbuild (h : Hp) (t : TypeId) (ps : List (Nat × LV)) (f : Nx → Out R) : Out R := match zeroOf P t, P.underlying t with
  | some z, some (.struct fs) => bif allSized P fs.toList then (match z.cells with
    | some zs => kfill (fldPlace P fs) 0 zs ps fun cs => f (.val (.agg cs) h)
    | none => none') else none'
  | some z, some (.array _ el) => (match szOf P el, z.cells with
    | some s, some zs => kfill (fun i => some (i * s, s)) 0 zs ps fun cs => f (.val (.agg cs) h)
    | _, _ => none')
  | _, _ => none'
def kbuildSlice (h : Hp) (t : TypeId) (n : Nat) (ps : List (Nat × LV)) (f : Nx → Out R) : Out R := match P.underlying t with
  | some (.slice el) => (match szOf P el, (zeroOf P el).bind (·.cells) with
    | some s, some zs => bif litEq (len zs) s && Nat.ble (n * s) 16777216 then kfill (fun i => some (i * s, s)) 0 (rep zs n) ps fun cs => f (.val (.slc h.n 0 n (some n)) (newB h cs el s)) else none'
    | _, _ => none')
  | _ => none'
def kconv (h : Hp) (s d : Option TypeDesc) (x : LV) (f : Nx → Out R) : Out R := match s, d, x with
  | some (.slice el), some .string, .slc b off n c => (match P.underlying el with
    | some (.int .u8) => krow h 1 n (.slc b off n c) fun cs => rdBytes cs fun l => f (.val (.str l) h)
    | _ => none')
  | s, d, x => match vOnly (oConv P h s d x) with
    | some nx => f nx
    | none => none'
def kmake (h : Hp) (t : TypeId) (l c : LV) (f : Nx → Out R) : Out R := match P.underlying t, l, c with
  | some (.slice el), .int _ n, .int _ m => (match P.info? el, (zeroOf P el).bind (·.cells) with
    | some i, some zs => bif litEq (len zs) i.size then ast (ile 0 n) (ast (ile n m) (ast (ile m 140737488355328) (ast (ile (imulN i.bytes m) 140737488355328) (f (.val (.slc h.n 0 (toN n) none) (newB h (rep zs (toN n)) el i.size)))))) else none'
    | _, _ => none')
  | _, _, _ => none'
def kfield (h : Hp) (t : TypeId) (x : LV) (i : Nat) (f : Nx → Out R) : Out R := match P.underlying t, x with
  | some (.struct fs), .agg cs => (match fs[i]? with
    | some fd => klpart P fd.type cs fd.offset fun v => f (.val v h)
    | none => none')
  | _, _ => none'
def kindexAddr (h : Hp) (t : TypeId) (x i : LV) (f : Nx → Out R) : Out R := match P.underlying t, x with
  | some (.array n el), .ptr b off => kidx n i fun j => (match szOf P el with | some s => f (.val (.ptr b (nadd off (nmul j s))) h) | none => none')
  | some (.array n el), .gptr b off => kidx n i fun j => (match szOf P el with | some s => f (.val (.gptr b (nadd off (nmul j s))) h) | none => none')
  | some (.slice el), .slc b off n _ => kidx n i fun j => (match szOf P el with | some s => f (.val (.ptr b (nadd off (nmul j s))) h) | none => none')
  | _, _ => none'
def kindex (h : Hp) (t : TypeId) (x i : LV) (f : Nx → Out R) : Out R := match P.underlying t, x with
  | some (.array n el), .agg cs => kidx n i fun j => (match szOf P el with | some s => klpart P el cs (nmul j s) fun v => f (.val v h) | none => none')
  | some .string, .str s => kidx (len s) i fun j => f (.val (.int .u8 (bt s j)) h)
  | _, _ => none'
def klook (h : Hp) (t : TypeId) (x k : LV) (ok : Bool) (f : Nx → Out R) : Out R := match mapD (P.underlying t) with
  | some kv => (match keyT P kv.1, mapAt h x, P.underlying kv.2 with
    | some d, some es, some vd => kfnd d k es (fun _ v _ => bif aggD vd then f (.val (bif ok then .tup [v, .bool true] else v) h) else rd (kdOf vd) (some v) fun v => f (.val (bif ok then .tup [v, .bool true] else v) h))
        (match zeroOf P kv.2 with | some z => f (.val (bif ok then .tup [z, .bool false] else z) h) | none => none')
    | _, _, _ => none')
  | none => none'
def kupd (h : Hp) (t : TypeId) (m k x : LV) (f : Nx → Out R) : Out R := match m with
  | .map r => (match mapD (P.underlying t) with
    | some kv => (match keyT P kv.1, h.at r with
      | some d, .map es c => ast (isFnd d k es) (f (.val .any ((h.put r (.map (msetE d k x es c) (msetC d k x es c))).tell r (topL [k, x]))))
      | _, _ => none')
    | none => none')
  | _ => none'
def kpickV (h : Hp) (x y c : LV) (f : Nx → Out R) : Out R := match c with
  | .bool b => tst b (f (.val x h)) (f (.val y h))
  | _ => none'
def kcall (h : Hp) (a : Fr) (c : Call) (f : Nx → Out R) : Out R := match c.callee with
  | .builtin b => kbuiltin P G h b c.argTypes (c.args.toList.map (aev a)) fun v h' => f (.val v h')
  | .value g => (match ltarget h (c.args.toList.map (aev a)) (aev a g) with
    | some nx => f nx
    | none => none')
  | .invoke _ _ => none'
def klop (h : Hp) (a : Fr) (o : Oper) (f : Nx → Out R) : Out R := match o.op with
  | .pick c x y => kpickV h (aev a x) (aev a y) (aev a c) f
  | .build t ps => kbuild P h t (lparts a ps) f
  | .buildSlice t n ps => kbuildSlice P h t n (lparts a ps) f
  | .load t p => kload P G h t (aev a p) fun v => f (.val v h)
  | .store t p x => kstore P h t (aev a p) (aev a x) fun h' => f (.val .any h')
  | .binOp op t x y _ => klbin P op t (isC x) (isC y) (aev a x) (aev a y) fun v => f (.val v h)
  | .convert s d x => kconv P h (P.underlying s) (P.underlying d) (aev a x) f
  | .makeSlice t l c => kmake P h t (aev a l) (aev a c) f
  | .slice t x lo hi none => kslice P h t (aev a x) (lo.map (aev a)) (hi.map (aev a)) fun v => f (.val v h)
  | .field t x i => kfield P h t (aev a x) i f
  | .indexAddr t x i => kindexAddr P h t (aev a x) (aev a i) f
  | .index t x i => kindex P h t (aev a x) (aev a i) f
  | .lookup t x k ok => klook P h t (aev a x) (aev a k) ok f
  | .mapUpdate t m k x | .insert t m k x => kupd P h t (aev a m) (aev a k) (aev a x) f
  | .call c => kcall P G h a c f
  | _ => match lop P G h a o with
    | some nx => f nx
    | none => none'
/-- Contracts of functions and of blocks of code, each some ways. -/
structure KOrc where
  pu : FuncId → Option (List LV → List (B × LV))
  fn : FuncId → Option (List LV → Hp → List (B × LV × Hp))
  cut : FuncId → Nat → Option (Nat → Fr → Hp → List (B × Ex × Fr × Hp))
variable (K : KOrc)
abbrev KIH (R : Type) := Cmd → Hp → (Res → Out R) → Out R
def klresult (h : Hp) (a : Fr) (r : ResultVar) (f : LV → Out R) : Out R := match r with
  | .tmp t => f (a.get t)
  | .cell p t => kload P G h t (a.get p) f
def klresultL (h : Hp) (a : Fr) : List ResultVar → (List LV → Out R) → Out R
  | [], f => f []
  | r :: rs, f => klresult P G h a r fun v => klresultL h a rs fun l => f (v :: l)
def kgc (n : Nat) (v : LV) (h : Hp) (f : Hp → Out R) : Out R := bif Nat.ble n h.n && h.ups.all (fun u => Nat.ble n u.1 || litLe u.2 n) then tst (nle (topV v) n) (f ⟨n, h.t, h.ups.filter fun u => !Nat.ble n u.1⟩) (f h) else f h
def kRet (h0 : Hp) (fn : Func) (k : Res → Out R) (a : Fr) (ds : List Nat) (h' : Hp) : Out R := match unmark ds h' with
  | some h2 => klresultL P G h2 a fn.results.toList fun vs => kgc h0.n (oneOf vs) h2 fun h3 => k (.val (oneOf vs) h3)
  | none => none'
def kBody (ih : KIH R) (f : FuncId) (args : List LV) (h : Hp) (fn : Func) (k : Res → Out R) : Option Code → Out R
  | none => none'
  | some c => ih (.code c none f (max fn.ntmps (len args)) (frOf .lf 0 args) []) h fun r => match r with
    | .ex .normal a ds h' => kRet P G h fn k a ds h'
    | .ex .ret a ds h' => kRet P G h fn k a ds h'
    | _ => none'
def kCall (ih : KIH R) (f : FuncId) (args : List LV) (h : Hp) (k : Res → Out R) : Out R := match P.funcs[f]? with
  | some fn => kBody P G ih f args h fn k fn.body
  | none => none'
def kYieldB (l : Nat) (k : Res → Out R) : Res → Out R
  | .ex e _ _ h2 => (match endRd l e h2 (h2.at l) with
    | some r => k r
    | none => none')
  | _ => none'
def kYieldA (ih : KIH R) (l : Nat) (fn : FuncId) (size : Nat) (body : Code) (k : Res → Out R) : Res → Out R
  | .ex .normal t1 ds h1 => (match h1.at l with
    | .loop .ready pd fn' tmps' size' ps' as' bd' d' => ih (.code body (some l) fn size t1 ds) (h1.put l (.loop .busy pd fn' tmps' size' ps' as' bd' d')) (kYieldB l k)
    | _ => none')
  | _ => none'
def kYield (ih : KIH R) (l : Nat) (args : List LV) (h : Hp) (k : Res → Out R) : Out R := match h.at l with
  | .loop _ _ fn tmps size params assign body _ => (match setAll size tmps params args with
    | some t => ih (.code assign (some l) fn size t []) h (kYieldA ih l fn size body k)
    | none => none')
  | _ => none'
def kNext (ih : KIH R) (ops : Array Oper) (o : Oper) (r : List Oper) (size : Nat) (a : Fr) (v : LV) (h : Hp) (k : Res → Out R) : Out R := match putL size a o.dst v with
  | some a' => ih (.ops ops r size a') h k
  | none => none'
def kCon (ih : KIH R) (f : FuncId) (args : List LV) (h : Hp) (k : Res → Out R) : Out R := match K.pu f with
  | some g => kpick (g args) fun v => k (.val v h)
  | none => (match K.fn f with
    | some c => kpick (c args h) fun r => k (.val r.1 r.2)
    | none => ih (.call f args) h k)
def kpureCall : Callee → Bool
  | .value (.func f) => (K.pu f).isSome
  | _ => false
def kpureOp : Op → Bool
  | .call c => kpureCall K c.callee
  | _ => false
def kkind (a : Fr) (o : Oper) : Nat := bif kpureOp K o.op then 0 else kindOf a o
def kVal (f : LV → Hp → Out R) : Res → Out R
  | .val v h => f v h
  | _ => none'
def kNx (ih : KIH R) (f : LV → Hp → Out R) : Nx → Out R
  | .val v h => f v h
  | .call g args h => kCon K ih g args h (kVal f)
  | .yield l args h => ih (.yield l args) h (kVal f)
/-- One operation; the frame that it saw, with what its guard was found to be. -/
def kOne (ih : KIH R) (ops : Array Oper) (o : Oper) (a : Fr) (h : Hp) (f : Fr → LV → Hp → Out R) : Out R := match o.guard with
  | none => klop P G h a o (kNx K ih (f a))
  | some g => match gTmp ops o with
    | none => f a (.tup []) h
    | some d => match a.get d with
      | .bool b => tst b
          (bif g.2 then klop P G h (a.put d (.bool true)) o (kNx K ih (f (a.put d (.bool true)))) else f (a.put d (.bool true)) (.tup []) h)
          (bif g.2 then f (a.put d (.bool false)) (.tup []) h else klop P G h (a.put d (.bool false)) o (kNx K ih (f (a.put d (.bool false)))))
      | .any => none'
      | _ => f a (.tup []) h
def kOp (ih : KIH R) (ops : Array Oper) (o : Oper) (r : List Oper) (size : Nat) (a : Fr) (h : Hp) (k : Res → Out R) : Out R := kOne P G K ih ops o a h fun a v h => kNext ih ops o r size a v h k
def ktrace (ih : KIH R) (ops : Array Oper) (size : Nat) : List Oper → Nat → List Nat → Fr → Hp → (List Row → Fr → Hp → Out R) → Out R
  | [], _, _, a, h, f => f [] a h
  | o :: r, i, bs, a, h, f => match bitsOf bs i o.after.toList with
    | some b => kOne P G K ih ops o a h fun a0 v h1 => (match putL size a0 o.dst v with
      | some a' => ktrace ih ops size r (i + 1) (app bs [b]) a' h1 fun q a2 h2 => f (⟨o, a0, h, v, h1, kkind K a0 o, b, looks ops o⟩ :: q) a2 h2
      | none => none')
    | none => none'
def keqB (a b : B) : B := band (impB a b) (impB b a)
def keq0 : LV → LV → B
  | .bool a, .bool b => keqB a b
  | .int k a, .int k' b => if k = k' then ieq a b else false
  | .str a, .str b => beqS a b
  | .nilp, .nilp => true
  | .ptr a b, .ptr c d => bif Nat.beq a c then neq b d else false
  | .gptr a b, .gptr c d => bif Nat.beq a c then neq b d else false
  | .nils, .nils => true
  | .slc a b c k, .slc d e f k' => bif Nat.beq a d && sameCap k k' then band (neq b e) (band (neq c f) (capB k k')) else false
  | .nilm, .nilm => true
  | .map a, .map b => Nat.beq a b
  | .nilf, .nilf => true
  | .fn (.func f) [] [], .fn (.func g) [] [] => Nat.beq f g
  | .fn (.yield f) [] [], .fn (.yield g) [] [] => Nat.beq f g
  | .nili, .nili => true
  | _, _ => false
def keqL : List LV → List LV → B
  | [], [] => true
  | x :: r, y :: s => band (keq0 x y) (keqL r s)
  | _, _ => false
def keqA (a b : Cs) : B := keqL a b
def keqV : LV → LV → B
  | .ifc t a, .ifc u b => bif Nat.beq t u then keq0 a b else false
  | .agg a, .agg b => keqA a b
  | .tup a, .tup b => keqL a b
  | x, y => keq0 x y
def kokRead (ih : KIH R) (ops : Array Oper) (all : List Row) (x : Row) (i own : Nat) (k : Out R) : List (Nat × Hp) → Out R
  | [] => k
  | e :: es => bif !Nat.beq e.1 own && may x.b i e.1 all 0 then kOne P G K ih ops x.o x.a e.2 (fun _ u _ => ast (keqV u x.v) (kokRead ih ops all x i own k es)) else kokRead ih ops all x i own k es
def kokReads (ih : KIH R) (ops : Array Oper) (all : List Row) (eps : List (Nat × Hp)) (k : Out R) : List Row → Nat → Nat → Out R
  | [], _, _ => k
  | x :: r, i, own => bif Nat.beq x.k 1 then kokRead P G K ih ops all x i own (kokReads ih ops all eps k r (i + 1) own) eps else kokReads ih ops all eps k r (i + 1) (bif Nat.beq x.k 2 then i + 1 else own)
def kDraw (ih : KIH R) (ops : Array Oper) (size : Nat) (a : Fr) (ds : List Nat) (h : Hp) (k : Res → Out R) : Out R :=
  ktrace P G K ih ops size ops.toList 0 [] a h fun q a2 h2 => bif okPairs q q 0 then kokReads P G K ih ops q ((0, h) :: epochs q 0) (k (.ex .normal a2 ds h2)) q 0 0 else none'
def kSeq (ih : KIH R) (y : Code) (rnd : Option Nat) (fn : FuncId) (size : Nat) (k : Res → Out R) : Res → Out R
  | .ex .normal a' ds h' => ih (.code y rnd fn size a' ds) h' k
  | r => k r
def kBlk (i : Nat) (k : Res → Out R) : Res → Out R
  | .ex (.exit j) a' ds h' => bif Nat.beq j i then k (.ex .normal a' ds h') else k (.ex (.exit j) a' ds h')
  | r => k r
def sub (a : Fr) (c : Operand) (b : B) : Fr := match c with
  | .tmp t => a.put t (.bool b)
  | _ => a
def kCond (ih : KIH R) (c : Operand) (x y : Code) (rnd : Option Nat) (fn : FuncId) (size : Nat) (a : Fr) (ds : List Nat) (h : Hp) (k : Res → Out R) : LV → Out R
  | .bool b => tst b (ih (.code x rnd fn size (sub a c true) ds) h k) (ih (.code y rnd fn size (sub a c false) ds) h k)
  | _ => none'
def kRfObj (ih : KIH R) (l : Nat) (rnd : Option Nat) (fn : FuncId) (size : Nat) (a : Fr) (ds : List Nat) (h4 : Hp) (k : Res → Out R) : LObj → Out R
  | .loop .ready none _ _ _ _ _ _ _ => k (.ex .normal a ds (h4.put l .dead))
  | .loop .done (some p) _ _ _ _ _ _ _ => bif isJump p then ih (.code p rnd fn size a ds) (h4.put l .dead) k else none'
  | _ => none'
def kRf (ih : KIH R) (f : Operand) (params : Array Tmp) (assign body : Code) (rnd : Option Nat) (fn : FuncId) (size : Nat) (a : Fr) (ds : List Nat) (h1 : Hp) (d : Nat) (k : Res → Out R) : Out R :=
  match ltarget (h1.new (.loop .ready none fn a size params.toList assign body d)) [.fn (.yield h1.n) [] []] (aev a f) with
  | some (.call g args h3) => ih (.call g args) h3 (kVal fun _ h4 => kRfObj ih h1.n rnd fn size a ds h4 k (h4.at h1.n))
  | _ => none'
def kRange (ih : KIH R) (f : Operand) (params : Array Tmp) (assign body : Code) (rnd : Option Nat) (fn : FuncId) (size : Nat) (a : Fr) (ds : List Nat) (h : Hp) (k : Res → Out R) : Out R :=
  match rnd with
  | none => kRf ih f params assign body rnd fn size a (h.n :: ds) (h.new .defd) h.n k
  | some l => match h.at l with
    | .loop _ _ _ _ _ _ _ _ d => kRf ih f params assign body rnd fn size a ds h d k
    | _ => none'
def kcutOf (rnd : Option Nat) (ds : List Nat) (fn : FuncId) (i : Nat) : Option (Nat → Fr → Hp → List (B × Ex × Fr × Hp)) := match rnd, ds with
  | none, [] => K.cut fn i
  | _, _ => none
def kCode (ih : KIH R) (c : Code) (rnd : Option Nat) (fn : FuncId) (size : Nat) (a : Fr) (ds : List Nat) (h : Hp) (k : Res → Out R) : Out R :=
  match c with
  | .skip | .label _ => k (.ex .normal a ds h)
  | .ret => k (.ex .ret a ds h)
  | .exit i => k (.ex (.exit i) a ds h)
  | .seq x y => ih (.code x rnd fn size a ds) h (kSeq ih y rnd fn size k)
  | .cond b x y => kCond ih b x y rnd fn size a ds h k (aev a b)
  | .block i b => (match kcutOf K rnd ds fn i with
    | some c => kpick (c size a h) fun r => k (.ex r.1 r.2.1 ds r.2.2)
    | none => ih (.code b rnd fn size a ds) h (kBlk i k))
  | .loop b => ih (.code b rnd fn size a ds) h (kSeq ih (.loop b) rnd fn size k)
  | .region _ ops d => bif d then kDraw P G K ih ops size a ds h k else ih (.ops ops ops.toList size a) h fun r => (match r with
    | .ex e a' _ h' => k (.ex e a' ds h')
    | _ => none')
  | .rangeFunc f params assign body => kRange ih f params assign body rnd fn size a ds h k
  | _ => none'
def kStep (ih : KIH R) : Cmd → Hp → (Res → Out R) → Out R
  | .call f args, h, k => kCall P G ih f args h k
  | .yield l args, h, k => kYield ih l args h k
  | .ops _ [] _ a, h, k => k (.ex .normal a [] h)
  | .ops ops (o :: r) size a, h, k => kOp P G K ih ops o r size a h k
  | .code c rnd fn size a ds, h, k => kCode P G K ih c rnd fn size a ds h k
--FINISH
def evk (n : Nat) : Cmd → Hp → (Res → Out R) → Out R := Nat.rec (fun _ _ _ => none) (fun _ ih => kStep P G K ih) n
def pickO (f : FuncId) : Option (List LV → Hp → Option (LV × Hp)) := match K.pu f with
  | some g => some fun args h => (pickR (g args)).map (·, h)
  | none => (K.fn f).map fun c args h => pickR (c args h)
def pickC (f : FuncId) (i : Nat) : Option (Nat → Fr → Hp → Option (Ex × Fr × Hp)) := (K.cut f i).map fun c size a h => pickR (c size a h)
theorem pick_pok (f : FuncId) (h : (K.pu f).isSome = true) : ∃ g : List LV → Option LV, pickO K f = some fun args h => (g args).map (·, h) := by
  unfold pickO
  cases e : K.pu f with
  | none => rw [e] at h; cases h
  | some g => exact ⟨fun args => pickR (g args), rfl⟩
def KOrc.orc : Orc := ⟨pickO K, pickC K, fun f => (K.pu f).isSome, pick_pok K⟩
end
end
end
end Go.Proofs.Eng
