/- Towards the law: a small language into which the program is turned, its soundness, and what the functions answer: part 1. -/
import Derived.Orders
import Derived.Below
import Derived.Laws.Cells
import Derived.Laws.Entries
import Derived.ChangeKeysEq
import Derived.Laws.StructEq
import Derived.Laws.Append
import Derived.LoopN
set_option linter.unusedSimpArgs false
set_option linter.unusedVariables false
set_option linter.unusedSectionVars false
set_option linter.unnecessarySimpa false
section
namespace Go.Va

/-- What is known of a slice that is only read, beyond its elements: nothing; its capacity is its length; it is nil; it is not nil. -/
inductive Fl where
  | any | clip | nil | non
  deriving DecidableEq, Inhabited
def Fl.tight : Fl → Bool | .clip | .nil => true | _ => false

inductive PV where
  | int (k : IntKind) (n : Int)
  | bool (b : Bool)
  | str (s : ByteArray)
  | frz (fl : Fl) (n : Nat) (cs : List PV)
  | nilp
  | nilf
  | agg (cs : List PV)
  | tup (vs : List PV)
  | cptr (cs : List PV)
  | func (f : FuncId) (first captured : List PV)
  deriving Inhabited

/- Values without what is known of slices beyond their elements. -/
mutual
def PV.er : PV → PV
  | .frz _ n cs => .frz .any n (PV.erL cs)
  | .agg cs => .agg (PV.erL cs)
  | .tup cs => .tup (PV.erL cs)
  | .cptr cs => .cptr (PV.erL cs)
  | .func f a b => .func f (PV.erL a) (PV.erL b)
  | x => x
def PV.erL : List PV → List PV
  | [] => []
  | x :: xs => x.er :: PV.erL xs
end

structure Key where
  d : Nat
  t : Nat
  deriving DecidableEq, Inhabited

inductive AV where
  | p (x : PV)
  | ref (k : Key) (ver off n s : Nat) (clip : Bool)
  | ptr (k : Key) (ver off : Nat)
  | map (k : Key) (ver : Nat)
  | iter (k : Key) (ver : Nat)
  | agg (cs : List AV)
  | tup (vs : List AV)
  | func (f : FuncId) (first captured : List AV)
  | opq                                                  -- whatever it is: it is not looked at
  deriving Inhabited

abbrev AV.undef : AV := .p (.tup [])

def pures : List AV → Option (List PV)
  | [] => some []
  | .p x :: cs => (pures cs).map (x :: ·)
  | _ :: _ => none

def mkAgg (cs : List AV) : AV := match pures cs with | some ps => .p (.agg ps) | none => .agg cs
def mkTup (cs : List AV) : AV := match pures cs with | some ps => .p (.tup ps) | none => .tup cs
def mkFn (f : FuncId) (a b : List AV) : AV :=
  match pures a, pures b with | some x, some y => .p (.func f x y) | _, _ => .func f a b

/-- The cells of a value that can be stored. -/
def AV.cells : AV → Option (List AV)
  | .p (.agg cs) => some (cs.map .p)
  | .p (.tup _) => none
  | .agg cs => some cs
  | .tup _ => none
  | .opq => none
  | v => some [v]

inductive AObj where
  | cells (cs : List AV)
  | amap (es : List (PV × PV))
  | siter (s : ByteArray) (pos : Nat)
  deriving Inhabited

structure HE where
  ver : Nat
  ro : Bool
  obj : Option AObj
  deriving Inhabited

structure Hp where
  get : Key → HE
def Hp.set (h : Hp) (k : Key) (e : HE) : Hp := ⟨fun k' => if k' = k then e else h.get k'⟩
def Hp.none : Hp := ⟨fun _ => ⟨0, false, Option.none⟩⟩
def Hp.alloc (h : Hp) (k : Key) (o : AObj) : Hp := h.set k ⟨(h.get k).ver + 1, false, some o⟩
def HE.live (e : HE) (ver : Nat) : Option AObj := if e.ver = ver then e.obj else Option.none
def Hp.live (h : Hp) (k : Key) (ver : Nat) : Option AObj := (h.get k).live ver
def Hp.cellsAt (h : Hp) (k : Key) (ver : Nat) : Option (List AV) :=
  match h.live k ver with | some (.cells cs) => some cs | _ => Option.none
def Hp.mapAt (h : Hp) (k : Key) (ver : Nat) : Option (List (PV × PV)) :=
  match h.live k ver with | some (.amap es) => some es | _ => Option.none
/-- What may be written. -/
def Hp.wcells (h : Hp) (k : Key) (ver : Nat) : Option (List AV) := if (h.get k).ro then Option.none else h.cellsAt k ver
def Hp.wmap (h : Hp) (k : Key) (ver : Nat) : Option (List (PV × PV)) := if (h.get k).ro then Option.none else h.mapAt k ver
def HE.lay (e : HE) (o : AObj) : HE := ⟨e.ver, e.ro, some o⟩
def Hp.put (h : Hp) (k : Key) (o : AObj) : Hp := h.set k ((h.get k).lay o)

structure St where
  env : Nat → AV
  h : Hp

def St.put (s : St) (d : Option Nat) (v : AV) : St :=
  match d with | some d => { s with env := fun i => if i = d then v else s.env i } | Option.none => s

inductive Opd where
  | t (n : Nat)
  | c (x : PV)
  deriving Inhabited
def Opd.ev (env : Nat → AV) : Opd → AV | .t n => env n | .c x => .p x

inductive AOp where
  | mov (x : Opd)
  | pick (c a b : Opd)
  | alloc (z : List PV)
  | box (n : Nat) (x : Opd)
  | build (z : List PV) (parts : List (Nat × Nat × Opd))
  | bsl (s n : Nat) (z : List PV) (parts : List (Nat × Nat × Opd))
  | ld (agg : Bool) (n : Nat) (a : Opd)
  | st (n : Nat) (a x : Opd)
  | nilc (x : Opd)
  | bin (op : BinOp) (x y : Opd)
  | eqb (neg : Bool) (x y : Opd)
  | eqa (neg : Bool) (len : Nat) (x y : Opd)
  | un (op : UnOp) (x : Opd)
  | conv (k : IntKind) (x : Opd)
  | mkf (f : FuncId) (first captured : List Opd)
  | mkm
  | mksl (s bytes : Nat) (z : List PV) (l c : Opd)
  | slcS (s : Nat) (x : Opd) (lo hi mx : Option Opd)
  | slcA (n s : Nat) (x : Opd) (lo hi : Option Opd)
  | slcT (x : Opd) (lo hi : Option Opd)
  | fad (off : Nat) (x : Opd)
  | fld (agg : Bool) (off n : Nat) (x : Opd)
  | iadS (s : Nat) (x i : Opd)
  | iadA (len s : Nat) (x i : Opd)
  | idxA (len s : Nat) (agg : Bool) (x i : Opd)
  | idxT (x i : Opd)
  | lkp (kk : Nat) (zagg : Bool) (z : List PV) (m k : Opd) (ok : Bool)
  | mup (kk : Nat) (m k x : Opd)
  | rng (x : Opd)
  | nxt (it : Opd)
  | ext (x : Opd) (i : Nat)
  | call (x : Opd) (args : List Opd)
  | isnil (neg : Bool) (x : Opd)
  | lenS (x : Opd)
  | lenC (n : Nat) (x : Opd)
  | lenM (x : Opd)
  | lenT (x : Opd)
  | app (s bytes : Nat) (x y : Opd)
  | cpy (s : Nat) (x y : Opd)
  | clr (s : Nat) (z : List PV) (x : Opd)
  | maxi (xs : List Opd)
  | mini (xs : List Opd)
  | bad
  deriving Inhabited

structure AOper where
  dst : Option Nat
  op : AOp
  guard : Option (Nat × Bool)     -- the slot that is looked at, and what it must hold
  un : List Nat := []             -- earlier operations that are not ordered ahead of this one and may meet it in memory
  deriving Inhabited

inductive ACode where
  | skip
  | reg (ops : List AOper) (draw : Bool)
  | seq (a b : ACode)
  | cond (c : Opd) (a b : ACode)
  | block (id : Nat) (c : ACode)
  | loop (c : ACode)
  | exit (id : Nat)
  | ret
  | bad
  deriving Inhabited

inductive ARes where
  | tmp (t : Nat)
  | cell (t : Nat) (agg : Bool) (n : Nat)
  deriving Inhabited

structure AFn where
  ntmps : Nat
  rs : Nat                          -- the size of an element of the first answer, if that is a slice
  results : List ARes
  body : ACode
  deriving Inhabited

inductive AExit where
  | norm
  | ex (id : Nat)
  | ret
  deriving DecidableEq, Inhabited

/-! ## What an operation gives -/

def asI : AV → Option Int | .p (.int _ n) => some n | _ => none

def ldCells (h : Hp) (a : AV) (n : Nat) : Option (List AV) :=
  match a with
  | .p (.cptr cs) => if n ≤ cs.length then some ((cs.take n).map .p) else none
  | .ptr k ver off => (h.cellsAt k ver).bind fun cs => if off + n ≤ cs.length then some ((cs.drop off).take n) else none
  | _ => none

def one (agg : Bool) (cs : List AV) : Option AV :=
  if agg then some (mkAgg cs) else match cs with | [c] => some c | _ => none

def setR {α : Type} (cs : List α) (off : Nat) (vs : List α) : List α := cs.take off ++ vs ++ cs.drop (off + vs.length)

def binPV (op : BinOp) : PV → PV → Option PV
  | .int k a, .int k' b =>
    match op with
    | .shl => if b < 0 then none else some (.int k (k.wrap (a * 2 ^ (min b.toNat k.bits))))
    | .shr => if b < 0 then none else some (.int k (a.fdiv (2 ^ (min b.toNat k.bits))))
    | _ =>
      if k = k' then
        match op with
        | .add => some (.int k (k.wrap (a + b)))
        | .sub => some (.int k (k.wrap (a - b)))
        | .mul => some (.int k (k.wrap (a * b)))
        | .quo => if b = 0 then none else some (.int k (k.wrap (a.tdiv b)))
        | .rem => if b = 0 then none else some (.int k (a.tmod b))
        | .and => some (.int k (k.wrap (BitVec.ofInt k.bits a &&& BitVec.ofInt k.bits b).toNat))
        | .or => some (.int k (k.wrap (BitVec.ofInt k.bits a ||| BitVec.ofInt k.bits b).toNat))
        | .xor => some (.int k (k.wrap (BitVec.ofInt k.bits a ^^^ BitVec.ofInt k.bits b).toNat))
        | .andNot => some (.int k (k.wrap (BitVec.ofInt k.bits a &&& ~~~BitVec.ofInt k.bits b).toNat))
        | .eql => some (.bool (a == b))
        | .neq => some (.bool (a != b))
        | .lss => some (.bool (a < b))
        | .leq => some (.bool (a ≤ b))
        | .gtr => some (.bool (a > b))
        | .geq => some (.bool (a ≥ b))
        | _ => none
      else none
  | .str a, .str b =>
    match op with
    | .eql => some (.bool (a.toList == b.toList))
    | .neq => some (.bool !(a.toList == b.toList))
    | _ => none
  | _, _ => none

def eqInts : List PV → List PV → Option Bool
  | [], [] => some true
  | .int k a :: x, .int k' b :: y => if k = k' then (if a == b then eqInts x y else some false) else none
  | _, _ => none

def allInts : List PV → Bool
  | [] => true
  | .int _ _ :: x => allInts x
  | _ => false

def unPV (op : UnOp) : PV → Option PV
  | .int k n =>
    match op with
    | .neg => some (.int k (k.wrap (0 - n)))
    | .xor => some (.int k (k.wrap (BitVec.ofInt k.bits (if k.signed then -1 else k.max) ^^^ BitVec.ofInt k.bits n).toNat))
    | _ => none
  | .bool b => match op with | .not => some (.bool !b) | _ => none
  | _ => none

def evL (env : Nat → AV) (l : List Opd) : List AV := l.map (·.ev env)

/-- Parts laid into cells. -/
def fillA (env : Nat → AV) : List AV → List (Nat × Nat × Opd) → Option (List AV)
  | cs, [] => some cs
  | cs, (off, n, x) :: rest =>
    (x.ev env).cells.bind fun vs =>
      if vs.length = n ∧ off + n ≤ cs.length then fillA env (setR cs off vs) rest else none

def repl {α : Type} (n : Nat) (z : List α) : List α := (List.replicate n z).flatten

/-- A bound of a slice expression. -/
def bnd (env : Nat → AV) (o : Option Opd) (dflt : Nat) : Option Nat :=
  match o with
  | none => some dflt
  | some x => (asI (x.ev env)).bind fun i => if 0 ≤ i then some i.toNat else none

def slS (h : Hp) (env : Nat → AV) (s : Nat) (x : AV) (lo hi mx : Option Opd) : Option AV :=
  match x with
  | .p (.frz fl n cs) =>
    (bnd env lo 0).bind fun l => (bnd env hi n).bind fun t => (bnd env mx n).bind fun m =>
      if l ≤ t ∧ t ≤ m ∧ m ≤ n ∧ cs.length = n * s then
        some (.p (.frz (if (if mx.isSome then decide (m = t) else fl.tight && decide (t = n)) then .clip else .any) (t - l) ((cs.drop (l * s)).take ((t - l) * s))))
      else none
  | .ref k ver off n s' clip =>
    (h.cellsAt k ver).bind fun cs =>
    (bnd env lo 0).bind fun l => (bnd env hi n).bind fun t => (bnd env mx n).bind fun m =>
      if s' = s ∧ 0 < s ∧ l ≤ t ∧ (t ≤ n ∨ (clip = false ∧ off + t * s ≤ cs.length ∧ mx = none)) ∧ off + n * s ≤ cs.length then
        if mx.isSome then
          if t ≤ m ∧ m ≤ n then (if m ≠ t then some .opq else if l = t ∧ l ≠ 0 then some (.p (.frz .clip 0 [])) else some (.ref k ver (off + l * s) (t - l) s true)) else none
        else if clip then
          (if t = n then (if l = t ∧ l ≠ 0 then some (.p (.frz .clip 0 [])) else some (.ref k ver (off + l * s) (t - l) s true)) else none)
        else if l = t ∧ l ≠ 0 then some (.p (.frz .any 0 []))
        else some (.ref k ver (off + l * s) (t - l) s false)
      else none
  | _ => none

def slA (h : Hp) (env : Nat → AV) (n s : Nat) (x : AV) (lo hi : Option Opd) : Option AV :=
  (bnd env lo 0).bind fun l => (bnd env hi n).bind fun t =>
  match x with
  | .p (.cptr cs) =>
    if l ≤ t ∧ t ≤ n ∧ n * s ≤ cs.length then some (.p (.frz .any (t - l) ((cs.drop (l * s)).take ((t - l) * s)))) else none
  | .ptr k ver off =>
    (h.cellsAt k ver).bind fun cs =>
      if off = 0 ∧ cs.length = n * s ∧ 0 < s ∧ l ≤ t ∧ t = n then
        (if l = t ∧ l ≠ 0 then some (.p (.frz .any 0 [])) else some (.ref k ver (l * s) (t - l) s true))
      else none
  | _ => none

/-- Maps: keys are compared as the model does for whole numbers (kk = 0), strings (kk = 1) and arrays of n whole numbers (kk = n + 2). -/
def sameK (kk : Nat) (a b : PV) : Option Bool :=
  match kk, a, b with
  | 0, .int k x, .int k' y => if k = k' then some (x == y) else none
  | 1, .str x, .str y => some (x == y)
  | n + 2, .agg x, .agg y => if x.length = n ∧ y.length = n ∧ allInts x ∧ allInts y then eqInts x y else none
  | _, _, _ => none
/-- May a value be a key? -/
def goodK (kk : Nat) (a : PV) : Bool :=
  match kk, a with
  | 0, .int _ _ => true
  | 1, .str _ => true
  | n + 2, .agg x => x.length == n && allInts x
  | _, _ => false

def mapFind (kk : Nat) (k : PV) : List (PV × PV) → Option (Option PV)
  | [] => some none
  | (a, v) :: es => (sameK kk k a).bind fun b => if b then some (some v) else mapFind kk k es

def mapPut (kk : Nat) (k v : PV) : List (PV × PV) → Option (List (PV × PV))
  | [] => some [(k, v)]
  | (a, u) :: es => (sameK kk k a).bind fun b => if b then some ((k, v) :: es) else (mapPut kk k v es).map ((a, u) :: ·)

/-- How much an append may make: a bound of ours, far below the model's. -/
def roomy (n bytes : Nat) : Bool := decide (n * bytes ≤ 2 ^ 45) && decide (n ≤ 2 ^ 45)

def srcCells (h : Hp) (s : Nat) (y : AV) : Option (Nat × List AV) :=
  match y with
  | .p (.frz _ n cs) => if cs.length = n * s then some (n, cs.map .p) else none
  | .ref k ver off n s' _ => (h.cellsAt k ver).bind fun cs => if s' = s ∧ off + n * s ≤ cs.length then some (n, (cs.drop off).take (n * s)) else none
  | _ => none

def opApp (key : Key) (h : Hp) (s bytes : Nat) (x y : AV) : Option (AV × Hp) :=
  (srcCells h s y).bind fun (m, new) =>
  match x with
  | .p (.frz fl n cs) =>
    if m = 0 then some (x, h)
    else if fl.tight && decide (cs.length = n * s) && decide (0 < s) && roomy (n + m) bytes then
      some (.ref key ((h.get key).ver + 1) 0 (n + m) s false, h.alloc key (.cells (cs.map .p ++ new)))
    else none
  | .ref k ver off n s' clip =>
    (h.wcells k ver).bind fun cs =>
      if s' = s ∧ 0 < s ∧ off + n * s ≤ cs.length ∧ roomy (n + m) bytes = true then
        if off = 0 ∧ (clip = true ∨ n * s = cs.length) then
          (if m = 0 then some (x, h) else
            some (.ref k (ver + 1) 0 (n + m) s false, h.set k ⟨ver + 1, false, some (.cells (cs.take (n * s) ++ new))⟩))
        else if clip = false ∧ off + (n + m) * s ≤ cs.length then
          some (.ref k ver off (n + m) s false, h.put k (.cells (setR cs (off + n * s) new)))
        else none
      else none
  | _ => none

def opCpy (h : Hp) (s : Nat) (x y : AV) : Option (AV × Hp) :=
  (srcCells h s y).bind fun (m, new) =>
  match x with
  | .ref k ver off n s' _ =>
    (h.wcells k ver).bind fun cs =>
      if min m n = 0 then some (.p (.int .i64 0), h) else
      if s' = s ∧ off + n * s ≤ cs.length then
        some (.p (.int .i64 (min m n : Nat)), h.put k (.cells (setR cs off (new.take (min m n * s)))))
      else none
  | _ => none

def minI (k : IntKind) : Int → List AV → Option Int
  | x, [] => some x
  | x, .p (.int k' y) :: r => if k = k' then minI k (if y < x then y else x) r else none
  | _, _ => none
def maxI (k : IntKind) : Int → List AV → Option Int
  | x, [] => some x
  | x, .p (.int k' y) :: r => if k = k' then maxI k (if y > x then y else x) r else none
  | _, _ => none

/-- A call: its depth, the function, the arguments, the table, the place where a result may be laid. -/
abbrev CallFn := Nat → FuncId → List AV → Hp → Key → Option (AV × Hp)

/-- An address some cells on. -/
def offA (off : Nat) : AV → Option AV
  | .p (.cptr cs) => some (.p (.cptr (cs.drop off)))
  | .ptr k ver o => some (.ptr k ver (o + off))
  | _ => none
/-- The address of an element of a slice. -/
def idxSA (s : Nat) (x : AV) (i : Int) : Option AV :=
  match x with
  | .p (.frz _ n cs) => if 0 ≤ i ∧ i < n ∧ cs.length = n * s ∧ 0 < s then some (.p (.cptr (cs.drop (i.toNat * s)))) else none
  | .ref k ver off n s' _ => if 0 ≤ i ∧ i < n ∧ s' = s then some (.ptr k ver (off + i.toNat * s)) else none
  | _ => none
/-- Some cells of a struct or an array. -/
def partA (agg : Bool) (off n : Nat) : AV → Option AV
  | .p (.agg cs) => if off + n ≤ cs.length then one agg (((cs.drop off).take n).map .p) else none
  | .agg cs => if off + n ≤ cs.length then one agg ((cs.drop off).take n) else none
  | _ => none

def zeroOf (zagg : Bool) (z : List PV) : Option PV := if zagg then some (.agg z) else match z with | [x] => some x | _ => none
/-- What a look into a map answers. -/
def lkRes (ok zagg : Bool) (z : List PV) : Option PV → Option AV
  | some v => some (.p (if ok then .tup [v, .bool true] else v))
  | none => (zeroOf zagg z).map fun zv => .p (if ok then .tup [zv, .bool false] else zv)

def pureOp (env : Nat → AV) (h : Hp) (o : AOp) : Option AV :=
  match o with
  | .mov x => some (x.ev env)
  | .pick c a b => match c.ev env with | .p (.bool t) => some (if t then a.ev env else b.ev env) | _ => none
  | .build z parts => (fillA env (z.map .p) parts).map mkAgg
  | .ld agg n a => (ldCells h (a.ev env) n).bind (one agg)
  | .nilc x => match x.ev env with
    | .ptr k ver off => some (.ptr k ver off)
    | .p (.cptr cs) => some (.p (.cptr cs))
    | .p (.func f a b) => some (.p (.func f a b))
    | .func f a b => some (.func f a b)
    | _ => none
  | .bin op x y => match x.ev env, y.ev env with | .p a, .p b => (binPV op a b).map .p | _, _ => none
  | .eqb neg x y => match x.ev env, y.ev env with | .p (.bool a), .p (.bool b) => some (.p (.bool (if neg then a != b else a == b))) | _, _ => none
  | .eqa neg len x y => match x.ev env, y.ev env with
    | .p (.agg a), .p (.agg b) => if a.length = len ∧ b.length = len ∧ allInts a ∧ allInts b then (eqInts a b).map fun r => .p (.bool (if neg then !r else r)) else none
    | _, _ => none
  | .un op x => match x.ev env with | .p a => (unPV op a).map .p | _ => none
  | .conv k x => match x.ev env with | .p (.int _ n) => some (.p (.int k (k.wrap n))) | _ => none
  | .mkf f a b => some (mkFn f (evL env a) (evL env b))
  | .slcS s x lo hi mx => slS h env s (x.ev env) lo hi mx
  | .slcA n s x lo hi => slA h env n s (x.ev env) lo hi
  | .slcT x lo hi => match x.ev env with
    | .p (.str b) => (bnd env lo 0).bind fun l => (bnd env hi b.size).bind fun t => if l ≤ t ∧ t ≤ b.size then some (.p (.str (b.extract l t))) else none
    | _ => none
  | .fad off x => offA off (x.ev env)
  | .fld agg off n x => partA agg off n (x.ev env)
  | .iadS s x i => (asI (i.ev env)).bind fun i => idxSA s (x.ev env) i
  | .iadA len s x i => (asI (i.ev env)).bind fun i => if 0 ≤ i ∧ i < len then offA (i.toNat * s) (x.ev env) else none
  | .idxA len s agg x i => (asI (i.ev env)).bind fun i => if 0 ≤ i ∧ i < len then partA agg (i.toNat * s) s (x.ev env) else none
  | .idxT x i => match x.ev env, asI (i.ev env) with
    | .p (.str b), some i => if 0 ≤ i then (b[i.toNat]?).map fun c => .p (.int .u8 c.toNat) else none
    | _, _ => none
  | .lkp kk zagg z m k ok => match m.ev env, k.ev env with
    | .map key ver, .p kv => (h.mapAt key ver).bind fun es => if !goodK kk kv then none else (mapFind kk kv es).bind (lkRes ok zagg z)
    | _, _ => none
  | .ext x i => match x.ev env with
    | .p (.tup vs) => (vs[i]?).map .p
    | .tup vs => vs[i]?
    | _ => none
  | .isnil neg x => match x.ev env with
    | .p (.frz .nil _ _) => some (.p (.bool (!neg)))
    | .p (.frz .non _ _) => some (.p (.bool neg))
    | .p (.frz _ _ (_ :: _)) => some (.p (.bool neg))
    | .ref _ _ _ n _ _ => if 0 < n then some (.p (.bool neg)) else none
    | _ => none
  | .lenS x => match x.ev env with
    | .p (.frz _ n _) => some (.p (.int .i64 n))
    | .ref _ _ _ n _ _ => some (.p (.int .i64 n))
    | _ => none
  | .lenC n _ => some (.p (.int .i64 n))
  | .lenM x => match x.ev env with | .map key ver => (h.mapAt key ver).map fun es => .p (.int .i64 es.length) | _ => none
  | .lenT x => match x.ev env with | .p (.str b) => some (.p (.int .i64 b.size)) | _ => none
  | .maxi xs => match evL env xs with | .p (.int k x) :: r => (maxI k x r).map fun m => .p (.int k m) | _ => none
  | .mini xs => match evL env xs with | .p (.int k x) :: r => (minI k x r).map fun m => .p (.int k m) | _ => none
  | _ => none

def evOp (cf : CallFn) (d : Nat) (dst : Option Nat) (o : AOp) (env : Nat → AV) (h : Hp) : Option (AV × Hp) :=
  match o with
  | .alloc z => dst.map fun t => (.ptr ⟨d, t⟩ ((h.get ⟨d, t⟩).ver + 1) 0, h.alloc ⟨d, t⟩ (.cells (z.map .p)))
  | .box n x => dst.bind fun t => (x.ev env).cells.bind fun vs =>
      if vs.length = n then some (.ptr ⟨d, t⟩ ((h.get ⟨d, t⟩).ver + 1) 0, h.alloc ⟨d, t⟩ (.cells vs)) else none
  | .bsl s n z parts => dst.bind fun t => (fillA env ((repl n z).map .p) parts).bind fun cs =>
      if 0 < s ∧ z.length = s ∧ cs.length = n * s ∧ n * s ≤ 2 ^ 24 then
        some (.ref ⟨d, t⟩ ((h.get ⟨d, t⟩).ver + 1) 0 n s false, h.alloc ⟨d, t⟩ (.cells cs)) else none
  | .st n a x => (x.ev env).cells.bind fun vs => match a.ev env with
    | .ptr k ver off => (h.wcells k ver).bind fun cs =>
        if vs.length = n ∧ off + n ≤ cs.length then some (.undef, h.put k (.cells (setR cs off vs))) else none
    | _ => none
  | .mkm => dst.map fun t => (.map ⟨d, t⟩ ((h.get ⟨d, t⟩).ver + 1), h.alloc ⟨d, t⟩ (.amap []))
  | .mksl s bytes z l c => dst.bind fun t => match l.ev env, c.ev env with
    | .p (.int .i64 l), .p (.int .i64 c) =>
      if 0 ≤ l ∧ l ≤ c ∧ roomy c.toNat bytes = true ∧ 0 < s ∧ z.length = s then
        some (.ref ⟨d, t⟩ ((h.get ⟨d, t⟩).ver + 1) 0 l.toNat s false, h.alloc ⟨d, t⟩ (.cells (repl l.toNat (z.map .p)))) else none
    | _, _ => none
  | .mup kk m k x => match m.ev env, k.ev env, x.ev env with
    | .map key ver, .p kv, .p xv => (h.wmap key ver).bind fun es => if !goodK kk kv then none else (mapPut kk kv xv es).map fun es' => (.undef, h.put key (.amap es'))
    | _, _, _ => none
  | .rng x => dst.bind fun t => match x.ev env with
    | .p (.str b) => some (.iter ⟨d, t⟩ ((h.get ⟨d, t⟩).ver + 1), h.alloc ⟨d, t⟩ (.siter b 0))
    | _ => none
  | .nxt it => match it.ev env with
    | .iter k ver => match h.live k ver with
      | some (.siter b pos) => if (h.get k).ro then none else
          some (if pos < b.size then .p (.tup [.bool true, .int .i64 pos, .int .i32 (Utf8.decode b pos).1]) else .p (.tup [.bool false]),
            if pos < b.size then h.put k (.siter b (pos + (Utf8.decode b pos).2)) else h)
      | _ => none
    | _ => none
  | .call x args => dst.bind fun t => match x.ev env with
    | .p (.func f a b) => cf d f (a.map .p ++ evL env args ++ b.map .p) h ⟨d, t⟩
    | .func f a b => cf d f (a ++ evL env args ++ b) h ⟨d, t⟩
    | _ => none
  | .app s bytes x y => dst.bind fun t => opApp ⟨d, t⟩ h s bytes (x.ev env) (y.ev env)
  | .cpy s x y => opCpy h s (x.ev env) (y.ev env)
  | .clr s z x => match x.ev env with
    | .p (.frz _ 0 _) => some (.undef, h)
    | .ref k ver off n s' _ => (h.wcells k ver).bind fun cs =>
        if n = 0 then some (.undef, h) else
        if s' = s ∧ z.length = s ∧ off + n * s ≤ cs.length then some (.undef, h.put k (.cells (setR cs off (repl n (z.map .p))))) else none
    | _ => none
  | o => (pureOp env h o).map fun v => (v, h)

/-- Is an operation carried out? -/
def wants (env : Nat → AV) (g : Option (Nat × Bool)) : Option Bool :=
  match g with
  | none => some true
  | some (t, want) => match env t with
    | .p (.bool b) => some (b == want)
    | .p (.tup []) => some false
    | _ => none

inductive Pol where
  | closed
  | owned
  | byref
  deriving DecidableEq, Inhabited

structure Cx where
  fns : FuncId → Option AFn
  pol : FuncId → Pol
  prim : FuncId → Option (Nat → List AV → Hp → Key → Option (AV × Hp))

def stepO (cf : CallFn) (d : Nat) (o : AOper) (s : St) : Option St :=
  (wants s.env o.guard).bind fun w =>
    if w then (evOp cf d o.dst o.op s.env s.h).map fun (v, h) => St.put ⟨s.env, h⟩ o.dst v else some (s.put o.dst .undef)

def evOps (cf : CallFn) (d : Nat) : List AOper → St → Option St
  | [], s => some s
  | o :: os, s => (stepO cf d o s).bind (evOps cf d os)

mutual
def PV.beq : PV → PV → Bool
  | .int k n, .int k' n' => decide (k = k') && decide (n = n')
  | .bool b, .bool b' => b == b'
  | .str s, .str s' => decide (s.data.toList = s'.data.toList)
  | .frz f n c, .frz f' n' c' => decide (f = f') && decide (n = n') && PV.beqL c c'
  | .nilp, .nilp => true
  | .nilf, .nilf => true
  | .agg c, .agg c' => PV.beqL c c'
  | .tup c, .tup c' => PV.beqL c c'
  | .cptr c, .cptr c' => PV.beqL c c'
  | .func f a b, .func f' a' b' => decide (f = f') && PV.beqL a a' && PV.beqL b b'
  | _, _ => false
def PV.beqL : List PV → List PV → Bool
  | [], [] => true
  | x :: xs, y :: ys => x.beq y && PV.beqL xs ys
  | _, _ => false
end
mutual
def AV.beq : AV → AV → Bool
  | .p x, .p y => x.beq y
  | .ref k v o n s c, .ref k' v' o' n' s' c' => decide (k = k') && decide (v = v') && decide (o = o') && decide (n = n') && decide (s = s') && (c == c')
  | .ptr k v o, .ptr k' v' o' => decide (k = k') && decide (v = v') && decide (o = o')
  | .map k v, .map k' v' => decide (k = k') && decide (v = v')
  | .iter k v, .iter k' v' => decide (k = k') && decide (v = v')
  | .agg c, .agg c' => AV.beqL c c'
  | .tup c, .tup c' => AV.beqL c c'
  | .func f a b, .func f' a' b' => decide (f = f') && AV.beqL a a' && AV.beqL b b'
  | .opq, .opq => true
  | _, _ => false
def AV.beqL : List AV → List AV → Bool
  | [], [] => true
  | x :: xs, y :: ys => x.beq y && AV.beqL xs ys
  | _, _ => false
end

/-- The states ahead of each operation, and the last. -/
def evTrace (cf : CallFn) (d : Nat) : List AOper → St → Option (List St)
  | [], s => some [s]
  | o :: os, s => (stepO cf d o s).bind fun s' => (evTrace cf d os s').map (s :: ·)

/-- An operation that only looks finds the same on another table. -/
def sameAt (o : AOper) (s : St) (h' : Hp) : Bool :=
  match wants s.env o.guard with
  | some true => (match pureOp s.env s.h o.op, pureOp s.env h' o.op with
    | some a, some b => a.beq b
    | _, _ => false)
  | _ => true

def drawOK (ops : List AOper) (tr : List St) : Bool :=
  ops.zipIdx.all fun (o, i) => o.un.all fun e =>
    match tr[i]?, tr[e]? with
    | some s, some s' => sameAt o s s'.h
    | _, _ => false

/-- The same, where the order is drawn: what only looks finds the same wherever it may stand. -/
def evDraw (cf : CallFn) (d : Nat) (ops : List AOper) (s : St) : Option St :=
  (evTrace cf d ops s).bind fun tr => if drawOK ops tr then tr.getLast? else none

def evCode (cx : Cx) (cf : CallFn) (d : Nat) : Nat → ACode → St → Option (AExit × St)
  | 0, _, _ => none
  | n + 1, c, s =>
    match c with
    | .skip => some (.norm, s)
    | .reg ops draw => (if draw then evDraw cf d ops s else evOps cf d ops s).map fun s => (.norm, s)
    | .seq a b => (evCode cx cf d n a s).bind fun (e, s') => if e = .norm then evCode cx cf d n b s' else some (e, s')
    | .cond c a b => match c.ev s.env with
      | .p (.bool t) => evCode cx cf d n (if t then a else b) s
      | _ => none
    | .block id c => (evCode cx cf d n c s).map fun (e, s') => (if e = .ex id then .norm else e, s')
    | .loop c => (evCode cx cf d n c s).bind fun (e, s') => if e = .norm then evCode cx cf d n (.loop c) s' else some (e, s')
    | .exit id => some (.ex id, s)
    | .ret => some (.ret, s)
    | .bad => none

/-! ## Freezing -/
mutual
def frzV (h : Hp) : Nat → AV → Option (PV × List Key)
  | 0, _ => none
  | n + 1, a =>
    match a with
    | .p x => some (x, [])
    | .ref k ver off m s _ => (h.cellsAt k ver).bind fun cs =>
        if off + m * s ≤ cs.length then (frzL h n ((cs.drop off).take (m * s))).map fun (ps, ks) => (.frz .any m ps, k :: ks) else none
    | .ptr k ver off => (h.cellsAt k ver).bind fun cs => (frzL h n (cs.drop off)).map fun (ps, ks) => (.cptr ps, k :: ks)
    | .agg cs => (frzL h n cs).map fun (ps, ks) => (.agg ps, ks)
    | .tup cs => (frzL h n cs).map fun (ps, ks) => (.tup ps, ks)
    | .func f a b => (frzL h n a).bind fun (x, ks) => (frzL h n b).map fun (y, ls) => (.func f x y, ks ++ ls)
    | _ => none
def frzL (h : Hp) : Nat → List AV → Option (List PV × List Key)
  | 0, _ => none
  | _ + 1, [] => some ([], [])
  | n + 1, a :: ags => (frzV h n a).bind fun (x, ks) => (frzL h n ags).map fun (xs, ls) => (x :: xs, ks ++ ls)
end

/-- Function values are frozen, the other values stay. -/
def frzFns (h : Hp) (n : Nat) : List AV → Option (List AV × List Key)
  | [] => some ([], [])
  | .func f a b :: r => (frzV h n (.func f a b)).bind fun (x, ks) => (frzFns h n r).map fun (xs, ls) => (.p x :: xs, ks ++ ls)
  | v :: r => (frzFns h n r).map fun (xs, ls) => (v :: xs, ls)

def HE.mark (e : HE) : HE := ⟨e.ver, true, e.obj⟩
def HE.kill (e : HE) : HE := ⟨e.ver, true, none⟩
def markRO (h : Hp) (ks : List Key) : Hp := ⟨fun k => if k ∈ ks then (h.get k).mark else h.get k⟩

mutual
def PV.flat : PV → Bool
  | .int .. | .bool _ | .str _ | .nilp | .nilf => true
  | .frz _ n cs => n == 0 && cs.isEmpty
  | .agg cs => PV.flatL cs
  | .tup cs => PV.flatL cs
  | _ => false
def PV.flatL : List PV → Bool
  | [] => true
  | x :: xs => x.flat && PV.flatL xs
end

/-! ## Functions -/
def enter (args : List AV) : Nat → AV := fun i => args.getD i .undef

def resAV (s : St) : ARes → Option AV
  | .tmp t => some (s.env t)
  | .cell t agg n => (ldCells s.h (s.env t) n).bind (one agg)
def resL (s : St) : List ARes → Option (List AV)
  | [] => some []
  | r :: rs => (resAV s r).bind fun v => (resL s rs).map (v :: ·)
def joinRes : List AV → AV
  | [v] => v
  | vs => mkTup vs

def runBody (cx : Cx) (cf : CallFn) (d k : Nat) (fn : AFn) (args : List AV) (h : Hp) : Option (AV × Hp) :=
  if args.length ≤ fn.ntmps then
    (evCode cx cf d k fn.body ⟨enter args, h⟩).bind fun (e, s) =>
      if e = .norm ∨ e = .ret then (resL s fn.results).map fun vs => (joinRes vs, s.h) else none
  else none

/-- A closed call: from an empty table; its answer is frozen. -/
def closedFn (cx : Cx) (cf : CallFn) (k : Nat) (fn : AFn) (ps : List PV) : Option PV :=
  (runBody cx cf 0 k fn (ps.map .p) Hp.none).bind fun (v, h) => (frzV h k v).map (·.1.er)

/-- A call whose answer is a new row that the caller may write. -/
def ownedFn (cx : Cx) (cf : CallFn) (k : Nat) (fn : AFn) (ps : List PV) : Option (PV ⊕ (Nat × Nat × Bool × List PV)) :=
  (runBody cx cf 0 k fn (ps.map .p) Hp.none).bind fun (v, h) =>
    match v with
    | .p (.frz fl n cs) => some (if fl.tight && n == 0 && cs.isEmpty && decide (0 < fn.rs) then .inr (0, fn.rs, false, []) else .inl (.frz .any n (PV.erL cs)))
    | .p x => some (.inl x.er)
    | .ref key ver off n s clip => (h.wcells key ver).bind fun cs =>
        if off = 0 ∧ n * s ≤ cs.length then (frzL (h.set key (h.get key).kill) k (cs.take (n * s))).map fun (ps, _) => .inr (n, s, clip, PV.erL ps) else none
    | _ => none


/-- The call itself. -/
def evCall0 (cx : Cx) (cf : CallFn) (k d : Nat) (f : FuncId) (args : List AV) (h : Hp) (key : Key) : Option (AV × Hp) :=
  match cx.prim f with
  | some spec => spec d args h key
  | none => (cx.fns f).bind fun fn =>
    match cx.pol f with
    | .byref =>
      (frzFns h k args).bind fun (ags, ks) =>
        runBody cx cf (d + 1) k fn ags (markRO h ks)
    | .closed =>
      match pures args with
      | some ps => (closedFn cx cf k fn (PV.erL ps)).map fun r => (.p r, h)
      | none => (frzL h k args).bind fun (ps, ks) => (closedFn cx cf k fn (PV.erL ps)).map fun r => (.p r, if r.flat then h else markRO h ks)
    | .owned =>
      match pures args with
      | some ps => (ownedFn cx cf k fn (PV.erL ps)).map fun r =>
          match r with
          | .inl x => (.p x, h)
          | .inr (n, s, clip, cs) => (.ref key ((h.get key).ver + 1) 0 n s clip, h.alloc key (.cells (cs.map .p)))
      | none => (frzL h k args).bind fun (ps, ks) => (ownedFn cx cf k fn (PV.erL ps)).map fun r =>
          match r with
          | .inl x => (.p x, if x.flat then h else markRO h ks)
          | .inr (n, s, clip, cs) => let h' := if PV.flatL cs then h else markRO h ks
              (.ref key ((h'.get key).ver + 1) 0 n s clip, h'.alloc key (.cells (cs.map .p)))

def evCall (cx : Cx) : Nat → CallFn
  | 0 => fun _ _ _ _ _ => none
  | k + 1 => evCall0 cx (evCall cx k) k

/-- What a function answers, on values alone. -/
def FEv (cx : Cx) (f : FuncId) (args : List PV) (r : PV) : Prop := ∃ k fn, cx.fns f = some fn ∧ closedFn cx (evCall cx k) k fn args = some r

end Go.Va
end
section
namespace Go.Va

def PV.one : PV → Bool | .agg _ | .tup _ => false | _ => true
def AV.one : AV → Bool | .p x => x.one | .agg _ | .tup _ | .opq => false | _ => true

def FlOK : Fl → Option Addr → Nat → Nat → Prop
  | .any, _, _, _ => True
  | .clip, _, n, cap => cap = n
  | .nil, A, n, cap => A = none ∧ n = 0 ∧ cap = 0
  | .non, A, _, _ => A.isSome

mutual
inductive VP (w : World) (M : Nat → Prop) : PV → Value → Prop
  | int (k : IntKind) (n : Int) : VP w M (.int k n) (.int k n)
  | bool (b : Bool) : VP w M (.bool b) (.bool b)
  | str (s : ByteArray) : VP w M (.str s) (.string s)
  | nilp : VP w M .nilp (.pointer none)
  | nilf : VP w M .nilf .nilFunc
  | frz0 (fl : Fl) (n : Nat) (A : Option Addr) (cap : Nat) : n ≤ cap → FlOK fl A n cap → VP w M (.frz fl n []) (.slice A n cap)
  | frz (fl : Fl) (n : Nat) (cs : List PV) (b o cap : Nat) : n ≤ cap → FlOK fl (some ⟨b, o, none⟩) n cap → ¬ M b → VC w M b o cs → VP w M (.frz fl n cs) (.slice (some ⟨b, o, none⟩) n cap)
  | agg (cs : List PV) (vs : Array Value) : VL w M cs vs.toList → (∀ c ∈ cs, c.one = true) → VP w M (.agg cs) (.agg vs)
  | tup (cs : List PV) (vs : Array Value) : VL w M cs vs.toList → VP w M (.tup cs) (.tuple vs)
  | cptr (cs : List PV) (b o : Nat) : ¬ M b → VC w M b o cs → VP w M (.cptr cs) (.pointer (some ⟨b, o, none⟩))
  | cptr0 (b o : Nat) : VP w M (.cptr []) (.pointer (some ⟨b, o, none⟩))
  | func (f : FuncId) (x y : List PV) (x' y' : Array Value) : VL w M x x'.toList → VL w M y y'.toList → VP w M (.func f x y) (.func (.func f) x' y')
inductive VL (w : World) (M : Nat → Prop) : List PV → List Value → Prop
  | nil : VL w M [] []
  | cons {c : PV} {v : Value} {cs : List PV} {vs : List Value} : VP w M c v → VL w M cs vs → VL w M (c :: cs) (v :: vs)
inductive VC (w : World) (M : Nat → Prop) : Nat → Nat → List PV → Prop
  | nil (b o : Nat) : VC w M b o []
  | cons {b o : Nat} {c : PV} {v : Value} {cs : List PV} : w.cell? ⟨b, o, none⟩ = some v → VP w M c v → c.one = true → VC w M b (o + 1) cs → VC w M b o (c :: cs)
end

theorem PV.er_one : ∀ {x : PV}, x.er.one = x.one := by
  intro x; cases x <;> simp [PV.er, PV.one]
theorem PV.erL_eq : ∀ (xs : List PV), PV.erL xs = xs.map PV.er
  | [] => rfl
  | x :: xs => by simp [PV.erL, PV.erL_eq xs]
mutual
theorem VP.er {w : World} {M : Nat → Prop} : ∀ {x : PV} {v : Value}, VP w M x v → VP w M x.er v
  | _, _, .int k n => by simp only [PV.er]; exact .int k n
  | _, _, .bool b => by simp only [PV.er]; exact .bool b
  | _, _, .str s => by simp only [PV.er]; exact .str s
  | _, _, .nilp => by simp only [PV.er]; exact .nilp
  | _, _, .nilf => by simp only [PV.er]; exact .nilf
  | _, _, .frz0 fl n A cap h1 _ => by simp only [PV.er, PV.erL]; exact .frz0 .any n A cap h1 trivial
  | _, _, .frz fl n cs b o cap h1 _ hb hc => by simp only [PV.er]; exact .frz .any n _ b o cap h1 trivial hb (VC.er hc)
  | _, _, .agg cs vs hl ho => by
    simp only [PV.er]
    refine .agg _ vs (VL.er hl) ?_
    intro c hc
    rw [PV.erL_eq, List.mem_map] at hc
    obtain ⟨x, hx, rfl⟩ := hc
    rw [PV.er_one]; exact ho x hx
  | _, _, .tup cs vs hl => by simp only [PV.er]; exact .tup _ vs (VL.er hl)
  | _, _, .cptr0 b o => by simp only [PV.er, PV.erL]; exact .cptr0 b o
  | _, _, .cptr cs b o hb hc => by simp only [PV.er]; exact .cptr _ b o hb (VC.er hc)
  | _, _, .func f x y x' y' h1 h2 => by simp only [PV.er]; exact .func f _ _ x' y' (VL.er h1) (VL.er h2)
theorem VL.er {w : World} {M : Nat → Prop} : ∀ {xs : List PV} {vs : List Value}, VL w M xs vs → VL w M (PV.erL xs) vs
  | _, _, .nil => by simp only [PV.erL]; exact .nil
  | _, _, .cons h1 h2 => by simp only [PV.erL]; exact .cons (VP.er h1) (VL.er h2)
theorem VC.er {w : World} {M : Nat → Prop} : ∀ {b o : Nat} {xs : List PV}, VC w M b o xs → VC w M b o (PV.erL xs)
  | _, _, _, .nil b o => by simp only [PV.erL]; exact .nil b o
  | _, _, _, .cons h3 h4 h5 h6 => by simp only [PV.erL]; exact .cons h3 (VP.er h4) (by rw [PV.er_one]; exact h5) (VC.er h6)
end

/-- What a world must keep for the data of M's outside to stand. -/
def Keeps (w w' : World) (M M' : Nat → Prop) : Prop :=
  ∀ b, b < w.heap.size → ¬ M b → w'.heap[b]? = w.heap[b]? ∧ ¬ M' b

theorem Keeps.cell {w w' : World} {M M' : Nat → Prop} (h : Keeps w w' M M') {b o : Nat} (hb : ¬ M b) {v : Value} (hc : w.cell? ⟨b, o, none⟩ = some v) : w'.cell? ⟨b, o, none⟩ = some v := by
  have hlt := World.block_lt_of_cell? w ⟨b, o, none⟩ hc
  have he := (h b hlt hb).1
  simp only [World.cell?] at hc ⊢
  rw [he]; exact hc

mutual
theorem VP.keeps {w w' : World} {M M' : Nat → Prop} (h : Keeps w w' M M') : ∀ {x : PV} {v : Value}, VP w M x v → VP w' M' x v
  | _, _, .int k n => .int k n
  | _, _, .bool b => .bool b
  | _, _, .str s => .str s
  | _, _, .nilp => .nilp
  | _, _, .nilf => .nilf
  | _, _, .frz0 fl n A cap h1 h2 => .frz0 fl n A cap h1 h2
  | _, _, .frz fl n cs b o cap h1 h2 hb hc =>
    match cs, hc with
    | [], _ => .frz0 fl n _ cap h1 h2
    | c :: cs, .cons h3 h4 h5 h6 => .frz fl n (c :: cs) b o cap h1 h2 (h b (World.block_lt_of_cell? w ⟨b, o, none⟩ h3) hb).2 (.cons (h.cell hb h3) (VP.keeps h h4) h5 (VC.keeps h hb h6))
  | _, _, .agg cs vs hl ho => .agg cs vs (VL.keeps h hl) ho
  | _, _, .tup cs vs hl => .tup cs vs (VL.keeps h hl)
  | _, _, .cptr0 b o => .cptr0 b o
  | _, _, .cptr cs b o hb hc =>
    match cs, hc with
    | [], _ => .cptr0 b o
    | c :: cs, .cons h3 h4 h5 h6 => .cptr (c :: cs) b o (h b (World.block_lt_of_cell? w ⟨b, o, none⟩ h3) hb).2 (.cons (h.cell hb h3) (VP.keeps h h4) h5 (VC.keeps h hb h6))
  | _, _, .func f x y x' y' h1 h2 => .func f x y x' y' (VL.keeps h h1) (VL.keeps h h2)
theorem VL.keeps {w w' : World} {M M' : Nat → Prop} (h : Keeps w w' M M') : ∀ {xs : List PV} {vs : List Value}, VL w M xs vs → VL w' M' xs vs
  | _, _, .nil => .nil
  | _, _, .cons h1 h2 => .cons (VP.keeps h h1) (VL.keeps h h2)
theorem VC.keeps {w w' : World} {M M' : Nat → Prop} (h : Keeps w w' M M') : ∀ {b o : Nat} {xs : List PV}, ¬ M b → VC w M b o xs → VC w' M' b o xs
  | _, _, _, _, .nil b o => .nil b o
  | _, _, _, hb, .cons h3 h4 h5 h6 => .cons (h.cell hb h3) (VP.keeps h h4) h5 (VC.keeps h hb h6)
end

/-! ## Values with keys -/
abbrev Kap := Key → Option Nat

/-- The blocks that this table may write. -/
def Mt (κ : Kap) (h : Hp) (b : Nat) : Prop := ∃ k, (h.get k).obj.isSome = true ∧ (h.get k).ro = false ∧ κ k = some b
/-- The blocks that this table holds. -/
def Own (κ : Kap) (h : Hp) (b : Nat) : Prop := ∃ k, (h.get k).obj.isSome = true ∧ κ k = some b
def Mx (κ : Kap) (h : Hp) (M0 : Nat → Prop) (b : Nat) : Prop := M0 b ∨ Mt κ h b

/-- Is this version the one that the table holds? -/
def Lives (h : Hp) (k : Key) (ver : Nat) : Prop := (h.get k).ver = ver ∧ (h.get k).obj.isSome = true

/-- The room that a slice has in its block. -/
def Room (w : World) (b off s cap : Nat) (clip : Bool) : Prop :=
  ∃ vs T, w.heap[b]? = some (.cells vs T (0, 0)) ∧ off + cap * s ≤ vs.size ∧ (clip = false → off + cap * s = vs.size)

mutual
inductive V (κ : Kap) (h : Hp) (w : World) (M : Nat → Prop) : AV → Value → Prop
  | p {x : PV} {v : Value} : VP w M x v → V κ h w M (.p x) v
  | ref (k : Key) (ver off n s : Nat) (clip : Bool) (b cap : Nat) : ver ≤ (h.get k).ver → n ≤ cap → (clip = true → cap = n) →
      (Lives h k ver → κ k = some b ∧ Room w b off s cap clip) → V κ h w M (.ref k ver off n s clip) (.slice (some ⟨b, off, none⟩) n cap)
  | ref0 (k : Key) (ver off s : Nat) (clip : Bool) (A : Option Addr) : ver ≤ (h.get k).ver → (Lives h k ver → κ k = none) →
      V κ h w M (.ref k ver off 0 s clip) (.slice A 0 0)
  | ptr (k : Key) (ver off b : Nat) : ver ≤ (h.get k).ver → (Lives h k ver → κ k = some b) → V κ h w M (.ptr k ver off) (.pointer (some ⟨b, off, none⟩))
  | map (k : Key) (ver b : Nat) : ver ≤ (h.get k).ver → (Lives h k ver → κ k = some b) → V κ h w M (.map k ver) (.map (some b))
  | iter (k : Key) (ver b : Nat) : ver ≤ (h.get k).ver → (Lives h k ver → κ k = some b) → V κ h w M (.iter k ver) (.pointer (some ⟨b, 0, none⟩))
  | agg (cs : List AV) (vs : Array Value) : Vs κ h w M cs vs.toList → (∀ c ∈ cs, c.one = true) → V κ h w M (.agg cs) (.agg vs)
  | tup (cs : List AV) (vs : Array Value) : Vs κ h w M cs vs.toList → V κ h w M (.tup cs) (.tuple vs)
  | func (f : FuncId) (x y : List AV) (x' y' : Array Value) : Vs κ h w M x x'.toList → Vs κ h w M y y'.toList → V κ h w M (.func f x y) (.func (.func f) x' y')
  | opq (v : Value) : V κ h w M .opq v
inductive Vs (κ : Kap) (h : Hp) (w : World) (M : Nat → Prop) : List AV → List Value → Prop
  | nil : Vs κ h w M [] []
  | cons {c : AV} {v : Value} {cs : List AV} {vs : List Value} : V κ h w M c v → Vs κ h w M cs vs → Vs κ h w M (c :: cs) (v :: vs)
end

/-- A step: what is not this table's own stays as it is; versions do not fall; a key that keeps its version keeps its block. -/
structure Trans (κ : Kap) (h : Hp) (w : World) (κ' : Kap) (h' : Hp) (w' : World) : Prop where
  size : w.heap.size ≤ w'.heap.size
  frame : ∀ b, b < w.heap.size → ¬ Mt κ h b → w'.heap[b]? = w.heap[b]?
  mt : ∀ b, Mt κ' h' b → Mt κ h b ∨ w.heap.size ≤ b
  own : ∀ b, Own κ' h' b → Own κ h b ∨ w.heap.size ≤ b
  rows : ∀ (b : Nat) (vs : Array Value) (T : TypeId) (fr : Nat × Nat), w.heap[b]? = some (Obj.cells vs T fr) → ∃ vs' : Array Value, w'.heap[b]? = some (Obj.cells vs' T fr) ∧ vs'.size = vs.size
  vers : ∀ k, (h.get k).ver ≤ (h'.get k).ver
  same : ∀ k, (h'.get k).ver = (h.get k).ver → (h'.get k).obj.isSome = true → (h.get k).obj.isSome = true ∧ κ' k = κ k
  os : w'.os = w.os
  tape : w'.tape = w.tape
  output : w'.output = w.output

theorem Trans.refl (κ : Kap) (h : Hp) (w : World) : Trans κ h w κ h w :=
  ⟨Nat.le_refl _, fun _ _ _ => rfl, fun _ h => .inl h, fun _ h => .inl h, fun _ vs _ _ h => ⟨vs, h, rfl⟩, fun _ => Nat.le_refl _, fun _ _ h => ⟨h, rfl⟩, rfl, rfl, rfl⟩

theorem Trans.trans {κ κ' κ'' : Kap} {h h' h'' : Hp} {w w' w'' : World} (a : Trans κ h w κ' h' w') (b : Trans κ' h' w' κ'' h'' w'') : Trans κ h w κ'' h'' w'' where
  size := Nat.le_trans a.size b.size
  frame := fun x hx hm => by
    rw [b.frame x (Nat.lt_of_lt_of_le hx a.size) (fun hm' => by rcases a.mt x hm' with h1 | h1; exact hm h1; omega), a.frame x hx hm]
  mt := fun x hm => by
    rcases b.mt x hm with h1 | h1
    · exact a.mt x h1
    · exact .inr (Nat.le_trans a.size h1)
  own := fun x hm => by
    rcases b.own x hm with h1 | h1
    · exact a.own x h1
    · exact .inr (Nat.le_trans a.size h1)
  rows := fun x vs T fr hx => by
    obtain ⟨vs', h1, h2⟩ := a.rows x vs T fr hx
    obtain ⟨vs'', h3, h4⟩ := b.rows x vs' T fr h1
    exact ⟨vs'', h3, h4.trans h2⟩
  vers := fun k => Nat.le_trans (a.vers k) (b.vers k)
  same := fun k hv ho => by
    have h1 := a.vers k
    have h2 := b.vers k
    obtain ⟨h3, h4⟩ := b.same k (by omega) ho
    obtain ⟨h5, h6⟩ := a.same k (by omega) h3
    exact ⟨h5, h4.trans h6⟩
  os := b.os.trans a.os
  tape := b.tape.trans a.tape
  output := b.output.trans a.output

theorem Trans.keeps {κ κ' : Kap} {h h' : Hp} {w w' : World} (t : Trans κ h w κ' h' w') (M0 : Nat → Prop) (hm : ∀ b, M0 b → b < w.heap.size) : Keeps w w' (Mx κ h M0) (Mx κ' h' M0) := by
  intro b hb hn
  refine ⟨t.frame b hb (fun x => hn (.inr x)), fun hx => ?_⟩
  rcases hx with hx | hx
  · exact hn (.inl hx)
  · rcases t.mt b hx with h1 | h1
    · exact hn (.inr h1)
    · omega

theorem Trans.lives {κ κ' : Kap} {h h' : Hp} {w w' : World} (t : Trans κ h w κ' h' w') {k : Key} {ver : Nat} (hv : ver ≤ (h.get k).ver) (hl : Lives h' k ver) : Lives h k ver ∧ κ' k = κ k := by
  have h1 := t.vers k
  have h2 : (h.get k).ver = ver := by have := hl.1; omega
  obtain ⟨h3, h4⟩ := t.same k (by rw [hl.1, h2]) hl.2
  exact ⟨⟨h2, h3⟩, h4⟩

theorem Trans.room {κ κ' : Kap} {h h' : Hp} {w w' : World} (t : Trans κ h w κ' h' w') {b off s cap : Nat} {clip : Bool} (hr : Room w b off s cap clip) : Room w' b off s cap clip := by
  obtain ⟨vs, T, h1, h2, h3⟩ := hr
  obtain ⟨vs', h4, h5⟩ := t.rows b vs T _ h1
  exact ⟨vs', T, h4, by omega, fun hc => by have := h3 hc; omega⟩

mutual
theorem V.keeps {κ κ' : Kap} {h h' : Hp} {w w' : World} {M M' : Nat → Prop} (t : Trans κ h w κ' h' w') (hk : Keeps w w' M M') : ∀ {a : AV} {v : Value}, V κ h w M a v → V κ' h' w' M' a v
  | _, _, .p hp => .p (hp.keeps hk)
  | _, _, .ref k ver off n s clip b cap h1 h2 h3 h4 => .ref k ver off n s clip b cap (Nat.le_trans h1 (t.vers k)) h2 h3 (fun hl => by
      obtain ⟨h5, h6⟩ := t.lives h1 hl
      exact ⟨h6.trans (h4 h5).1, t.room (h4 h5).2⟩)
  | _, _, .ref0 k ver off s clip A h1 h2 => .ref0 k ver off s clip A (Nat.le_trans h1 (t.vers k)) (fun hl => by
      obtain ⟨h5, h6⟩ := t.lives h1 hl; exact h6.trans (h2 h5))
  | _, _, .ptr k ver off b h1 h2 => .ptr k ver off b (Nat.le_trans h1 (t.vers k)) (fun hl => by obtain ⟨h5, h6⟩ := t.lives h1 hl; exact h6.trans (h2 h5))
  | _, _, .map k ver b h1 h2 => .map k ver b (Nat.le_trans h1 (t.vers k)) (fun hl => by obtain ⟨h5, h6⟩ := t.lives h1 hl; exact h6.trans (h2 h5))
  | _, _, .iter k ver b h1 h2 => .iter k ver b (Nat.le_trans h1 (t.vers k)) (fun hl => by obtain ⟨h5, h6⟩ := t.lives h1 hl; exact h6.trans (h2 h5))
  | _, _, .agg cs vs hl ho => .agg cs vs (Vs.keeps t hk hl) ho
  | _, _, .tup cs vs hl => .tup cs vs (Vs.keeps t hk hl)
  | _, _, .func f x y x' y' h1 h2 => .func f x y x' y' (Vs.keeps t hk h1) (Vs.keeps t hk h2)
  | _, _, .opq v => .opq v
theorem Vs.keeps {κ κ' : Kap} {h h' : Hp} {w w' : World} {M M' : Nat → Prop} (t : Trans κ h w κ' h' w') (hk : Keeps w w' M M') : ∀ {a : List AV} {v : List Value}, Vs κ h w M a v → Vs κ' h' w' M' a v
  | _, _, .nil => .nil
  | _, _, .cons h1 h2 => .cons (V.keeps t hk h1) (Vs.keeps t hk h2)
end

/-! ## The table -/
def CellsRel (κ : Kap) (h : Hp) (w : World) (M : Nat → Prop) (cs : List AV) (vs : Array Value) : Prop :=
  ∀ (j : Nat) (c : AV), cs[j]? = some c → c.one = true ∧ ∃ v, vs[j]? = some v ∧ V κ h w M c v

inductive EntRel (w : World) (M : Nat → Prop) : List (PV × PV) → List MapEntry → Prop
  | nil : EntRel w M [] []
  | cons {a x : PV} {e : MapEntry} {es : List (PV × PV)} {ces : List MapEntry} : VP w M a e.key → VP w M x e.val → EntRel w M es ces → EntRel w M ((a, x) :: es) (e :: ces)

/-- Stamps of a map's entries: older than the map's clock, and no two alike. -/
def Births (ces : Array MapEntry) (clock : Nat) : Prop := (∀ x ∈ ces.toList, x.born < clock) ∧ (ces.toList.map (·.born)).Nodup
def ObjRel (κ : Kap) (h : Hp) (w : World) (M : Nat → Prop) (k : Key) : AObj → Prop
  | .cells cs => (∃ b vs T, κ k = some b ∧ w.heap[b]? = some (.cells vs T (0, 0)) ∧ CellsRel κ h w M cs vs) ∨ (κ k = none ∧ cs = [])
  | .amap es => ∃ b ces clock, κ k = some b ∧ w.heap[b]? = some (.map ces clock) ∧ EntRel w M es ces.toList ∧ Births ces clock
  | .siter s pos => ∃ b, κ k = some b ∧ w.heap[b]? = some (.stringIter s pos)

structure RelH (κ : Kap) (h : Hp) (w : World) (M0 : Nat → Prop) : Prop where
  inj : ∀ k k' b, (h.get k).obj.isSome = true → (h.get k').obj.isSome = true → κ k = some b → κ k' = some b → k = k'
  m0 : ∀ k b, (h.get k).obj.isSome = true → κ k = some b → ¬ M0 b
  m0lt : ∀ b, M0 b → b < w.heap.size
  obj : ∀ k o, (h.get k).obj = some o → ObjRel κ h w (Mx κ h M0) k o

theorem EntRel.keeps {w w' : World} {M M' : Nat → Prop} (hk : Keeps w w' M M') {es : List (PV × PV)} {ces : List MapEntry} (h : EntRel w M es ces) : EntRel w' M' es ces := by
  induction h with
  | nil => exact .nil
  | cons h1 h2 _ ih => exact .cons (h1.keeps hk) (h2.keeps hk) ih

theorem CellsRel.keeps {κ κ' : Kap} {h h' : Hp} {w w' : World} {M M' : Nat → Prop} (t : Trans κ h w κ' h' w') (hk : Keeps w w' M M') {cs : List AV} {vs : Array Value} (hc : CellsRel κ h w M cs vs) : CellsRel κ' h' w' M' cs vs := by
  intro j c hj
  obtain ⟨h1, v, h2, h3⟩ := hc j c hj
  exact ⟨h1, v, h2, h3.keeps t hk⟩

/-- The relation over a frame's slots. -/
def EnvRel (κ : Kap) (h : Hp) (w : World) (M : Nat → Prop) (env : Nat → AV) (tmps : Array Value) : Prop :=
  ∀ i, V κ h w M (env i) (tmps.getD i undef)

theorem EnvRel.keeps {κ κ' : Kap} {h h' : Hp} {w w' : World} {M M' : Nat → Prop} (t : Trans κ h w κ' h' w') (hk : Keeps w w' M M') {env : Nat → AV} {tmps : Array Value} (he : EnvRel κ h w M env tmps) : EnvRel κ' h' w' M' env tmps :=
  fun i => (he i).keeps t hk

end Go.Va
end
section
namespace Go.Va

def cellPV : Value → Option PV
  | .int k n => some (.int k n)
  | .bool b => some (.bool b)
  | .string s => some (.str s)
  | .slice none 0 0 => some (.frz .nil 0 [])
  | .pointer none => some .nilp
  | .nilFunc => some .nilf
  | _ => none
def constPV : Value → Option PV
  | .agg cs => (cs.toList.mapM cellPV).map .agg
  | v => cellPV v
def cOpd : Operand → Option Opd
  | .tmp t => some (.t t)
  | .const v => (constPV v).map .c
  | .func f => some (.c (.func f [] []))
  | .global _ => none
def cOpds (l : Array Operand) : Option (List Opd) := l.toList.mapM cOpd
def cOpt : Option Operand → Option (Option Opd)
  | none => some none
  | some x => (cOpd x).map some

def szOf (P : Program) (t : TypeId) : Option Nat := (P.info? t).map (·.size)
def isAggT (P : Program) (t : TypeId) : Option Bool :=
  (P.underlying t).map fun | .struct _ | .array _ _ => true | _ => false
def zeroPV (P : Program) (t : TypeId) : Option (List PV) := (P.info? t).bind fun i => i.zero.bind fun z => z.cells.toList.mapM cellPV
def zeroPVagg (P : Program) (t : TypeId) : Option Bool := (P.info? t).bind fun i => i.zero.map fun | .agg _ => true | _ => false

def keyKind (P : Program) (t : TypeId) : Option Nat :=
  (P.underlying t).bind fun
  | .int _ => some 0
  | .string => some 1
  | .array n e => (P.underlying e).bind fun | .int _ => (if szOf P e = some 1 then some (n + 2) else none) | _ => none
  | _ => none

def cBuiltin (P : Program) (b : Builtin) (ts : List TypeId) (args : List Opd) : Option AOp :=
  match b, ts, args with
  | .len, [t], [x] => (P.underlying t).bind fun
    | .string => some (.lenT x)
    | .slice _ => some (.lenS x)
    | .array n _ => some (.lenC n x)
    | .map _ _ => some (.lenM x)
    | _ => none
  | .append, [t, u], [x, y] => (P.underlying t).bind fun
    | .slice e => (P.underlying u).bind fun
      | .slice _ => (P.info? e).bind fun i => i.zero.bind fun z => if 0 < i.bytes ∧ z.cells.size = i.size then some (.app i.size i.bytes x y) else none
      | _ => none
    | _ => none
  | .copy, [t, _], [x, y] => (P.underlying t).bind fun
    | .slice e => (szOf P e).map fun s => .cpy s x y
    | _ => none
  | .clear, [t], [x] => (P.underlying t).bind fun
    | .slice e => (szOf P e).bind fun s => (zeroPV P e).map fun z => .clr s z x
    | _ => none
  | .max, _, xs => some (.maxi xs)
  | .min, _, xs => some (.mini xs)
  | _, _, _ => none

def cParts (f : Nat → Option (Nat × Nat)) (ps : Array (Nat × Operand)) : Option (List (Nat × Nat × Opd)) :=
  ps.toList.mapM fun (i, x) => (f i).bind fun (off, n) => (cOpd x).map fun o => (off, n, o)

def cEq (P : Program) (t : TypeId) (neg : Bool) (x y : Opd) : Option AOp :=
  (P.underlying t).bind fun
  | .bool => some (.eqb neg x y)
  | .int _ | .string => some (.bin (if neg then .neq else .eql) x y)
  | .slice _ => (match y with | .c (.frz .nil 0 []) => some (.isnil neg x) | _ => none)
  | .array n e => (P.underlying e).bind fun | .int _ => (if szOf P e = some 1 then some (.eqa neg n x y) else none) | _ => none
  | _ => none

def compOp (P : Program) (o : Op) : Option AOp :=
  match o with
  | .move x | .assign x => (cOpd x).map .mov
  | .pick c a b => (cOpd c).bind fun c => (cOpd a).bind fun a => (cOpd b).map fun b => .pick c a b
  | .alloc t => (zeroPV P t).map .alloc
  | .box t x => (szOf P t).bind fun n => (cOpd x).map fun x => .box n x
  | .build t ps => (zeroPV P t).bind fun z => (P.underlying t).bind fun
    | .struct fs => (fs.toList.mapM fun f => (szOf P f.type).map fun s => (f.offset, s)).bind fun pl => (cParts (pl[·]?) ps).map fun q => .build z q
    | .array _ e => (szOf P e).bind fun s => (cParts (fun i => some (i * s, s)) ps).map fun q => .build z q
    | _ => none
  | .buildSlice t n ps => (P.underlying t).bind fun
    | .slice e => (szOf P e).bind fun s => (zeroPV P e).bind fun z => (cParts (fun i => some (i * s, s)) ps).map fun q => .bsl s n z q
    | _ => none
  | .load t a => (isAggT P t).bind fun g => (szOf P t).bind fun n => (cOpd a).map fun a => .ld g (if g then n else 1) a
  | .store t a x => (szOf P t).bind fun n => (cOpd a).bind fun a => (cOpd x).map fun x => .st n a x
  | .nilCheck x => (cOpd x).map .nilc
  | .binOp op t x y _ => (cOpd x).bind fun x => (cOpd y).bind fun y =>
    match op with
    | .eql => cEq P t false x y
    | .neq => cEq P t true x y
    | _ => some (.bin op x y)
  | .unOp op _ x => (cOpd x).map fun x => .un op x
  | .convert s d x => (P.underlying s).bind fun
    | .int _ => (P.underlying d).bind fun | .int k => (cOpd x).map fun x => .conv k x | _ => none
    | _ => none
  | .makeFunc (.func f) a b => (cOpds a).bind fun a => (cOpds b).map fun b => .mkf f a b
  | .makeMap _ none => some .mkm
  | .makeSlice t l c => (P.underlying t).bind fun
    | .slice e => (P.info? e).bind fun i => (zeroPV P e).bind fun z => (cOpd l).bind fun l => (cOpd c).map fun c => .mksl i.size i.bytes z l c
    | _ => none
  | .slice t x lo hi mx => (P.underlying t).bind fun u => (cOpd x).bind fun x => (cOpt lo).bind fun lo => (cOpt hi).bind fun hi => (cOpt mx).bind fun mx =>
    match u with
    | .slice e => if mx.isSome && !hi.isSome then none else (szOf P e).map fun s => .slcS s x lo hi mx
    | .string => if mx.isSome then none else some (.slcT x lo hi)
    | .array n e => if mx.isSome then none else (szOf P e).map fun s => .slcA n s x lo hi
    | _ => none
  | .fieldAddr t x i => (P.underlying t).bind fun
    | .struct fs => (fs[i]?).bind fun f => (szOf P f.type).bind fun s => if s = 0 then none else (cOpd x).map fun x => .fad f.offset x
    | _ => none
  | .field t x i => (P.underlying t).bind fun
    | .struct fs => (fs[i]?).bind fun f => (szOf P f.type).bind fun s => (isAggT P f.type).bind fun g => (cOpd x).map fun x => .fld g f.offset (if g then s else 1) x
    | _ => none
  | .indexAddr t x i => (P.underlying t).bind fun u => (cOpd x).bind fun x => (cOpd i).bind fun i =>
    match u with
    | .slice e => (szOf P e).map fun s => .iadS s x i
    | .array n e => (szOf P e).map fun s => .iadA n s x i
    | _ => none
  | .index t x i => (P.underlying t).bind fun u => (cOpd x).bind fun x => (cOpd i).bind fun i =>
    match u with
    | .array n e => (szOf P e).bind fun s => (isAggT P e).bind fun g => if g || s == 1 then some (.idxA n s g x i) else none
    | .string => some (.idxT x i)
    | _ => none
  | .lookup t m k ok => (P.underlying t).bind fun
    | .map kt e => (keyKind P kt).bind fun kk => (zeroPV P e).bind fun z => (isAggT P e).bind fun g => if zeroPVagg P e = some g then (cOpd m).bind fun m => (cOpd k).map fun k => .lkp kk g z m k ok else none
    | _ => none
  | .mapUpdate t m k x | .insert t m k x => (P.underlying t).bind fun
    | .map kt _ => (keyKind P kt).bind fun kk => (cOpd m).bind fun m => (cOpd k).bind fun k => (cOpd x).map fun x => .mup kk m k x
    | _ => none
  | .range t x => (P.underlying t).bind fun | .string => (cOpd x).map .rng | _ => none
  | .next it true => (cOpd it).map .nxt
  | .extract x i => (cOpd x).map fun x => .ext x i
  | .call c => (cOpds c.args).bind fun args =>
    match c.callee with
    | .value f => (cOpd f).map fun f => .call f args
    | .builtin b => cBuiltin P b c.argTypes.toList args
    | _ => none
  | _ => none

/-- The edges that bind at every mode. -/
def plainE (e : Edge) : Bool := Region.binds .any e

/-- For each operation, the operations that are ordered ahead of it, by any chain. -/
def preds (ops : List Oper) : List (List Nat) :=
  ops.foldl (init := []) fun acc o =>
    acc ++ [(o.after.toList.filter plainE).foldl (init := []) fun s e => (e.on :: acc.getD e.on []) ++ s |>.eraseDups]

def hW : AOp → Bool
  | .alloc _ | .box .. | .bsl .. | .st .. | .mkm | .mksl .. | .mup .. | .rng _ | .nxt _ | .call .. | .app .. | .cpy .. | .clr .. => true
  | _ => false
def hR : AOp → Bool
  | .ld .. | .slcS .. | .slcA .. | .lkp .. | .lenM _ => true
  | o => hW o

def opdS : Opd → List Nat | .t n => [n] | .c _ => []
def optS : Option Opd → List Nat | some o => opdS o | none => []
def AOp.slots : AOp → List Nat
  | .mov x | .nilc x | .un _ x | .conv _ x | .fad _ x | .fld _ _ _ x | .rng x | .nxt x | .ext x _ | .isnil _ x | .lenS x | .lenC _ x | .lenM x | .lenT x | .box _ x | .clr _ _ x | .ld _ _ x => opdS x
  | .pick c a b | .mup _ c a b => opdS c ++ opdS a ++ opdS b
  | .alloc _ | .mkm | .bad => []
  | .build _ ps | .bsl _ _ _ ps => ps.flatMap fun p => opdS p.2.2
  | .st _ x y | .bin _ x y | .eqb _ x y | .eqa _ _ x y | .mksl _ _ _ x y | .iadS _ x y | .iadA _ _ x y | .idxA _ _ _ x y | .idxT x y | .lkp _ _ _ x y _ | .app _ _ x y | .cpy _ x y => opdS x ++ opdS y
  | .mkf _ a b => a.flatMap opdS ++ b.flatMap opdS
  | .slcS _ x lo hi mx => opdS x ++ optS lo ++ optS hi ++ optS mx
  | .slcA _ _ x lo hi | .slcT x lo hi => opdS x ++ optS lo ++ optS hi
  | .call x args => opdS x ++ args.flatMap opdS
  | .maxi xs | .mini xs => xs.flatMap opdS

def looks (o : AOper) : List Nat := o.op.slots ++ (match o.guard with | some (t, _) => [t] | none => [])
def compOper (P : Program) (ops : Array Oper) (o : Oper) : Option AOper :=
  (compOp P o.op).bind fun a =>
    match o.guard with
    | none => some { dst := o.dst, op := a, guard := none }
    | some (j, want) => ((ops[j]?).bind (·.dst)).map fun t => { dst := o.dst, op := a, guard := some (t, want) }

def dstOK (n : Nat) (o : AOper) : Bool := match o.dst with | some d => decide (d < n) | none => true

def isNew : AOp → Bool | .alloc _ | .bsl .. => true | _ => false
/-- What each operation of a drawn region is: 0 = it only looks; 1 = it makes a block, at any time ahead of the first that needs it; 2 = another effect. -/
def kinds (ps : List (List Nat)) (l : List AOper) : List Nat :=
  l.zipIdx.map fun (o, j) =>
    if !hW o.op then 0
    else if isNew o.op && o.guard.isNone && o.dst.isSome && l.zipIdx.any (fun (x, i) => i != j && hW x.op && !(ps.getD j []).contains i && !(ps.getD i []).contains j) then 1 else 2

/-- An order in which each new block stands right ahead of the first effect that needs it: positions of the text. -/
def ordGo (ps : List (List Nat)) (ks : List Nat) : List Nat → List Nat → List Nat
  | [], pend => pend
  | i :: is, pend =>
    if ks.getD i 0 = 1 then ordGo ps ks is (pend ++ [i])
    else if ks.getD i 0 = 2 then (pend.filter fun j => (ps.getD i []).contains j) ++ i :: ordGo ps ks is (pend.filter fun j => !(ps.getD i []).contains j)
    else i :: ordGo ps ks is pend

/-- Who stands ahead of whom, in the order that is kept. -/
def predsIn (ps : List (List Nat)) (ord : List Nat) : List (List Nat) :=
  ord.map fun i => (List.range ord.length).filter fun q => (ps.getD i []).contains (ord.getD q 0)

/-- May a drawn region's operations, in the order that is kept, be carried out so, whatever order is drawn? -/
def drawFit (ps : List (List Nat)) (ks : List Nat) (l : List AOper) : Bool :=
  l.zipIdx.all fun (o, j) => l.zipIdx.all fun (x, i) =>
    (!(ps.getD j []).contains i || decide (i < j)) &&
    (decide (j ≤ i) || !(ks.getD i 0 == 2 && ks.getD j 0 == 2) || (ps.getD j []).contains i) &&
    (!(decide (i < j) && ks.getD i 0 == 1 && ks.getD j 0 == 2) || (ps.getD j []).contains i) &&
    (!(ks.getD i 0 == 1 && ks.getD j 0 != 2 && (ps.getD j []).contains i) || (List.range l.length).any fun e => ks.getD e 0 == 2 && (ps.getD e []).contains i && (ps.getD j []).contains e) &&
    (match x.dst with
     | some d => (decide (i = j) || o.dst != some d) && (!(looks o).contains d || (decide (i ≠ j) && ((ps.getD j []).contains i || (ps.getD i []).contains j)))
     | none => true)

/-- For an operation that only looks: behind which effects it may be carried out (0: ahead of all; m + 1: behind effect m). -/
def mayAt (ps : List (List Nat)) (ks : List Nat) (q : Nat) : List Nat :=
  (List.range (ks.length + 1)).filter fun F =>
    (F == 0 || ks.getD (F - 1) 0 == 2) &&
    (List.range ks.length).all fun e => ks.getD e 0 != 2 || ((!(ps.getD q []).contains e || decide (e < F)) && (!(decide (e < F)) || !(ps.getD e []).contains q))
def setUn (ps : List (List Nat)) (ks : List Nat) (l : List AOper) : List AOper :=
  l.zipIdx.map fun (o, j) => { o with un := if hR o.op && !hW o.op then (mayAt ps ks j).filter fun F => (List.range (max F j)).any fun i => decide (min F j ≤ i) && ks.getD i 0 != 0 else [] }

/-- A region: the operations in an order that is kept, and that order; where the order is drawn, what must be looked at twice. -/
def compReg (P : Program) (n : Nat) (ops : Array Oper) (draw : Bool) : Option (List AOper × List Nat) :=
  (ops.toList.mapM (compOper P ops)).bind fun l =>
    if l.all (dstOK n) then
      if draw then
        let ps0 := preds ops.toList
        let ks0 := kinds ps0 l
        let ord := ordGo ps0 ks0 (List.range l.length) []
        let l1 := ord.filterMap (l[·]?)
        let ps := predsIn ps0 ord
        let ks := ord.map (ks0.getD · 0)
        if drawFit ps ks l1 && decide (l1.length = l.length) && decide (ord.length = l.length) && (List.range l.length).all (fun i => ord.contains i && ord.idxOf (ord.getD i 0) == i) &&
            (ops.toList.all fun o => o.after.toList.all fun e => !plainE e || decide (e.on < l.length)) then some (setUn ps ks l1, ord) else none
      else some (l, [])
    else none

def compCode (P : Program) (n : Nat) : Code → ACode
  | .skip => .skip
  | .region _ ops draw => match compReg P n ops draw with | some (l, _) => .reg l draw | none => .bad
  | .seq a b => .seq (compCode P n a) (compCode P n b)
  | .cond c a b => match cOpd c with | some c => .cond c (compCode P n a) (compCode P n b) | none => .bad
  | .block id c => .block id (compCode P n c)
  | .loop c => .loop (compCode P n c)
  | .exit id => .exit id
  | .ret => .ret
  | _ => .bad

def compRes (P : Program) : ResultVar → Option ARes
  | .tmp t => some (.tmp t)
  | .cell a t => (isAggT P t).bind fun g => (szOf P t).map fun n => .cell a g (if g then n else 1)

def compFn (P : Program) (f : FuncId) : Option AFn :=
  (P.funcs[f]?).bind fun fn =>
    if fn.name == "runtime.NumGoroutine" then none else
    fn.body.bind fun c => (fn.results.toList.mapM (compRes P)).map fun rs => { ntmps := fn.ntmps, rs := ((fn.resultTypes[0]?).bind fun t => (P.underlying t).bind fun | .slice e => szOf P e | _ => none).getD 0, results := rs, body := compCode P fn.ntmps c }

end Go.Va
end
section
namespace Go.Va

section
variable {P : Program} {w : World}
theorem r_und {t : TypeId} {d : TypeDesc} (h : P.underlying t = some d) : (underlying t).run P w = .ok d w := run_underlying h w
theorem r_info {t : TypeId} {i : TypeInfo} (h : P.info? t = some i) : (typeInfo t).run P w = .ok i w := by simp [typeInfo, h]
theorem r_size {t : TypeId} {n : Nat} (h : szOf P t = some n) : (sizeOf t).run P w = .ok n w := by
  unfold szOf at h
  cases hi : P.info? t with
  | none => simp [hi] at h
  | some i => simp [hi] at h; simp [sizeOf, typeInfo, hi, h]
theorem r_agg {t : TypeId} {g : Bool} (h : isAggT P t = some g) : (isAgg t).run P w = .ok g w := by
  unfold isAggT at h
  cases hu : P.underlying t with
  | none => simp [hu] at h
  | some d => simp only [hu, Option.map_some, Option.some.injEq] at h; cases d <;> simp_all [isAgg, underlying]
theorem r_zero {t : TypeId} {i : TypeInfo} {z : Value} (h : P.info? t = some i) (hz : i.zero = some z) : (zeroValue t).run P w = .ok z w := by
  simp [zeroValue, typeInfo, h, hz]
end

theorem add_at (b o j : Nat) : (⟨b, o, none⟩ : Addr).add j = ⟨b, o + j, none⟩ := by
  unfold Addr.add; split <;> simp_all

/-! ## Constants and operands -/
theorem cellPV_one {v : Value} {x : PV} (h : cellPV v = some x) : x.one = true := by
  unfold cellPV at h; split at h <;> simp at h <;> subst h <;> rfl
theorem cellPV_rel {w : World} {M : Nat → Prop} {v : Value} {x : PV} (h : cellPV v = some x) : VP w M x v := by
  unfold cellPV at h; split at h <;> simp at h <;> subst h
  · exact .int _ _
  · exact .bool _
  · exact .str _
  · exact .frz0 _ _ _ _ (Nat.le_refl _) ⟨rfl, rfl, rfl⟩
  · exact .nilp
  · exact .nilf
theorem mapM_cellPV {w : World} {M : Nat → Prop} : ∀ {vs : List Value} {xs : List PV}, vs.mapM cellPV = some xs → VL w M xs vs ∧ ∀ x ∈ xs, x.one = true
  | [], xs, h => by simp at h; subst h; exact ⟨.nil, by simp⟩
  | v :: vs, xs, h => by
    simp only [List.mapM_cons, Option.bind_eq_bind, Option.bind_eq_some_iff, Option.pure_def, Option.some.injEq] at h
    obtain ⟨x, hx, ys, hys, rfl⟩ := h
    obtain ⟨h1, h2⟩ := mapM_cellPV (w := w) (M := M) hys
    exact ⟨.cons (cellPV_rel hx) h1, by intro y hy; simp at hy; rcases hy with rfl | hy; exact cellPV_one hx; exact h2 y hy⟩
theorem constPV_rel {w : World} {M : Nat → Prop} {v : Value} {x : PV} (h : constPV v = some x) : VP w M x v := by
  unfold constPV at h
  split at h
  · rename_i cs
    simp only [Option.map_eq_some_iff] at h
    obtain ⟨xs, h1, rfl⟩ := h
    obtain ⟨h2, h3⟩ := mapM_cellPV (w := w) (M := M) h1
    exact .agg _ _ h2 h3
  · exact cellPV_rel h

section
variable {κ : Kap} {h : Hp} {w : World} {M : Nat → Prop} {env : Nat → AV} {a : Act}
theorem opd_rel (he : EnvRel κ h w M env a.tmps) {x : Operand} {o : Opd} (hc : cOpd x = some o) : V κ h w M (o.ev env) (a.eval x) := by
  cases x with
  | tmp t => simp [cOpd] at hc; subst hc; exact he t
  | const v => simp only [cOpd, Option.map_eq_some_iff] at hc; obtain ⟨c, h1, rfl⟩ := hc; exact .p (constPV_rel h1)
  | global g => simp [cOpd] at hc
  | func f => simp [cOpd] at hc; subst hc; exact .p (.func f [] [] #[] #[] .nil .nil)
theorem opds_rel (he : EnvRel κ h w M env a.tmps) {l : List Operand} {os : List Opd} (hc : l.mapM cOpd = some os) : Vs κ h w M (evL env os) (l.map a.eval) := by
  induction l generalizing os with
  | nil => simp at hc; subst hc; exact .nil
  | cons x l ih =>
    simp only [List.mapM_cons, Option.bind_eq_bind, Option.bind_eq_some_iff, Option.pure_def, Option.some.injEq] at hc
    obtain ⟨o, h1, os', h2, rfl⟩ := hc
    exact .cons (opd_rel he h1) (ih h2)
theorem opdsA_rel (he : EnvRel κ h w M env a.tmps) {l : Array Operand} {os : List Opd} (hc : cOpds l = some os) : Vs κ h w M (evL env os) (l.map a.eval).toList := by
  have := opds_rel he (l := l.toList) hc
  simpa using this

/-! ## Lists of values -/
theorem Vs.of_VL {xs : List PV} {vs : List Value} (hl : VL w M xs vs) : Vs κ h w M (xs.map .p) vs := by
  induction xs generalizing vs with
  | nil => cases hl; exact .nil
  | cons x xs ih => cases hl with | cons h1 h2 => exact .cons (.p h1) (ih h2)
theorem Vs.to_VL {cs : List AV} {ps : List PV} {vs : List Value} (hp : pures cs = some ps) (hv : Vs κ h w M cs vs) : VL w M ps vs := by
  induction cs generalizing ps vs with
  | nil => simp [pures] at hp; subst hp; cases hv; exact .nil
  | cons c cs ih =>
    cases hv with
    | cons h1 h2 =>
      cases c with
      | p x =>
        simp only [pures, Option.map_eq_some_iff] at hp
        obtain ⟨qs, h3, rfl⟩ := hp
        cases h1 with | p h1 => exact .cons h1 (ih h3 h2)
      | _ => simp [pures] at hp
theorem pures_one {cs : List AV} {ps : List PV} (hp : pures cs = some ps) (ho : ∀ c ∈ cs, c.one = true) : ∀ x ∈ ps, x.one = true := by
  induction cs generalizing ps with
  | nil => simp [pures] at hp; subst hp; simp
  | cons c cs ih =>
    cases c with
    | p x =>
      simp only [pures, Option.map_eq_some_iff] at hp
      obtain ⟨qs, h3, rfl⟩ := hp
      intro y hy
      simp at hy
      rcases hy with rfl | hy
      · exact ho (.p y) (by simp)
      · exact ih h3 (fun c hc => ho c (by simp [hc])) y hy
    | _ => simp [pures] at hp
theorem mkAgg_rel {cs : List AV} {vs : Array Value} (hv : Vs κ h w M cs vs.toList) (ho : ∀ c ∈ cs, c.one = true) : V κ h w M (mkAgg cs) (.agg vs) := by
  unfold mkAgg
  split
  · rename_i ps hp; exact .p (.agg _ _ (hv.to_VL hp) (pures_one hp ho))
  · exact .agg _ _ hv ho
theorem mkTup_rel {cs : List AV} {vs : Array Value} (hv : Vs κ h w M cs vs.toList) : V κ h w M (mkTup cs) (.tuple vs) := by
  unfold mkTup
  split
  · rename_i ps hp; exact .p (.tup _ _ (hv.to_VL hp))
  · exact .tup _ _ hv
theorem mkFn_rel {f : FuncId} {x y : List AV} {x' y' : Array Value} (hx : Vs κ h w M x x'.toList) (hy : Vs κ h w M y y'.toList) : V κ h w M (mkFn f x y) (.func (.func f) x' y') := by
  unfold mkFn
  split
  · rename_i p q hp hq; exact .p (.func _ _ _ _ _ (hx.to_VL hp) (hy.to_VL hq))
  · exact .func _ _ _ _ _ hx hy
theorem Vs.append {x y : List AV} {u v : List Value} (hx : Vs κ h w M x u) (hy : Vs κ h w M y v) : Vs κ h w M (x ++ y) (u ++ v) := by
  induction x generalizing u with
  | nil => cases hx; exact hy
  | cons c x ih => cases hx with | cons h1 h2 => exact .cons h1 (ih h2)
theorem Vs.length {x : List AV} {u : List Value} (hx : Vs κ h w M x u) : x.length = u.length := by
  induction x generalizing u with
  | nil => cases hx; rfl
  | cons c x ih => cases hx with | cons h1 h2 => simp [ih h2]
theorem Vs.get {x : List AV} {u : List Value} (hx : Vs κ h w M x u) {i : Nat} {c : AV} (hi : x[i]? = some c) : ∃ v, u[i]? = some v ∧ V κ h w M c v := by
  induction x generalizing u i with
  | nil => simp at hi
  | cons d x ih =>
    cases hx with
    | cons h1 h2 =>
      cases i with
      | zero => simp at hi; subst hi; exact ⟨_, rfl, h1⟩
      | succ i => simp at hi; obtain ⟨v, h3, h4⟩ := ih h2 hi; exact ⟨v, by simpa using h3, h4⟩
theorem Vs.of_get {x : List AV} {u : List Value} (hl : x.length = u.length) (hg : ∀ (i : Nat) (c : AV) (v : Value), x[i]? = some c → u[i]? = some v → V κ h w M c v) : Vs κ h w M x u := by
  induction x generalizing u with
  | nil => cases u with | nil => exact .nil | cons v u => simp at hl
  | cons c x ih =>
    cases u with
    | nil => simp at hl
    | cons v u => exact .cons (hg 0 c v rfl rfl) (ih (by simpa using hl) (fun i c v h1 h2 => hg (i + 1) c v (by simpa using h1) (by simpa using h2)))

/-- The cells of a value that is stored: one cell each. -/
theorem cells_rel {x : AV} {v : Value} {cs : List AV} (hv : V κ h w M x v) (hc : x.cells = some cs) :
    Vs κ h w M cs v.cells.toList ∧ ∀ c ∈ cs, c.one = true := by
  cases hv with
  | p hp =>
    cases hp with
    | agg ps vs hl ho => simp [AV.cells] at hc; subst hc; exact ⟨Vs.of_VL hl, by intro c hc; simp at hc; obtain ⟨x, h1, rfl⟩ := hc; exact ho x h1⟩
    | tup ps vs hl => simp [AV.cells] at hc
    | int k n => simp [AV.cells] at hc; subst hc; exact ⟨.cons (.p (.int k n)) .nil, by simp [AV.one, PV.one]⟩
    | bool b => simp [AV.cells] at hc; subst hc; exact ⟨.cons (.p (.bool b)) .nil, by simp [AV.one, PV.one]⟩
    | str b => simp [AV.cells] at hc; subst hc; exact ⟨.cons (.p (.str b)) .nil, by simp [AV.one, PV.one]⟩
    | nilp => simp [AV.cells] at hc; subst hc; exact ⟨.cons (.p .nilp) .nil, by simp [AV.one, PV.one]⟩
    | nilf => simp [AV.cells] at hc; subst hc; exact ⟨.cons (.p .nilf) .nil, by simp [AV.one, PV.one]⟩
    | frz0 fl n A cap h1 h2 => simp [AV.cells] at hc; subst hc; exact ⟨.cons (.p (.frz0 fl n A cap h1 h2)) .nil, by simp [AV.one, PV.one]⟩
    | frz fl n cs b o cap h1 h2 h3 h4 => simp [AV.cells] at hc; subst hc; exact ⟨.cons (.p (.frz fl n cs b o cap h1 h2 h3 h4)) .nil, by simp [AV.one, PV.one]⟩
    | cptr cs b o h1 h2 => simp [AV.cells] at hc; subst hc; exact ⟨.cons (.p (.cptr cs b o h1 h2)) .nil, by simp [AV.one, PV.one]⟩
    | cptr0 b o => simp [AV.cells] at hc; subst hc; exact ⟨.cons (.p (.cptr0 b o)) .nil, by simp [AV.one, PV.one]⟩
    | func f x y x' y' h1 h2 => simp [AV.cells] at hc; subst hc; exact ⟨.cons (.p (.func f x y x' y' h1 h2)) .nil, by simp [AV.one, PV.one]⟩
  | ref k ver off n s clip b cap h1 h2 h3 h4 => simp [AV.cells] at hc; subst hc; exact ⟨.cons (.ref k ver off n s clip b cap h1 h2 h3 h4) .nil, by simp [AV.one]⟩
  | ref0 k ver off s clip A h1 h2 => simp [AV.cells] at hc; subst hc; exact ⟨.cons (.ref0 k ver off s clip A h1 h2) .nil, by simp [AV.one]⟩
  | ptr k ver off b h1 h2 => simp [AV.cells] at hc; subst hc; exact ⟨.cons (.ptr k ver off b h1 h2) .nil, by simp [AV.one]⟩
  | map k ver b h1 h2 => simp [AV.cells] at hc; subst hc; exact ⟨.cons (.map k ver b h1 h2) .nil, by simp [AV.one]⟩
  | iter k ver b h1 h2 => simp [AV.cells] at hc; subst hc; exact ⟨.cons (.iter k ver b h1 h2) .nil, by simp [AV.one]⟩
  | agg cs' vs hl ho => simp [AV.cells] at hc; subst hc; exact ⟨hl, ho⟩
  | tup cs vs hl => simp [AV.cells] at hc
  | func f x y x' y' h1 h2 => simp [AV.cells] at hc; subst hc; exact ⟨.cons (.func f x y x' y' h1 h2) .nil, by simp [AV.one]⟩
  | opq v => simp [AV.cells] at hc

/-! ## Loads -/
theorem VC.get {b o : Nat} {cs : List PV} (hc : VC w M b o cs) {j : Nat} {c : PV} (hj : cs[j]? = some c) : c.one = true ∧ ∃ v, w.cell? ⟨b, o + j, none⟩ = some v ∧ VP w M c v := by
  induction cs generalizing o j with
  | nil => simp at hj
  | cons d cs ih =>
    cases hc with
    | cons h1 h2 h3 h4 =>
      cases j with
      | zero => simp at hj; subst hj; exact ⟨h3, _, h1, h2⟩
      | succ j => simp at hj; obtain ⟨h5, v, h6, h7⟩ := ih h4 hj; exact ⟨h5, v, by rw [← h6]; congr 2; omega, h7⟩
theorem VC.drop {b o : Nat} {cs : List PV} (hc : VC w M b o cs) (j : Nat) : VC w M b (o + j) (cs.drop j) := by
  induction j generalizing o cs with
  | zero => simpa using hc
  | succ j ih =>
    cases cs with
    | nil => simp; exact .nil _ _
    | cons d cs => cases hc with | cons h1 h2 h3 h4 => have := ih h4; rw [List.drop_succ_cons, show o + (j + 1) = o + 1 + j by omega]; exact this
theorem VC.take {b o : Nat} {cs : List PV} (hc : VC w M b o cs) (j : Nat) : VC w M b o (cs.take j) := by
  induction j generalizing o cs with
  | zero => simp; exact .nil _ _
  | succ j ih =>
    cases cs with
    | nil => simp; exact .nil _ _
    | cons d cs => cases hc with | cons h1 h2 h3 h4 => simp only [List.take_succ_cons]; exact .cons h1 h2 h3 (ih h4)

/-- Cells that stand in memory. -/
def At (κ : Kap) (h : Hp) (w : World) (M : Nat → Prop) (b o : Nat) (cs : List AV) : Prop :=
  ∀ (j : Nat) (c : AV), cs[j]? = some c → c.one = true ∧ ∃ v, w.cell? ⟨b, o + j, none⟩ = some v ∧ V κ h w M c v

theorem cellsAt_some {k : Key} {ver : Nat} {cs : List AV} (hc : h.cellsAt k ver = some cs) : (h.get k).ver = ver ∧ (h.get k).obj = some (.cells cs) := by
  unfold Hp.cellsAt Hp.live HE.live at hc
  split at hc
  · rename_i cs' heq; split at heq
    · rename_i hv; simp at hc; subst hc; exact ⟨hv, heq⟩
    · simp at heq
  · simp at hc
theorem cellsAt_lives {k : Key} {ver : Nat} {cs : List AV} (hc : h.cellsAt k ver = some cs) : Lives h k ver := by
  obtain ⟨h1, h2⟩ := cellsAt_some hc; exact ⟨h1, by rw [h2]; rfl⟩

theorem At.row {M0 : Nat → Prop} (hr : RelH κ h w M0) {k : Key} {ver b : Nat} {cs : List AV} (hc : h.cellsAt k ver = some cs) (hb : κ k = some b) :
    ∃ vs T, w.heap[b]? = some (Obj.cells vs T (0, 0)) ∧ CellsRel κ h w (Mx κ h M0) cs vs := by
  obtain ⟨h1, h2⟩ := cellsAt_some hc
  have := hr.obj k _ h2
  rcases this with ⟨b', vs, T, h3, h4, h5⟩ | ⟨h3, h4⟩
  · rw [hb] at h3; cases h3; exact ⟨vs, T, h4, h5⟩
  · rw [hb] at h3; cases h3

theorem cell_row {b j : Nat} {vs : Array Value} {T : TypeId} {fr : Nat × Nat} (hb : w.heap[b]? = some (Obj.cells vs T fr)) : w.cell? ⟨b, j, none⟩ = vs[j]? := by
  simp [World.cell?, hb]

theorem At.of_row {M0 : Nat → Prop} (hr : RelH κ h w M0) {k : Key} {ver b : Nat} {cs : List AV} (hc : h.cellsAt k ver = some cs) (hb : κ k = some b) : At κ h w (Mx κ h M0) b 0 cs := by
  obtain ⟨vs, T, h1, h2⟩ := At.row hr hc hb
  intro j c hj
  obtain ⟨h3, v, h4, h5⟩ := h2 j c hj
  exact ⟨h3, v, by rw [cell_row h1, Nat.zero_add]; exact h4, h5⟩
theorem At.drop {b o : Nat} {cs : List AV} (ha : At κ h w M b o cs) (j : Nat) : At κ h w M b (o + j) (cs.drop j) := by
  intro i c hi
  rw [List.getElem?_drop] at hi
  obtain ⟨h1, v, h2, h3⟩ := ha (j + i) c hi
  exact ⟨h1, v, by rw [← h2]; congr 2; omega, h3⟩
theorem At.take {b o : Nat} {cs : List AV} (ha : At κ h w M b o cs) (j : Nat) : At κ h w M b o (cs.take j) := by
  intro i c hi
  rw [List.getElem?_take] at hi
  split at hi
  · exact ha i c hi
  · simp at hi
theorem At.of_VC {b o : Nat} {cs : List PV} (hc : VC w M b o cs) : At κ h w M b o (cs.map .p) := by
  intro j c hj
  rw [List.getElem?_map] at hj
  cases hg : cs[j]? with
  | none => simp [hg] at hj
  | some x =>
    simp [hg] at hj; subst hj
    obtain ⟨h1, v, h2, h3⟩ := hc.get hg
    exact ⟨h1, v, h2, .p h3⟩

theorem ldCells_rel {M0 : Nat → Prop} (hr : RelH κ h w M0) {x : AV} {v : Value} {n : Nat} {cs : List AV} (hv : V κ h w (Mx κ h M0) x v) (hl : ldCells h x n = some cs) :
    ∃ b o, v = .pointer (some ⟨b, o, none⟩) ∧ At κ h w (Mx κ h M0) b o cs ∧ cs.length = n := by
  cases hv with
  | p hp =>
    cases hp with
    | cptr ps b o h1 h2 =>
      simp only [ldCells] at hl
      split at hl
      · simp at hl; subst hl
        exact ⟨b, o, rfl, by rw [← List.map_take]; exact At.of_VC (h2.take n), by simp; omega⟩
      · simp at hl
    | cptr0 b o =>
      simp only [ldCells] at hl
      split at hl
      · rename_i hn; simp at hn; subst hn; simp at hl; subst hl; exact ⟨b, o, rfl, fun j c hj => by simp at hj, rfl⟩
      · simp at hl
    | _ => simp [ldCells] at hl
  | ptr k ver off b h1 h2 =>
    simp only [ldCells, Option.bind_eq_some_iff] at hl
    obtain ⟨cs', h3, h4⟩ := hl
    split at h4
    · simp at h4; subst h4
      have h5 := h2 (cellsAt_lives h3)
      have h6 := At.of_row hr h3 h5
      refine ⟨b, off, rfl, ?_, by simp; omega⟩
      have := (h6.drop off).take n
      simpa using this
    · simp at h4
  | _ => simp [ldCells] at hl

/-- The values of cells that stand in memory. -/
theorem At.values {b o : Nat} {cs : List AV} (ha : At κ h w M b o cs) : ∃ vs : List Value, vs.length = cs.length ∧ (∀ (j : Nat) (v : Value), vs[j]? = some v → w.cell? ((⟨b, o, none⟩ : Addr).add j) = some v) ∧ Vs κ h w M cs vs := by
  induction cs generalizing o with
  | nil => exact ⟨[], rfl, by simp, .nil⟩
  | cons c cs ih =>
    obtain ⟨_, v, h2, h3⟩ := ha 0 c rfl
    have h4 := ha.drop 1
    simp only [List.drop_one, List.tail_cons] at h4
    obtain ⟨vs, h5, h6, h7⟩ := ih h4
    refine ⟨v :: vs, by simp [h5], ?_, .cons h3 h7⟩
    intro j u hj
    rw [add_at]
    cases j with
    | zero => simp at hj; subst hj; simpa using h2
    | succ j => simp at hj; have := h6 j u hj; rw [add_at] at this; rw [← this]; congr 2; omega
theorem At.ones {b o : Nat} {cs : List AV} (ha : At κ h w M b o cs) : ∀ c ∈ cs, c.one = true := by
  intro c hc
  obtain ⟨j, hj⟩ := List.getElem?_of_mem hc
  exact (ha j c hj).1

theorem loadVar_rel {P : Program} {M0 : Nat → Prop} (hr : RelH κ h w M0) {t : TypeId} {g : Bool} {n : Nat} (hg : isAggT P t = some g) (hn : szOf P t = some n)
    {x r : AV} {v : Value} {cs : List AV} (hv : V κ h w (Mx κ h M0) x v) (hl : ldCells h x (if g then n else 1) = some cs) (ho : one g cs = some r) :
    ∃ (ad : Addr) (u : Value), v = .pointer (some ad) ∧ (loadVar t ad).run P w = .ok u w ∧ V κ h w (Mx κ h M0) r u := by
  obtain ⟨b, o, rfl, h1, h2⟩ := ldCells_rel hr hv hl
  refine ⟨⟨b, o, none⟩, ?_⟩
  obtain ⟨vs, h3, h4, h5⟩ := h1.values
  cases g with
  | true =>
    simp only [one, if_true, Option.some.injEq] at ho; subst ho
    simp only [if_true] at h2
    refine ⟨.agg vs.toArray, rfl, ?_, mkAgg_rel (by simpa using h5) h1.ones⟩
    have h6 := run_loadCells_list (P := P) w ⟨b, o, none⟩ vs h4
    have h7 : vs.length = n := by omega
    simp only [loadVar, Sem.run_bind, r_agg hg, Result.andThen_ok, if_true, r_size hn, Sem.run_bind, Sem.run_pure]
    rw [h7] at h6; rw [h6]; rfl
  | false =>
    simp only [one, Bool.false_eq_true, if_false] at ho
    split at ho
    · rename_i c
      simp at ho; subst ho
      obtain ⟨_, u, h8, h9⟩ := h1 0 _ rfl
      refine ⟨u, rfl, ?_, h9⟩
      simp only [Nat.add_zero] at h8
      simp [loadVar, r_agg hg, h8]
    · simp at ho
end
end Go.Va
end
section
namespace Go.Va

section
variable {P : Program} {κ : Kap} {h : Hp} {w : World} {M0 : Nat → Prop} {env : Nat → AV} {a : Act}

theorem g_int {k : IntKind} {n : Int} {M : Nat → Prop} : V κ h w M (.p (.int k n)) (.int k n) := .p (.int k n)
theorem g_bool {b : Bool} {M : Nat → Prop} : V κ h w M (.p (.bool b)) (.bool b) := .p (.bool b)

theorem asI_rel {M : Nat → Prop} {x : AV} {v : Value} {i : Int} (hv : V κ h w M x v) (hi : asI x = some i) : ∃ k, v = .int k i ∧ x = .p (.int k i) := by
  cases hv with
  | p hp => cases hp with
    | int k n => simp [asI] at hi; subst hi; exact ⟨k, rfl, rfl⟩
    | _ => simp [asI] at hi
  | _ => simp [asI] at hi

theorem bin_rel {M : Nat → Prop} {op : BinOp} {t : TypeId} {x y r : PV} {u v : Value} (hx : VP w M x u) (hy : VP w M y v) (hb : binPV op x y = some r) :
    ∃ z, (binOp op t u v).run P w = .ok z w ∧ VP w M r z := by
  cases hx with
  | int k n =>
    cases hy with
    | int k' n' =>
      cases op with
      | shl =>
        simp only [binPV] at hb
        split at hb <;> simp at hb; subst hb
        rename_i hn
        exact ⟨_, by simp [binOp, Op.shift, hn], .int _ _⟩
      | shr =>
        simp only [binPV] at hb
        split at hb <;> simp at hb; subst hb
        rename_i hn
        exact ⟨_, by simp [binOp, Op.shift, hn], .int _ _⟩
      | quo | rem =>
        simp only [binPV] at hb
        split at hb
        · rename_i hk; subst hk
          split at hb <;> simp at hb; subst hb
          rename_i hn
          exact ⟨_, by simp [binOp, Op.intDiv, hn], .int _ _⟩
        · simp at hb
      | add | sub | mul =>
        simp only [binPV] at hb
        split at hb
        · rename_i hk; subst hk; simp at hb; subst hb
          exact ⟨_, by simp [binOp, Op.intArith], .int _ _⟩
        · simp at hb
      | and | or | xor | andNot =>
        simp only [binPV] at hb
        split at hb
        · rename_i hk; subst hk; simp at hb; subst hb
          exact ⟨_, by first | (simp [binOp, Op.intBits]; done) | (simp [binOp, Op.intBits]; rfl), .int _ _⟩
        · simp at hb
      | eql | neq | lss | leq | gtr | geq =>
        simp only [binPV] at hb
        split at hb
        · rename_i hk; subst hk; simp at hb; subst hb
          exact ⟨_, by first | (simp [binOp, Op.intCmp]; done) | (simp [binOp, Op.intCmp]; rfl), .bool _⟩
        · simp at hb
    | _ => simp [binPV] at hb
  | str s =>
    cases hy with
    | str s' =>
      cases op with
      | eql | neq => simp [binPV] at hb; subst hb; exact ⟨_, by first | (simp [binOp, Op.stringOp]; done) | (simp [binOp, Op.stringOp]; rfl), .bool _⟩
      | _ => simp [binPV] at hb
    | _ => simp [binPV] at hb
  | _ => cases hy <;> simp [binPV] at hb

theorem guard_int {op : BinOp} {t : TypeId} {x y : Operand} {k k' : IntKind} {n n' : Int} : (eqGuard op t x y (.int k n) (.int k' n')).run P w = .ok () w := by
  cases op <;> simp [eqGuard]
theorem guard_str {op : BinOp} {t : TypeId} {x y : Operand} {n n' : ByteArray} : (eqGuard op t x y (.string n) (.string n')).run P w = .ok () w := by
  cases op <;> simp [eqGuard]
theorem guard_bool {op : BinOp} {t : TypeId} {x y : Operand} {n n' : Bool} : (eqGuard op t x y (.bool n) (.bool n')).run P w = .ok () w := by
  cases op <;> simp [eqGuard]
theorem guard_slice {op : BinOp} {t : TypeId} {x y : Operand} {A B : Option Addr} {n c n' c' : Nat} : (eqGuard op t x y (.slice A n c) (.slice B n' c')).run P w = .ok () w := by
  cases op <;> simp [eqGuard]

theorem bnd_rel {M : Nat → Prop} (he : EnvRel κ h w M env a.tmps) {x : Operand} {o : Opd} {l d top : Nat} {code : BoundsCode} (hc : cOpd x = some o) (hb : bnd env (some o) d = some l) (hl : l ≤ top) :
    (Instr.sliceBound (a.eval x) top code).run P w = .ok l w := by
  simp only [bnd, Option.bind_eq_some_iff] at hb
  obtain ⟨i, h1, h2⟩ := hb
  split at h2 <;> simp at h2
  obtain ⟨k, h3, _⟩ := asI_rel (opd_rel he hc) h1
  rw [h3]
  subst h2
  simp only [Instr.sliceBound, asIntOf, Sem.run_bind, Sem.run_pure, Result.andThen_ok, Sem.run_ite]
  rw [if_pos ⟨by assumption, by omega⟩]
theorem bnd_none {d l : Nat} (hb : bnd env none d = some l) : l = d := by simp [bnd] at hb; exact hb.symm

/-- The bounds of a slice expression, as the model finds them. -/
theorem bounds_rel {M : Nat → Prop} (he : EnvRel κ h w M env a.tmps) {isS : Bool} {len cap : Nat} {lo hi mx : Option Operand} {lo' hi' mx' : Option Opd} {l t m : Nat}
    (h1 : cOpt lo = some lo') (h2 : cOpt hi = some hi') (h3 : cOpt mx = some mx') (hl : bnd env lo' 0 = some l) (ht : bnd env hi' len = some t)
    (hm : mx'.isSome = true → bnd env mx' len = some m ∧ m ≤ cap ∧ hi'.isSome = true ∧ t ≤ m) (hlt : l ≤ t) (htc : t ≤ cap) :
    (Instr.sliceBounds isS len cap (lo.map a.eval) (hi.map a.eval) (mx.map a.eval)).run P w = .ok (l, t, if mx'.isSome then m else cap) w := by
  cases mx with
  | none =>
    simp [cOpt] at h3; subst h3
    cases hi with
    | none =>
      simp [cOpt] at h2; subst h2
      have := bnd_none ht; subst this
      cases lo with
      | none => simp [cOpt] at h1; subst h1; have := bnd_none hl; subst this; simp [Instr.sliceBounds]
      | some x =>
        simp only [cOpt, Option.map_eq_some_iff] at h1; obtain ⟨o, h4, rfl⟩ := h1
        simp [Instr.sliceBounds, bnd_rel (P := P) he h4 hl hlt]
    | some y =>
      simp only [cOpt, Option.map_eq_some_iff] at h2; obtain ⟨o, h4, rfl⟩ := h2
      have h5 := fun c => bnd_rel (P := P) (code := c) he h4 ht htc
      cases lo with
      | none => simp [cOpt] at h1; subst h1; have := bnd_none hl; subst this; simp [Instr.sliceBounds, h5]
      | some x =>
        simp only [cOpt, Option.map_eq_some_iff] at h1; obtain ⟨o', h6, rfl⟩ := h1
        simp [Instr.sliceBounds, h5, bnd_rel (P := P) he h6 hl hlt]
  | some z =>
    simp only [cOpt, Option.map_eq_some_iff] at h3; obtain ⟨oz, h4, rfl⟩ := h3
    obtain ⟨h5, h6, h7, h8⟩ := hm rfl
    have h9 := fun c => bnd_rel (P := P) (code := c) he h4 h5 h6
    cases hi with
    | none => simp [cOpt] at h2; subst h2; simp at h7
    | some y =>
      simp only [cOpt, Option.map_eq_some_iff] at h2; obtain ⟨o, h10, rfl⟩ := h2
      have h11 := fun c => bnd_rel (P := P) (code := c) he h10 ht h8
      cases lo with
      | none => simp [cOpt] at h1; subst h1; have := bnd_none hl; subst this; simp [Instr.sliceBounds, h9, h11]
      | some x =>
        simp only [cOpt, Option.map_eq_some_iff] at h1; obtain ⟨o', h12, rfl⟩ := h1
        simp [Instr.sliceBounds, h9, h11, bnd_rel (P := P) he h12 hl hlt]
end
end Go.Va
end
section
namespace Go.Va

section
variable {P : Program} {κ : Kap} {h : Hp} {w : World} {M : Nat → Prop} {M0 : Nat → Prop} {env : Nat → AV} {a : Act}

theorem r_part {t : TypeId} {g : Bool} {n off : Nat} (hg : isAggT P t = some g) (hn : szOf P t = some n) {cs : List AV} {vs : Array Value} {r : AV}
    (hv : Vs κ h w M cs vs.toList) (ho : ∀ c ∈ cs, c.one = true) (hle : off + (if g then n else 1) ≤ cs.length) (hr : one g ((cs.drop off).take (if g then n else 1)) = some r) :
    ∃ v, (part t vs off).run P w = .ok v w ∧ V κ h w M r v := by
  have hlen : vs.toList.length = cs.length := hv.length.symm
  cases g with
  | true =>
    simp only [if_true] at hle hr
    simp only [one, if_true, Option.some.injEq] at hr; subst hr
    refine ⟨.agg (vs.extract off (off + n)), by simp [part, r_agg hg, r_size hn], mkAgg_rel ?_ ?_⟩
    · rw [Array.toList_extract]
      apply Vs.of_get
      · simp; have : vs.size = cs.length := by simpa using hlen
        omega
      · intro i c v h1 h2
        have h1' := h1
        rw [List.getElem?_take, List.getElem?_drop] at h1
        rw [List.extract_eq_take_drop, List.getElem?_take, List.getElem?_drop] at h2
        split at h1
        · split at h2
          · obtain ⟨u, h3, h4⟩ := hv.get h1
            rw [h3] at h2; cases h2; exact h4
          · simp at h2
        · simp at h1
    · intro c hc; exact ho c (List.mem_of_mem_drop (List.mem_of_mem_take hc))
  | false =>
    simp only [Bool.false_eq_true, if_false] at hle hr
    simp only [one, Bool.false_eq_true, if_false] at hr
    split at hr
    · rename_i c heq
      simp at hr; subst hr
      have h1 : cs[off]? = some c := by
        have := congrArg (fun l : List AV => l[0]?) heq
        simpa [List.getElem?_take, List.getElem?_drop] using this
      obtain ⟨v, h2, h3⟩ := hv.get h1
      exact ⟨v, by simp at h2; simp [part, r_agg hg, h2], h3⟩
    · simp at hr

theorem agg_inv {x : AV} {v : Value} {ps : List PV} (hv : V κ h w M x v) (hx : x = .p (.agg ps)) : ∃ vs, v = .agg vs ∧ Vs κ h w M (ps.map .p) vs.toList ∧ ∀ c ∈ ps.map AV.p, c.one = true := by
  subst hx
  cases hv with
  | p hp => cases hp with
    | agg _ vs hl ho => exact ⟨vs, rfl, Vs.of_VL hl, by intro c hc; simp at hc; obtain ⟨x, h1, rfl⟩ := hc; exact ho x h1⟩
theorem aggA_inv {x : AV} {v : Value} {ps : List AV} (hv : V κ h w M x v) (hx : x = .agg ps) : ∃ vs, v = .agg vs ∧ Vs κ h w M ps vs.toList ∧ ∀ c ∈ ps, c.one = true := by
  subst hx
  cases hv with
  | agg _ vs hl ho => exact ⟨vs, rfl, hl, ho⟩

/-- An address: of frozen cells, or into the table. -/
theorem ptr_off {x r : AV} {v : Value} {off : Nat} (hv : V κ h w M x v) (hr : offA off x = some r) :
    ∃ ad : Addr, v = .pointer (some ad) ∧ V κ h w M r (.pointer (some (ad.add off))) := by
  cases hv with
  | p hp =>
    cases hp with
    | cptr cs b o h1 h2 =>
      simp [offA] at hr; subst hr
      refine ⟨_, rfl, ?_⟩
      rw [add_at]
      exact .p (.cptr _ _ _ h1 (h2.drop off))
    | cptr0 b o => simp [offA] at hr; subst hr; refine ⟨_, rfl, ?_⟩; rw [add_at]; exact .p (.cptr0 _ _)
    | _ => simp [offA] at hr
  | ptr k ver o b h1 h2 => simp [offA] at hr; subst hr; refine ⟨_, rfl, ?_⟩; rw [add_at]; exact .ptr k ver (o + off) b h1 h2
  | _ => simp [offA] at hr

theorem field_rel {t : TypeId} {fs : Array Field} {f : Field} {i s : Nat} {x r : AV} {v : Value} (hu : P.underlying t = some (.struct fs)) (hf : fs[i]? = some f) (hs : szOf P f.type = some s) (h0 : s ≠ 0)
    (hv : V κ h w M x v) (hr : offA f.offset x = some r) :
    ∃ u, (Instr.fieldAt t v i).run P w = .ok u w ∧ V κ h w M r u := by
  obtain ⟨ad, rfl, h1⟩ := ptr_off hv hr
  exact ⟨_, by simp [Instr.fieldAt, r_und hu, hf, Instr.sureAddr, fieldPlace, r_size hs, h0], h1⟩

theorem indexS_rel {t e : TypeId} {s : Nat} {x i r : AV} {v iv : Value} (hu : P.underlying t = some (.slice e)) (hs : szOf P e = some s) (hv : V κ h w M x v) (hi : V κ h w M i iv)
    {j : Int} (hiv : asI i = some j) (hr : idxSA s x j = some r) : ∃ u, (Instr.indexAt t v iv).run P w = .ok u w ∧ V κ h w M r u := by
  obtain ⟨k, rfl, _⟩ := asI_rel hi hiv
  cases hv with
  | p hp =>
    cases hp with
    | frz0 fl n A cap h1 h2 =>
      simp only [idxSA] at hr
      split at hr
      · rename_i hh; obtain ⟨h3, h4, h5, h6⟩ := hh
        have : 0 < n * s := Nat.mul_pos (by omega) h6
        simp only [List.length_nil] at h5
        omega
      · simp at hr
    | frz fl n cs b o cap h1 h2 h3 h4 =>
      simp only [idxSA] at hr
      split at hr
      · rename_i hh; obtain ⟨h5, h6, h7, h8⟩ := hh
        simp at hr; subst hr
        refine ⟨.pointer (some ⟨b, o + j.toNat * s, none⟩), ?_, .p (.cptr _ _ _ h3 (h4.drop _))⟩
        simp [Instr.indexAt, asIntOf, r_und hu, r_size hs, h5, h6, add_at]
      · simp at hr
    | _ => simp [idxSA] at hr
  | ref q ver off n s' clip b cap h1 h2 h3 h4 =>
    simp only [idxSA] at hr
    split at hr
    · rename_i hh; obtain ⟨h5, h6, h7⟩ := hh
      simp at hr; subst hr
      refine ⟨.pointer (some ⟨b, off + j.toNat * s, none⟩), ?_, .ptr _ _ _ b h1 (fun hl => (h4 hl).1)⟩
      simp [Instr.indexAt, asIntOf, r_und hu, r_size hs, h5, h6, add_at]
    · simp at hr
  | ref0 q ver off s' clip A h1 h2 =>
    simp only [idxSA] at hr
    split at hr
    · rename_i hh; omega
    · simp at hr
  | _ => simp [idxSA] at hr

theorem indexA_rel {t e : TypeId} {s n : Nat} {x i r : AV} {v iv : Value} (hu : P.underlying t = some (.array n e)) (hs : szOf P e = some s) (hv : V κ h w M x v) (hi : V κ h w M i iv)
    {j : Int} (hiv : asI i = some j) (h5 : 0 ≤ j ∧ j < n) (hr : offA (j.toNat * s) x = some r) : ∃ u, (Instr.indexAt t v iv).run P w = .ok u w ∧ V κ h w M r u := by
  obtain ⟨k, rfl, _⟩ := asI_rel hi hiv
  obtain ⟨ad, rfl, h8⟩ := ptr_off hv hr
  exact ⟨_, by simp [Instr.indexAt, asIntOf, r_und hu, r_size hs, Instr.sureAddr, h5.1, h5.2], h8⟩

theorem cs_size {k : Key} {ver b : Nat} {cs : List AV} (hr : RelH κ h w M0) (hc : h.cellsAt k ver = some cs) (hb : κ k = some b) {vs : Array Value} {T : TypeId} {fr : Nat × Nat}
    (hw : w.heap[b]? = some (Obj.cells vs T fr)) : cs.length ≤ vs.size := by
  obtain ⟨vs', T', h1, h2⟩ := At.row hr hc hb
  rw [hw] at h1; cases h1
  rcases Nat.lt_or_ge vs.size cs.length with hlt | hge
  · exfalso
    obtain ⟨_, v, h3, _⟩ := h2 vs.size cs[vs.size] (by simp [hlt])
    simp at h3
  · exact hge

theorem cs_nil {k : Key} {ver : Nat} {cs : List AV} (hr : RelH κ h w M0) (hc : h.cellsAt k ver = some cs) (hb : κ k = none) : cs = [] := by
  obtain ⟨_, h2⟩ := cellsAt_some hc
  rcases hr.obj k _ h2 with ⟨b, vs, T, h3, _⟩ | ⟨_, h4⟩
  · rw [hb] at h3; cases h3
  · exact h4

theorem sliceS_rel (hr : RelH κ h w M0) (he : EnvRel κ h w (Mx κ h M0) env a.tmps) {t e : TypeId} {s : Nat} {x : AV} {v : Value} {r : AV} {lo hi mx : Option Operand} {lo' hi' mx' : Option Opd}
    (hu : P.underlying t = some (.slice e)) (hs : szOf P e = some s) (h1 : cOpt lo = some lo') (h2 : cOpt hi = some hi') (h3 : cOpt mx = some mx')
    (hmh : mx'.isSome = true → hi'.isSome = true) (hv : V κ h w (Mx κ h M0) x v) (hx : slS h env s x lo' hi' mx' = some r) :
    ∃ u, (Instr.sliceAt t v (lo.map a.eval) (hi.map a.eval) (mx.map a.eval)).run P w = .ok u w ∧ V κ h w (Mx κ h M0) r u := by
  have hrun : ∀ {A : Option Addr} {n cap l tt m : Nat}, bnd env lo' 0 = some l → bnd env hi' n = some tt → (mx'.isSome = true → bnd env mx' n = some m ∧ m ≤ cap ∧ tt ≤ m) → l ≤ tt → tt ≤ cap →
      (Instr.sliceAt t (.slice A n cap) (lo.map a.eval) (hi.map a.eval) (mx.map a.eval)).run P w =
        .ok (.slice (if (if mx'.isSome then m else cap) = l then A else A.map (·.add (l * s))) (tt - l) ((if mx'.isSome then m else cap) - l)) w := by
    intro A n cap l tt m b1 b2 b3 b4 b5
    have := bounds_rel (P := P) he (isS := true) (cap := cap) h1 h2 h3 b1 b2 (fun hm => by obtain ⟨q1, q2, q3⟩ := b3 hm; exact ⟨q1, q2, hmh hm, q3⟩) b4 b5
    simp [Instr.sliceAt, r_und hu, Instr.slice, this, r_size hs]
  cases hv with
  | p hp =>
    have main : ∀ {fl : Fl} {n cap : Nat} {A : Option Addr} {cs : List PV}, n ≤ cap → FlOK fl A n cap → (cs ≠ [] → ∃ b o, A = some ⟨b, o, none⟩ ∧ ¬ Mx κ h M0 b ∧ VC w (Mx κ h M0) b o cs) →
        slS h env s (.p (.frz fl n cs)) lo' hi' mx' = some r →
        ∃ u, (Instr.sliceAt t (.slice A n cap) (lo.map a.eval) (hi.map a.eval) (mx.map a.eval)).run P w = .ok u w ∧ V κ h w (Mx κ h M0) r u := by
      intro fl n cap A cs q1 q2 q3 hx
      simp only [slS, Option.bind_eq_some_iff] at hx
      obtain ⟨l, b1, tt, b2, m, b3, hx⟩ := hx
      split at hx
      · rename_i hh; obtain ⟨g1, g2, g3, g4⟩ := hh
        simp only [Option.some.injEq] at hx; subst hx
        refine ⟨_, hrun (m := m) b1 b2 (fun _ => ⟨b3, by omega, g2⟩) g1 (by omega), .p ?_⟩
        have hcap : tt ≤ (if mx'.isSome then m else cap) := by split <;> omega
        generalize hc' : (if mx'.isSome then m else cap) = cap' at *
        have hfl : ∀ A' : Option Addr, FlOK (if (if mx'.isSome then decide (m = tt) else fl.tight && decide (tt = n)) then .clip else .any) A' (tt - l) (cap' - l) := by
          intro A'
          by_cases hm : mx'.isSome = true
          · simp only [hm, if_true] at hc' ⊢
            by_cases hf : m = tt
            · simp only [hf, decide_true]; show cap' - l = tt - l; omega
            · simp only [hf, decide_false, Bool.false_eq_true, if_false]; trivial
          · simp only [hm, Bool.false_eq_true, if_false] at hc' ⊢
            by_cases hf : (fl.tight && decide (tt = n)) = true
            · simp only [hf]
              show cap' - l = tt - l
              simp at hf
              obtain ⟨hf1, hf2⟩ := hf
              cases fl <;> simp [Fl.tight] at hf1
              · have : cap = n := q2
                omega
              · obtain ⟨_, _, q5⟩ := q2; omega
            · simp only [hf]; trivial
        by_cases hn : (cs.drop (l * s)).take ((tt - l) * s) = []
        · rw [hn]; exact .frz0 _ _ _ _ (by omega) (hfl _)
        · have hcs : cs ≠ [] := fun hc => hn (by simp [hc])
          obtain ⟨b, o, rfl, q4, q5⟩ := q3 hcs
          have hlt : l < tt := by
            rcases Nat.lt_or_ge l tt with hl | hl
            · exact hl
            · exact absurd (by simp [Nat.sub_eq_zero_of_le hl]) hn
          rw [if_neg (show ¬ cap' = l by omega)]
          simp only [Option.map_some, add_at]
          exact .frz _ _ _ b _ _ (by omega) (hfl _) q4 ((q5.drop _).take _)
      · simp at hx
    cases hp with
    | frz0 fl n A cap q1 q2 => exact main q1 q2 (by simp) hx
    | frz fl n cs b o cap q1 q2 q3 q4 => exact main q1 q2 (fun _ => ⟨b, o, rfl, q3, q4⟩) hx
    | _ => simp [slS] at hx
  | ref k ver off n s' clip b cap q1 q2 q3 q4 =>
    simp only [slS, Option.bind_eq_some_iff] at hx
    obtain ⟨cs, b0, l, b1, tt, b2, m, b3, hx⟩ := hx
    have hlv := cellsAt_lives b0
    obtain ⟨q5, vs, T, q6, q7, q8⟩ := q4 hlv
    have hsz := cs_size hr b0 q5 q6
    split at hx
    · rename_i hh; obtain ⟨rfl, g2, g3, g4, g5⟩ := hh
      have htc : tt ≤ cap := by
        rcases g4 with g4 | ⟨g4, g6, _⟩
        · omega
        · have := q8 g4
          exact Nat.le_of_mul_le_mul_right (by omega) g2
      split at hx
      · rename_i hm
        split at hx
        · rename_i hh; obtain ⟨g6, g7⟩ := hh
          have hrun' := hrun (A := some ⟨b, off, none⟩) (n := n) (cap := cap) (m := m) b1 b2 (fun _ => ⟨b3, by omega, g6⟩) g3 htc
          simp only [hm, if_true] at hrun'
          refine ⟨_, hrun', ?_⟩
          split at hx
          · simp at hx; subst hx; exact .opq _
          · rename_i g8; simp at g8; subst g8
            split at hx
            · rename_i g9; simp at hx; subst hx
              obtain ⟨g9, _⟩ := g9; subst g9
              simp
              exact .p (.frz0 _ _ _ _ (Nat.le_refl _) rfl)
            · rename_i g9; simp at hx; subst hx
              by_cases hlm : m = l
              · subst hlm
                have : m = 0 := by
                  rcases Nat.eq_zero_or_pos m with h0 | h0
                  · exact h0
                  · exact absurd ⟨rfl, by omega⟩ g9
                subst this
                simp
                exact .ref k ver off 0 s' true b 0 q1 (Nat.le_refl _) (fun _ => rfl) (fun hl => ⟨q5, vs, T, q6, by omega, by simp⟩)
              · rw [if_neg hlm]; simp only [Option.map_some, add_at]
                refine .ref k ver _ _ s' true b _ q1 (Nat.le_refl _) (fun _ => rfl) (fun hl => ⟨q5, vs, T, q6, ?_, by simp⟩)
                have e : off + l * s' + (m - l) * s' = off + m * s' := by
                  rw [Nat.sub_mul, Nat.add_assoc, Nat.add_sub_cancel' (Nat.mul_le_mul_right _ g3)]
                rw [e]; exact Nat.le_trans (Nat.add_le_add_left (Nat.mul_le_mul_right _ htc) _) q7
        · simp at hx
      · rename_i hm
        have hm' : mx'.isSome = false := by simpa using hm
        have hrun' := hrun (A := some ⟨b, off, none⟩) (n := n) (cap := cap) (m := 0) b1 b2 (fun hmm => absurd hmm (by simp [hm'])) g3 htc
        simp only [hm', Bool.false_eq_true, if_false] at hrun'
        refine ⟨_, hrun', ?_⟩
        split at hx
        · rename_i hcl
          split at hx
          · rename_i g8
            have hcn := q3 hcl
            split at hx
            · rename_i g9; simp at hx; subst hx
              obtain ⟨g9, _⟩ := g9
              have : cap - l = 0 := by omega
              rw [show tt - l = 0 by omega, this]
              exact .p (.frz0 _ _ _ _ (Nat.le_refl _) rfl)
            · rename_i g9; simp at hx; subst hx
              by_cases hlm : cap = l
              · have : l = 0 := by
                  rcases Nat.eq_zero_or_pos l with h0 | h0
                  · exact h0
                  · exact absurd ⟨by omega, by omega⟩ g9
                subst this
                rw [if_pos hlm]
                rw [show tt = 0 by omega, hlm]
                simp
                exact .ref k ver off 0 s' true b 0 q1 (Nat.le_refl _) (fun _ => rfl) (fun hl => ⟨q5, vs, T, q6, by omega, by simp⟩)
              · rw [if_neg hlm]; simp only [Option.map_some, add_at]
                refine .ref k ver _ _ s' true b _ q1 (by omega) (fun _ => by omega) (fun hl => ⟨q5, vs, T, q6, ?_, by simp⟩)
                have e : off + l * s' + (cap - l) * s' = off + cap * s' := by
                  rw [Nat.sub_mul, Nat.add_assoc, Nat.add_sub_cancel' (Nat.mul_le_mul_right _ (by omega))]
                rw [e]; exact q7
          · simp at hx
        · rename_i hcl
          have hcl' : clip = false := by simpa using hcl
          split at hx
          · rename_i g9; simp at hx; subst hx
            obtain ⟨g9, _⟩ := g9
            rw [show tt - l = 0 by omega]
            exact .p (.frz0 _ _ _ _ (Nat.zero_le _) trivial)
          · rename_i g9; simp at hx; subst hx
            have e : off + l * s' + (cap - l) * s' = off + cap * s' := by
              rw [Nat.sub_mul, Nat.add_assoc, Nat.add_sub_cancel' (Nat.mul_le_mul_right _ (by omega))]
            have hroom : Room w b (off + l * s') s' (cap - l) false := ⟨vs, T, q6, by rw [e]; exact q7, fun _ => by rw [e]; exact q8 hcl'⟩
            by_cases hlm : cap = l
            · have : l = 0 := by
                rcases Nat.eq_zero_or_pos l with h0 | h0
                · exact h0
                · exact absurd ⟨by omega, by omega⟩ g9
              subst this
              rw [if_pos hlm]
              simp only [Nat.zero_mul, Nat.add_zero] at hroom ⊢
              exact .ref k ver off _ s' false b _ q1 (by omega) (by simp) (fun hl => ⟨q5, hroom⟩)
            · rw [if_neg hlm]; simp only [Option.map_some, add_at]
              exact .ref k ver _ _ s' false b _ q1 (by omega) (by simp) (fun hl => ⟨q5, hroom⟩)
    · simp at hx
  | ref0 k ver off s' clip A q1 q2 =>
    simp only [slS, Option.bind_eq_some_iff] at hx
    obtain ⟨cs, b0, l, b1, tt, b2, m, b3, hx⟩ := hx
    have hlv := cellsAt_lives b0
    have hnil := cs_nil hr b0 (q2 hlv); subst hnil
    split at hx
    · rename_i hh; obtain ⟨rfl, g2, g3, g4, g5⟩ := hh
      simp at g5
      have htt : tt = 0 := by
        rcases g4 with g4 | ⟨_, g6, _⟩
        · omega
        · rcases Nat.eq_zero_or_pos tt with h0 | h0
          · exact h0
          · have := Nat.mul_pos h0 g2
            simp only [List.length_nil] at g6
            omega
      subst htt
      have hl0 : l = 0 := by omega
      subst hl0
      split at hx
      · rename_i hm
        split at hx
        · rename_i hh
          have hm0 : m = 0 := by omega
          subst hm0
          have hrun' := hrun (A := A) (n := 0) (cap := 0) (m := 0) b1 b2 (fun _ => ⟨b3, by omega, by omega⟩) (by omega) (by omega)
          simp [hm] at hrun' hx
          subst hx
          exact ⟨_, hrun', .ref0 k ver _ s' _ A q1 q2⟩
        · simp at hx
      · rename_i hm
        have hm' : mx'.isSome = false := by simpa using hm
        have hrun' := hrun (A := A) (n := 0) (cap := 0) (m := 0) b1 b2 (fun hmm => absurd hmm (by simp [hm'])) (by omega) (by omega)
        simp [hm'] at hrun' hx
        split at hx <;> (simp at hx; subst hx; exact ⟨_, hrun', .ref0 k ver _ s' _ A q1 q2⟩)
    · simp at hx
  | _ => simp [slS] at hx
end
end Go.Va
end
section
namespace Go.Va

section
variable {P : Program} {κ : Kap} {h : Hp} {w : World} {M : Nat → Prop} {M0 : Nat → Prop} {env : Nat → AV} {a : Act}

theorem sliceA_rel (hr : RelH κ h w M0) (he : EnvRel κ h w (Mx κ h M0) env a.tmps) {t e : TypeId} {n s : Nat} {x : AV} {v : Value} {r : AV} {lo hi : Option Operand} {lo' hi' : Option Opd}
    (hu : P.underlying t = some (.array n e)) (hs : szOf P e = some s) (h1 : cOpt lo = some lo') (h2 : cOpt hi = some hi')
    (hv : V κ h w (Mx κ h M0) x v) (hx : slA h env n s x lo' hi' = some r) :
    ∃ u, (Instr.sliceAt t v (lo.map a.eval) (hi.map a.eval) none).run P w = .ok u w ∧ V κ h w (Mx κ h M0) r u := by
  simp only [slA, Option.bind_eq_some_iff] at hx
  obtain ⟨l, b1, tt, b2, hx⟩ := hx
  have hrun : ∀ {ad : Addr}, l ≤ tt → tt ≤ n → (Instr.sliceAt t (.pointer (some ad)) (lo.map a.eval) (hi.map a.eval) none).run P w =
      .ok (.slice (some (if n = l then ad else ad.add (l * s))) (tt - l) (n - l)) w := by
    intro ad q1 q2
    have := bounds_rel (P := P) he (isS := false) (cap := n) (m := 0) h1 h2 (rfl : cOpt none = some none) b1 b2 (fun hm => by simp at hm) q1 q2
    simp only [Option.map_none, Option.isSome_none, Bool.false_eq_true, if_false] at this
    simp [Instr.sliceAt, r_und hu, Instr.sureAddr, this, r_size hs]
  cases hv with
  | p hp =>
    cases hp with
    | cptr0 b o =>
      simp only at hx
      split at hx
      · rename_i hh; obtain ⟨q1, q2, q3⟩ := hh
        simp at hx; subst hx
        exact ⟨_, hrun q1 q2, .p (.frz0 _ _ _ _ (by omega) trivial)⟩
      · simp at hx
    | cptr cs b o g1 g2 =>
      simp only at hx
      split at hx
      · rename_i hh; obtain ⟨q1, q2, q3⟩ := hh
        simp at hx; subst hx
        refine ⟨_, hrun q1 q2, .p ?_⟩
        by_cases hn : (cs.drop (l * s)).take ((tt - l) * s) = []
        · rw [hn]; exact .frz0 _ _ _ _ (by omega) trivial
        · have hlt : l < tt := by
            rcases Nat.lt_or_ge l tt with hl | hl
            · exact hl
            · exact absurd (by simp [Nat.sub_eq_zero_of_le hl]) hn
          rw [if_neg (show ¬ n = l by omega), add_at]
          exact .frz _ _ _ b _ _ (by omega) trivial g1 ((g2.drop _).take _)
      · simp at hx
    | _ => simp at hx
  | ptr k ver off b q1 q2 =>
    simp only [Option.bind_eq_some_iff] at hx
    obtain ⟨cs, b0, hx⟩ := hx
    split at hx
    · rename_i hh; obtain ⟨rfl, g1, g2, g3, rfl⟩ := hh
      have hlv := cellsAt_lives b0
      have hk := q2 hlv
      obtain ⟨vs, T, q6, _⟩ := At.row hr b0 hk
      have hsz := cs_size hr b0 hk q6
      refine ⟨_, hrun g3 (Nat.le_refl _), ?_⟩
      split at hx
      · rename_i g9; simp at hx; subst hx
        obtain ⟨g9, _⟩ := g9
        rw [show tt - l = 0 by omega]
        exact .p (.frz0 _ _ _ _ (Nat.le_refl _) trivial)
      · rename_i g9; simp at hx; subst hx
        by_cases hlm : tt = l
        · have : l = 0 := by
            rcases Nat.eq_zero_or_pos l with h0 | h0
            · exact h0
            · exact absurd ⟨by omega, by omega⟩ g9
          subst this
          subst hlm
          simp
          exact .ref k ver 0 0 s true b 0 q1 (Nat.le_refl _) (fun _ => rfl) (fun hl => ⟨hk, vs, T, q6, by omega, by simp⟩)
        · rw [if_neg hlm, add_at, Nat.zero_add]
          refine .ref k ver _ _ s true b _ q1 (Nat.le_refl _) (fun _ => rfl) (fun hl => ⟨hk, vs, T, q6, ?_, by simp⟩)
          rw [← Nat.add_mul, Nat.add_sub_cancel' g3]; omega
    · simp at hx
  | _ => simp at hx

theorem sliceT_rel (he : EnvRel κ h w M env a.tmps) {t : TypeId} {b : ByteArray} {lo hi : Option Operand} {lo' hi' : Option Opd} {l tt : Nat}
    (hu : P.underlying t = some .string) (h1 : cOpt lo = some lo') (h2 : cOpt hi = some hi') (b1 : bnd env lo' 0 = some l) (b2 : bnd env hi' b.size = some tt) (q1 : l ≤ tt) (q2 : tt ≤ b.size) :
    (Instr.sliceAt t (.string b) (lo.map a.eval) (hi.map a.eval) none).run P w = .ok (.string (b.extract l tt)) w := by
  have := bounds_rel (P := P) he (isS := false) (cap := b.size) (m := 0) h1 h2 (rfl : cOpt none = some none) b1 b2 (fun hm => by simp at hm) q1 q2
  simp only [Option.map_none, Option.isSome_none, Bool.false_eq_true, if_false] at this
  simp [Instr.sliceAt, r_und hu, Instr.slice, this]

/-! ## Parts -/
theorem fold_set (vs : List Value) : ∀ (cells : Array Value) (off j : Nat), off + j + vs.length ≤ cells.size →
    ((vs.zipIdx j).foldl (fun (cs : Array Value) (x : Value × Nat) => cs.setIfInBounds (off + x.2) x.1) cells).toList = setR cells.toList (off + j) vs := by
  induction vs with
  | nil => intro cells off j _; simp [setR]
  | cons v vs ih =>
    intro cells off j hle
    simp only [List.length_cons] at hle
    simp only [List.zipIdx_cons, List.foldl_cons]
    rw [ih _ _ _ (by simp; omega)]
    simp only [setR, Array.toList_setIfInBounds]
    apply List.ext_getElem?
    intro i
    simp only [List.getElem?_append, List.getElem?_take, List.getElem?_drop, List.getElem?_set, List.length_append, List.length_take, List.length_set, Array.length_toList, List.length_cons, List.getElem?_cons]
    grind

theorem setR_rel {cs vs : List AV} {us xs : List Value} {off : Nat} (h1 : Vs κ h w M cs us) (h2 : Vs κ h w M vs xs) : Vs κ h w M (setR cs off vs) (setR us off xs) := by
  have e1 := h1.length
  have e2 := h2.length
  apply Vs.of_get
  · simp [setR, e1, e2]
  · intro i c v hc hv
    simp only [setR, List.getElem?_append, List.getElem?_take, List.getElem?_drop, List.length_append, List.length_take] at hc hv
    rw [e1, e2] at hc
    split at hc
    · rename_i hlt
      rw [if_pos hlt] at hv
      split at hc
      · rename_i hlt2
        rw [if_pos hlt2] at hv
        split at hc
        · rename_i hlt3; rw [if_pos hlt3] at hv
          obtain ⟨u, q1, q2⟩ := h1.get hc; rw [q1] at hv; cases hv; exact q2
        · simp at hc
      · rename_i hlt2
        rw [if_neg hlt2] at hv
        obtain ⟨u, q1, q2⟩ := h2.get hc; rw [q1] at hv; cases hv; exact q2
    · rename_i hlt
      rw [if_neg hlt] at hv
      obtain ⟨u, q1, q2⟩ := h1.get hc; rw [q1] at hv; cases hv; exact q2

theorem setR_ones {cs vs : List AV} {off : Nat} (h1 : ∀ c ∈ cs, c.one = true) (h2 : ∀ c ∈ vs, c.one = true) : ∀ c ∈ setR cs off vs, c.one = true := by
  intro c hc
  simp only [setR, List.mem_append] at hc
  rcases hc with (hc | hc) | hc
  · exact h1 c (List.mem_of_mem_take hc)
  · exact h2 c hc
  · exact h1 c (List.mem_of_mem_drop hc)

theorem fill_rel (he : EnvRel κ h w M env a.tmps) (place : Nat → Option (Nat × Nat)) : ∀ (ps : List (Nat × Operand)) (q : List (Nat × Nat × Opd)) (cs cs' : List AV) (cells : Array Value),
    (ps.mapM fun (x : Nat × Operand) => (place x.1).bind fun (y : Nat × Nat) => (cOpd x.2).map fun o => (y.1, y.2, o)) = some q →
    Vs κ h w M cs cells.toList → (∀ c ∈ cs, c.one = true) → fillA env cs q = some cs' →
    ∃ cells', Instr.fill place cells (ps.map fun (x : Nat × Operand) => (x.1, a.eval x.2)) = some cells' ∧ Vs κ h w M cs' cells'.toList ∧ ∀ c ∈ cs', c.one = true := by
  intro ps
  induction ps with
  | nil => intro q cs cs' cells hq hv ho hf; simp at hq; subst hq; simp [fillA] at hf; subst hf; exact ⟨cells, rfl, hv, ho⟩
  | cons p ps ih =>
    intro q cs cs' cells hq hv ho hf
    simp only [List.mapM_cons, Option.bind_eq_bind, Option.bind_eq_some_iff, Option.pure_def, Option.some.injEq, Option.map_eq_some_iff] at hq
    obtain ⟨q0, ⟨⟨off, n⟩, hp, o, ho', rfl⟩, q', hq', rfl⟩ := hq
    simp only [fillA, Option.bind_eq_some_iff] at hf
    obtain ⟨vs, h1, h2⟩ := hf
    split at h2
    · rename_i hh; obtain ⟨rfl, hle⟩ := hh
      obtain ⟨h3, h4⟩ := cells_rel (opd_rel he ho') h1
      have e1 := h3.length
      have e2 := hv.length
      simp only [Array.length_toList] at e1 e2
      have h5 : ((a.eval p.2).cells.zipIdx.foldl (fun (cs : Array Value) (x : Value × Nat) => cs.setIfInBounds (off + x.2) x.1) cells).toList = setR cells.toList off (a.eval p.2).cells.toList := by
        have := fold_set (a.eval p.2).cells.toList cells off 0 (by simp; omega)
        rw [Nat.add_zero] at this
        rw [← this, ← Array.foldl_toList]
        simp [Array.toList_zipIdx]
      obtain ⟨cells', g1, g2, g3⟩ := ih q' (setR cs off vs) cs' _ hq' (by rw [h5]; exact setR_rel hv h3) (setR_ones ho h4) h2
      refine ⟨cells', ?_, g2, g3⟩
      simp only [List.map_cons, Instr.fill, hp]
      rw [if_neg (by simp; omega)]
      exact g1
    · simp at h2
end
end Go.Va
end
section
namespace Go.Va

section
variable {P : Program} {κ : Kap} {h : Hp} {w : World} {M : Nat → Prop} {M0 : Nat → Prop} {env : Nat → AV} {a : Act}

/-! ## Equality -/
theorem eqItems_rel {d e : Nat} {k : IntKind} (hu : P.underlying e = some (.int k)) : ∀ (n i : Nat) (xs ys : List PV) (us vs : Array Value) (r : Bool),
    VL w M xs (us.toList.drop i) → VL w M ys (vs.toList.drop i) → xs.length = n → ys.length = n → allInts xs = true → allInts ys = true → eqInts xs ys = some r →
    (Op.eqItems (d + 1) e 1 us vs (List.range' i n)).run P w = .ok r w := by
  intro n
  induction n with
  | zero =>
    intro i xs ys us vs r hx hy lx ly ax ay hr
    have := List.length_eq_zero_iff.1 lx; subst this
    have := List.length_eq_zero_iff.1 ly; subst this
    simp [eqInts] at hr; subst hr
    simp [Op.eqItems]
  | succ n ih =>
    intro i xs ys us vs r hx hy lx ly ax ay hr
    cases xs with
    | nil => simp at lx
    | cons x xs =>
      cases ys with
      | nil => simp at ly
      | cons y ys =>
        cases hux : us.toList.drop i with
        | nil => rw [hux] at hx; cases hx
        | cons u us' =>
          cases hvy : vs.toList.drop i with
          | nil => rw [hvy] at hy; cases hy
          | cons v vs' =>
            rw [hux] at hx; rw [hvy] at hy
            cases hx with | cons hx1 hx2 => cases hy with | cons hy1 hy2 =>
            cases hx1 <;> simp [allInts] at ax
            cases hy1 <;> simp [allInts] at ay
            rename_i k1 n1 k2 n2
            have e1 : us[i]? = some (.int k1 n1) := by
              have := congrArg (fun l : List Value => l[0]?) hux
              simpa [List.getElem?_drop] using this
            have e2 : vs[i]? = some (.int k2 n2) := by
              have := congrArg (fun l : List Value => l[0]?) hvy
              simpa [List.getElem?_drop] using this
            have d1 : us.toList.drop (i + 1) = us' := by rw [← List.drop_drop, hux]; rfl
            have d2 : vs.toList.drop (i + 1) = vs' := by rw [← List.drop_drop, hvy]; rfl
            simp only [eqInts] at hr
            split at hr
            · rename_i hk; subst hk
              have hp : P.plainKey e = true := by simp [Program.plainKey, hu]
              have pr1 : (part e us (i * 1)).run P w = .ok (.int k1 n1) w := run_part_plain w hp (by rw [Nat.mul_one]; exact e1)
              have pr2 : (part e vs (i * 1)).run P w = .ok (.int k1 n2) w := run_part_plain w hp (by rw [Nat.mul_one]; exact e2)
              simp only [List.range'_succ, Op.eqItems, Sem.run_bind, pr1, pr2, Result.andThen_ok, run_equalIn_int w d e k1 k n1 n2 hu]
              cases hn : (n1 == n2) with
              | false => rw [hn] at hr; simp at hr; subst hr; simp
              | true =>
                rw [hn] at hr; simp only [if_true] at hr
                simp only [Bool.not_true, Bool.false_eq_true, if_false]
                exact ih (i + 1) xs ys us vs r (by rw [d1]; exact hx2) (by rw [d2]; exact hy2) (by simpa using lx) (by simpa using ly) ax ay hr
            · simp at hr

theorem cellsOf_of {t : TypeId} {n : Nat} (h : szOf P t = some n) : P.cellsOf t = n := by
  unfold szOf at h; unfold Program.cellsOf; rw [h]; rfl

theorem equal_ints {t e n : Nat} {k : IntKind} (hu : P.underlying t = some (.array n e)) (hue : P.underlying e = some (.int k)) (hs : szOf P e = some 1)
    {xs ys : List PV} {us vs : Array Value} {r : Bool} (hx : VL w M xs us.toList) (hy : VL w M ys vs.toList) (lx : xs.length = n) (ly : ys.length = n) (ax : allInts xs = true) (ay : allInts ys = true) (hr : eqInts xs ys = some r) :
    (Op.equal t (.agg us) (.agg vs)).run P w = .ok r w := by
  have hi : ∃ i, P.info? e = some i := info_of_underlying hue
  obtain ⟨i, hi⟩ := hi
  show (Op.equalIn (9999 + 1) t (.agg us) (.agg vs)).run P w = _
  rw [run_equalIn_array w 9999 us vs hu hi, cellsOf_of hs, List.range_eq_range']
  exact eqItems_rel (d := 9998) hue n 0 xs ys us vs r (by simpa using hx) (by simpa using hy) lx ly ax ay hr

theorem guard_ints {t e n : Nat} {k : IntKind} (hu : P.underlying t = some (.array n e)) (hue : P.underlying e = some (.int k)) (op : BinOp) (x y : Operand) (us vs : Array Value) :
    (eqGuard op t x y (.agg us) (.agg vs)).run P w = .ok () w := by
  apply run_eqGuard_agg
  have : P.depth = (2 * (P.types.size + Made.depth)) + 1 + 1 := rfl
  rw [this]
  simp [Program.eqGuardType, hu, hue]

/-! ## Keys of maps -/
def KeyT (P : Program) (kt kk : Nat) : Prop :=
  match kk with
  | 0 => ∃ k, P.underlying kt = some (.int k)
  | 1 => P.underlying kt = some .string
  | n + 2 => ∃ e k, P.underlying kt = some (.array n e) ∧ P.underlying e = some (.int k) ∧ szOf P e = some 1
theorem keyKind_rel {kt kk : Nat} (hk : keyKind P kt = some kk) : KeyT P kt kk := by
  unfold keyKind at hk
  simp only [Option.bind_eq_some_iff] at hk
  obtain ⟨d, hd, hk⟩ := hk
  split at hk
  · simp at hk; subst hk; exact ⟨_, hd⟩
  · simp at hk; subst hk; exact hd
  · rename_i n e
    simp only [Option.bind_eq_some_iff] at hk
    obtain ⟨d', hd', hk⟩ := hk
    split at hk
    · split at hk
      · simp at hk; subst hk; exact ⟨e, _, hd, hd', by assumption⟩
      · simp at hk
    · simp at hk
  · simp at hk

/-- What was found stands for what was found. -/
def Found (w : World) (M : Nat → Prop) : Option PV → Option (Nat × Value) → Prop
  | none, none => True
  | some p, some (_, v) => VP w M p v
  | _, _ => False

theorem findAsk_rel {kt kk : Nat} (hT : KeyT P kt kk) {n : Nat} (hn : kk = n + 2) {kp : PV} {kv : Value} (hk : VP w M kp kv) : ∀ {es : List (PV × PV)} {ces : List MapEntry} (i : Nat) {r : Option PV}, EntRel w M es ces →
    mapFind kk kp es = some r → (∃ x, (Instr.findAsking kt kv ces i).run P w = .ok x w ∧ Found w M r x) := by
  intro es ces i r he hf
  induction he generalizing i with
  | nil => simp [mapFind] at hf; subst hf; exact ⟨none, by simp [Instr.findAsking], trivial⟩
  | @cons ka va e es ces h1 h2 h3 ih =>
    simp only [mapFind, Option.bind_eq_some_iff] at hf
    obtain ⟨b, hb, hf⟩ := hf
    subst hn
    obtain ⟨el, k, q1, q2, q3⟩ := hT
    have heq : (Op.equal kt kv e.key).run P w = .ok b w := by
      cases hk with
      | agg xs us hl _ =>
        cases hkk : e.key with
        | agg vs =>
          rw [hkk] at h1
          cases h1 with
          | agg ys _ hl' _ =>
            simp only [sameK] at hb
            split at hb
            · rename_i hh; obtain ⟨g1, g2, g3, g4⟩ := hh
              exact equal_ints q1 q2 q3 hl hl' g1 g2 g3 g4 hb
            · simp at hb
        | _ => rw [hkk] at h1; cases h1 <;> simp [sameK] at hb
      | _ => simp [sameK] at hb
    simp only [Instr.findAsking, Sem.run_bind, heq, Result.andThen_ok, Sem.run_ite]
    cases b with
    | true => simp at hf; subst hf; exact ⟨_, rfl, h2⟩
    | false => simp only [Bool.false_eq_true, if_false] at hf ⊢; exact ih (i + 1) hf

theorem findNow_rel {kt kk : Nat} (hT : KeyT P kt kk) {kp : PV} {kv : Value} (hk : VP w M kp kv) (hg : goodK kk kp = true) {d : TypeDesc} (hd : P.underlying kt = some d) (hlt : kk < 2) :
    ∀ {es : List (PV × PV)} {ces : List MapEntry} (i : Nat) {r : Option PV}, EntRel w M es ces →
    mapFind kk kp es = some r → (∃ x, Instr.findNow d kv ces i = some x ∧ Found w M r x) := by
  intro es ces i r he hf
  induction he generalizing i with
  | nil => simp [mapFind] at hf; subst hf; exact ⟨none, by simp [Instr.findNow], trivial⟩
  | @cons ka va e es ces h1 h2 h3 ih =>
    simp only [mapFind, Option.bind_eq_some_iff] at hf
    obtain ⟨b, hb, hf⟩ := hf
    have hs : Instr.sameNow d kv e.key = some b := by
      match kk, hlt with
      | 0, _ =>
        obtain ⟨k, hk'⟩ := hT
        rw [hd] at hk'; cases hk'
        cases hk <;> simp [goodK] at hg
        cases hkk : e.key <;> rw [hkk] at h1 <;> cases h1 <;> simp [sameK] at hb
        simp [Instr.sameNow, hb]
      | 1, _ =>
        have hT' : P.underlying kt = some .string := hT
        rw [hd] at hT'; cases hT'
        cases hk <;> simp [goodK] at hg
        cases hkk : e.key <;> rw [hkk] at h1 <;> cases h1 <;> simp [sameK] at hb
        simp [Instr.sameNow, hb]
    simp only [Instr.findNow, hs]
    cases b with
    | true => simp at hf; subst hf; exact ⟨_, rfl, h2⟩
    | false => simp only [Bool.false_eq_true, if_false] at hf ⊢; exact ih (i + 1) hf

theorem find_rel {kt kk : Nat} (hT : KeyT P kt kk) {kp : PV} {kv : Value} (hk : VP w M kp kv) (hg : goodK kk kp = true) {es : List (PV × PV)} {ces : List MapEntry} {r : Option PV} (he : EntRel w M es ces)
    (hf : mapFind kk kp es = some r) : ∃ x, (Instr.findKey kt kv ces).run P w = .ok x w ∧ Found w M r x := by
  match kk with
  | 0 =>
    obtain ⟨k, hd⟩ := hT
    obtain ⟨x, h1, h2⟩ := findNow_rel (kk := 0) (P := P) ⟨k, hd⟩ hk hg hd (by omega) 0 he hf
    exact ⟨x, by simp [Instr.findKey, r_und hd, h1], h2⟩
  | 1 =>
    obtain ⟨x, h1, h2⟩ := findNow_rel (kk := 1) (P := P) hT hk hg hT (by omega) 0 he hf
    exact ⟨x, by simp [Instr.findKey, r_und (show P.underlying kt = some .string from hT), h1], h2⟩
  | n + 2 =>
    have hd := hT
    obtain ⟨e, k, q1, _, _⟩ := hd
    cases ces with
    | nil =>
      cases he
      simp [mapFind] at hf; subst hf
      exact ⟨none, by simp [Instr.findKey, r_und q1, Instr.findNow], trivial⟩
    | cons c ces =>
      have hsn : Instr.sameNow (.array n e) kv c.key = none := by cases kv <;> simp [Instr.sameNow]
      obtain ⟨x, h1, h2⟩ := findAsk_rel hT rfl hk 0 he hf
      exact ⟨x, by simp [Instr.findKey, r_und q1, Instr.findNow, hsn, h1], h2⟩

theorem checkKey_arr {kt e n : Nat} {k : IntKind} (q1 : P.underlying kt = some (.array n e)) (q2 : P.underlying e = some (.int k)) (q3 : szOf P e = some 1) {xs : List PV} {us : Array Value} (hl : VL w M xs us.toList)
    (lx : xs.length = n) (ax : allInts xs = true) (em : Bool) (D : Nat) (hD : ∀ (k1 : IntKind) (n1 : Int), (Instr.checkKey em D e (.int k1 n1)).run P w = .ok () w) : (Instr.checkKey em (D + 1) kt (.agg us)).run P w = .ok () w := by
  simp only [Instr.checkKey, Sem.run_bind, r_und q1, Result.andThen_ok]
  simp only [Std.Legacy.Range.forIn_eq_forIn_range', Std.Legacy.Range.size, Nat.sub_zero, Nat.add_one_sub_one, Nat.div_one]
  have key : ∀ (m i : Nat) (xs : List PV), VL w M xs (us.toList.drop i) → xs.length = m → allInts xs = true →
      (forIn (List.range' i m) PUnit.unit (fun j (_ : PUnit) => do Instr.checkKey em D e (← part e us (j * (← sizeOf e))); pure (ForInStep.yield PUnit.unit)) : Sem PUnit).run P w = .ok PUnit.unit w := by
    intro m
    induction m with
    | zero => intro i xs _ _ _; simp
    | succ m ih =>
      intro i xs hx lx ax
      cases xs with
      | nil => simp at lx
      | cons x xs =>
        cases hux : us.toList.drop i with
        | nil => rw [hux] at hx; cases hx
        | cons u us' =>
          rw [hux] at hx
          cases hx with | cons hx1 hx2 =>
          cases hx1 <;> simp [allInts] at ax
          rename_i k1 n1
          have e1 : us[i]? = some (.int k1 n1) := by
            have := congrArg (fun l : List Value => l[0]?) hux
            simpa [List.getElem?_drop] using this
          have d1 : us.toList.drop (i + 1) = us' := by rw [← List.drop_drop, hux]; rfl
          have hp : P.plainKey e = true := by simp [Program.plainKey, q2]
          have pr1 : (part e us (i * 1)).run P w = .ok (.int k1 n1) w := run_part_plain w hp (by rw [Nat.mul_one]; exact e1)
          simp only [List.range'_succ, List.forIn_cons, Sem.run_bind, r_size q3, Result.andThen_ok, pr1, hD, Sem.run_pure]
          exact ih (i + 1) xs (by rw [d1]; exact hx2) (by simpa using lx) ax
  have := key n 0 xs (by simpa using hl) lx ax
  simp only [bind_pure_comp] at this ⊢
  first | (rw [this]; rfl) | (simp at this ⊢; rw [this]; rfl)

theorem checkKey_rel {kt kk : Nat} (hT : KeyT P kt kk) {kp : PV} {kv : Value} (hk : VP w M kp kv) (hg : goodK kk kp = true) (em : Bool) (N : Nat) : (Instr.checkKey em (N + 2) kt kv).run P w = .ok () w := by
  match kk with
  | 0 =>
    obtain ⟨k, hd⟩ := hT
    cases hk <;> simp [goodK] at hg
    simp [Instr.checkKey, r_und hd]
  | 1 =>
    have hd : P.underlying kt = some .string := hT
    cases hk <;> simp [goodK] at hg
    simp [Instr.checkKey, r_und hd]
  | n + 2 =>
    obtain ⟨e, k, q1, q2, q3⟩ := hT
    cases hk with
    | agg xs us hl ho =>
      simp only [goodK, Bool.and_eq_true, beq_iff_eq] at hg
      exact checkKey_arr q1 q2 q3 hl hg.1 hg.2 em (N + 1) (fun k1 n1 => by simp [Instr.checkKey, r_und q2])
    | _ => simp [goodK] at hg

theorem mapAt_some {k : Key} {ver : Nat} {es : List (PV × PV)} (hc : h.mapAt k ver = some es) : (h.get k).ver = ver ∧ (h.get k).obj = some (.amap es) := by
  unfold Hp.mapAt Hp.live HE.live at hc
  split at hc
  · rename_i cs' heq; split at heq
    · rename_i hv; simp at hc; subst hc; exact ⟨hv, heq⟩
    · simp at heq
  · simp at hc
theorem map_row (hr : RelH κ h w M0) {k : Key} {ver b : Nat} {es : List (PV × PV)} (hc : h.mapAt k ver = some es) (hb : Lives h k ver → κ k = some b) :
    ∃ ces clock, w.heap[b]? = some (Obj.map ces clock) ∧ EntRel w (Mx κ h M0) es ces.toList := by
  obtain ⟨h1, h2⟩ := mapAt_some hc
  obtain ⟨b', ces, clock, h3, h4, h5, _⟩ := hr.obj k _ h2
  rw [hb ⟨h1, by rw [h2]; rfl⟩] at h3; cases h3
  exact ⟨ces, clock, h4, h5⟩

theorem run_getObj_map {b : Nat} {ces : Array MapEntry} {clock : Nat} (hb : w.heap[b]? = some (Obj.map ces clock)) : (getObj b).run P w = .ok (Obj.map ces clock) w := by
  simp [getObj, Sem.run, hb]

theorem zero_rel {e : TypeId} {z : List PV} {zagg : Bool} (hz : zeroPV P e = some z) (hg : isAggT P e = some zagg) (hga : zeroPVagg P e = some zagg) {zv : PV}
    (hzv : zeroOf zagg z = some zv) : ∃ v, (zeroValue e).run P w = .ok v w ∧ VP w M zv v := by
  unfold zeroPV at hz
  unfold zeroPVagg at hga
  simp only [Option.bind_eq_some_iff] at hz hga
  obtain ⟨i, hi, v, hv, hz⟩ := hz
  obtain ⟨i', hi', hga⟩ := hga
  rw [hi] at hi'; cases hi'
  rw [hv] at hga
  refine ⟨v, r_zero hi hv, ?_⟩
  obtain ⟨q1, q2⟩ := mapM_cellPV (w := w) (M := M) hz
  cases v with
  | agg cs => simp at hga; subst hga; simp [zeroOf] at hzv; subst hzv; exact .agg _ _ q1 q2
  | _ =>
    simp at hga; subst hga
    simp only [zeroOf, Bool.false_eq_true, if_false] at hzv
    simp only [Value.cells] at q1
    split at hzv
    · simp at hzv; subst hzv; cases q1 with | cons q3 _ => exact q3
    · simp at hzv

theorem lookup_rel (hr : RelH κ h w M0) {t kt e : TypeId} {kk : Nat} {z : List PV} {zagg ok : Bool} {key : Key} {ver : Nat} {kv : PV} {mv kvv : Value} {es : List (PV × PV)} {r : AV}
    (hu : P.underlying t = some (.map kt e)) (hk : keyKind P kt = some kk) (hz : zeroPV P e = some z) (hg : isAggT P e = some zagg) (hga : zeroPVagg P e = some zagg)
    (hm : V κ h w (Mx κ h M0) (.map key ver) mv) (hkv : VP w (Mx κ h M0) kv kvv) (hes : h.mapAt key ver = some es) (hgk : goodK kk kv = true) {q : Option PV} (hq : mapFind kk kv es = some q)
    (hres : lkRes ok zagg z q = some r) :
    ∃ u, (Instr.lookup t mv kvv ok).run P w = .ok u w ∧ V κ h w (Mx κ h M0) r u := by
  cases hm with
  | map _ _ b h1 h2 =>
    obtain ⟨ces, clock, h3, h4⟩ := map_row hr hes h2
    have hT := keyKind_rel hk
    obtain ⟨x, h5, h6⟩ := find_rel hT hkv hgk h4 hq
    have h7 : (Instr.checkKey ces.isEmpty 10000 kt kvv).run P w = .ok () w := checkKey_rel (P := P) hT hkv hgk ces.isEmpty 9998
    cases q with
    | some p =>
      cases x with
      | none => exact h6.elim
      | some iv =>
        obtain ⟨i, v⟩ := iv
        have h6 : VP w (Mx κ h M0) p v := h6
        simp only [lkRes, Option.some.injEq] at hres
        subst hres
        refine ⟨if ok then .tuple #[v, .bool true] else v, by simp [Instr.lookup, r_und hu, run_getObj_map h3, h7, h5], ?_⟩
        cases ok with
        | true => simp; exact .p (.tup _ _ (.cons h6 (.cons (.bool _) .nil)))
        | false => simp; exact .p h6
    | none =>
      cases x with
      | some iv => exact h6.elim
      | none =>
        simp only [lkRes, Option.map_eq_some_iff] at hres
        obtain ⟨zv, hzv, rfl⟩ := hres
        obtain ⟨v, h8, h9⟩ := zero_rel (w := w) (M := Mx κ h M0) hz hg hga hzv
        refine ⟨if ok then .tuple #[v, .bool false] else v, by simp [Instr.lookup, r_und hu, run_getObj_map h3, h7, h5, h8], ?_⟩
        cases ok with
        | true => simp; exact .p (.tup _ _ (.cons h9 (.cons (.bool _) .nil)))
        | false => simp; exact .p h9
end
end Go.Va
end
section
namespace Go.Va

section
variable {P : Program} {κ : Kap} {h : Hp} {w : World} {M : Nat → Prop} {M0 : Nat → Prop} {env : Nat → AV} {a : Act}

theorem bool_inv {x : AV} {v : Value} {b : Bool} (hv : V κ h w M x v) (hx : x = .p (.bool b)) : v = .bool b := by
  subst hx; cases hv with | p hp => cases hp; rfl
theorem str_inv {x : AV} {v : Value} {b : ByteArray} (hv : V κ h w M x v) (hx : x = .p (.str b)) : v = .string b := by
  subst hx; cases hv with | p hp => cases hp; rfl
theorem int_inv {x : AV} {v : Value} {k : IntKind} {n : Int} (hv : V κ h w M x v) (hx : x = .p (.int k n)) : v = .int k n := by
  subst hx; cases hv with | p hp => cases hp; rfl

theorem part_rel {t : TypeId} {g : Bool} {n off : Nat} (hg : isAggT P t = some g) (hn : szOf P t = some n) {x r : AV} {v : Value} (hv : V κ h w M x v) (hr : partA g off (if g then n else 1) x = some r) :
    ∃ vs u, v = .agg vs ∧ (part t vs off).run P w = .ok u w ∧ V κ h w M r u := by
  unfold partA at hr
  split at hr
  · rename_i cs
    by_cases hle : off + (if g then n else 1) ≤ cs.length
    · rw [if_pos hle] at hr
      obtain ⟨vs, rfl, h1, h2⟩ := agg_inv hv rfl
      have e : ((cs.drop off).take (if g then n else 1)).map AV.p = ((cs.map AV.p).drop off).take (if g then n else 1) := by simp
      rw [e] at hr
      obtain ⟨u, h3, h4⟩ := r_part hg hn h1 h2 (by simpa using hle) hr
      exact ⟨vs, u, rfl, h3, h4⟩
    · rw [if_neg hle] at hr; cases hr
  · rename_i cs
    by_cases hle : off + (if g then n else 1) ≤ cs.length
    · rw [if_pos hle] at hr
      obtain ⟨vs, rfl, h1, h2⟩ := aggA_inv hv rfl
      obtain ⟨u, h3, h4⟩ := r_part hg hn h1 h2 hle hr
      exact ⟨vs, u, rfl, h3, h4⟩
    · rw [if_neg hle] at hr; cases hr
  · simp at hr

theorem max_rel {k : IntKind} : ∀ {l : List AV} {us : List Value} {x m : Int}, Vs κ h w M l us → maxI k x l = some m → (us.foldlM Builtin.max2 (.int k x)).run P w = .ok (.int k m) w
  | [], us, x, m, hv, hm => by cases hv; simp [maxI] at hm; subst hm; simp
  | c :: l, us, x, m, hv, hm => by
    cases hv with
    | cons h1 h2 =>
      unfold maxI at hm
      split at hm
      · simp at *
      · rename_i heq
        simp at heq
        obtain ⟨rfl, rfl⟩ := heq
        split at hm
        · rename_i hk; subst hk
          have := int_inv h1 rfl; subst this
          simp only [List.foldlM_cons, Sem.run_bind, Builtin.max2, Sem.run_pure, Result.andThen_ok]
          exact max_rel h2 hm
        · simp at hm
      · simp at hm
theorem min_rel {k : IntKind} : ∀ {l : List AV} {us : List Value} {x m : Int}, Vs κ h w M l us → minI k x l = some m → (us.foldlM Builtin.min2 (.int k x)).run P w = .ok (.int k m) w
  | [], us, x, m, hv, hm => by cases hv; simp [minI] at hm; subst hm; simp
  | c :: l, us, x, m, hv, hm => by
    cases hv with
    | cons h1 h2 =>
      unfold minI at hm
      split at hm
      · simp at *
      · rename_i heq
        simp at heq
        obtain ⟨rfl, rfl⟩ := heq
        split at hm
        · rename_i hk; subst hk
          have := int_inv h1 rfl; subst this
          simp only [List.foldlM_cons, Sem.run_bind, Builtin.min2, Sem.run_pure, Result.andThen_ok]
          exact min_rel h2 hm
        · simp at hm
      · simp at hm

theorem EntRel.length {es : List (PV × PV)} {ces : List MapEntry} (h : EntRel w M es ces) : es.length = ces.length := by
  induction h with
  | nil => rfl
  | cons _ _ _ ih => simp [ih]

/-- What a builtin that only looks owes. -/
theorem builtin_rel (hr : RelH κ h w M0) (he : EnvRel κ h w (Mx κ h M0) env a.tmps) {b : Builtin} {ts : Array TypeId} {args : Array Operand} {os : List Opd} {ao : AOp} {r : AV} (ha : cOpds args = some os)
    (hc : cBuiltin P b ts.toList os = some ao) (hp : pureOp env h ao = some r) (ty : TypeId) (cs : Array Bool) :
    ∃ u, (builtin b ts ty cs (args.map a.eval)).run P w = .ok (.value u) w ∧ V κ h w (Mx κ h M0) r u := by
  have hl := opdsA_rel he ha
  generalize hargs : args.map a.eval = av at hl
  unfold cBuiltin at hc
  split at hc
  · -- len
    rename_i t x hts
    have hts' : ts[0]? = some t := by have := congrArg (fun l : List Nat => l[0]?) hts; simpa using this
    cases hl' : av.toList with
    | nil => rw [hl'] at hl; cases hl
    | cons v0 r0 =>
      rw [hl'] at hl
      cases hl with
      | cons hv _ =>
        have hv : V κ h w (Mx κ h M0) (x.ev env) v0 := hv
        have hav : av[0]? = some v0 := by have := congrArg (fun l : List Value => l[0]?) hl'; simpa using this
        simp only [Option.bind_eq_some_iff] at hc
        obtain ⟨d, hd, hc⟩ := hc
        split at hc
        · simp at hc; subst hc
          simp only [pureOp] at hp
          split at hp
          · rename_i bb heq
            simp at hp; subst hp
            have := str_inv hv heq; subst this
            exact ⟨_, by simp [builtin, Builtin.len_, hts', hav, r_und hd]; rfl, g_int⟩
          · simp at hp
        · simp at hc; subst hc
          simp only [pureOp] at hp
          split at hp
          · rename_i fl n cs' heq
            simp at hp; subst hp
            rw [heq] at hv
            cases hv with
            | p hv' => cases hv' <;> exact ⟨_, by simp [builtin, Builtin.len_, hts', hav, r_und hd]; rfl, g_int⟩
          · rename_i heq
            simp at hp; subst hp
            rw [heq] at hv
            cases hv <;> exact ⟨_, by simp [builtin, Builtin.len_, hts', hav, r_und hd]; rfl, g_int⟩
          · simp at hp
        · simp at hc; subst hc
          simp only [pureOp] at hp
          simp at hp; subst hp
          exact ⟨_, by simp [builtin, Builtin.len_, hts', hav, r_und hd]; rfl, g_int⟩
        · simp at hc; subst hc
          simp only [pureOp] at hp
          split at hp
          · rename_i key ver heq
            simp only [Option.map_eq_some_iff] at hp
            obtain ⟨es, hes, rfl⟩ := hp
            rw [heq] at hv
            cases hv with
            | map _ _ b' h1 h2 =>
              obtain ⟨ces, clock, h3, h4⟩ := map_row hr hes h2
              have hlen : es.length = ces.size := by rw [← Array.length_toList]; exact h4.length
              refine ⟨.int .i64 ces.size, by simp [builtin, Builtin.len_, hts', hav, r_und hd, run_getObj_map h3]; rfl, ?_⟩
              rw [hlen]; exact g_int
          · simp at hp
        · simp at hc
  · -- append
    simp only [Option.bind_eq_some_iff] at hc
    obtain ⟨d, hd, hc⟩ := hc
    split at hc
    · simp only [Option.bind_eq_some_iff] at hc
      obtain ⟨d', hd', hc⟩ := hc
      split at hc
      · simp only [Option.bind_eq_some_iff] at hc
        obtain ⟨i, hi, z, hz, hc⟩ := hc
        split at hc
        · simp at hc; subst hc; simp [pureOp] at hp
        · simp at hc
      · simp at hc
    · simp at hc
  · simp only [Option.bind_eq_some_iff] at hc
    obtain ⟨d, hd, hc⟩ := hc
    split at hc
    · simp only [Option.map_eq_some_iff] at hc
      obtain ⟨s, _, rfl⟩ := hc; simp [pureOp] at hp
    · simp at hc
  · simp only [Option.bind_eq_some_iff] at hc
    obtain ⟨d, hd, hc⟩ := hc
    split at hc
    · simp only [Option.bind_eq_some_iff, Option.map_eq_some_iff] at hc
      obtain ⟨s, _, z, _, rfl⟩ := hc; simp [pureOp] at hp
    · simp at hc
  · simp at hc; subst hc
    simp only [pureOp] at hp
    split at hp
    · rename_i k x rest heq
      simp only [Option.map_eq_some_iff] at hp
      obtain ⟨m, hm, rfl⟩ := hp
      rw [heq] at hl
      cases hl' : av.toList with
      | nil => rw [hl'] at hl; cases hl
      | cons v0 r0 =>
        rw [hl'] at hl
        cases hl with
        | cons h1 h2 =>
          have := int_inv h1 rfl; subst this
          exact ⟨_, by simp [builtin, Builtin.max_, hl', max_rel h2 hm], g_int⟩
    · simp at hp
  · simp at hc; subst hc
    simp only [pureOp] at hp
    split at hp
    · rename_i k x rest heq
      simp only [Option.map_eq_some_iff] at hp
      obtain ⟨m, hm, rfl⟩ := hp
      rw [heq] at hl
      cases hl' : av.toList with
      | nil => rw [hl'] at hl; cases hl
      | cons v0 r0 =>
        rw [hl'] at hl
        cases hl with
        | cons h1 h2 =>
          have := int_inv h1 rfl; subst this
          exact ⟨_, by simp [builtin, Builtin.min_, hl', min_rel h2 hm], g_int⟩
    · simp at hp
  · simp at hc

theorem places_rel {fs : List Field} {pl : List (Nat × Nat)} (hp : (fs.mapM fun f => (szOf P f.type).map fun s => (f.offset, s)) = some pl) :
    (fs.mapM fun f => (do pure (f.offset, ← sizeOf f.type) : Sem (Nat × Nat))).run P w = .ok pl w := by
  induction fs generalizing pl with
  | nil => simp at hp; subst hp; simp
  | cons f fs ih =>
    simp only [List.mapM_cons, Option.bind_eq_bind, Option.bind_eq_some_iff, Option.pure_def, Option.some.injEq, Option.map_eq_some_iff] at hp
    obtain ⟨q, ⟨s, hs, rfl⟩, pl', hpl, rfl⟩ := hp
    have := ih hpl
    simp only [List.mapM_cons, Sem.run_bind, r_size hs, Result.andThen_ok, Sem.run_pure, this]

theorem zeros_rel {t : TypeId} {z : List PV} (hz : zeroPV P t = some z) : ∃ v, (zeroValue t).run P w = .ok v w ∧ VL w M z v.cells.toList ∧ ∀ x ∈ z, x.one = true := by
  unfold zeroPV at hz
  simp only [Option.bind_eq_some_iff] at hz
  obtain ⟨i, hi, v, hv, hz⟩ := hz
  obtain ⟨q1, q2⟩ := mapM_cellPV (w := w) (M := M) hz
  exact ⟨v, r_zero hi hv, q1, q2⟩

theorem build_rel (he : EnvRel κ h w M env a.tmps) {t : TypeId} {ps : Array (Nat × Operand)} {ao : AOp} {r : AV} (hc : compOp P (.build t ps) = some ao) (hp : pureOp env h ao = some r) :
    ∃ u, (Instr.build t (ps.map fun (x : Nat × Operand) => (x.1, a.eval x.2))).run P w = .ok u w ∧ V κ h w M r u := by
  simp only [compOp, Option.bind_eq_some_iff] at hc
  obtain ⟨z, hz, d, hd, hc⟩ := hc
  obtain ⟨zv, hzr, hzl, hzo⟩ := zeros_rel (w := w) (M := M) hz
  have hzo' : ∀ c ∈ z.map AV.p, c.one = true := by intro c hc; simp at hc; obtain ⟨x, h1, rfl⟩ := hc; exact hzo x h1
  split at hc
  · rename_i fs
    simp only [Option.bind_eq_some_iff, Option.map_eq_some_iff] at hc
    obtain ⟨pl, hpl, q, hq, rfl⟩ := hc
    simp only [pureOp, Option.map_eq_some_iff] at hp
    obtain ⟨cs, hcs, rfl⟩ := hp
    obtain ⟨cells', h1, h2, h3⟩ := fill_rel he (pl[·]?) ps.toList q _ cs zv.cells (by simpa [cParts] using hq) (Vs.of_VL hzl) hzo' hcs
    refine ⟨.agg cells', ?_, mkAgg_rel h2 h3⟩
    have hpl' := places_rel (P := P) (w := w) hpl
    have : (fs.mapM fun f => (do pure (f.offset, ← sizeOf f.type) : Sem (Nat × Nat))).run P w = .ok pl.toArray w := by
      rw [Array.mapM_eq_mapM_toList]
      simp only [Sem.run_map, hpl', Result.andThen_ok]
    simp only [Instr.build, Sem.run_bind, hzr, r_und hd, Result.andThen_ok, this, Array.toList_map]
    simp [h1]
  · rename_i n e
    simp only [Option.bind_eq_some_iff, Option.map_eq_some_iff] at hc
    obtain ⟨s, hs, q, hq, rfl⟩ := hc
    simp only [pureOp, Option.map_eq_some_iff] at hp
    obtain ⟨cs, hcs, rfl⟩ := hp
    obtain ⟨cells', h1, h2, h3⟩ := fill_rel he (fun i => some (i * s, s)) ps.toList q _ cs zv.cells (by simpa [cParts] using hq) (Vs.of_VL hzl) hzo' hcs
    refine ⟨.agg cells', ?_, mkAgg_rel h2 h3⟩
    simp only [Instr.build, Sem.run_bind, hzr, r_und hd, Result.andThen_ok, r_size hs, Array.toList_map]
    simp [h1]
  · simp at hc

end
end Go.Va
end
section
namespace Go.Va

section
variable {P : Program} {κ : Kap} {h : Hp} {w : World} {M0 : Nat → Prop} {env : Nat → AV} {a : Act}

theorem pure_rel (hr : RelH κ h w M0) (he : EnvRel κ h w (Mx κ h M0) env a.tmps) {o : Oper} {ao : AOp} {r : AV}
    (hc : compOp P o.op = some ao) (hp : pureOp env h ao = some r) : ∃ v, (execOp a.eval o).run P w = .ok (.value v) w ∧ V κ h w (Mx κ h M0) r v := by
  obtain ⟨dst, op, ty, pos, after, guard⟩ := o
  simp only at hc
  cases op with
  | move x =>
    simp only [compOp, Option.map_eq_some_iff] at hc; obtain ⟨x', h1, rfl⟩ := hc
    simp [pureOp] at hp; subst hp
    exact ⟨_, by simp [execOp], opd_rel he h1⟩
  | assign x =>
    simp only [compOp, Option.map_eq_some_iff] at hc; obtain ⟨x', h1, rfl⟩ := hc
    simp [pureOp] at hp; subst hp
    exact ⟨_, by simp [execOp], opd_rel he h1⟩
  | pick c x y =>
    simp only [compOp, Option.bind_eq_some_iff, Option.map_eq_some_iff] at hc
    obtain ⟨c', h1, x', h2, y', h3, rfl⟩ := hc
    simp only [pureOp] at hp
    split at hp
    · rename_i t heq
      simp at hp; subst hp
      have := bool_inv (opd_rel he h1) heq
      refine ⟨if t then a.eval x else a.eval y, by simp [execOp, this, asBool], ?_⟩
      cases t
      · exact opd_rel he h3
      · exact opd_rel he h2
    · simp at hp
  | build t ps =>
    obtain ⟨u, h1, h2⟩ := build_rel he hc hp
    exact ⟨u, by simp only [execOp, Sem.run_bind, h1]; rfl, h2⟩
  | load t x =>
    simp only [compOp, Option.bind_eq_some_iff, Option.map_eq_some_iff] at hc
    obtain ⟨g, h1, n, h2, x', h3, rfl⟩ := hc
    simp only [pureOp, Option.bind_eq_some_iff] at hp
    obtain ⟨cs, h4, h5⟩ := hp
    obtain ⟨ad, u, h6, h7, h8⟩ := loadVar_rel (P := P) hr h1 h2 (opd_rel he h3) h4 h5
    exact ⟨u, by simp [execOp, Instr.loadAt, h6, Instr.sureAddr, h7], h8⟩
  | nilCheck x =>
    simp only [compOp, Option.map_eq_some_iff] at hc; obtain ⟨x', h1, rfl⟩ := hc
    have hv := opd_rel he h1
    simp only [pureOp] at hp
    split at hp
    · rename_i k ver off heq
      simp at hp; subst hp
      rw [heq] at hv
      generalize hev : a.eval x = v at hv
      cases hv with
      | ptr _ _ _ b q1 q2 => exact ⟨_, by simp [execOp, hev], .ptr _ _ _ b q1 q2⟩
    · rename_i cs heq
      simp at hp; subst hp
      rw [heq] at hv
      generalize hev : a.eval x = v at hv
      cases hv with
      | p hv => cases hv with
        | cptr _ b o q1 q2 => exact ⟨_, by simp [execOp, hev], .p (.cptr _ b o q1 q2)⟩
        | cptr0 b o => exact ⟨_, by simp [execOp, hev], .p (.cptr0 b o)⟩
    · rename_i f x1 x2 heq
      simp at hp; subst hp
      rw [heq] at hv
      generalize hev : a.eval x = v at hv
      cases hv with
      | p hv => cases hv with
        | func _ _ _ x' y' q1 q2 => exact ⟨_, by simp [execOp, hev], .p (.func _ _ _ x' y' q1 q2)⟩
    · rename_i f x1 x2 heq
      simp at hp; subst hp
      rw [heq] at hv
      generalize hev : a.eval x = v at hv
      cases hv with
      | func _ _ _ x' y' q1 q2 => exact ⟨_, by simp [execOp, hev], .func _ _ _ x' y' q1 q2⟩
    · simp at hp
  | binOp op t x y yt =>
    simp only [compOp, Option.bind_eq_some_iff] at hc
    obtain ⟨x', h1, y', h2, hc⟩ := hc
    have hx := opd_rel he h1
    have hy := opd_rel he h2
    have plain : pureOp env h (.bin op x' y') = some r → ∃ v, (execOp a.eval ⟨dst, .binOp op t x y yt, ty, pos, after, guard⟩).run P w = .ok (.value v) w ∧ V κ h w (Mx κ h M0) r v := by
      intro hp
      simp only [pureOp] at hp
      split at hp
      · rename_i p q e1 e2
        simp only [Option.map_eq_some_iff] at hp
        obtain ⟨z, hz, rfl⟩ := hp
        rw [e1] at hx; rw [e2] at hy
        generalize hev1 : a.eval x = u at hx
        generalize hev2 : a.eval y = v at hy
        cases hx with | p hx => cases hy with | p hy =>
        obtain ⟨zv, h3, h4⟩ := bin_rel (P := P) (op := op) (t := t) hx hy hz
        have hg : (eqGuard op t x y u v).run P w = .ok () w := by
          cases hx <;> (try (simp [binPV] at hz; done)) <;> cases hy <;> (try (simp [binPV] at hz; done)) <;> first | exact guard_int | exact guard_str
        exact ⟨zv, by simp [execOp, hev1, hev2, hg, h3], .p h4⟩
      · simp at hp
    have eqs : ∀ neg : Bool, op = (if neg then .neq else .eql) → cEq P t neg x' y' = some ao → ∃ v, (execOp a.eval ⟨dst, .binOp op t x y yt, ty, pos, after, guard⟩).run P w = .ok (.value v) w ∧ V κ h w (Mx κ h M0) r v := by
      intro neg hop hc
      simp only [cEq, Option.bind_eq_some_iff] at hc
      obtain ⟨d, hd, hc⟩ := hc
      split at hc
      · simp at hc; subst hc
        simp only [pureOp] at hp
        split at hp
        · rename_i p q e1 e2
          simp at hp; subst hp
          have ex := bool_inv hx e1
          have ey := bool_inv hy e2
          have he2 : (Op.equal t (.bool p) (.bool q)).run P w = .ok (p == q) w := run_equalIn_bool' w 9999 t p q hd
          subst hop
          cases neg with
          | false => exact ⟨.bool (p == q), by simp [execOp, ex, ey, guard_bool, binOp, he2], g_bool⟩
          | true => exact ⟨.bool (!(p == q)), by simp [execOp, ex, ey, guard_bool, binOp, he2], g_bool⟩
        · simp at hp
      · simp at hc; subst hc; exact plain (by rw [hop]; exact hp)
      · simp at hc; subst hc; exact plain (by rw [hop]; exact hp)
      · split at hc
        · simp at hc; subst hc
          have hy' : a.eval y = .slice none 0 0 := by
            generalize a.eval y = yv at hy
            cases hy with | p hy => cases hy with
            | frz0 _ _ A cap q1 q2 => obtain ⟨q2, _, q3⟩ := q2; rw [q2, q3]
            | frz _ _ _ b o cap q1 q2 q3 q4 => obtain ⟨q2, _, _⟩ := q2; cases q2
          have fin : ∀ (A : Option Addr) (n cap : Nat), a.eval x = .slice A n cap → ∃ v, (execOp a.eval ⟨dst, .binOp op t x y yt, ty, pos, after, guard⟩).run P w = .ok (.value v) w ∧
              V κ h w (Mx κ h M0) (.p (.bool (if neg then A.isSome else A.isNone))) v := by
            intro A n cap hev
            have he2 : (Op.equal t (.slice A n cap) (.slice none 0 0)).run P w = .ok A.isNone w := by
              show (Op.equalIn (9999 + 1) t (.slice A n cap) (.slice none 0 0)).run P w = _
              generalize 9999 = D
              cases A <;> simp [Op.equalIn, r_und hd]
            subst hop
            cases neg with
            | false => exact ⟨.bool A.isNone, by simp [execOp, hev, hy', guard_slice, binOp, he2], g_bool⟩
            | true => exact ⟨.bool (!A.isNone), by simp [execOp, hev, hy', guard_slice, binOp, he2], by cases A <;> exact g_bool⟩
          simp only [pureOp] at hp
          split at hp
          · rename_i heq
            simp at hp; subst hp
            rw [heq] at hx
            generalize hev : a.eval x = u at hx
            cases hx with | p hx =>
            cases hx with
            | frz0 _ n A cap q1 q2 =>
              obtain ⟨q2, _, _⟩ := q2; subst q2
              have := fin none _ cap hev
              cases neg <;> simpa using this
            | frz _ n cs b o cap q1 q2 q3 q4 => obtain ⟨q2, _, _⟩ := q2; cases q2
          · rename_i heq
            simp at hp; subst hp
            rw [heq] at hx
            generalize hev : a.eval x = u at hx
            cases hx with | p hx =>
            cases hx with
            | frz0 _ n A cap q1 q2 =>
              have q2 : A.isSome := q2
              have := fin A _ cap hev
              cases A with
              | none => simp at q2
              | some ad => cases neg <;> simpa using this
            | frz _ n cs b o cap q1 q2 q3 q4 =>
              have := fin (some ⟨b, o, none⟩) _ cap hev
              cases neg <;> simpa using this
          · rename_i heq
            simp at hp; subst hp
            rw [heq] at hx
            generalize hev : a.eval x = u at hx
            cases hx with | p hx =>
            cases hx with
            | frz _ n cs b o cap q1 q2 q3 q4 =>
              have := fin (some ⟨b, o, none⟩) _ cap hev
              cases neg <;> simpa using this
          · rename_i heq
            split at hp
            · simp at hp; subst hp
              rw [heq] at hx
              generalize hev : a.eval x = u at hx
              cases hx with
              | ref k ver off n s clip b cap q1 q2 q3 q4 =>
                have := fin (some ⟨b, _, none⟩) _ cap hev
                cases neg <;> simpa using this
              | ref0 k ver off s clip A q1 q2 => rename_i hn; omega
            · simp at hp
          · simp at hp
        · simp at hc
      · rename_i n e
        simp only [Option.bind_eq_some_iff] at hc
        obtain ⟨d', hd', hc⟩ := hc
        split at hc
        · rename_i k
          split at hc
          · rename_i hsz
            simp at hc; subst hc
            simp only [pureOp] at hp
            split at hp
            · rename_i p q e1 e2
              split at hp
              · rename_i hh; obtain ⟨l1, l2, a1, a2⟩ := hh
                simp only [Option.map_eq_some_iff] at hp
                obtain ⟨b, hb, rfl⟩ := hp
                rw [e1] at hx; rw [e2] at hy
                generalize hev1 : a.eval x = u at hx
                generalize hev2 : a.eval y = v at hy
                cases hx with | p hx => cases hy with | p hy =>
                cases hx with | agg _ us hl1 _ => cases hy with | agg _ vs hl2 _ =>
                have heq := equal_ints hd hd' hsz hl1 hl2 l1 l2 a1 a2 hb
                have hg := fun op' => guard_ints (w := w) hd hd' op' x y us vs
                subst hop
                cases neg with
                | false => exact ⟨.bool b, by simp [execOp, hev1, hev2, hg, binOp, heq], g_bool⟩
                | true => exact ⟨.bool (!b), by simp [execOp, hev1, hev2, hg, binOp, heq], g_bool⟩
              · simp at hp
            · simp at hp
          · simp at hc
        · simp at hc
      · simp at hc
    cases op with
    | eql => exact eqs false rfl hc
    | neq => exact eqs true rfl hc
    | _ => simp at hc; subst hc; exact plain hp
  | unOp op t x =>
    simp only [compOp, Option.map_eq_some_iff] at hc; obtain ⟨x', h1, rfl⟩ := hc
    simp only [pureOp] at hp
    split at hp
    · rename_i p heq
      simp only [Option.map_eq_some_iff] at hp
      obtain ⟨z, hz, rfl⟩ := hp
      have hx := opd_rel he h1
      rw [heq] at hx
      generalize hev : a.eval x = u at hx
      cases hx with | p hx =>
      cases hx with
      | int k n =>
        cases op <;> simp [unPV] at hz
        · subst hz; exact ⟨_, by simp [execOp, hev, Op.unary, Op.intArith], g_int⟩
        · subst hz; exact ⟨_, by simp [execOp, hev, Op.unary, Op.intBits], g_int⟩
      | bool b =>
        cases op <;> simp [unPV] at hz
        subst hz; exact ⟨_, by simp [execOp, hev, Op.unary], g_bool⟩
      | _ => simp [unPV] at hz
    · simp at hp
  | convert s d x =>
    simp only [compOp, Option.bind_eq_some_iff] at hc
    obtain ⟨ds, h1, hc⟩ := hc
    split at hc
    · simp only [Option.bind_eq_some_iff] at hc
      obtain ⟨dd, h2, hc⟩ := hc
      split at hc
      · simp only [Option.map_eq_some_iff] at hc
        obtain ⟨x', h3, rfl⟩ := hc
        simp only [pureOp] at hp
        split at hp
        · rename_i k n heq
          simp at hp; subst hp
          have := int_inv (opd_rel he h3) heq
          exact ⟨_, by simp [execOp, convert, r_und h1, r_und h2, this, Conv.intToInt], g_int⟩
        · simp at hp
      · simp at hc
    · simp at hc
  | makeFunc fn x y =>
    cases fn with
    | func f =>
      simp only [compOp, Option.bind_eq_some_iff, Option.map_eq_some_iff] at hc
      obtain ⟨x', h1, y', h2, rfl⟩ := hc
      simp [pureOp] at hp; subst hp
      exact ⟨_, by simp [execOp, Instr.makeFunc], mkFn_rel (opdsA_rel he h1) (opdsA_rel he h2)⟩
    | _ => simp [compOp] at hc
  | slice t x lo hi mx =>
    simp only [compOp, Option.bind_eq_some_iff] at hc
    obtain ⟨u, h1, x', h2, lo', h3, hi', h4, mx', h5, hc⟩ := hc
    have hx := opd_rel he h2
    split at hc
    · split at hc
      · simp at hc
      rename_i hmh
      simp only [Option.map_eq_some_iff] at hc
      obtain ⟨s, hs, rfl⟩ := hc
      simp only [pureOp] at hp
      have hmh : mx'.isSome = true → hi'.isSome = true := by
        intro hm; rw [hm] at hmh; simp at hmh; cases hi' with | none => exact absurd rfl hmh | some _ => rfl
      obtain ⟨v, q1, q2⟩ := sliceS_rel hr he h1 hs h3 h4 h5 hmh hx hp
      exact ⟨v, by simp [execOp, q1], q2⟩
    · split at hc
      · simp at hc
      · rename_i hm
        simp at hc; subst hc
        cases mx with
        | some z => simp only [cOpt, Option.map_eq_some_iff] at h5; obtain ⟨_, _, rfl⟩ := h5; simp at hm
        | none =>
          simp only [pureOp] at hp
          split at hp
          · rename_i b heq
            simp only [Option.bind_eq_some_iff] at hp
            obtain ⟨l, b1, tt, b2, hp⟩ := hp
            split at hp
            · rename_i hh; obtain ⟨q1, q2⟩ := hh
              simp at hp; subst hp
              have := str_inv hx heq
              exact ⟨_, by simp [execOp, this, sliceT_rel (P := P) he h1 h3 h4 b1 b2 q1 q2], .p (.str _)⟩
            · simp at hp
          · simp at hp
    · split at hc
      · simp at hc
      · rename_i hm
        simp only [Option.map_eq_some_iff] at hc
        obtain ⟨s, hs, rfl⟩ := hc
        cases mx with
        | some z => simp only [cOpt, Option.map_eq_some_iff] at h5; obtain ⟨_, _, rfl⟩ := h5; simp at hm
        | none =>
          simp only [pureOp] at hp
          obtain ⟨v, q1, q2⟩ := sliceA_rel hr he h1 hs h3 h4 hx hp
          exact ⟨v, by simp [execOp, q1], q2⟩
    · simp at hc
  | fieldAddr t x i =>
    simp only [compOp, Option.bind_eq_some_iff] at hc
    obtain ⟨d, h1, hc⟩ := hc
    split at hc
    · simp only [Option.bind_eq_some_iff] at hc
      obtain ⟨f, h2, s, h3, hc⟩ := hc
      split at hc
      · simp at hc
      · rename_i h0
        simp only [Option.map_eq_some_iff] at hc
        obtain ⟨x', h4, rfl⟩ := hc
        simp only [pureOp] at hp
        obtain ⟨u, q1, q2⟩ := field_rel h1 h2 h3 h0 (opd_rel he h4) hp
        exact ⟨u, by simp [execOp, q1], q2⟩
    · simp at hc
  | field t x i =>
    simp only [compOp, Option.bind_eq_some_iff] at hc
    obtain ⟨d, h1, hc⟩ := hc
    split at hc
    · simp only [Option.bind_eq_some_iff, Option.map_eq_some_iff] at hc
      obtain ⟨f, h2, s, h3, g, h4, x', h5, rfl⟩ := hc
      simp only [pureOp] at hp
      obtain ⟨vs, u, q1, q2, q3⟩ := part_rel h4 h3 (opd_rel he h5) hp
      exact ⟨u, by simp [execOp, Instr.field, r_und h1, h2, q1, asAgg, q2], q3⟩
    · simp at hc
  | indexAddr t x i =>
    simp only [compOp, Option.bind_eq_some_iff] at hc
    obtain ⟨d, h1, x', h2, i', h3, hc⟩ := hc
    split at hc
    · simp only [Option.map_eq_some_iff] at hc
      obtain ⟨s, hs, rfl⟩ := hc
      simp only [pureOp, Option.bind_eq_some_iff] at hp
      obtain ⟨j, hj, hp⟩ := hp
      obtain ⟨u, q1, q2⟩ := indexS_rel h1 hs (opd_rel he h2) (opd_rel he h3) hj hp
      exact ⟨u, by simp [execOp, q1], q2⟩
    · simp only [Option.map_eq_some_iff] at hc
      obtain ⟨s, hs, rfl⟩ := hc
      simp only [pureOp, Option.bind_eq_some_iff] at hp
      obtain ⟨j, hj, hp⟩ := hp
      split at hp
      · rename_i hh
        obtain ⟨u, q1, q2⟩ := indexA_rel h1 hs (opd_rel he h2) (opd_rel he h3) hj hh hp
        exact ⟨u, by simp [execOp, q1], q2⟩
      · simp at hp
    · simp at hc
  | index t x i =>
    simp only [compOp, Option.bind_eq_some_iff] at hc
    obtain ⟨d, h1, x', h2, i', h3, hc⟩ := hc
    split at hc
    · simp only [Option.bind_eq_some_iff] at hc
      obtain ⟨s, hs, g, hg, hc⟩ := hc
      split at hc
      · rename_i hgs
        simp at hc; subst hc
        simp only [pureOp, Option.bind_eq_some_iff] at hp
        obtain ⟨j, hj, hp⟩ := hp
        split at hp
        · rename_i hh
          have hs' : s = if g then s else 1 := by
            cases g with
            | true => rfl
            | false => simpa using hgs
          obtain ⟨k, hev, _⟩ := asI_rel (opd_rel he h3) hj
          obtain ⟨vs, u, q1, q2, q3⟩ := part_rel hg hs (opd_rel he h2) (by rw [← hs']; exact hp)
          exact ⟨u, by simp [execOp, Instr.index, hev, asIntOf, r_und h1, q1, hh.1, hh.2, r_size hs, q2], q3⟩
        · simp at hp
      · simp at hc
    · simp at hc; subst hc
      simp only [pureOp] at hp
      split at hp
      · rename_i b j heq hj
        split at hp
        · rename_i h0
          simp only [Option.map_eq_some_iff] at hp
          obtain ⟨c, hb, rfl⟩ := hp
          obtain ⟨k, hev, _⟩ := asI_rel (opd_rel he h3) hj
          have := str_inv (opd_rel he h2) heq
          exact ⟨_, by simp [execOp, Instr.index, hev, asIntOf, r_und h1, this, h0, hb], g_int⟩
        · simp at hp
      · simp at hp
    · simp at hc
  | lookup t m k ok =>
    simp only [compOp, Option.bind_eq_some_iff] at hc
    obtain ⟨d, h1, hc⟩ := hc
    split at hc
    · simp only [Option.bind_eq_some_iff] at hc
      obtain ⟨kk, h2, z, h3, g, h4, hc⟩ := hc
      split at hc
      · rename_i h5
        simp only [Option.bind_eq_some_iff, Option.map_eq_some_iff] at hc
        obtain ⟨m', h6, k', h7, rfl⟩ := hc
        simp only [pureOp] at hp
        split at hp
        · rename_i key ver kv e1 e2
          simp only [Option.bind_eq_some_iff] at hp
          obtain ⟨es, hes, hp⟩ := hp
          split at hp
          · simp at hp
          · rename_i hgk
            simp only [Option.bind_eq_some_iff] at hp
            obtain ⟨q, hq, hp⟩ := hp
            have hm := opd_rel he h6
            have hk := opd_rel he h7
            rw [e1] at hm; rw [e2] at hk
            generalize hev : a.eval k = kvv at hk
            cases hk with | p hk =>
            obtain ⟨u, q1, q2⟩ := lookup_rel hr h1 h2 h3 h4 h5 hm hk hes (by simpa using hgk) hq hp
            exact ⟨u, by simp [execOp, hev, q1], q2⟩
        · simp at hp
      · simp at hc
    · simp at hc
  | extract x i =>
    simp only [compOp, Option.map_eq_some_iff] at hc; obtain ⟨x', h1, rfl⟩ := hc
    have hx := opd_rel he h1
    simp only [pureOp] at hp
    split at hp
    · rename_i vs heq
      simp only [Option.map_eq_some_iff] at hp
      obtain ⟨c, hi, rfl⟩ := hp
      rw [heq] at hx
      generalize hev : a.eval x = u at hx
      cases hx with | p hx => cases hx with | tup _ us hl =>
      have hl' : Vs κ h w (Mx κ h M0) (vs.map .p) us.toList := Vs.of_VL hl
      obtain ⟨v, q1, q2⟩ := hl'.get (i := i) (c := .p c) (by simp [hi])
      exact ⟨v, by simp at q1; simp [execOp, hev, Instr.extract, q1], q2⟩
    · rename_i vs heq
      rw [heq] at hx
      generalize hev : a.eval x = u at hx
      cases hx with | tup _ us hl =>
      obtain ⟨v, q1, q2⟩ := hl.get hp
      exact ⟨v, by simp at q1; simp [execOp, hev, Instr.extract, q1], q2⟩
    · simp at hp
  | call c =>
    obtain ⟨callee, args, argTypes⟩ := c
    simp only [compOp, Option.bind_eq_some_iff] at hc
    obtain ⟨os, h1, hc⟩ := hc
    cases callee with
    | value f =>
      simp only [Option.map_eq_some_iff] at hc
      obtain ⟨f', h2, rfl⟩ := hc
      simp [pureOp] at hp
    | builtin b =>
      simp only at hc
      obtain ⟨u, q1, q2⟩ := builtin_rel hr he h1 hc hp ty (args.map fun | .const _ => true | _ => false)
      exact ⟨u, by simp only [execOp, resolve, Sem.run_bind, Sem.run_pure, Result.andThen_ok, invoke]; exact q1, q2⟩
    | invoke r m => simp at hc
  | alloc t => simp only [compOp, Option.map_eq_some_iff] at hc; obtain ⟨z, _, rfl⟩ := hc; simp [pureOp] at hp
  | box t x => simp only [compOp, Option.bind_eq_some_iff, Option.map_eq_some_iff] at hc; obtain ⟨n, _, z, _, rfl⟩ := hc; simp [pureOp] at hp
  | store t x y => simp only [compOp, Option.bind_eq_some_iff, Option.map_eq_some_iff] at hc; obtain ⟨n, _, z, _, q, _, rfl⟩ := hc; simp [pureOp] at hp
  | buildSlice t n ps =>
    simp only [compOp, Option.bind_eq_some_iff] at hc
    obtain ⟨d, _, hc⟩ := hc
    split at hc
    · simp only [Option.bind_eq_some_iff, Option.map_eq_some_iff] at hc
      obtain ⟨s, _, z, _, q, _, rfl⟩ := hc; simp [pureOp] at hp
    · simp at hc
  | makeMap t rs => cases rs <;> simp [compOp] at hc; subst hc; simp [pureOp] at hp
  | makeSlice t l c =>
    simp only [compOp, Option.bind_eq_some_iff] at hc
    obtain ⟨d, _, hc⟩ := hc
    split at hc
    · simp only [Option.bind_eq_some_iff, Option.map_eq_some_iff] at hc
      obtain ⟨s, _, z, _, q, _, q', _, rfl⟩ := hc; simp [pureOp] at hp
    · simp at hc
  | mapUpdate t m k x | insert t m k x =>
    simp only [compOp, Option.bind_eq_some_iff] at hc
    obtain ⟨d, _, hc⟩ := hc
    split at hc
    · simp only [Option.bind_eq_some_iff, Option.map_eq_some_iff] at hc
      obtain ⟨s, _, z, _, q, _, q', _, rfl⟩ := hc; simp [pureOp] at hp
    · simp at hc
  | range t x =>
    simp only [compOp, Option.bind_eq_some_iff] at hc
    obtain ⟨d, _, hc⟩ := hc
    split at hc
    · simp only [Option.map_eq_some_iff] at hc
      obtain ⟨s, _, rfl⟩ := hc; simp [pureOp] at hp
    · simp at hc
  | next it b =>
    cases b with
    | true => simp only [compOp, Option.map_eq_some_iff] at hc; obtain ⟨s, _, rfl⟩ := hc; simp [pureOp] at hp
    | false => simp [compOp] at hc
  | _ => simp [compOp] at hc
end
end Go.Va
end
section
namespace Go.Va

section
variable {P : Program} {κ : Kap} {h : Hp} {w : World} {M0 : Nat → Prop} {env : Nat → AV} {a : Act}

theorem RelH.lt (hr : RelH κ h w M0) {k : Key} {b : Nat} (ho : (h.get k).obj.isSome = true) (hb : κ k = some b) : b < w.heap.size := by
  cases hk : (h.get k).obj with
  | none => simp [hk] at ho
  | some o =>
    have := hr.obj k o hk
    have lt : ∀ {x : Obj}, w.heap[b]? = some x → b < w.heap.size := fun hx => (Array.getElem?_eq_some_iff.1 hx).1
    cases o with
    | cells cs =>
      rcases this with ⟨b', vs, T, h1, h2, _⟩ | ⟨h1, _⟩
      · rw [hb] at h1; cases h1; exact lt h2
      · rw [hb] at h1; cases h1
    | amap es => obtain ⟨b', ces, clock, h1, h2, _⟩ := this; rw [hb] at h1; cases h1; exact lt h2
    | siter s pos => obtain ⟨b', h1, h2⟩ := this; rw [hb] at h1; cases h1; exact lt h2

theorem ObjRel.keeps {κ' : Kap} {h' : Hp} {w' : World} {M M' : Nat → Prop} (t : Trans κ h w κ' h' w') (hk : Keeps w w' M M') {k : Key} {o : AObj} (ho : ObjRel κ h w M k o)
    (hκ : κ' k = κ k) (hb : ∀ b, κ k = some b → w'.heap[b]? = w.heap[b]?) : ObjRel κ' h' w' M' k o := by
  cases o with
  | cells cs =>
    rcases ho with ⟨b, vs, T, h1, h2, h3⟩ | ⟨h1, h2⟩
    · exact .inl ⟨b, vs, T, hκ.trans h1, (hb b h1).trans h2, h3.keeps t hk⟩
    · exact .inr ⟨hκ.trans h1, h2⟩
  | amap es => obtain ⟨b, ces, clock, h1, h2, h3, h4⟩ := ho; exact ⟨b, ces, clock, hκ.trans h1, (hb b h1).trans h2, h3.keeps hk, h4⟩
  | siter s pos => obtain ⟨b, h1, h2⟩ := ho; exact ⟨b, hκ.trans h1, (hb b h1).trans h2⟩

/-- A step in which one key alone gets another object. -/
theorem RelH.step (hr : RelH κ h w M0) {κ' : Kap} {h' : Hp} {w' : World} (t : Trans κ h w κ' h' w') (q : Key)
    (hg : ∀ k, k ≠ q → h'.get k = h.get k) (hκ : ∀ k, k ≠ q → κ' k = κ k) (hb : ∀ k b, k ≠ q → (h.get k).obj.isSome = true → κ k = some b → w'.heap[b]? = w.heap[b]?)
    (hq : ∀ b, κ' q = some b → κ q = some b ∧ (h.get q).obj.isSome = true ∨ w.heap.size ≤ b)
    (ho : ∀ o, (h'.get q).obj = some o → ObjRel κ' h' w' (Mx κ' h' M0) q o) : RelH κ' h' w' M0 := by
  have hk : Keeps w w' (Mx κ h M0) (Mx κ' h' M0) := t.keeps M0 hr.m0lt
  refine ⟨?_, ?_, fun b hm => Nat.lt_of_lt_of_le (hr.m0lt b hm) t.size, ?_⟩
  · intro k k' b h1 h2 h3 h4
    by_cases e : k = q
    · by_cases e' : k' = q
      · rw [e, e']
      · exfalso
        rw [hg k' e'] at h2; rw [hκ k' e'] at h4
        have := hr.lt h2 h4
        subst e
        rcases hq b h3 with ⟨h5, h6⟩ | h5
        · exact e' (hr.inj k' k b h2 h6 h4 h5)
        · omega
    · rw [hg k e] at h1; rw [hκ k e] at h3
      by_cases e' : k' = q
      · exfalso
        have := hr.lt h1 h3
        subst e'
        rcases hq b h4 with ⟨h5, h6⟩ | h5
        · exact e (hr.inj k k' b h1 h6 h3 h5)
        · omega
      · rw [hg k' e'] at h2; rw [hκ k' e'] at h4; exact hr.inj k k' b h1 h2 h3 h4
  · intro k b h1 h2 hm
    by_cases e : k = q
    · subst e
      rcases hq b h2 with ⟨h5, h6⟩ | h5
      · exact hr.m0 k b h6 h5 hm
      · have := hr.m0lt b hm; omega
    · rw [hg k e] at h1; rw [hκ k e] at h2; exact hr.m0 k b h1 h2 hm
  · intro k o h1
    by_cases e : k = q
    · subst e; exact ho o h1
    · rw [hg k e] at h1
      exact (hr.obj k o h1).keeps t hk (hκ k e) (fun b h2 => hb k b e (by rw [h1]; rfl) h2)

theorem get_set_same (h : Hp) (k : Key) (e : HE) : (h.set k e).get k = e := by simp [Hp.set]
theorem get_set_other (h : Hp) {k k' : Key} (e : HE) (hne : k' ≠ k) : (h.set k e).get k' = h.get k' := by simp [Hp.set, hne]

/-! ## A new block -/
def kset (κ : Kap) (k : Key) (b : Option Nat) : Kap := fun k' => if k' = k then b else κ k'
theorem kset_same (κ : Kap) (k : Key) (b : Option Nat) : kset κ k b k = b := by simp [kset]
theorem kset_other (κ : Kap) {k k' : Key} (b : Option Nat) (hne : k' ≠ k) : kset κ k b k' = κ k' := by simp [kset, hne]

/-- What a world is behind a new block, draws aside. -/
structure Grew (w w' : World) (o : Obj) : Prop where
  size : w'.heap.size = w.heap.size + 1
  new : w'.heap[w.heap.size]? = some o
  old : ∀ b, b < w.heap.size → w'.heap[b]? = w.heap[b]?
  os : w'.os = w.os
  tape : w'.tape = w.tape
  output : w'.output = w.output
theorem Grew.alloc (w : World) (o : Obj) : Grew w (w.alloc o) o :=
  ⟨by simp, by show (w.heap.push o)[w.heap.size]? = some o; simp, fun b hb => by show (w.heap.push o)[b]? = w.heap[b]?; rw [Array.getElem?_push, if_neg (Nat.ne_of_lt hb)], rfl, rfl, rfl⟩
theorem Grew.alloc_drew (w : World) (o : Obj) : Grew w (w.drew.alloc o) o :=
  ⟨by simp, by show (w.heap.push o)[w.heap.size]? = some o; simp, fun b hb => by show (w.heap.push o)[b]? = w.heap[b]?; rw [Array.getElem?_push, if_neg (Nat.ne_of_lt hb)], rfl, rfl, rfl⟩

/-- A key gets a new block: its version rises. -/
theorem trans_new {w' : World} {o : Obj} (g : Grew w w' o) (k : Key) (ob : AObj) (v : Nat) (hv : (h.get k).ver < v) :
    Trans κ h w (kset κ k (some w.heap.size)) (h.set k ⟨v, false, some ob⟩) w' where
  size := by rw [g.size]; omega
  frame := fun b hb _ => g.old b hb
  mt := by
    rintro b ⟨k', h1, h2, h3⟩
    by_cases e : k' = k
    · subst e; rw [kset_same] at h3; cases h3; exact .inr (Nat.le_refl _)
    · rw [get_set_other _ _ e] at h1 h2; rw [kset_other _ _ e] at h3; exact .inl ⟨k', h1, h2, h3⟩
  own := by
    rintro b ⟨k', h1, h3⟩
    by_cases e : k' = k
    · subst e; rw [kset_same] at h3; cases h3; exact .inr (Nat.le_refl _)
    · rw [get_set_other _ _ e] at h1; rw [kset_other _ _ e] at h3; exact .inl ⟨k', h1, h3⟩
  rows := fun b vs T fr hb => ⟨vs, by rw [g.old b (Array.getElem?_eq_some_iff.1 hb).1]; exact hb, rfl⟩
  vers := fun k' => by
    by_cases e : k' = k
    · subst e; rw [get_set_same]; exact Nat.le_of_lt hv
    · rw [get_set_other _ _ e]; exact Nat.le_refl _
  same := fun k' h1 h2 => by
    by_cases e : k' = k
    · subst e; rw [get_set_same] at h1; simp at h1; omega
    · rw [get_set_other _ _ e] at h2; exact ⟨h2, kset_other _ _ e⟩
  os := g.os
  tape := g.tape
  output := g.output

theorem relH_new (hr : RelH κ h w M0) {w' : World} {o : Obj} (g : Grew w w' o) (k : Key) (ob : AObj) (v : Nat) (hv : (h.get k).ver < v)
    (ho : ObjRel (kset κ k (some w.heap.size)) (h.set k ⟨v, false, some ob⟩) w' (Mx (kset κ k (some w.heap.size)) (h.set k ⟨v, false, some ob⟩) M0) k ob) :
    RelH (kset κ k (some w.heap.size)) (h.set k ⟨v, false, some ob⟩) w' M0 :=
  hr.step (trans_new g k ob v hv) k (fun k' e => get_set_other _ _ e) (fun k' e => kset_other _ _ e) (fun k' b _ h1 h2 => g.old b (hr.lt h1 h2))
    (fun b hb => by rw [kset_same] at hb; cases hb; exact .inr (Nat.le_refl _))
    (fun o' h1 => by rw [get_set_same] at h1; cases h1; exact ho)

/-- The cells of a new row. -/
theorem obj_new {w' : World} {vs : Array Value} {T : TypeId} (g : Grew w w' (.cells vs T (0, 0))) (hm : ∀ b, M0 b → b < w.heap.size) (k : Key) (cs : List AV) (v : Nat) (hv : (h.get k).ver < v)
    (hc : CellsRel κ h w (Mx κ h M0) cs vs) :
    ObjRel (kset κ k (some w.heap.size)) (h.set k ⟨v, false, some (.cells cs)⟩) w' (Mx (kset κ k (some w.heap.size)) (h.set k ⟨v, false, some (.cells cs)⟩) M0) k (.cells cs) := by
  have t : Trans κ h w (kset κ k (some w.heap.size)) (h.set k ⟨v, false, some (.cells cs)⟩) w' := trans_new g k (.cells cs) v hv
  exact .inl ⟨_, vs, T, kset_same _ _ _, g.new, hc.keeps t (t.keeps M0 hm)⟩

theorem CellsRel.of_Vs {M : Nat → Prop} {cs : List AV} {vs : Array Value} (hv : Vs κ h w M cs vs.toList) (ho : ∀ c ∈ cs, c.one = true) : CellsRel κ h w M cs vs := by
  intro j c hj
  obtain ⟨v, h1, h2⟩ := hv.get hj
  exact ⟨ho c (List.mem_of_getElem? hj), v, by simpa using h1, h2⟩

theorem alloc_eq (h : Hp) (k : Key) (ob : AObj) : h.alloc k ob = h.set k ⟨(h.get k).ver + 1, false, some ob⟩ := rfl

/-! ## A block that is written -/
structure PutAt (w w' : World) (b : Nat) (vs' : Array Value) : Prop where
  size : w'.heap.size = w.heap.size
  row : ∃ vs T, w.heap[b]? = some (Obj.cells vs T (0, 0)) ∧ w'.heap[b]? = some (Obj.cells vs' T (0, 0)) ∧ vs'.size = vs.size
  old : ∀ c, c ≠ b → w'.heap[c]? = w.heap[c]?
  os : w'.os = w.os
  tape : w'.tape = w.tape
  output : w'.output = w.output

theorem setR_length {α : Type} {cs vs : List α} {off : Nat} (hle : off + vs.length ≤ cs.length) : (setR cs off vs).length = cs.length := by
  simp [setR]; omega

theorem setCell_row {b o : Nat} {vs : Array Value} {T : TypeId} {fr : Nat × Nat} (hb : w.heap[b]? = some (Obj.cells vs T fr)) (u : Value) :
    (w.setCell ⟨b, o, none⟩ u).heap[b]? = some (Obj.cells (vs.setIfInBounds o u) T fr) := by
  have hlt := (Array.getElem?_eq_some_iff.1 hb).1
  simp only [World.setCell, Array.getElem?_modify, if_true, hb, Option.map_some]
  rfl

theorem run_storeCells (us : List Value) : ∀ (w : World) (b o i : Nat) (vs : Array Value) (T : TypeId), w.heap[b]? = some (Obj.cells vs T (0, 0)) → (∀ u ∈ us, u.oneCell' = true) → o + i + us.length ≤ vs.size →
    ∃ w', (storeCells ⟨b, o, none⟩ us i).run P w = .ok () w' ∧ PutAt w w' b (setR vs.toList (o + i) us).toArray := by
  induction us with
  | nil =>
    intro w b o i vs T hb _ _
    exact ⟨w, by simp [storeCells], rfl, ⟨vs, T, hb, by simpa [setR] using hb, by simp [setR]⟩, fun _ _ => rfl, rfl, rfl, rfl⟩
  | cons u us ih =>
    intro w b o i vs T hb ho hle
    simp only [List.length_cons] at hle
    have hcell : w.cell? ((⟨b, o, none⟩ : Addr).add i) = some vs[o + i] := by
      rw [add_at, cell_row hb]; simp
    have hfz : w.frozen? ((⟨b, o, none⟩ : Addr).add i) = false := by rw [add_at]; simp [World.frozen?, hb]
    have hst := run_store P w ((⟨b, o, none⟩ : Addr).add i) u .plain (ho u (by simp))
    rw [hcell] at hst
    simp only [hfz, Bool.false_eq_true, if_false] at hst
    have hb' := setCell_row (o := o + i) hb u
    rw [← add_at] at hb'
    obtain ⟨w', h1, h2⟩ := ih (w.setCell ((⟨b, o, none⟩ : Addr).add i) u) b o (i + 1) (vs.setIfInBounds (o + i) u) T hb' (fun x hx => ho x (by simp [hx])) (by simp; omega)
    refine ⟨w', ?_, ?_⟩
    · simp only [storeCells, Sem.run_bind, hst, Result.andThen_ok]; exact h1
    · obtain ⟨q1, ⟨vs1, T1, q2, q3, q4⟩, q5, q6, q7, q8⟩ := h2
      rw [hb'] at q2; cases q2
      have hset : (setR (vs.setIfInBounds (o + i) u).toList (o + (i + 1)) us) = setR vs.toList (o + i) (u :: us) := by
        simp only [setR, Array.toList_setIfInBounds]
        apply List.ext_getElem?
        intro j
        simp only [List.getElem?_append, List.getElem?_take, List.getElem?_drop, List.getElem?_set, List.length_append, List.length_take, List.length_set, Array.length_toList, List.length_cons, List.getElem?_cons]
        grind
      rw [hset] at q3 q4
      refine ⟨by rw [q1]; simp, ⟨vs, T, hb, q3, by simpa using q4⟩, fun c hc => ?_, q6, q7, q8⟩
      rw [q5 c hc]
      exact RowKit.Below.heap_setCell w _ u c (by rw [add_at]; exact hc)

theorem one_cell {M : Nat → Prop} {c : AV} {v : Value} (hv : V κ h w M c v) (ho : c.one = true) : v.oneCell' = true := by
  cases hv with
  | p hp => cases hp <;> first | rfl | (simp [AV.one, PV.one] at ho)
  | _ => first | rfl | (simp [AV.one] at ho)
theorem one_cells {M : Nat → Prop} {cs : List AV} {vs : List Value} (hv : Vs κ h w M cs vs) (ho : ∀ c ∈ cs, c.one = true) : ∀ v ∈ vs, v.oneCell' = true := by
  induction cs generalizing vs with
  | nil => cases hv; simp
  | cons c cs ih =>
    cases hv with
    | cons h1 h2 =>
      intro v hv
      simp at hv
      rcases hv with rfl | hv
      · exact one_cell h1 (ho c (by simp))
      · exact ih h2 (fun c hc => ho c (by simp [hc])) v hv

/-- The key's row is written: the version stays, or rises. -/
theorem trans_put {w' : World} {b : Nat} {vs' : Array Value} (g : PutAt w w' b vs') {k : Key} (hk : κ k = some b) (hs : (h.get k).obj.isSome = true) (hro : (h.get k).ro = false) (ob : AObj) (v : Nat) (hv : (h.get k).ver ≤ v) :
    Trans κ h w κ (h.set k ⟨v, false, some ob⟩) w' where
  size := by rw [g.size]; exact Nat.le_refl _
  frame := fun c hc hm => g.old c (fun e => hm ⟨k, hs, hro, e ▸ hk⟩)
  mt := by
    rintro c ⟨k', h1, h2, h3⟩
    by_cases e : k' = k
    · subst e; exact .inl ⟨k', hs, hro, h3⟩
    · rw [get_set_other _ _ e] at h1 h2; exact .inl ⟨k', h1, h2, h3⟩
  own := by
    rintro c ⟨k', h1, h3⟩
    by_cases e : k' = k
    · subst e; exact .inl ⟨k', hs, h3⟩
    · rw [get_set_other _ _ e] at h1; exact .inl ⟨k', h1, h3⟩
  rows := fun c vs T fr hc => by
    by_cases e : c = b
    · subst e
      obtain ⟨vs0, T0, h1, h2, h3⟩ := g.row
      rw [hc] at h1; cases h1
      exact ⟨vs', h2, h3⟩
    · exact ⟨vs, by rw [g.old c e]; exact hc, rfl⟩
  vers := fun k' => by
    by_cases e : k' = k
    · subst e; rw [get_set_same]; exact hv
    · rw [get_set_other _ _ e]; exact Nat.le_refl _
  same := fun k' h1 h2 => by
    by_cases e : k' = k
    · subst e; exact ⟨hs, rfl⟩
    · rw [get_set_other _ _ e] at h2; exact ⟨h2, rfl⟩
  os := g.os
  tape := g.tape
  output := g.output

theorem relH_put (hr : RelH κ h w M0) {w' : World} {b : Nat} {vs' : Array Value} (g : PutAt w w' b vs') {k : Key} (hk : κ k = some b) (hs : (h.get k).obj.isSome = true) (hro : (h.get k).ro = false) (cs : List AV) (v : Nat) (hv : (h.get k).ver ≤ v)
    (hc : CellsRel κ h w (Mx κ h M0) cs vs') : RelH κ (h.set k ⟨v, false, some (.cells cs)⟩) w' M0 := by
  have t := trans_put g hk hs hro (.cells cs) v hv
  refine hr.step t k (fun k' e => get_set_other _ _ e) (fun k' e => rfl) (fun k' c e h1 h2 => g.old c (fun e' => e (hr.inj k' k b h1 hs (e' ▸ h2) hk))) (fun c hc' => .inl ⟨hc', hs⟩) ?_
  intro o h1
  rw [get_set_same] at h1; cases h1
  obtain ⟨vs0, T0, q1, q2, q3⟩ := g.row
  exact .inl ⟨b, vs', T0, hk, q2, hc.keeps t (t.keeps M0 hr.m0lt)⟩
end
end Go.Va
end
section
namespace Go.Va

section
variable {P : Program} {κ : Kap} {h : Hp} {w : World} {M0 : Nat → Prop} {env : Nat → AV} {a : Act}

/-- What an operation that writes owes. -/
def Eff (P : Program) (κ : Kap) (h : Hp) (w : World) (M0 : Nat → Prop) (s : Sem Next) (r : AV) (h' : Hp) : Prop :=
  ∃ x v w' κ', s.run P w = .ok x w' ∧ (x = .value v ∨ (x = .skip ∧ v = undef)) ∧ RelH κ' h' w' M0 ∧ Trans κ h w κ' h' w' ∧ V κ' h' w' (Mx κ' h' M0) r v

theorem V.undef {M : Nat → Prop} : V κ h w M AV.undef Go.undef := .p (.tup [] #[] .nil)

/-- A new row of cells. -/
theorem eff_row (hr : RelH κ h w M0) {s : Sem Next} {k : Key} {cs : List AV} {vs : Array Value} {T : TypeId} {w' : World} {v : Value} {r : AV} (g : Grew w w' (.cells vs T (0, 0)))
    (hrun : s.run P w = .ok (.value v) w') (hc : CellsRel κ h w (Mx κ h M0) cs vs)
    (hv : V (kset κ k (some w.heap.size)) (h.alloc k (.cells cs)) w' (Mx (kset κ k (some w.heap.size)) (h.alloc k (.cells cs)) M0) r v) : Eff P κ h w M0 s r (h.alloc k (.cells cs)) :=
  ⟨_, v, w', _, hrun, .inl rfl, relH_new hr g k _ _ (Nat.lt_succ_self _) (obj_new g hr.m0lt k cs _ (Nat.lt_succ_self _) hc), trans_new g k _ _ (Nat.lt_succ_self _), hv⟩

theorem ptr_new {k : Key} {ob : AObj} {w' : World} {M : Nat → Prop} : V (kset κ k (some w.heap.size)) (h.alloc k ob) w' M (.ptr k ((h.get k).ver + 1) 0) (.pointer (some ⟨w.heap.size, 0, none⟩)) :=
  .ptr k _ 0 w.heap.size (by rw [alloc_eq, get_set_same]; exact Nat.le_refl _) (fun _ => kset_same _ _ _)

theorem alloc_eff (hr : RelH κ h w M0) {o : Oper} {t : TypeId} {z : List PV} (ho : o.op = .alloc t) (hz : zeroPV P t = some z) (k : Key) :
    Eff P κ h w M0 (execOp a.eval o) (.ptr k ((h.get k).ver + 1) 0) (h.alloc k (.cells (z.map .p))) := by
  obtain ⟨v, h1, h2, h3⟩ := zeros_rel (w := w) (M := Mx κ h M0) hz
  refine eff_row hr (Grew.alloc w (.cells v.cells t (0, 0))) (v := .pointer (some ⟨w.heap.size, 0, none⟩)) ?_ (CellsRel.of_Vs (Vs.of_VL h2) (by intro c hc; simp at hc; obtain ⟨x, q1, rfl⟩ := hc; exact h3 x q1)) ptr_new
  unfold execOp
  rw [ho]
  simp [Instr.alloc, h1, newVar, newRow]

theorem box_eff (hr : RelH κ h w M0) (he : EnvRel κ h w (Mx κ h M0) env a.tmps) {o : Oper} {t : TypeId} {x : Operand} {x' : Opd} {vs : List AV} (ho : o.op = .box t x) (hx : cOpd x = some x') (hc : (x'.ev env).cells = some vs) (k : Key) :
    Eff P κ h w M0 (execOp a.eval o) (.ptr k ((h.get k).ver + 1) 0) (h.alloc k (.cells vs)) := by
  obtain ⟨h2, h3⟩ := cells_rel (opd_rel he hx) hc
  refine eff_row hr (Grew.alloc w (.cells (a.eval x).cells t (0, 0))) (v := .pointer (some ⟨w.heap.size, 0, none⟩)) ?_ (CellsRel.of_Vs h2 h3) ptr_new
  unfold execOp
  rw [ho]
  simp [Instr.box, newVar, newRow]

theorem repl_get {α : Type} (z : List α) : ∀ (n i : Nat), (repl n z)[i]? = if i < n * z.length then z[i % z.length]? else none := by
  intro n
  induction n with
  | zero => intro i; simp [repl]
  | succ n ih =>
    intro i
    have e : repl (n + 1) z = z ++ repl n z := by simp [repl, List.replicate_succ]
    rw [e, List.getElem?_append]
    have e2 : (n + 1) * z.length = n * z.length + z.length := Nat.succ_mul n z.length
    split
    · rename_i hlt
      rw [if_pos (by omega), Nat.mod_eq_of_lt hlt]
    · rename_i hge
      rw [ih]
      have hge : z.length ≤ i := Nat.le_of_not_lt hge
      rw [Nat.mod_eq_sub_mod hge]
      by_cases hlt : i - z.length < n * z.length
      · rw [if_pos hlt, if_pos (by omega)]
      · rw [if_neg hlt, if_neg (by omega)]
theorem repl_length {α : Type} (z : List α) (n : Nat) : (repl n z).length = n * z.length := by
  induction n with
  | zero => simp [repl]
  | succ n ih =>
    have e : repl (n + 1) z = z ++ repl n z := by simp [repl, List.replicate_succ]
    rw [e, List.length_append, ih, Nat.succ_mul]; omega
theorem repl_mem {α : Type} {z : List α} {n : Nat} {x : α} (hx : x ∈ repl n z) : x ∈ z := by
  unfold repl at hx
  obtain ⟨l, h1, h2⟩ := List.mem_flatten.1 hx
  rw [(List.mem_replicate.1 h1).2] at h2; exact h2
theorem VL.length {M : Nat → Prop} {x : List PV} {u : List Value} (hx : VL w M x u) : x.length = u.length := by
  induction x generalizing u with
  | nil => cases hx; rfl
  | cons c x ih => cases hx with | cons h1 h2 => simp [ih h2]

/-- Zero values, row after row, as the model lays them. -/
theorem zeros_Vs {M : Nat → Prop} {z : List PV} {zv : Array Value} {n s : Nat} (hz : VL w M z zv.toList) (hs : z.length = s) :
    Vs κ h w M ((repl n z).map .p) ((Array.range (n * s)).map (zv[· % zv.size]!)).toList := by
  have hl := hz.length
  simp only [Array.length_toList] at hl
  apply Vs.of_get
  · simp [repl_length, hs]
  · intro i c v hc hv
    rw [List.getElem?_map, repl_get, hs] at hc
    split at hc
    · rename_i hlt
      simp [hlt] at hv
      cases hzi : z[i % s]? with
      | none => simp [hzi] at hc
      | some x =>
        simp [hzi] at hc; subst hc
        obtain ⟨u, q1, q2⟩ := (Vs.of_VL (κ := κ) (h := h) hz).get (i := i % s) (c := .p x) (by simp [hzi])
        have q1' : zv[i % s]? = some u := by rw [← Array.getElem?_toList]; exact q1
        have : zv[i % zv.size]! = u := by
          rw [← hl, hs, Array.getElem!_eq_getD, Array.getD_eq_getD_getElem?, q1']; rfl
        rw [this] at hv
        subst hv; exact q2
    · simp at hc

theorem ref_new {k : Key} {cs : List AV} {w' : World} {vs : Array Value} {T : TypeId} {M : Nat → Prop} (g : Grew w w' (.cells vs T (0, 0))) {n s cap : Nat} (hn : n ≤ cap) (hs : cap * s = vs.size) :
    V (kset κ k (some w.heap.size)) (h.alloc k (.cells cs)) w' M (.ref k ((h.get k).ver + 1) 0 n s false) (.slice (some ⟨w.heap.size, 0, none⟩) n cap) :=
  .ref k _ 0 n s false w.heap.size cap (by rw [alloc_eq, get_set_same]; exact Nat.le_refl _) hn (by simp) (fun _ => ⟨kset_same _ _ _, vs, T, g.new, by omega, fun _ => by omega⟩)

theorem bsl_eff (hr : RelH κ h w M0) (he : EnvRel κ h w (Mx κ h M0) env a.tmps) {o : Oper} {t e : TypeId} {n s : Nat} {ps : Array (Nat × Operand)} {q : List (Nat × Nat × Opd)} {z : List PV} {cs : List AV} (ho : o.op = .buildSlice t n ps)
    (hu : P.underlying t = some (.slice e)) (hs : szOf P e = some s) (hz : zeroPV P e = some z) (hq : cParts (fun i => some (i * s, s)) ps = some q) (hf : fillA env ((repl n z).map .p) q = some cs)
    (h0 : 0 < s) (hzs : z.length = s) (hcs : cs.length = n * s) (hb : n * s ≤ 2 ^ 24) (k : Key) : Eff P κ h w M0 (execOp a.eval o) (.ref k ((h.get k).ver + 1) 0 n s false) (h.alloc k (.cells cs)) := by
  obtain ⟨zv, h1, h2, h3⟩ := zeros_rel (w := w) (M := Mx κ h M0) hz
  have ho3 : ∀ c ∈ (repl n z).map AV.p, c.one = true := by
    intro c hc; obtain ⟨x, q1, rfl⟩ := List.mem_map.1 hc
    exact h3 x (repl_mem q1)
  -- the model's zero cells
  have main : ∀ zc : Array Value, (n * s = 0 → zc = #[]) → (n * s ≠ 0 → zc = zv.cells) → Vs κ h w (Mx κ h M0) ((repl n z).map .p) ((Array.range (n * s)).map (zc[· % zc.size]!)).toList →
      Eff P κ h w M0 (execOp a.eval o) (.ref k ((h.get k).ver + 1) 0 n s false) (h.alloc k (.cells cs)) := by
    intro zc hz0 hz1 h5
    obtain ⟨cells', g1, g2, g3⟩ := fill_rel he (fun i => some (i * s, s)) ps.toList q _ cs _ (by simpa [cParts] using hq) h5 ho3 hf
    have hsz : cells'.size = n * s := by have := g2.length; simp at this; omega
    refine eff_row hr (Grew.alloc w (.cells cells' e (0, 0))) (v := .slice (some ⟨w.heap.size, 0, none⟩) n n) ?_ (CellsRel.of_Vs g2 g3) (ref_new (Grew.alloc w _) (Nat.le_refl _) hsz.symm)
    unfold execOp
    rw [ho]
    have hn24 : ¬ (n * s > 2 ^ 24) := by omega
    by_cases hn : n * s = 0
    · rw [hz0 hn] at g1
      simp only [Instr.buildSlice, Sem.run_bind, r_und hu, r_size hs, Result.andThen_ok, hn24, if_false, Sem.run_pure, Array.toList_map, if_pos hn, g1]
      simp [newRow]
    · rw [hz1 hn] at g1
      simp only [Instr.buildSlice, Sem.run_bind, r_und hu, r_size hs, Result.andThen_ok, hn24, if_false, Sem.run_pure, Array.toList_map, if_neg hn, h1, g1]
      simp [newRow]
  by_cases hn : n * s = 0
  · refine main #[] (fun _ => rfl) (fun hne => absurd hn hne) ?_
    have : n = 0 := by rcases Nat.mul_eq_zero.1 hn with h | h <;> omega
    subst this
    simp [repl]; exact .nil
  · exact main zv.cells (fun hne => absurd hne hn) (fun _ => rfl) (zeros_Vs h2 hzs)

theorem wrap_id {n : Int} (h0 : 0 ≤ n) (h1 : n ≤ 9223372036854775807) : IntKind.i64.wrap n = n := by
  simp [IntKind.wrap, IntKind.bits, IntKind.signed]; omega

theorem mksl_eff (hr : RelH κ h w M0) (he : EnvRel κ h w (Mx κ h M0) env a.tmps) {o : Oper} {t e : TypeId} {i : TypeInfo} {l c : Operand} {l' c' : Opd} {lv cv : Int} {z : List PV} (ho : o.op = .makeSlice t l c)
    (hu : P.underlying t = some (.slice e)) (hi : P.info? e = some i) (hz : zeroPV P e = some z) (hl : cOpd l = some l') (hc : cOpd c = some c') (hlv : l'.ev env = .p (.int .i64 lv)) (hcv : c'.ev env = .p (.int .i64 cv))
    (g1 : 0 ≤ lv) (g2 : lv ≤ cv) (g3 : roomy cv.toNat i.bytes = true) (h0 : 0 < i.size) (hzs : z.length = i.size) (k : Key) :
    Eff P κ h w M0 (execOp a.eval o) (.ref k ((h.get k).ver + 1) 0 lv.toNat i.size false) (h.alloc k (.cells (repl lv.toNat (z.map .p)))) := by
  obtain ⟨zv, h1, h2, h3⟩ := zeros_rel (w := w) (M := Mx κ h M0) hz
  have el := int_inv (opd_rel he hl) hlv
  have ec := int_inv (opd_rel he hc) hcv
  simp only [roomy, Bool.and_eq_true, decide_eq_true_eq] at g3
  obtain ⟨g3, g4⟩ := g3
  have hcN : cv = (cv.toNat : Int) := by omega
  have hs : szOf P e = some i.size := by simp [szOf, hi]
  have w1 : IntKind.i64.wrap lv = lv := wrap_id g1 (by omega)
  have w2 : IntKind.i64.wrap cv = cv := wrap_id (by omega) (by omega)
  have hbig : ¬ ((i.bytes : Int) * cv > 2 ^ 48) := by
    have e : (i.bytes : Int) * cv = ((cv.toNat * i.bytes : Nat) : Int) := by rw [Int.natCast_mul, ← hcN]; exact Int.mul_comm _ _
    rw [e]; omega
  have hneg : ¬ (cv < 0) := by omega
  have hneg' : ¬ (lv < 0) := by omega
  have hlc : ¬ (lv > cv) := by omega
  have main : ∀ zc : Array Value, (cv.toNat * i.size = 0 → zc = #[]) → (cv.toNat * i.size ≠ 0 → zc = zv.cells) → Vs κ h w (Mx κ h M0) ((repl cv.toNat z).map .p) ((Array.range (cv.toNat * i.size)).map (zc[· % zc.size]!)).toList →
      Eff P κ h w M0 (execOp a.eval o) (.ref k ((h.get k).ver + 1) 0 lv.toNat i.size false) (h.alloc k (.cells (repl lv.toNat (z.map .p)))) := by
    intro zc hz0 hz1 h5
    have hrel : CellsRel κ h w (Mx κ h M0) (repl lv.toNat (z.map .p)) ((Array.range (cv.toNat * i.size)).map (zc[· % zc.size]!)) := by
      intro j cc hj
      have e1 : repl lv.toNat (z.map AV.p) = (repl lv.toNat z).map .p := by simp [repl, List.map_flatten]
      rw [e1] at hj
      have hj' : ((repl cv.toNat z).map AV.p)[j]? = some cc := by
        rw [List.getElem?_map, repl_get] at hj ⊢
        split at hj
        · rename_i hlt
          have : lv.toNat * z.length ≤ cv.toNat * z.length := Nat.mul_le_mul_right _ (by omega)
          rw [if_pos (by omega)]; exact hj
        · simp at hj
      obtain ⟨v, q1, q2⟩ := h5.get hj'
      refine ⟨?_, v, by rw [← Array.getElem?_toList]; exact q1, q2⟩
      obtain ⟨x, q3, rfl⟩ := List.mem_map.1 (List.mem_of_getElem? hj)
      exact h3 x (repl_mem q3)
    refine eff_row hr (Grew.alloc w (.cells ((Array.range (cv.toNat * i.size)).map (zc[· % zc.size]!)) e (0, 0))) (v := .slice (some ⟨w.heap.size, 0, none⟩) lv.toNat cv.toNat) ?_ hrel (ref_new (Grew.alloc w _) (by omega) (by simp))
    unfold execOp
    rw [ho]
    have cond : ((decide (cv < 0) || decide ((i.bytes : Int) * cv > 2 ^ 48)) || decide (lv < 0) || decide (lv > cv)) = false := by
      simp only [hneg, hneg', hlc, hbig]; simp
    by_cases hn : cv.toNat * i.size = 0
    · simp only [Instr.makeSlice, Sem.run_bind, r_und hu, Result.andThen_ok, el, ec, asInt, asIntOf, Sem.run_pure, r_info hi, w1, w2, cond, Bool.false_eq_true, if_false, run_askRoom, r_size hs, if_pos hn]
      rw [hz0 hn]
      simp [newRow]
    · simp only [Instr.makeSlice, Sem.run_bind, r_und hu, Result.andThen_ok, el, ec, asInt, asIntOf, Sem.run_pure, r_info hi, w1, w2, cond, Bool.false_eq_true, if_false, run_askRoom, r_size hs, if_neg hn, h1]
      rw [hz1 hn]
      simp [newRow]
  by_cases hn : cv.toNat * i.size = 0
  · refine main #[] (fun _ => rfl) (fun hne => absurd hn hne) ?_
    have : cv.toNat = 0 := by rcases Nat.mul_eq_zero.1 hn with h | h <;> omega
    rw [this]
    simp [repl]; exact .nil
  · exact main zv.cells (fun hne => absurd hne hn) (fun _ => rfl) (zeros_Vs h2 hzs)
end
end Go.Va
end
section
namespace Go.Va

section
variable {P : Program} {κ : Kap} {h : Hp} {w : World} {M0 : Nat → Prop} {env : Nat → AV} {a : Act}

theorem wcells_some {k : Key} {ver : Nat} {cs : List AV} (hc : h.wcells k ver = some cs) : (h.get k).ro = false ∧ h.cellsAt k ver = some cs := by
  unfold Hp.wcells at hc
  split at hc
  · simp at hc
  · rename_i hn; exact ⟨by simpa using hn, hc⟩
theorem wmap_some {k : Key} {ver : Nat} {cs : List (PV × PV)} (hc : h.wmap k ver = some cs) : (h.get k).ro = false ∧ h.mapAt k ver = some cs := by
  unfold Hp.wmap at hc
  split at hc
  · simp at hc
  · rename_i hn; exact ⟨by simpa using hn, hc⟩

theorem CellsRel.setR {M : Nat → Prop} {cs vs : List AV} {us : Array Value} {xs : List Value} {off : Nat} (hc : CellsRel κ h w M cs us) (hv : Vs κ h w M vs xs) (ho : ∀ c ∈ vs, c.one = true) (hle : off + vs.length ≤ cs.length) :
    CellsRel κ h w M (Va.setR cs off vs) (Va.setR us.toList off xs).toArray := by
  have e := hv.length
  have hsz : cs.length ≤ us.size := by
    rcases Nat.lt_or_ge us.size cs.length with hlt | hge
    · exfalso
      obtain ⟨_, v, h3, _⟩ := hc us.size cs[us.size] (by simp [hlt])
      simp at h3
    · exact hge
  intro j c hj
  simp only [Va.setR, List.getElem?_append, List.getElem?_take, List.getElem?_drop, List.length_append, List.length_take] at hj
  simp only [Va.setR, List.getElem?_toArray, List.getElem?_append, List.getElem?_take, List.getElem?_drop, List.length_append, List.length_take, Array.length_toList, Array.getElem?_toList]
  rw [Nat.min_eq_left (by omega)] at hj
  rw [Nat.min_eq_left (by omega), ← e]
  split at hj
  · rename_i h1
    rw [if_pos h1]
    split at hj
    · rename_i h2; simp only [h2, if_true] at hj ⊢; exact hc j c hj
    · rename_i h2; rw [if_neg h2]
      obtain ⟨v, q1, q2⟩ := hv.get hj
      exact ⟨ho c (List.mem_of_getElem? hj), v, q1, q2⟩
  · rename_i h1
    rw [if_neg h1]
    exact hc _ c hj

theorem put_eq (h : Hp) {k : Key} (ob : AObj) (hro : (h.get k).ro = false) : h.put k ob = h.set k ⟨(h.get k).ver, false, some ob⟩ := by
  unfold Hp.put HE.lay; rw [hro]

/-- Cells written into a row that the table may write. -/
theorem store_row (hr : RelH κ h w M0) {k : Key} {ver b off : Nat} {cs vs : List AV} {us : List Value} (hc : h.wcells k ver = some cs) (hk : κ k = some b) (hv : Vs κ h w (Mx κ h M0) vs us) (ho : ∀ c ∈ vs, c.one = true)
    (hle : off + vs.length ≤ cs.length) : ∃ w', (storeCells ⟨b, off, none⟩ us).run P w = .ok () w' ∧ RelH κ (h.put k (.cells (setR cs off vs))) w' M0 ∧ Trans κ h w κ (h.put k (.cells (setR cs off vs))) w' := by
  obtain ⟨hro, hca⟩ := wcells_some hc
  obtain ⟨vs0, T, h1, h2⟩ := At.row hr hca hk
  have hsz := cs_size hr hca hk h1
  have e := hv.length
  obtain ⟨w', h3, h4⟩ := run_storeCells (P := P) us w b off 0 vs0 T h1 (one_cells hv ho) (by omega)
  simp only [Nat.add_zero] at h4
  have hs : (h.get k).obj.isSome = true := (cellsAt_lives hca).2
  rw [put_eq h _ hro]
  exact ⟨w', h3, relH_put hr h4 hk hs hro _ _ (Nat.le_refl _) (h2.setR hv ho hle), trans_put h4 hk hs hro _ _ (Nat.le_refl _)⟩

theorem st_eff (hr : RelH κ h w M0) (he : EnvRel κ h w (Mx κ h M0) env a.tmps) {o : Oper} {t : TypeId} {x y : Operand} {x' y' : Opd} {n ver off : Nat} {k : Key} {vs cs : List AV} (ho : o.op = .store t x y)
    (hn : szOf P t = some n) (hx : cOpd x = some x') (hy : cOpd y = some y') (hvs : (y'.ev env).cells = some vs) (hp : x'.ev env = .ptr k ver off) (hc : h.wcells k ver = some cs) (hl : vs.length = n) (hle : off + n ≤ cs.length) :
    Eff P κ h w M0 (execOp a.eval o) .undef (h.put k (.cells (setR cs off vs))) := by
  obtain ⟨h1, h2⟩ := cells_rel (opd_rel he hy) hvs
  have hxv := opd_rel he hx
  rw [hp] at hxv
  generalize hev : a.eval x = xv at hxv
  cases hxv with
  | ptr _ _ _ b q1 q2 =>
    have hk := q2 (cellsAt_lives (wcells_some hc).2)
    obtain ⟨w', h3, h4, h5⟩ := store_row (P := P) hr hc hk h1 h2 (off := off) (by omega)
    refine ⟨.skip, undef, w', κ, ?_, .inr ⟨rfl, rfl⟩, h4, h5, V.undef⟩
    have e := h1.length
    unfold execOp
    rw [ho]
    simp only [Instr.storeAt, hev, Instr.sureAddr, Sem.run_bind, Sem.run_pure, Result.andThen_ok, storeVar, r_size hn]
    rw [if_neg (by simp at e; omega)]
    simp only [h3, Sem.run_bind, Sem.run_pure, Result.andThen_ok]

theorem mkm_eff (hr : RelH κ h w M0) {o : Oper} {t : TypeId} (ho : o.op = .makeMap t none) (k : Key) : Eff P κ h w M0 (execOp a.eval o) (.map k ((h.get k).ver + 1)) (h.alloc k (.amap [])) := by
  have g := Grew.alloc w (.map #[] 0)
  refine ⟨.value (.map (some w.heap.size)), _, w.alloc (.map #[] 0), _, ?_, .inl rfl, relH_new hr g k _ _ (Nat.lt_succ_self _) ⟨w.heap.size, #[], 0, kset_same _ _ _, g.new, .nil, by simp [Births]⟩, trans_new g k _ _ (Nat.lt_succ_self _), ?_⟩
  · unfold execOp; rw [ho]; simp [Instr.makeMap]
  · exact .map k _ _ (by rw [alloc_eq, get_set_same]; exact Nat.le_refl _) (fun _ => kset_same _ _ _)

theorem rng_eff (hr : RelH κ h w M0) (he : EnvRel κ h w (Mx κ h M0) env a.tmps) {o : Oper} {t : TypeId} {x : Operand} {x' : Opd} {s : ByteArray} (ho : o.op = .range t x) (hu : P.underlying t = some .string) (hx : cOpd x = some x') (hs : x'.ev env = .p (.str s)) (k : Key) :
    Eff P κ h w M0 (execOp a.eval o) (.iter k ((h.get k).ver + 1)) (h.alloc k (.siter s 0)) := by
  have g := Grew.alloc w (.stringIter s 0)
  refine ⟨.value (.pointer (some ⟨w.heap.size, 0, none⟩)), _, w.alloc (.stringIter s 0), _, ?_, .inl rfl, relH_new hr g k _ _ (Nat.lt_succ_self _) ⟨w.heap.size, kset_same _ _ _, g.new⟩, trans_new g k _ _ (Nat.lt_succ_self _), ?_⟩
  · have := str_inv (opd_rel he hx) hs
    unfold execOp; rw [ho]; simp [Instr.range, r_und hu, this]
  · exact .iter k _ _ (by rw [alloc_eq, get_set_same]; exact Nat.le_refl _) (fun _ => kset_same _ _ _)

/-- A block that is no row of cells is written anew. -/
theorem trans_obj {b : Nat} {ob ob' : Obj} (hb : w.heap[b]? = some ob) (hn : ∀ c T f, ob ≠ .cells c T f) {k : Key} (hk : κ k = some b) (hs : (h.get k).obj.isSome = true) (hro : (h.get k).ro = false) (o : AObj) :
    Trans κ h w κ (h.set k ⟨(h.get k).ver, false, some o⟩) { w with heap := w.heap.setIfInBounds b ob' } where
  size := by simp
  frame := fun c hc hm => by
    have : b ≠ c := fun e => hm ⟨k, hs, hro, e ▸ hk⟩
    simp [this]
  mt := by
    rintro c ⟨k', h1, h2, h3⟩
    by_cases e : k' = k
    · subst e; exact .inl ⟨k', hs, hro, h3⟩
    · rw [get_set_other _ _ e] at h1 h2; exact .inl ⟨k', h1, h2, h3⟩
  own := by
    rintro c ⟨k', h1, h3⟩
    by_cases e : k' = k
    · subst e; exact .inl ⟨k', hs, h3⟩
    · rw [get_set_other _ _ e] at h1; exact .inl ⟨k', h1, h3⟩
  rows := fun c vs T fr hc => by
    have : b ≠ c := fun e => by subst e; rw [hb] at hc; cases hc; exact hn _ _ _ rfl
    exact ⟨vs, by simp [this, hc], rfl⟩
  vers := fun k' => by
    by_cases e : k' = k
    · subst e; rw [get_set_same]; exact Nat.le_refl _
    · rw [get_set_other _ _ e]; exact Nat.le_refl _
  same := fun k' h1 h2 => by
    by_cases e : k' = k
    · subst e; exact ⟨hs, rfl⟩
    · rw [get_set_other _ _ e] at h2; exact ⟨h2, rfl⟩
  os := rfl
  tape := rfl
  output := rfl

theorem relH_obj (hr : RelH κ h w M0) {b : Nat} {ob ob' : Obj} (hb : w.heap[b]? = some ob) (hn : ∀ c T f, ob ≠ .cells c T f) {k : Key} (hk : κ k = some b) (hs : (h.get k).obj.isSome = true) (hro : (h.get k).ro = false) (o : AObj)
    (ho : ObjRel κ (h.set k ⟨(h.get k).ver, false, some o⟩) { w with heap := w.heap.setIfInBounds b ob' } (Mx κ (h.set k ⟨(h.get k).ver, false, some o⟩) M0) k o) :
    RelH κ (h.set k ⟨(h.get k).ver, false, some o⟩) { w with heap := w.heap.setIfInBounds b ob' } M0 := by
  have t := trans_obj (ob' := ob') hb hn hk hs hro o
  refine hr.step t k (fun k' e => get_set_other _ _ e) (fun _ _ => rfl) (fun k' c e h1 h2 => ?_) (fun c hc => .inl ⟨hc, hs⟩) ?_
  · have : b ≠ c := fun e' => e (hr.inj k' k b h1 hs (e' ▸ h2) hk)
    simp [this]
  · intro o' h1; rw [get_set_same] at h1; cases h1; exact ho

theorem run_setObj {b : Nat} {ob ob' : Obj} (hb : w.heap[b]? = some ob) (hn : ∀ c T f, ob ≠ .cells c T f) : (setObj b ob').run P w = .ok () { w with heap := w.heap.setIfInBounds b ob' } := by
  cases ob with
  | cells c T f => exact absurd rfl (hn c T f)
  | _ => simp only [setObj, Sem.run, hb]

theorem live_some {k : Key} {ver : Nat} {o : AObj} (hl : h.live k ver = some o) : (h.get k).ver = ver ∧ (h.get k).obj = some o := by
  unfold Hp.live HE.live at hl
  split at hl
  · rename_i hv; exact ⟨hv, hl⟩
  · simp at hl

theorem nxt_eff (hr : RelH κ h w M0) (he : EnvRel κ h w (Mx κ h M0) env a.tmps) {o : Oper} {x : Operand} {x' : Opd} {k : Key} {ver pos : Nat} {s : ByteArray} (ho : o.op = .next x true) (hx : cOpd x = some x') (hit : x'.ev env = .iter k ver)
    (hl : h.live k ver = some (.siter s pos)) (hro : (h.get k).ro = false) :
    Eff P κ h w M0 (execOp a.eval o) (if pos < s.size then .p (.tup [.bool true, .int .i64 pos, .int .i32 (Utf8.decode s pos).1]) else .p (.tup [.bool false])) (if pos < s.size then h.put k (.siter s (pos + (Utf8.decode s pos).2)) else h) := by
  obtain ⟨hv, hob⟩ := live_some hl
  have hxv := opd_rel he hx
  rw [hit] at hxv
  generalize hev : a.eval x = xv at hxv
  have hs : (h.get k).obj.isSome = true := by rw [hob]; rfl
  cases hxv with
  | iter _ _ b q1 q2 =>
    have hk := q2 ⟨hv, hs⟩
    obtain ⟨b', h1, h2⟩ := hr.obj k _ hob
    rw [hk] at h1; cases h1
    have hn : ∀ c T f, Obj.stringIter s pos ≠ .cells c T f := by intro c T f e; cases e
    have hg : (getObj b).run P w = .ok (.stringIter s pos) w := by simp [getObj, Sem.run, h2]
    by_cases hlt : pos < s.size
    · simp only [hlt, if_true]
      have hblt := (Array.getElem?_eq_some_iff.1 h2).1
      refine ⟨.value (.tuple #[.bool true, .int .i64 pos, .int .i32 (Utf8.decode s pos).1]), _, { w with heap := w.heap.setIfInBounds b (.stringIter s (pos + (Utf8.decode s pos).2)) }, κ, ?_, .inl rfl, ?_, ?_, .p (.tup _ _ (.cons (.bool _) (.cons (.int _ _) (.cons (.int _ _) .nil))))⟩
      · unfold execOp; rw [ho]
        simp only [hev, Instr.next, Sem.run_bind, hg, Result.andThen_ok, hlt, if_true, run_setObj h2 hn, Sem.run_pure, goInt]
      · rw [put_eq h _ hro]
        exact relH_obj hr h2 hn hk hs hro _ ⟨b, hk, by simp [Array.getElem?_setIfInBounds, hblt]⟩
      · rw [put_eq h _ hro]; exact trans_obj h2 hn hk hs hro _
    · simp only [hlt, if_false]
      refine ⟨.value (.tuple #[.bool false]), _, w, κ, ?_, .inl rfl, hr, Trans.refl _ _ _, .p (.tup _ _ (.cons (.bool _) .nil))⟩
      unfold execOp; rw [ho]
      simp only [hev, Instr.next, Sem.run_bind, hg, Result.andThen_ok, hlt, if_false, Sem.run_pure]
end
end Go.Va
end
section
namespace Go.Va

section
variable {P : Program} {κ : Kap} {h : Hp} {w : World} {M M0 : Nat → Prop} {env : Nat → AV} {a : Act}

theorem eqInts_bits {N : Nat} : ∀ {xs ys : List PV} {us vs : List Value}, VL w M xs us → VL w M ys vs → eqInts xs ys = some true → (us.zip vs).all (fun (x, y) => Instr.sameBits N x y) = true
  | [], [], _, _, .nil, .nil, _ => rfl
  | [], _ :: _, _, _, .nil, .cons _ _, _ => rfl
  | _ :: _, [], _, _, .cons _ _, .nil, _ => by simp
  | x :: xs, y :: ys, _, _, .cons h1 h2, .cons h3 h4, he => by
    cases x <;> cases y <;> simp only [eqInts] at he <;> try (cases he; done)
    cases h1; cases h3
    split at he
    · split at he
      · rename_i hk hn
        simp only [List.zip_cons_cons, List.all_cons, Bool.and_eq_true]
        refine ⟨?_, eqInts_bits h2 h4 he⟩
        simp [Instr.sameBits, hk]
        simpa using hn
      · simp at he
    · simp at he

theorem eqInts_symm : ∀ {xs ys : List PV}, eqInts xs ys = some true → eqInts ys xs = some true
  | [], [], _ => rfl
  | [], _ :: _, h => by simp [eqInts] at h
  | x :: _, [], h => by cases x <;> simp [eqInts] at h
  | x :: xs, y :: ys, h => by
    cases x <;> cases y <;> simp only [eqInts] at h ⊢ <;> try (cases h; done)
    split at h
    · rename_i hk; subst hk
      split at h
      · rename_i hn; simp only [if_true]; rw [if_pos (by simpa using (by simpa using hn : _ = _).symm)]; exact eqInts_symm h
      · simp at h
    · simp at h

theorem sameK_bits {kk : Nat} {x y : PV} {u v : Value} (hx : VP w M x u) (hy : VP w M y v) (hs : sameK kk x y = some true) : Instr.sameBits 10000 v u = true := by
  unfold sameK at hs
  split at hs
  · cases hx; cases hy
    split at hs
    · rename_i hk; subst hk; simp at hs; subst hs; simp [Instr.sameBits]
    · simp at hs
  · cases hx; cases hy
    simp only [Option.some.injEq] at hs
    simp only [Instr.sameBits]
    rw [beq_toListBytes] at hs ⊢
    rw [beq_iff_eq] at hs ⊢; exact hs.symm
  · rename_i n xs ys
    cases hx with
    | agg _ us hl _ =>
      cases hy with
      | agg _ vs hl' _ =>
        split at hs
        · rename_i hh
          have e1 := hl.length; have e2 := hl'.length
          simp only [Array.length_toList] at e1 e2
          have hsym : eqInts ys xs = some true := eqInts_symm hs
          have := eqInts_bits (N := 9999) hl' hl hsym
          show Instr.sameBits (9999 + 1) _ _ = true
          simp only [Instr.sameBits, Bool.and_eq_true, beq_iff_eq]
          exact ⟨by omega, this⟩
        · simp at hs
  · simp at hs

/-- Where a put lands. -/
def PutIx (kp xp : PV) (kv : Value) (es es' : List (PV × PV)) (ces : List MapEntry) (i : Nat) : Option (Nat × Value) → Prop
  | none => es' = es ++ [(kp, xp)]
  | some (j, _) => i ≤ j ∧ ∃ e, ces[j - i]? = some e ∧ Instr.sameBits 10000 e.key kv = true ∧ es' = es.set (j - i) (kp, xp)

theorem PutIx.cons {kp xp : PV} {kv : Value} {es es' : List (PV × PV)} {ces : List MapEntry} {i : Nat} {x : Option (Nat × Value)} {p : PV × PV} {e : MapEntry} (hx : PutIx kp xp kv es es' ces (i + 1) x) :
    PutIx kp xp kv (p :: es) (p :: es') (e :: ces) i x := by
  cases x with
  | none => simp only [PutIx] at hx ⊢; rw [hx]; rfl
  | some jv =>
    obtain ⟨j, v⟩ := jv
    obtain ⟨h1, e', h2, h3, h4⟩ := hx
    have e1 : j - i = (j - (i + 1)) + 1 := by omega
    refine ⟨by omega, e', ?_, h3, ?_⟩
    · rw [e1]; simpa using h2
    · rw [e1, h4]; rfl

theorem putAsk_rel {kt kk : Nat} (hT : KeyT P kt kk) {n : Nat} (hn : kk = n + 2) {kp xp : PV} {kv : Value} (hk : VP w M kp kv) : ∀ {es : List (PV × PV)} {ces : List MapEntry} (i : Nat) {es' : List (PV × PV)}, EntRel w M es ces →
    mapPut kk kp xp es = some es' → (∃ x, (Instr.findAsking kt kv ces i).run P w = .ok x w ∧ PutIx kp xp kv es es' ces i x) := by
  intro es ces i es' he hf
  induction he generalizing i es' with
  | nil => simp [mapPut] at hf; subst hf; exact ⟨none, by simp [Instr.findAsking], rfl⟩
  | @cons ka va e es ces h1 h2 h3 ih =>
    simp only [mapPut, Option.bind_eq_some_iff] at hf
    obtain ⟨b, hb, hf⟩ := hf
    subst hn
    obtain ⟨el, k, q1, q2, q3⟩ := hT
    have hbits := fun (hb1 : b = true) => sameK_bits hk h1 (hb1 ▸ hb)
    have heq : (Op.equal kt kv e.key).run P w = .ok b w := by
      cases hk with
      | agg xs us hl _ =>
        cases hkk : e.key with
        | agg vs =>
          rw [hkk] at h1
          cases h1 with
          | agg ys _ hl' _ =>
            simp only [sameK] at hb
            split at hb
            · rename_i hh; obtain ⟨g1, g2, g3, g4⟩ := hh
              exact equal_ints q1 q2 q3 hl hl' g1 g2 g3 g4 hb
            · simp at hb
        | _ => rw [hkk] at h1; cases h1 <;> simp [sameK] at hb
      | _ => simp [sameK] at hb
    simp only [Instr.findAsking, Sem.run_bind, heq, Result.andThen_ok, Sem.run_ite]
    cases b with
    | true => simp at hf; subst hf; exact ⟨_, rfl, Nat.le_refl _, e, by simp, hbits rfl, by simp⟩
    | false =>
      simp only [Bool.false_eq_true, if_false, Option.map_eq_some_iff] at hf ⊢
      obtain ⟨es2, hf, rfl⟩ := hf
      obtain ⟨x, g1, g2⟩ := ih (i + 1) hf
      exact ⟨x, g1, g2.cons⟩

theorem putNow_rel {kt kk : Nat} (hT : KeyT P kt kk) {kp xp : PV} {kv : Value} (hk : VP w M kp kv) (hg : goodK kk kp = true) {d : TypeDesc} (hd : P.underlying kt = some d) (hlt : kk < 2) :
    ∀ {es : List (PV × PV)} {ces : List MapEntry} (i : Nat) {es' : List (PV × PV)}, EntRel w M es ces →
    mapPut kk kp xp es = some es' → (∃ x, Instr.findNow d kv ces i = some x ∧ PutIx kp xp kv es es' ces i x) := by
  intro es ces i es' he hf
  induction he generalizing i es' with
  | nil => simp [mapPut] at hf; subst hf; exact ⟨none, by simp [Instr.findNow], rfl⟩
  | @cons ka va e es ces h1 h2 h3 ih =>
    simp only [mapPut, Option.bind_eq_some_iff] at hf
    obtain ⟨b, hb, hf⟩ := hf
    have hbits := fun (hb1 : b = true) => sameK_bits hk h1 (hb1 ▸ hb)
    have hs : Instr.sameNow d kv e.key = some b := by
      match kk, hlt with
      | 0, _ =>
        obtain ⟨k, hk'⟩ := hT
        rw [hd] at hk'; cases hk'
        cases hk <;> simp [goodK] at hg
        cases hkk : e.key <;> rw [hkk] at h1 <;> cases h1 <;> simp [sameK] at hb
        simp [Instr.sameNow, hb]
      | 1, _ =>
        have hT' : P.underlying kt = some .string := hT
        rw [hd] at hT'; cases hT'
        cases hk <;> simp [goodK] at hg
        cases hkk : e.key <;> rw [hkk] at h1 <;> cases h1 <;> simp [sameK] at hb
        simp [Instr.sameNow, hb]
    simp only [Instr.findNow, hs]
    cases b with
    | true => simp at hf; subst hf; exact ⟨_, rfl, Nat.le_refl _, e, by simp, hbits rfl, by simp⟩
    | false =>
      simp only [Bool.false_eq_true, if_false, Option.map_eq_some_iff] at hf ⊢
      obtain ⟨es2, hf, rfl⟩ := hf
      obtain ⟨x, g1, g2⟩ := ih (i + 1) hf
      exact ⟨x, g1, g2.cons⟩

theorem put_rel {kt kk : Nat} (hT : KeyT P kt kk) {kp xp : PV} {kv : Value} (hk : VP w M kp kv) (hg : goodK kk kp = true) {es es' : List (PV × PV)} {ces : List MapEntry} (he : EntRel w M es ces)
    (hf : mapPut kk kp xp es = some es') : ∃ x, (Instr.findKey kt kv ces).run P w = .ok x w ∧ PutIx kp xp kv es es' ces 0 x := by
  match kk with
  | 0 =>
    obtain ⟨k, hd⟩ := hT
    obtain ⟨x, h1, h2⟩ := putNow_rel (kk := 0) (P := P) ⟨k, hd⟩ hk hg hd (by omega) 0 he hf
    exact ⟨x, by simp [Instr.findKey, r_und hd, h1], h2⟩
  | 1 =>
    obtain ⟨x, h1, h2⟩ := putNow_rel (kk := 1) (P := P) hT hk hg hT (by omega) 0 he hf
    exact ⟨x, by simp [Instr.findKey, r_und (show P.underlying kt = some .string from hT), h1], h2⟩
  | n + 2 =>
    have hd := hT
    obtain ⟨e, k, q1, _, _⟩ := hd
    cases ces with
    | nil =>
      cases he
      simp [mapPut] at hf; subst hf
      exact ⟨none, by simp [Instr.findKey, r_und q1, Instr.findNow], rfl⟩
    | cons c ces =>
      have hsn : Instr.sameNow (.array n e) kv c.key = none := by cases kv <;> simp [Instr.sameNow]
      obtain ⟨x, h1, h2⟩ := putAsk_rel hT rfl hk 0 he hf
      exact ⟨x, by simp [Instr.findKey, r_und q1, Instr.findNow, hsn, h1], h2⟩

theorem EntRel.app {es fs : List (PV × PV)} {ces cfs : List MapEntry} (h1 : EntRel w M es ces) (h2 : EntRel w M fs cfs) : EntRel w M (es ++ fs) (ces ++ cfs) := by
  induction h1 with
  | nil => exact h2
  | cons q1 q2 _ ih => exact .cons q1 q2 ih
theorem EntRel.mod {kp xp : PV} {kv xv : Value} (hk : VP w M kp kv) (hx : VP w M xp xv) {es : List (PV × PV)} {ces : List MapEntry} (h1 : EntRel w M es ces) : ∀ (j : Nat), EntRel w M (es.set j (kp, xp)) (ces.modify j fun e => { e with key := kv, val := xv }) := by
  induction h1 with
  | nil => intro j; simp; exact .nil
  | cons q1 q2 q3 ih =>
    intro j
    cases j with
    | zero => exact .cons hk hx q3
    | succ j => exact .cons q1 q2 (ih j)

theorem births_push {ces : Array MapEntry} {clock : Nat} (h : Births ces clock) (k v : Value) : Births (ces.push { key := k, val := v, born := clock }) (clock + 1) := by
  obtain ⟨h1, h2⟩ := h
  refine ⟨fun x hx => ?_, ?_⟩
  · simp only [Array.toList_push, List.mem_append, List.mem_singleton] at hx
    rcases hx with hx | rfl
    · have := h1 x hx; omega
    · exact Nat.lt_succ_self _
  · simp only [Array.toList_push, List.map_append, List.map_cons, List.map_nil]
    rw [List.nodup_append]
    refine ⟨h2, by simp, fun a ha b hb => ?_⟩
    obtain ⟨x, hx, rfl⟩ := List.mem_map.1 ha
    have := h1 x hx
    simp at hb
    omega
theorem births_modify {ces : Array MapEntry} {clock : Nat} (h : Births ces clock) (j : Nat) (k v : Value) : Births (ces.modify j fun e => { e with key := k, val := v }) clock := by
  have e : ((ces.modify j fun e => { e with key := k, val := v }).toList.map (·.born)) = ces.toList.map (·.born) := by
    apply List.ext_getElem?
    intro i
    simp only [List.getElem?_map, Array.getElem?_toList, Array.getElem?_modify]
    split
    · cases ces[i]? <;> rfl
    · rfl
  refine ⟨fun x hx => ?_, by rw [e]; exact h.2⟩
  have : x.born ∈ ces.toList.map (·.born) := by rw [← e]; exact List.mem_map_of_mem hx
  obtain ⟨y, hy, e2⟩ := List.mem_map.1 this
  rw [← e2]; exact h.1 y hy

theorem mup_eff (hr : RelH κ h w M0) (he : EnvRel κ h w (Mx κ h M0) env a.tmps) {o : Oper} {t kt e : TypeId} {m k x : Operand} {m' k' x' : Opd} {kk ver : Nat} {key : Key} {kp xp : PV} {es es' : List (PV × PV)} (ho : o.op = .mapUpdate t m k x ∨ o.op = .insert t m k x)
    (hu : P.underlying t = some (.map kt e)) (hkk : keyKind P kt = some kk) (hm : cOpd m = some m') (hk : cOpd k = some k') (hx : cOpd x = some x') (hmv : m'.ev env = .map key ver) (hkv : k'.ev env = .p kp) (hxv : x'.ev env = .p xp)
    (hes : h.wmap key ver = some es) (hg : goodK kk kp = true) (hp : mapPut kk kp xp es = some es') : Eff P κ h w M0 (execOp a.eval o) .undef (h.put key (.amap es')) := by
  obtain ⟨hro, hma⟩ := wmap_some hes
  have hmr := opd_rel he hm; rw [hmv] at hmr
  have hkr := opd_rel he hk; rw [hkv] at hkr
  have hxr := opd_rel he hx; rw [hxv] at hxr
  generalize hem : a.eval m = mv at hmr
  generalize hek : a.eval k = kv at hkr
  generalize hex : a.eval x = xv at hxr
  cases hkr with | p hkr =>
  cases hxr with | p hxr =>
  cases hmr with
  | map _ _ b q1 q2 =>
    obtain ⟨ces, clock, h1, h2⟩ := map_row hr hma q2
    have hbi : Births ces clock := by
      obtain ⟨m1, m2⟩ := mapAt_some hma
      obtain ⟨b', ces', clock', m3, m4, -, m5⟩ := hr.obj key _ m2
      rw [q2 ⟨m1, by rw [m2]; rfl⟩] at m3; cases m3
      rw [h1] at m4; cases m4; exact m5
    obtain ⟨hv, hob⟩ := mapAt_some hma
    have hs : (h.get key).obj.isSome = true := by rw [hob]; rfl
    have hkb := q2 ⟨hv, hs⟩
    have hT := keyKind_rel hkk
    obtain ⟨r, h3, h4⟩ := put_rel hT hkr hg h2 hp
    have hn : ∀ c T f, Obj.map ces clock ≠ .cells c T f := by intro c T f e; cases e
    have hck : (Instr.checkKey false 10000 kt kv).run P w = .ok () w := checkKey_rel hT hkr hg false 9998
    have hblt := (Array.getElem?_eq_some_iff.1 h1).1
    have fin : ∀ (ces' : Array MapEntry) (clock' : Nat), EntRel w (Mx κ h M0) es' ces'.toList → Births ces' clock' → (Instr.mapUpdate t (.map (some b)) kv xv).run P w = .ok () { w with heap := w.heap.setIfInBounds b (.map ces' clock') } →
        Eff P κ h w M0 (execOp a.eval o) .undef (h.put key (.amap es')) := by
      intro ces' clock' hrel hbs hrun
      refine ⟨.skip, undef, { w with heap := w.heap.setIfInBounds b (.map ces' clock') }, κ, ?_, .inr ⟨rfl, rfl⟩, ?_, ?_, V.undef⟩
      · unfold execOp
        rcases ho with ho | ho <;> rw [ho] <;> simp only [hem, hek, hex, Sem.run_bind, hrun, Result.andThen_ok, Sem.run_pure]
      · rw [put_eq h _ hro]
        have t := trans_obj (ob' := .map ces' clock') h1 hn hkb hs hro (.amap es')
        exact relH_obj hr h1 hn hkb hs hro _ ⟨b, ces', clock', hkb, by simp [hblt], hrel.keeps (t.keeps M0 hr.m0lt), hbs⟩
      · rw [put_eq h _ hro]; exact trans_obj h1 hn hkb hs hro _
    cases r with
    | none =>
      simp only [PutIx] at h4
      subst h4
      refine fin (ces.push { key := kv, val := xv, born := clock }) (clock + 1) (by simpa using h2.app (.cons hkr hxr .nil)) (births_push hbi kv xv) ?_
      simp only [Instr.mapUpdate, Sem.run_bind, r_und hu, Result.andThen_ok, run_getObj_map h1, hck, h3, run_setObj h1 hn]
    | some jv =>
      obtain ⟨j, v⟩ := jv
      obtain ⟨_, e0, g1, g2, rfl⟩ := h4
      simp only [Nat.sub_zero] at g1 ⊢
      refine fin (ces.modify j fun e => { e with key := kv, val := xv }) clock (by simpa using h2.mod hkr hxr j) (births_modify hbi j kv xv) ?_
      have g1' : ces[j]? = some e0 := by rw [← Array.getElem?_toList]; exact g1
      simp only [Instr.mapUpdate, Sem.run_bind, r_und hu, Result.andThen_ok, run_getObj_map h1, hck, h3, Instr.keyThatStays, g1', Option.map_some, Option.getD_some, g2, if_true, Sem.run_pure, run_setObj h1 hn]
end
end Go.Va
end
section
namespace Go.Va

section
variable {P : Program} {κ : Kap} {h : Hp} {w : World} {M M0 : Nat → Prop} {env : Nat → AV} {a : Act}

theorem cell_heap {w' : World} (hh : ∀ b, b < w.heap.size → w'.heap[b]? = w.heap[b]?) {A : Addr} {v : Value} (hc : w.cell? A = some v) : w'.cell? A = some v := by
  have hlt := World.block_lt_of_cell? w A hc
  simp only [World.cell?] at hc ⊢
  rw [hh _ hlt]; exact hc

theorem Vs.take {cs : List AV} {us : List Value} (hv : Vs κ h w M cs us) (n : Nat) : Vs κ h w M (cs.take n) (us.take n) := by
  apply Vs.of_get
  · simp [hv.length]
  · intro i c v h1 h2
    rw [List.getElem?_take] at h1 h2
    split at h1
    · rename_i hlt; rw [if_pos hlt] at h2
      obtain ⟨u, q1, q2⟩ := hv.get h1
      rw [h2] at q1; cases q1; exact q2
    · simp at h1

/-- What a slice's cells are, for an operation that reads the first of them. -/
def Firsts (P : Program) (w : World) (s m : Nat) (v : Value) (us : List Value) : Prop :=
  us.length = m * s ∧ ∀ q, q ≤ m → ∀ w' : World, (∀ b, b < w.heap.size → w'.heap[b]? = w.heap[b]?) → (Builtin.firstCells s q v).run P w' = .ok (us.take (q * s)).toArray w'

theorem firsts_at {b off n cap s : Nat} {cs : List AV} {us : List Value} (hl : us.length = cs.length) (hm : ∀ (j : Nat) (v : Value), us[j]? = some v → w.cell? ((⟨b, off, none⟩ : Addr).add j) = some v) (hcs : cs.length = n * s) :
    Firsts P w s n (.slice (some ⟨b, off, none⟩) n cap) us := by
  refine ⟨by omega, fun q hq w' hh => ?_⟩
  have hqs : q * s ≤ n * s := Nat.mul_le_mul_right _ hq
  refine run_firstCells_some (P := P) w' s q ⟨b, off, none⟩ n cap (us.take (q * s)) (by simp; omega) (fun j v hj => ?_)
  rw [List.getElem?_take] at hj
  split at hj
  · exact cell_heap hh (hm j v hj)
  · simp at hj

theorem firsts_nil {A : Option Addr} {n cap s : Nat} (hn : n * s = 0) : Firsts P w s n (.slice A n cap) [] := by
  refine ⟨by simpa using hn.symm, fun q hq w' hh => ?_⟩
  have hqs : q * s = 0 := by have := Nat.mul_le_mul_right s hq; omega
  cases A with
  | none => simp [Builtin.firstCells]
  | some b => rw [List.take_nil]; exact run_firstCells_some (P := P) w' s q b n cap [] (by simp [hqs]) (by simp)

theorem src_rel (hr : RelH κ h w M0) {y : AV} {v : Value} {s m : Nat} {new : List AV} (hv : V κ h w (Mx κ h M0) y v) (hs : srcCells h s y = some (m, new)) :
    ∃ A cap us, v = .slice A m cap ∧ Vs κ h w (Mx κ h M0) new us ∧ (∀ c ∈ new, c.one = true) ∧ Firsts P w s m v us := by
  unfold srcCells at hs
  split at hs
  · rename_i fl n cs
    split at hs
    · rename_i hl
      simp at hs; obtain ⟨rfl, rfl⟩ := hs
      cases hv with
      | p hp =>
        cases hp with
        | frz0 _ _ A cap q1 q2 => exact ⟨A, cap, [], rfl, .nil, by simp, firsts_nil (by simpa using hl.symm)⟩
        | frz _ _ _ b o cap q1 q2 q3 q4 =>
          have ha := At.of_VC (κ := κ) (h := h) q4
          obtain ⟨us, g1, g2, g3⟩ := ha.values
          exact ⟨_, cap, us, rfl, g3, ha.ones, firsts_at g1 g2 (by simpa using hl)⟩
    · simp at hs
  · rename_i k ver off n s' clip
    simp only [Option.bind_eq_some_iff] at hs
    obtain ⟨cs, hc, hs⟩ := hs
    split at hs
    · rename_i hh
      obtain ⟨rfl, hle⟩ := hh
      simp at hs; obtain ⟨rfl, rfl⟩ := hs
      cases hv with
      | ref _ _ _ _ _ _ b cap q1 q2 q3 q4 =>
        have ha := ((At.of_row hr hc (q4 (cellsAt_lives hc)).1).drop off).take (n * s')
        rw [Nat.zero_add] at ha
        obtain ⟨us, g1, g2, g3⟩ := ha.values
        exact ⟨_, cap, us, rfl, g3, ha.ones, firsts_at g1 g2 (by simp; omega)⟩
      | ref0 _ _ _ _ _ A q1 q2 => exact ⟨A, 0, [], rfl, by simp; exact .nil, by simp, firsts_nil (by simp)⟩
    · simp at hs
  · simp at hs

theorem V.nil_int {n : Nat} : V κ h w M (.p (.int .i64 n)) (goInt n) := .p (.int _ _)

theorem args2 {ts : Array TypeId} {av : Array Value} {t u : TypeId} {us : List Value} {M : Nat → Prop} {x y : AV} (hts : ts.toList = [t, u]) (hl : av.toList = us) (hv : Vs κ h w M [x, y] us) :
    ∃ xv yv, av = #[xv, yv] ∧ ts = #[t, u] ∧ V κ h w M x xv ∧ V κ h w M y yv := by
  cases hv with | cons h1 h2 =>
  cases h2 with | cons h3 h4 =>
  cases h4
  exact ⟨_, _, by rw [← Array.toList_inj]; exact hl, by rw [← Array.toList_inj]; exact hts, h1, h3⟩
theorem args1 {ts : Array TypeId} {av : Array Value} {t : TypeId} {us : List Value} {M : Nat → Prop} {x : AV} (hts : ts.toList = [t]) (hl : av.toList = us) (hv : Vs κ h w M [x] us) :
    ∃ xv, av = #[xv] ∧ ts = #[t] ∧ V κ h w M x xv := by
  cases hv with | cons h1 h2 =>
  cases h2
  exact ⟨_, by rw [← Array.toList_inj]; exact hl, by rw [← Array.toList_inj]; exact hts, h1⟩

theorem zero_none {k : Key} {ver n : Nat} (he : n ≠ 0) {v : Value} {off s : Nat} {clip : Bool} (hv : V κ h w M (.ref k ver off n s clip) v) (hl : Lives h k ver) :
    ∃ b cap, v = .slice (some ⟨b, off, none⟩) n cap ∧ n ≤ cap ∧ (clip = true → cap = n) ∧ κ k = some b ∧ Room w b off s cap clip := by
  cases hv with
  | ref _ _ _ _ _ _ b cap q1 q2 q3 q4 => exact ⟨b, cap, rfl, q2, q3, (q4 hl).1, (q4 hl).2⟩
  | ref0 => exact absurd rfl he

theorem cpy_run (hr : RelH κ h w M0) {x y : AV} {xv yv : Value} {t u ty e : TypeId} {s : Nat} {r : AV} {h' : Hp} (hu : P.underlying t = some (.slice e)) (hs : szOf P e = some s)
    (hx : V κ h w (Mx κ h M0) x xv) (hy : V κ h w (Mx κ h M0) y yv) (hc : opCpy h s x y = some (r, h')) :
    ∃ v w', (Builtin.copy_ #[t, u] ty #[xv, yv]).run P w = .ok v w' ∧ RelH κ h' w' M0 ∧ Trans κ h w κ h' w' ∧ V κ h' w' (Mx κ h' M0) r v := by
  unfold opCpy at hc
  simp only [Option.bind_eq_some_iff] at hc
  obtain ⟨⟨m, new⟩, hsrc, hc⟩ := hc
  obtain ⟨A, cap, us, rfl, g1, g2, g3, g4⟩ := src_rel (P := P) hr hy hsrc
  simp only at hc
  split at hc
  · rename_i k ver off n s' clip
    simp only [Option.bind_eq_some_iff] at hc
    obtain ⟨cs, hca, hc⟩ := hc
    split at hc
    · rename_i h0
      simp at hc; obtain ⟨rfl, rfl⟩ := hc
      have : ∃ B c2, xv = .slice B n c2 := by cases hx <;> exact ⟨_, _, rfl⟩
      obtain ⟨B, c2, rfl⟩ := this
      have hf := g4 0 (Nat.zero_le _) w (fun _ _ => rfl)
      simp at hf
      refine ⟨_, w, ?_, hr, Trans.refl _ _ _, V.nil_int (n := 0)⟩
      have e0 : Nat.min m n = 0 := h0
      cases B <;> simp [Builtin.copy_, r_und hu, Builtin.lenOf, e0, r_size hs, hf, storeCells]
    · rename_i h0
      split at hc
      · rename_i hh
        obtain ⟨rfl, hle⟩ := hh
        simp at hc; obtain ⟨rfl, rfl⟩ := hc
        have hn : n ≠ 0 := by intro e; subst e; simp at h0
        obtain ⟨b, c2, rfl, q1, q2, q3, q4⟩ := zero_none hn hx (cellsAt_lives (wcells_some hca).2)
        have hf := g4 (min m n) (Nat.min_le_left _ _) w (fun _ _ => rfl)
        have hlen := g1.length
        have hmn : min m n * s' ≤ n * s' := Nat.mul_le_mul_right _ (Nat.min_le_right _ _)
        have hmn2 : min m n * s' ≤ m * s' := Nat.mul_le_mul_right _ (Nat.min_le_left _ _)
        obtain ⟨w', h3, h4, h5⟩ := store_row (P := P) hr hca q3 (g1.take (min m n * s')) (fun c hc => g2 c (List.mem_of_mem_take hc)) (off := off) (by simp; omega)
        refine ⟨_, w', ?_, h4, h5, V.nil_int⟩
        have e0 : Nat.min m n = min m n := rfl
        simp only [Builtin.copy_, List.getElem?_toArray, List.getElem?_cons_zero, List.getElem?_cons_succ, Sem.run_bind, r_und hu, Result.andThen_ok, Builtin.lenOf, Sem.run_pure, e0, r_size hs, hf, h3]
      · simp at hc
  · simp at hc

theorem zeros_repl {z : List PV} {zv : Array Value} {n s : Nat} (hz : VL w M z zv.toList) (hs : z.length = s) : Vs κ h w M (repl n (z.map .p)) (Builtin.zeroCells zv n).toList := by
  have e1 : repl n (z.map AV.p) = (repl n z).map .p := by simp [repl, List.map_flatten]
  have hl := hz.length
  simp only [Array.length_toList] at hl
  have := zeros_Vs (κ := κ) (h := h) (n := n) hz hs
  rw [e1]
  unfold Builtin.zeroCells
  rw [← hl, hs]
  rw [← hl, hs] at this
  exact this

theorem clr_run (hr : RelH κ h w M0) {x : AV} {xv : Value} {t ty e : TypeId} {s : Nat} {z : List PV} (hu : P.underlying t = some (.slice e)) (hz : zeroPV P e = some z) (hx : V κ h w (Mx κ h M0) x xv) :
    (∀ fl cs, x = .p (.frz fl 0 cs) → (Builtin.clear_ #[t] ty #[xv]).run P w = .ok undef w) ∧
    (∀ k ver off n clip cs, x = .ref k ver off n s clip → h.wcells k ver = some cs → (n = 0 → (Builtin.clear_ #[t] ty #[xv]).run P w = .ok undef w) ∧
      (n ≠ 0 → z.length = s → off + n * s ≤ cs.length → ∃ w', (Builtin.clear_ #[t] ty #[xv]).run P w = .ok undef w' ∧ RelH κ (h.put k (.cells (setR cs off (repl n (z.map .p))))) w' M0 ∧ Trans κ h w κ (h.put k (.cells (setR cs off (repl n (z.map .p))))) w')) := by
  have h0 : ∀ A c, (Builtin.clear_ #[t] ty #[.slice A 0 c]).run P w = .ok undef w := by
    intro A c
    cases A <;> simp [Builtin.clear_, r_und hu, undef]
  refine ⟨fun fl cs e => ?_, fun k ver off n clip cs e hc => ⟨fun e0 => ?_, fun hn hzs hle => ?_⟩⟩
  · subst e; cases hx with | p hp => cases hp <;> exact h0 _ _
  · subst e0; subst e; cases hx <;> exact h0 _ _
  · subst e
    obtain ⟨b, c2, rfl, q1, q2, q3, q4⟩ := zero_none hn hx (cellsAt_lives (wcells_some hc).2)
    obtain ⟨zv, g1, g2, g3⟩ := zeros_rel (w := w) (M := Mx κ h M0) hz
    obtain ⟨w', h3, h4, h5⟩ := store_row (P := P) hr hc q3 (zeros_repl (n := n) g2 hzs) (off := off) (by
        intro c hc; obtain ⟨x, q, rfl⟩ := List.mem_map.1 (repl_mem hc); exact g3 x q) (by simp [repl_length, hzs]; omega)
    refine ⟨w', ?_, h4, h5⟩
    cases n with
    | zero => exact absurd rfl hn
    | succ n => simp only [Builtin.clear_, List.getElem?_toArray, List.getElem?_cons_zero, Sem.run_bind, r_und hu, Result.andThen_ok, g1, h3, Sem.run_pure, undef]
end
end Go.Va
end
section
namespace Go.Va

section
variable {P : Program} {κ : Kap} {h : Hp} {w : World} {M M0 : Nat → Prop} {env : Nat → AV} {a : Act}

theorem roomy_spec {n b : Nat} (hr : roomy n b = true) : n * b ≤ 2 ^ 45 ∧ n ≤ 2 ^ 45 := by
  simpa [roomy] using hr

theorem app_grow {t u ty e e' : TypeId} {i : TypeInfo} {z : Value} (ht : P.underlying t = some (.slice e)) (hu : P.underlying u = some (.slice e')) (hi : P.info? e = some i) (hz : i.zero = some z)
    {base A : Option Addr} {n cap m c2 : Nat} {olds news : List Value} (ho : Firsts P w i.size n (.slice base n cap) olds) (hn : Firsts P w i.size m (.slice A m c2) news) (hg : cap < n + m) (hr : roomy (n + m) i.bytes = true) (hzs : z.cells.size = i.size) :
    ∃ c rest, n + m ≤ c ∧ (olds.toArray ++ news.toArray ++ rest).size = c * i.size ∧
    (Builtin.append_ #[t, u] ty #[.slice base n cap, .slice A m c2]).run P w = .ok (.slice (some ⟨w.heap.size, 0, none⟩) (n + m) c) (w.drew.alloc (.cells (olds.toArray ++ news.toArray ++ rest) e)) := by
  obtain ⟨r1, r2⟩ := roomy_spec hr
  have h0 : ¬ (n + m ≤ cap) := by omega
  have h63' : ¬ (9223372036854775807 < ((n : Int) + (m : Int))) := by omega
  have hfit : Builtin.nextslicecap (n + m) cap * i.bytes ≤ 281474976710656 := growslice_fits hg (by omega)
  have h48' : ¬ (281474976710656 < Builtin.nextslicecap (n + m) cap * i.bytes) := by omega
  have hfo := ho.2 n (Nat.le_refl _) w.drew (fun _ _ => rfl)
  have hfn := hn.2 m (Nat.le_refl _) w.drew (fun _ _ => rfl)
  rw [List.take_of_length_le (by rw [ho.1]; exact Nat.le_refl _)] at hfo
  rw [List.take_of_length_le (by rw [hn.1]; exact Nat.le_refl _)] at hfn
  have hc : n + m ≤ grownCap w (n + m) cap e := by simp only [grownCap, Question.cut]; omega
  refine ⟨grownCap w (n + m) cap e, Builtin.zeroCells z.cells (grownCap w (n + m) cap e - (n + m)), hc, ?_, ?_⟩
  · simp only [Array.size_append, List.size_toArray, Builtin.zeroCells, Array.size_map, Array.size_range, ho.1, hn.1, hzs]
    have : grownCap w (n + m) cap e * i.size = (n + m) * i.size + (grownCap w (n + m) cap e - (n + m)) * i.size := by rw [← Nat.add_mul]; congr 1; omega
    rw [this, Nat.add_mul]
  · simp [Builtin.append_, run_underlying ht, run_underlying hu, sizeOf, typeInfo, zeroValue, hi, hz, Builtin.lenOf, h0, h63', h48', Question.forced, hfo, hfn, newRow, grownCap]
    congr 2
    apply Array.ext'
    simp [List.append_assoc]

theorem app_room {t u ty e e' : TypeId} {i : TypeInfo} (ht : P.underlying t = some (.slice e)) (hu : P.underlying u = some (.slice e')) (hi : P.info? e = some i)
    {base A : Option Addr} {n cap m c2 : Nat} {news : List Value} {w' : World} (hn : Firsts P w i.size m (.slice A m c2) news) (hg : n + m ≤ cap) (hs : match base with | some b => (storeCells (b.add (n * i.size)) news).run P w = .ok () w' | none => w' = w) :
    (Builtin.append_ #[t, u] ty #[.slice base n cap, .slice A m c2]).run P w = .ok (.slice base (n + m) cap) w' := by
  have hfn := hn.2 m (Nat.le_refl _) w (fun _ _ => rfl)
  rw [List.take_of_length_le (by rw [hn.1]; exact Nat.le_refl _)] at hfn
  cases base with
  | none =>
    simp only at hs; subst hs
    simp [Builtin.append_, run_underlying ht, run_underlying hu, sizeOf, typeInfo, hi, Builtin.lenOf, hg, hfn]
  | some b =>
    simp only at hs
    simp [Builtin.append_, run_underlying ht, run_underlying hu, sizeOf, typeInfo, hi, Builtin.lenOf, hg, hfn, hs]

theorem cat_cells {cs new : List AV} {us xs : List Value} {rest : Array Value} (h1 : Vs κ h w M cs us) (h2 : Vs κ h w M new xs) (o1 : ∀ c ∈ cs, c.one = true) (o2 : ∀ c ∈ new, c.one = true) :
    CellsRel κ h w M (cs ++ new) (us.toArray ++ xs.toArray ++ rest) := by
  intro j c hj
  obtain ⟨v, q1, q2⟩ := (h1.append h2).get hj
  refine ⟨?_, v, ?_, q2⟩
  · rcases List.mem_append.1 (List.mem_of_getElem? hj) with hm | hm
    · exact o1 c hm
    · exact o2 c hm
  · have : j < (us ++ xs).length := (List.getElem?_eq_some_iff.1 q1).1
    rw [Array.getElem?_append_left (by simpa using this)]
    simpa using q1

theorem app_run (hr : RelH κ h w M0) {x y : AV} {xv yv : Value} {t u ty e e' : TypeId} {i : TypeInfo} {z : Value} {r : AV} {h' : Hp} {key : Key} (ht : P.underlying t = some (.slice e)) (hu : P.underlying u = some (.slice e')) (hi : P.info? e = some i) (hz : i.zero = some z)
    (hzs : z.cells.size = i.size) (hx : V κ h w (Mx κ h M0) x xv) (hy : V κ h w (Mx κ h M0) y yv) (hc : opApp key h i.size i.bytes x y = some (r, h')) :
    ∃ v w' κ', (Builtin.append_ #[t, u] ty #[xv, yv]).run P w = .ok v w' ∧ RelH κ' h' w' M0 ∧ Trans κ h w κ' h' w' ∧ V κ' h' w' (Mx κ' h' M0) r v := by
  unfold opApp at hc
  simp only [Option.bind_eq_some_iff] at hc
  obtain ⟨⟨m, new⟩, hsrc, hc⟩ := hc
  obtain ⟨A, c2, news, rfl, g1, g2, g3⟩ := src_rel (P := P) hr hy hsrc
  simp only at hc
  have hnl := g1.length
  have hml := g3.1
  -- nothing is appended
  have same : ∀ B n cap, xv = .slice B n cap → n ≤ cap → m = 0 → (Builtin.append_ #[t, u] ty #[xv, .slice A m c2]).run P w = .ok xv w := by
    intro B n cap e1 e2 e3
    subst e1; subst e3
    have hnil : news = [] := List.length_eq_zero_iff.1 (by simpa using hml)
    subst hnil
    refine app_room ht hu hi g3 (by simpa using e2) ?_
    cases B <;> simp [storeCells]
  -- a new row
  have grow : ∀ (B : Option Addr) (n cap : Nat) (olds : List Value) (cs : List AV) (k : Key) (ver : Nat), xv = .slice B n cap → Firsts P w i.size n (.slice B n cap) olds → Vs κ h w (Mx κ h M0) cs olds → (∀ c ∈ cs, c.one = true) → cap < n + m →
      roomy (n + m) i.bytes = true → (h.get k).ver < ver → h' = h.set k ⟨ver, false, some (.cells (cs ++ new))⟩ → r = .ref k ver 0 (n + m) i.size false →
      ∃ v w' κ', (Builtin.append_ #[t, u] ty #[xv, .slice A m c2]).run P w = .ok v w' ∧ RelH κ' h' w' M0 ∧ Trans κ h w κ' h' w' ∧ V κ' h' w' (Mx κ' h' M0) r v := by
    intro B n cap olds cs k ver e1 hf hv ho hlt hrm hver e2 e3
    subst e1; subst e2; subst e3
    obtain ⟨c, rest, q1, q2, q3⟩ := app_grow (ty := ty) ht hu hi hz hf g3 hlt hrm hzs
    have g := Grew.alloc_drew w (.cells (olds.toArray ++ news.toArray ++ rest) e)
    refine ⟨_, _, _, q3, relH_new hr g k _ ver hver (obj_new g hr.m0lt k _ ver hver (cat_cells hv g1 ho g2)), trans_new g k _ ver hver, ?_⟩
    exact .ref k ver 0 (n + m) i.size false w.heap.size c (by rw [get_set_same]; exact Nat.le_refl _) q1 (by simp) (fun _ => ⟨kset_same _ _ _, _, _, g.new, by omega, fun _ => by omega⟩)
  split at hc
  · -- a frozen slice
    rename_i fl n cs
    cases hx with | p hp =>
    by_cases hm : m = 0
    · rw [if_pos hm] at hc
      simp at hc; obtain ⟨rfl, rfl⟩ := hc
      have : ∃ B cap, xv = .slice B n cap ∧ n ≤ cap := by cases hp <;> exact ⟨_, _, rfl, by assumption⟩
      obtain ⟨B, cap, e1, e2⟩ := this
      exact ⟨xv, w, κ, same B n cap e1 e2 hm, hr, Trans.refl _ _ _, .p hp⟩
    · rw [if_neg hm] at hc
      split at hc
      · rename_i hh
        simp only [Bool.and_eq_true, decide_eq_true_eq] at hh
        obtain ⟨⟨⟨t1, t2⟩, t3⟩, t4⟩ := hh
        simp at hc; obtain ⟨rfl, rfl⟩ := hc
        have tcap : ∀ {B cap}, FlOK fl B n cap → cap = n := by
          intro B cap hf
          cases fl <;> simp [Fl.tight] at t1 <;> simp [FlOK] at hf <;> omega
        cases hp with
        | frz0 _ _ B cap q1 q2 =>
          exact grow B n cap [] [] key _ rfl (firsts_nil (by simpa using t2.symm)) .nil (by simp) (by have := tcap q2; omega) t4 (Nat.lt_succ_self _) (by simp [alloc_eq]) rfl
        | frz _ _ _ b o cap q1 q2 q3 q4 =>
          have ha := At.of_VC (κ := κ) (h := h) q4
          obtain ⟨us, f1, f2, f3⟩ := ha.values
          exact grow _ n cap us (cs.map .p) key _ rfl (firsts_at f1 f2 (by simpa using t2)) f3 ha.ones (by have := tcap q2; omega) t4 (Nat.lt_succ_self _) (by simp [alloc_eq]) rfl
      · simp at hc
  · -- a row of ours
    rename_i k ver off n s' clip
    simp only [Option.bind_eq_some_iff] at hc
    obtain ⟨cs, hca, hc⟩ := hc
    split at hc
    · rename_i hh
      obtain ⟨rfl, t1, t2, t3⟩ := hh
      obtain ⟨hro, hcc⟩ := wcells_some hca
      have hl := cellsAt_lives hcc
      split at hc
      · rename_i hh2
        obtain ⟨rfl, hh2⟩ := hh2
        by_cases hm : m = 0
        · rw [if_pos hm] at hc
          simp at hc; obtain ⟨rfl, rfl⟩ := hc
          have : ∃ B cap, xv = .slice B n cap ∧ n ≤ cap := by cases hx <;> exact ⟨_, _, rfl, by first | assumption | exact Nat.zero_le _⟩
          obtain ⟨B, cap, e1, e2⟩ := this
          exact ⟨xv, w, κ, same B n cap e1 e2 hm, hr, Trans.refl _ _ _, hx⟩
        · rw [if_neg hm] at hc
          simp at hc; obtain ⟨rfl, rfl⟩ := hc
          have hver : (h.get k).ver < ver + 1 := by rw [hl.1]; omega
          cases hx with
          | ref _ _ _ _ _ _ b cap q1 q2 q3 q4 =>
            obtain ⟨hk, vs, T, r1, r2, r3⟩ := q4 hl
            have ha := (At.of_row hr hcc hk).take (n * i.size)
            obtain ⟨us, f1, f2, f3⟩ := ha.values
            have hlen : (cs.take (n * i.size)).length = n * i.size := by simp; omega
            by_cases hfit : n + m ≤ cap
            · -- in place
              have hcl : clip = false := by
                cases clip with
                | false => rfl
                | true => have := q3 rfl; omega
              have hvs := r3 hcl
              have hmul : (n + m) * i.size ≤ cap * i.size := Nat.mul_le_mul_right _ hfit
              rw [Nat.add_mul] at hmul
              obtain ⟨w', h3, h4⟩ := run_storeCells (P := P) news w b (n * i.size) 0 vs T r1 (one_cells g1 g2) (by omega)
              simp only [Nat.add_zero] at h4
              have hrun : (Builtin.append_ #[t, u] ty #[.slice (some ⟨b, 0, none⟩) n cap, .slice A m c2]).run P w = .ok (.slice (some ⟨b, 0, none⟩) (n + m) cap) w' := by
                refine app_room ht hu hi g3 hfit ?_
                simp only [add_at, Nat.zero_add]; exact h3
              obtain ⟨vs0, T0, p1, p2⟩ := At.row hr hcc hk
              rw [r1] at p1; cases p1
              have hrow : CellsRel κ h w (Mx κ h M0) (cs.take (n * i.size) ++ new) (setR vs.toList (n * i.size) news).toArray := by
                intro j c hj
                rw [List.getElem?_append, hlen] at hj
                split at hj
                · rename_i hlt
                  rw [List.getElem?_take, if_pos hlt] at hj
                  obtain ⟨p3, v, p4, p5⟩ := p2 j c hj
                  refine ⟨p3, v, ?_, p5⟩
                  have : j < vs.size := (Array.getElem?_eq_some_iff.1 p4).1
                  simp only [setR, List.getElem?_toArray, List.append_assoc]
                  rw [List.getElem?_append_left (by simp; omega), List.getElem?_take, if_pos hlt]
                  simpa using p4
                · rename_i hge
                  obtain ⟨v, p4, p5⟩ := g1.get hj
                  refine ⟨g2 c (List.mem_of_getElem? hj), v, ?_, p5⟩
                  have hjl : j - n * i.size < news.length := (List.getElem?_eq_some_iff.1 p4).1
                  simp only [setR, List.getElem?_toArray, List.append_assoc]
                  rw [List.getElem?_append_right (by simp; omega)]
                  have : (vs.toList.take (n * i.size)).length = n * i.size := by simp; omega
                  rw [this, List.getElem?_append_left hjl]
                  exact p4
              have tr := trans_put h4 hk hl.2 hro (.cells (cs.take (n * i.size) ++ new)) (ver + 1) (Nat.le_of_lt hver)
              refine ⟨_, w', κ, hrun, relH_put hr h4 hk hl.2 hro _ _ (Nat.le_of_lt hver) hrow, tr, ?_⟩
              exact .ref k (ver + 1) 0 (n + m) i.size false b cap (by rw [get_set_same]; exact Nat.le_refl _) hfit (by simp) (fun _ => ⟨hk, tr.room ⟨vs, T, r1, by omega, fun _ => by omega⟩⟩)
            · exact grow _ n cap us _ k _ rfl (firsts_at f1 f2 hlen) f3 ha.ones (by omega) t3 hver rfl rfl
          | ref0 _ _ _ _ _ B q1 q2 =>
            have : cs = [] := cs_nil hr hcc (q2 hl)
            subst this
            exact grow B 0 0 [] [] k _ rfl (firsts_nil (by simp)) .nil (by simp) (by omega) t3 hver (by simp) rfl
      · rename_i hno
        split at hc
        · rename_i hh3
          obtain ⟨rfl, hh3⟩ := hh3
          simp at hc; obtain ⟨rfl, rfl⟩ := hc
          cases hx with
          | ref _ _ _ _ _ _ b cap q1 q2 q3 q4 =>
            obtain ⟨hk, vs, T, r1, r2, r3⟩ := q4 hl
            have hvs := r3 rfl
            obtain ⟨vs0, T0, p1, p2⟩ := At.row hr hcc hk
            rw [r1] at p1; cases p1
            have hsz := cs_size hr hcc hk r1
            have hfit : n + m ≤ cap := by
              have : (n + m) * i.size ≤ cap * i.size := by omega
              exact Nat.le_of_mul_le_mul_right this t1
            rw [Nat.add_mul] at hh3
            obtain ⟨w', h3, h4, h5⟩ := store_row (P := P) hr hca hk g1 g2 (off := off + n * i.size) (by omega)
            refine ⟨_, w', κ, app_room ht hu hi g3 hfit (by simp only [add_at]; exact h3), h4, h5, ?_⟩
            exact .ref k ver off (n + m) i.size false b cap (Nat.le_trans q1 (h5.vers k)) hfit (by simp) (fun _ => ⟨hk, h5.room ⟨vs, T, r1, r2, r3⟩⟩)
          | ref0 _ _ _ _ _ B q1 q2 =>
            exfalso
            have : cs = [] := cs_nil hr hcc (q2 hl)
            subst this
            exact hno ⟨by simp at t2; omega, .inr (by simp)⟩
        · simp at hc
    · simp at hc
  · simp at hc
end
end Go.Va
end
section
namespace Go.Va

theorem evOp_pure {cf : CallFn} {d : Nat} {dst : Option Nat} {o : AOp} {env : Nat → AV} {h : Hp} (hw : hW o = false) : evOp cf d dst o env h = (pureOp env h o).map fun v => (v, h) := by
  cases o <;> first | rfl | (simp [hW] at hw)

inductive Writes (P : Program) : Op → AOp → Prop
  | alloc (t : TypeId) (z : List PV) : zeroPV P t = some z → Writes P (.alloc t) (.alloc z)
  | box (t : TypeId) (n : Nat) (x : Operand) (x' : Opd) : szOf P t = some n → cOpd x = some x' → Writes P (.box t x) (.box n x')
  | bsl (t e : TypeId) (s n : Nat) (z : List PV) (ps : Array (Nat × Operand)) (q : List (Nat × Nat × Opd)) : P.underlying t = some (.slice e) → szOf P e = some s → zeroPV P e = some z → cParts (fun i => some (i * s, s)) ps = some q → Writes P (.buildSlice t n ps) (.bsl s n z q)
  | st (t : TypeId) (n : Nat) (x y : Operand) (x' y' : Opd) : szOf P t = some n → cOpd x = some x' → cOpd y = some y' → Writes P (.store t x y) (.st n x' y')
  | mkm (t : TypeId) : Writes P (.makeMap t none) .mkm
  | mksl (t e : TypeId) (i : TypeInfo) (z : List PV) (l c : Operand) (l' c' : Opd) : P.underlying t = some (.slice e) → P.info? e = some i → zeroPV P e = some z → cOpd l = some l' → cOpd c = some c' → Writes P (.makeSlice t l c) (.mksl i.size i.bytes z l' c')
  | mup (op : Op) (t kt e : TypeId) (m k x : Operand) (kk : Nat) (m' k' x' : Opd) : (op = .mapUpdate t m k x ∨ op = .insert t m k x) → P.underlying t = some (.map kt e) → keyKind P kt = some kk → cOpd m = some m' → cOpd k = some k' → cOpd x = some x' → Writes P op (.mup kk m' k' x')
  | rng (t : TypeId) (x : Operand) (x' : Opd) : P.underlying t = some .string → cOpd x = some x' → Writes P (.range t x) (.rng x')
  | nxt (x : Operand) (x' : Opd) : cOpd x = some x' → Writes P (.next x true) (.nxt x')
  | call (c : Call) (f : Operand) (f' : Opd) (args : List Opd) : cOpds c.args = some args → c.callee = .value f → cOpd f = some f' → Writes P (.call c) (.call f' args)
  | app (c : Call) (t u e e' : TypeId) (i : TypeInfo) (z : Value) (x y : Opd) : cOpds c.args = some [x, y] → c.callee = .builtin .append → c.argTypes.toList = [t, u] → P.underlying t = some (.slice e) → P.underlying u = some (.slice e') → P.info? e = some i → i.zero = some z → z.cells.size = i.size → Writes P (.call c) (.app i.size i.bytes x y)
  | cpy (c : Call) (t u e : TypeId) (s : Nat) (x y : Opd) : cOpds c.args = some [x, y] → c.callee = .builtin .copy → c.argTypes.toList = [t, u] → P.underlying t = some (.slice e) → szOf P e = some s → Writes P (.call c) (.cpy s x y)
  | clr (c : Call) (t e : TypeId) (s : Nat) (z : List PV) (x : Opd) : cOpds c.args = some [x] → c.callee = .builtin .clear → c.argTypes.toList = [t] → P.underlying t = some (.slice e) → szOf P e = some s → zeroPV P e = some z → Writes P (.call c) (.clr s z x)

theorem cEq_pure {P : Program} {t : TypeId} {neg : Bool} {x y : Opd} {ao : AOp} (hc : cEq P t neg x y = some ao) : hW ao = false := by
  unfold cEq at hc
  simp only [Option.bind_eq_some_iff] at hc
  obtain ⟨d, _, hc⟩ := hc
  split at hc
  · cases hc; rfl
  · cases hc; rfl
  · cases hc; rfl
  · split at hc <;> cases hc; rfl
  · simp only [Option.bind_eq_some_iff] at hc
    obtain ⟨d', _, hc⟩ := hc
    split at hc
    · split at hc <;> cases hc; rfl
    · cases hc
  · cases hc

theorem comp_inv {P : Program} {op : Op} {ao : AOp} (hc : compOp P op = some ao) (hw : hW ao = true) : Writes P op ao := by
  cases op with
  | alloc t => simp only [compOp, Option.map_eq_some_iff] at hc; obtain ⟨z, h1, rfl⟩ := hc; exact .alloc t z h1
  | box t x => simp only [compOp, Option.bind_eq_some_iff, Option.map_eq_some_iff] at hc; obtain ⟨n, h1, z, h2, rfl⟩ := hc; exact .box t n x z h1 h2
  | store t x y => simp only [compOp, Option.bind_eq_some_iff, Option.map_eq_some_iff] at hc; obtain ⟨n, h1, z, h2, q, h3, rfl⟩ := hc; exact .st t n x y z q h1 h2 h3
  | buildSlice t n ps =>
    simp only [compOp, Option.bind_eq_some_iff] at hc
    obtain ⟨d, hd, hc⟩ := hc
    split at hc
    · simp only [Option.bind_eq_some_iff, Option.map_eq_some_iff] at hc
      obtain ⟨s, h1, z, h2, q, h3, rfl⟩ := hc; exact .bsl t _ s n z ps q hd h1 h2 h3
    · simp at hc
  | makeMap t rs => cases rs <;> simp [compOp] at hc; subst hc; exact .mkm t
  | makeSlice t l c =>
    simp only [compOp, Option.bind_eq_some_iff] at hc
    obtain ⟨d, hd, hc⟩ := hc
    split at hc
    · simp only [Option.bind_eq_some_iff, Option.map_eq_some_iff] at hc
      obtain ⟨s, h1, z, h2, q, h3, q', h4, rfl⟩ := hc; exact .mksl t _ s z l c q q' hd h1 h2 h3 h4
    · simp at hc
  | mapUpdate t m k x | insert t m k x =>
    simp only [compOp, Option.bind_eq_some_iff] at hc
    obtain ⟨d, hd, hc⟩ := hc
    split at hc
    · simp only [Option.bind_eq_some_iff, Option.map_eq_some_iff] at hc
      obtain ⟨s, h1, z, h2, q, h3, q', h4, rfl⟩ := hc; exact .mup _ t _ _ m k x s z q q' (by simp) hd h1 h2 h3 h4
    · simp at hc
  | range t x =>
    simp only [compOp, Option.bind_eq_some_iff] at hc
    obtain ⟨d, hd, hc⟩ := hc
    split at hc
    · simp only [Option.map_eq_some_iff] at hc
      obtain ⟨s, h1, rfl⟩ := hc; exact .rng t x s hd h1
    · simp at hc
  | next it b =>
    cases b with
    | true => simp only [compOp, Option.map_eq_some_iff] at hc; obtain ⟨s, h1, rfl⟩ := hc; exact .nxt it s h1
    | false => simp [compOp] at hc
  | call c =>
    simp only [compOp, Option.bind_eq_some_iff] at hc
    obtain ⟨args, ha, hc⟩ := hc
    split at hc
    · rename_i f hf
      simp only [Option.map_eq_some_iff] at hc
      obtain ⟨f', h1, rfl⟩ := hc; exact .call c f f' args ha hf h1
    · rename_i b hb
      unfold cBuiltin at hc
      split at hc
      · simp only [Option.bind_eq_some_iff] at hc
        obtain ⟨d, hd, hc⟩ := hc
        split at hc <;> simp at hc <;> subst hc <;> simp [hW] at hw
      · rename_i t u x y hts
        simp only [Option.bind_eq_some_iff] at hc
        obtain ⟨d, hd, hc⟩ := hc
        split at hc
        · simp only [Option.bind_eq_some_iff] at hc
          obtain ⟨d', hd', hc⟩ := hc
          split at hc
          · simp only [Option.bind_eq_some_iff] at hc
            obtain ⟨i, hi, z, hz, hc⟩ := hc
            split at hc
            · rename_i hh
              simp at hc; subst hc
              exact .app c t u _ _ i z x y ha hb hts hd hd' hi hz hh.2
            · simp at hc
          · simp at hc
        · simp at hc
      · rename_i t u x y hts
        simp only [Option.bind_eq_some_iff] at hc
        obtain ⟨d, hd, hc⟩ := hc
        split at hc
        · simp only [Option.map_eq_some_iff] at hc
          obtain ⟨s, hs, rfl⟩ := hc
          exact .cpy c t u _ s x y ha hb hts hd hs
        · simp at hc
      · rename_i t x hts
        simp only [Option.bind_eq_some_iff] at hc
        obtain ⟨d, hd, hc⟩ := hc
        split at hc
        · simp only [Option.bind_eq_some_iff, Option.map_eq_some_iff] at hc
          obtain ⟨s, hs, z, hz, rfl⟩ := hc
          exact .clr c t _ s z x ha hb hts hd hs hz
        · simp at hc
      · simp at hc; subst hc; simp [hW] at hw
      · simp at hc; subst hc; simp [hW] at hw
      · simp at hc
    · simp at hc
  | _ =>
    exfalso
    simp only [compOp] at hc
    repeat' first
      | (obtain ⟨_, _, hc⟩ := hc)
      | (simp only [Option.bind_eq_some_iff, Option.map_eq_some_iff] at hc)
      | (split at hc)
    all_goals first
      | contradiction
      | (simp [hW] at hw; done)
      | (cases hc; simp [hW] at hw; done)
      | (cases hc; done)
      | (rw [cEq_pure hc] at hw; cases hw; done)
      | skip
end Go.Va
end
section
namespace Go.Va

/-- What a call owes. -/
def CallsOK (P : Program) (cf : CallFn) : Prop :=
  ∀ (d : Nat) (f : FuncId) (args : List AV) (h : Hp) (key : Key) (r : AV) (h' : Hp), cf d f args h key = some (r, h') →
  ∀ (κ : Kap) (w : World) (M0 : Nat → Prop) (vals : Array Value), RelH κ h w M0 → Vs κ h w (Mx κ h M0) args vals.toList →
    (callFunc f vals).run P w = .ok (.enter f vals) w ∧
    Calls P f vals w fun e w' => ∃ v, e = .returned v ∧ ∃ κ', RelH κ' h' w' M0 ∧ Trans κ h w κ' h' w' ∧ V κ' h' w' (Mx κ' h' M0) r v

section
variable {P : Program} {κ : Kap} {h h' : Hp} {w : World} {M0 : Nat → Prop} {env : Nat → AV} {a : Act} {K : Act → World → Prop} {Q : Exit → Act → World → Prop} {r : AV}

/-- What a step's continuation is owed. -/
def Post (κ : Kap) (h : Hp) (w : World) (M0 : Nat → Prop) (a : Act) (dst : Option Nat) (r : AV) (h' : Hp) (K : Act → World → Prop) : Prop :=
  ∀ κ' w' v, RelH κ' h' w' M0 → Trans κ h w κ' h' w' → V κ' h' w' (Mx κ' h' M0) r v → K (a.put dst v) w'

theorem wp_of_eff {o : Oper} (he : Eff P κ h w M0 (execOp a.eval o) r h') (hK : Post κ h w M0 a o.dst r h' K) : o.wp P a w K Q := by
  obtain ⟨x, v, w', κ', h1, h2, h3, h4, h5⟩ := he
  unfold Oper.wp
  rw [h1]
  rcases h2 with rfl | ⟨rfl, rfl⟩
  · exact hK κ' w' v h3 h4 h5
  · exact hK κ' w' undef h3 h4 h5

theorem func_inv {x : AV} {v : Value} {M : Nat → Prop} {f : FuncId} {p q : List AV} (hv : V κ h w M x v) (hx : x = .func f p q) : ∃ p' q', v = .func (.func f) p' q' ∧ Vs κ h w M p p'.toList ∧ Vs κ h w M q q'.toList := by
  cases hv with
  | func _ _ _ p' q' h1 h2 => cases hx; exact ⟨p', q', rfl, h1, h2⟩
  | _ => cases hx
theorem funcP_inv {x : AV} {v : Value} {M : Nat → Prop} {f : FuncId} {p q : List PV} (hv : V κ h w M x v) (hx : x = .p (.func f p q)) : ∃ p' q', v = .func (.func f) p' q' ∧ Vs κ h w M (p.map .p) p'.toList ∧ Vs κ h w M (q.map .p) q'.toList := by
  cases hv with
  | p hp => cases hx; cases hp with | func _ _ _ p' q' h1 h2 => exact ⟨p', q', rfl, Vs.of_VL h1, Vs.of_VL h2⟩
  | _ => cases hx

theorem call_wp {cf : CallFn} (hcf : CallsOK P cf) (hr : RelH κ h w M0) (he : EnvRel κ h w (Mx κ h M0) env a.tmps) {o : Oper} {c : Call} {x : Operand} {x' : Opd} {args : List Opd} {d : Nat} {key : Key} {f : FuncId} {p q : List AV} (ho : o.op = .call c)
    (ha : cOpds c.args = some args) (hcal : c.callee = .value x) (hx : cOpd x = some x') (hf : ∃ p' q', a.eval x = .func (.func f) p' q' ∧ Vs κ h w (Mx κ h M0) p p'.toList ∧ Vs κ h w (Mx κ h M0) q q'.toList)
    (hc : cf d f (p ++ evL env args ++ q) h key = some (r, h')) (hK : Post κ h w M0 a o.dst r h' K) : o.wp P a w K Q := by
  obtain ⟨p', q', h1, h2, h3⟩ := hf
  have hl := opdsA_rel he ha
  obtain ⟨g1, g2⟩ := hcf d f _ h key r h' hc κ w M0 (p' ++ c.args.map a.eval ++ q') hr (by simpa using (h2.append hl).append h3)
  unfold Oper.wp
  have hrun : (execOp a.eval o).run P w = .ok (.enter f (p' ++ c.args.map a.eval ++ q')) w := by
    unfold execOp
    rw [ho]
    simp only [resolve, hcal, h1, Deferred.ofValue, Sem.run_bind, Sem.run_pure, Result.andThen_ok, invoke]
    exact g1
  rw [hrun]
  refine Calls.mono g2 ?_
  rintro e w' ⟨v, rfl, κ', q1, q2, q3⟩
  exact hK κ' w' v q1 q2 q3

theorem op_wp {cf : CallFn} (hcf : CallsOK P cf) (hr : RelH κ h w M0) (he : EnvRel κ h w (Mx κ h M0) env a.tmps) {o : Oper} {ao : AOp} {d : Nat}
    (hc : compOp P o.op = some ao) (hev : evOp cf d o.dst ao env h = some (r, h')) (hK : Post κ h w M0 a o.dst r h' K) : o.wp P a w K Q := by
  cases hw : hW ao with
  | false =>
    rw [evOp_pure hw] at hev
    simp only [Option.map_eq_some_iff] at hev
    obtain ⟨r', hp, e⟩ := hev
    cases e
    obtain ⟨v, h1, h2⟩ := pure_rel hr he hc hp
    unfold Oper.wp
    rw [h1]
    exact hK κ w v hr (Trans.refl _ _ _) h2
  | true =>
    have hi := comp_inv hc hw
    generalize hop : o.op = op at hi
    cases hi with
    | alloc t z hz =>
      simp only [evOp, Option.map_eq_some_iff] at hev
      obtain ⟨k, hd, e⟩ := hev; cases e
      exact wp_of_eff (alloc_eff hr hop hz _) hK
    | box t n x x' hn hx =>
      simp only [evOp, Option.bind_eq_some_iff] at hev
      obtain ⟨k, hd, vs, hvs, hev⟩ := hev
      split at hev
      · cases hev; exact wp_of_eff (box_eff hr he hop hx hvs _) hK
      · cases hev
    | bsl t e s n z ps q hu hs hz hq =>
      simp only [evOp, Option.bind_eq_some_iff] at hev
      obtain ⟨k, hd, cs, hcs, hev⟩ := hev
      split at hev
      · rename_i hh; obtain ⟨g1, g2, g3, g4⟩ := hh
        cases hev; exact wp_of_eff (bsl_eff hr he hop hu hs hz hq hcs g1 g2 g3 g4 _) hK
      · cases hev
    | st t n x y x' y' hn hx hy =>
      simp only [evOp, Option.bind_eq_some_iff] at hev
      obtain ⟨vs, hvs, hev⟩ := hev
      split at hev
      · rename_i k ver off hp
        simp only [Option.bind_eq_some_iff] at hev
        obtain ⟨cs, hcs, hev⟩ := hev
        split at hev
        · rename_i hh; obtain ⟨g1, g2⟩ := hh
          cases hev; exact wp_of_eff (st_eff hr he hop hn hx hy hvs hp hcs g1 g2) hK
        · cases hev
      · cases hev
    | mkm t =>
      simp only [evOp, Option.map_eq_some_iff] at hev
      obtain ⟨k, hd, e⟩ := hev; cases e
      exact wp_of_eff (mkm_eff hr hop _) hK
    | mksl t e i z l c l' c' hu hi hz hl hcc =>
      simp only [evOp, Option.bind_eq_some_iff] at hev
      obtain ⟨k, hd, hev⟩ := hev
      split at hev
      · rename_i lv cv hlv hcv
        split at hev
        · rename_i hh; obtain ⟨g1, g2, g3, g4, g5⟩ := hh
          cases hev; exact wp_of_eff (mksl_eff hr he hop hu hi hz hl hcc hlv hcv g1 g2 g3 g4 g5 _) hK
        · cases hev
      · cases hev
    | mup _ t kt e m k x kk m' k' x' ho hu hkk hm hk hx =>
      simp only [evOp] at hev
      split at hev
      · rename_i key ver kv xv e1 e2 e3
        simp only [Option.bind_eq_some_iff] at hev
        obtain ⟨es, hes, hev⟩ := hev
        split at hev
        · cases hev
        · rename_i hg
          simp only [Option.map_eq_some_iff] at hev
          obtain ⟨es', hes', e⟩ := hev; cases e
          exact wp_of_eff (mup_eff hr he (by rw [hop]; exact ho) hu hkk hm hk hx e1 e2 e3 hes (by simpa using hg) hes') hK
      · cases hev
    | rng t x x' hu hx =>
      simp only [evOp, Option.bind_eq_some_iff] at hev
      obtain ⟨k, hd, hev⟩ := hev
      split at hev
      · rename_i b hb
        cases hev; exact wp_of_eff (rng_eff hr he hop hu hx hb _) hK
      · cases hev
    | nxt x x' hx =>
      simp only [evOp] at hev
      split at hev
      · rename_i k ver hit
        split at hev
        · rename_i b pos hl
          split at hev
          · cases hev
          · rename_i hro
            simp only [Option.some.injEq, Prod.mk.injEq] at hev
            obtain ⟨rfl, rfl⟩ := hev
            exact wp_of_eff (nxt_eff hr he hop hx hit hl (by simpa using hro)) hK
        · cases hev
      · cases hev
    | call c x x' args ha hcal hx =>
      simp only [evOp, Option.bind_eq_some_iff] at hev
      obtain ⟨k, hd, hev⟩ := hev
      have hxr := opd_rel he hx
      split at hev
      · rename_i f p q e1
        exact call_wp hcf hr he hop ha hcal hx (funcP_inv hxr e1) hev hK
      · rename_i f p q e1
        exact call_wp hcf hr he hop ha hcal hx (func_inv hxr e1) hev hK
      · cases hev
    | app c t u e e' i z x y ha hcal hts hu hu' hi hz hzs =>
      simp only [evOp, Option.bind_eq_some_iff] at hev
      obtain ⟨k, hd, hev⟩ := hev
      have hl := opdsA_rel he ha
      obtain ⟨xv, yv, e1, e2, h1, h2⟩ := args2 (av := c.args.map a.eval) hts rfl hl
      obtain ⟨v, w', κ', g1, g2, g3, g4⟩ := app_run (ty := o.type) hr hu hu' hi hz hzs h1 h2 hev
      refine wp_of_eff ⟨.value v, v, w', κ', ?_, .inl rfl, g2, g3, g4⟩ hK
      unfold execOp
      rw [hop]
      simp only [resolve, hcal, Sem.run_bind, Sem.run_pure, Result.andThen_ok, invoke, e1, e2, builtin, g1]
    | cpy c t u e s x y ha hcal hts hu hs =>
      simp only [evOp] at hev
      have hl := opdsA_rel he ha
      obtain ⟨xv, yv, e1, e2, h1, h2⟩ := args2 (av := c.args.map a.eval) hts rfl hl
      obtain ⟨v, w', g1, g2, g3, g4⟩ := cpy_run (u := u) (ty := o.type) hr hu hs h1 h2 hev
      refine wp_of_eff ⟨.value v, v, w', κ, ?_, .inl rfl, g2, g3, g4⟩ hK
      unfold execOp
      rw [hop]
      simp only [resolve, hcal, Sem.run_bind, Sem.run_pure, Result.andThen_ok, invoke, e1, e2, builtin, g1]
    | clr c t e s z x ha hcal hts hu hs hz =>
      simp only [evOp] at hev
      have hl := opdsA_rel he ha
      obtain ⟨xv, e1, e2, h1⟩ := args1 (av := c.args.map a.eval) hts rfl hl
      obtain ⟨c1, c2⟩ := clr_run (ty := o.type) (s := s) hr hu hz h1
      have fin : ∀ {w' : World}, (Builtin.clear_ #[t] o.type #[xv]).run P w = .ok undef w' → (execOp a.eval o).run P w = .ok (.value undef) w' := by
        intro w' g1
        unfold execOp
        rw [hop]
        simp only [resolve, hcal, Sem.run_bind, Sem.run_pure, Result.andThen_ok, invoke, e1, e2, builtin, g1]
      split at hev
      · rename_i fl cs e3
        cases hev
        exact wp_of_eff ⟨_, _, w, κ, fin (c1 _ _ e3), .inl rfl, hr, Trans.refl _ _ _, V.undef⟩ hK
      · rename_i k ver off n s' clip e3
        simp only [Option.bind_eq_some_iff] at hev
        obtain ⟨cs, hcs, hev⟩ := hev
        split at hev
        · rename_i hn
          cases hev
          by_cases hs' : s' = s
          · subst hs'
            exact wp_of_eff ⟨_, _, w, κ, fin ((c2 _ _ _ _ _ _ e3 hcs).1 hn), .inl rfl, hr, Trans.refl _ _ _, V.undef⟩ hK
          · obtain ⟨_, c3⟩ := clr_run (ty := o.type) (s := s') hr hu hz h1
            exact wp_of_eff ⟨_, _, w, κ, fin ((c3 _ _ _ _ _ _ e3 hcs).1 hn), .inl rfl, hr, Trans.refl _ _ _, V.undef⟩ hK
        · rename_i hn
          split at hev
          · rename_i hh; obtain ⟨rfl, g1, g2⟩ := hh
            cases hev
            obtain ⟨w', q1, q2, q3⟩ := (c2 _ _ _ _ _ _ e3 hcs).2 hn g1 g2
            exact wp_of_eff ⟨_, _, w', κ, fin q1, .inl rfl, q2, q3, V.undef⟩ hK
          · cases hev
      · cases hev
end
end Go.Va
end
section
namespace Go.Va

section
variable {P : Program} {κ : Kap} {h h' : Hp} {w : World} {M M0 : Nat → Prop} {env : Nat → AV} {a : Act} {K : Act → World → Prop} {Q : Exit → Act → World → Prop} {r : AV} {n : Nat}

/-- The evaluator's state and the frame. -/
structure SRel (n : Nat) (κ : Kap) (s : St) (a : Act) (w : World) (M0 : Nat → Prop) : Prop where
  hp : RelH κ s.h w M0
  env : EnvRel κ s.h w (Mx κ s.h M0) s.env a.tmps
  size : a.tmps.size = n
  defers : a.defers = []

theorem EnvRel.put {v : AV} {u : Value} {tmps : Array Value} {d : Nat} (he : EnvRel κ h w M env tmps) (hv : V κ h w M v u) (hd : d < tmps.size) :
    EnvRel κ h w M (fun i => if i = d then v else env i) (tmps.setIfInBounds d u) := by
  intro i
  by_cases e : i = d
  · subst e; simp only [if_true, Array.getD_eq_getD_getElem?, Array.getElem?_setIfInBounds, hd]; exact hv
  · have hne : d ≠ i := fun e' => e e'.symm
    simp only [if_neg e, Array.getD_eq_getD_getElem?, Array.getElem?_setIfInBounds, if_neg hne]
    have := he i
    rw [Array.getD_eq_getD_getElem?] at this
    exact this

theorem SRel.put {s : St} {v : AV} {u : Value} {dst : Option Nat} (hr : RelH κ h w M0) (he : EnvRel κ h w (Mx κ h M0) s.env a.tmps) (hs : a.tmps.size = n) (hdf : a.defers = []) (hv : V κ h w (Mx κ h M0) v u) (hd : ∀ d, dst = some d → d < n) :
    SRel n κ (St.put ⟨s.env, h⟩ dst v) (a.put dst u) w M0 := by
  cases dst with
  | none => exact ⟨hr, he, hs, hdf⟩
  | some d => exact ⟨hr, he.put hv (by rw [hs]; exact hd d rfl), by simp [Act.put, hs], hdf⟩

theorem wanted_rel {ops : Array Oper} {o : Oper} {ao : AOper} {b : Bool} (he : EnvRel κ h w M env a.tmps) (hc : compOper P ops o = some ao) (hw : wants env ao.guard = some b) : Region.wanted o (yielded ops a.tmps) = b := by
  unfold compOper at hc
  simp only [Option.bind_eq_some_iff] at hc
  obtain ⟨x, _, hc⟩ := hc
  split at hc
  · rename_i hg
    cases hc
    simp [wants] at hw; subst hw
    simp [Region.wanted, hg]
  · rename_i j want hg
    simp only [Option.map_eq_some_iff] at hc
    obtain ⟨t, ht, rfl⟩ := hc
    have ht' : ((ops[j]?).bind (·.dst)) = some t := by rw [Option.bind_eq_some_iff]; simpa [Option.bind_eq_some_iff] using ht
    have hv := he t
    rw [Array.getD_eq_getD_getElem?] at hv
    simp only [wants] at hw
    unfold Region.wanted yielded
    rw [hg]
    simp only [ht', Option.bind_some]
    split at hw
    · rename_i b' heq
      rw [heq] at hv
      simp at hw; subst hw
      cases hv with | p hp =>
      generalize hx : a.tmps[t]? = x at hp
      cases x with
      | none => simp [undef] at hp; cases hp
      | some v => simp at hp; cases hp; simp
    · rename_i heq
      rw [heq] at hv
      simp at hw; subst hw
      cases hv with | p hp =>
      generalize hx : a.tmps[t]? = x at hp
      cases x with
      | none => simp
      | some v => simp at hp; cases hp; simp
    · cases hw

theorem compOper_spec {ops : Array Oper} {o : Oper} {ao : AOper} (hc : compOper P ops o = some ao) : ao.dst = o.dst ∧ compOp P o.op = some ao.op := by
  unfold compOper at hc
  simp only [Option.bind_eq_some_iff] at hc
  obtain ⟨x, hx, hc⟩ := hc
  split at hc
  · cases hc; exact ⟨rfl, hx⟩
  · simp only [Option.map_eq_some_iff] at hc
    obtain ⟨t, _, rfl⟩ := hc
    exact ⟨rfl, hx⟩

theorem dstOK_spec {o : AOper} (h : dstOK n o = true) : ∀ d, o.dst = some d → d < n := by
  intro d hd; simpa [dstOK, hd] using h

/-- One operation under its guard. -/
theorem step_wp {cf : CallFn} (hcf : CallsOK P cf) {ops : Array Oper} {o : Oper} {ao : AOper} {d : Nat} {s s' : St} (hs : SRel n κ s a w M0) (hc : compOper P ops o = some ao) (hd : dstOK n ao = true) (hev : stepO cf d ao s = some s')
    (hK : ∀ κ' a' w', SRel n κ' s' a' w' M0 → Trans κ s.h w κ' s'.h w' → K a' w') :
    if Region.wanted o (yielded ops a.tmps) then o.wp P a w K Q ∨ (o.asks P a w ∧ LetsOut Q) else K (a.put o.dst undef) w := by
  obtain ⟨h1, h2⟩ := compOper_spec hc
  unfold stepO at hev
  simp only [Option.bind_eq_some_iff] at hev
  obtain ⟨b, hb, hev⟩ := hev
  rw [wanted_rel hs.env hc hb]
  cases b with
  | true =>
    simp only [if_true, Option.map_eq_some_iff] at hev ⊢
    obtain ⟨⟨v, h'⟩, hev, rfl⟩ := hev
    rw [h1] at hev hK
    refine .inl (op_wp hcf hs.hp hs.env h2 hev ?_)
    intro κ' w' u q1 q2 q3
    have hk := q2.keeps M0 hs.hp.m0lt
    refine hK κ' _ w' (SRel.put q1 (hs.env.keeps q2 hk) hs.size hs.defers q3 (by rw [← h1]; exact dstOK_spec hd)) ?_
    cases o.dst <;> exact q2
  | false =>
    simp only [Bool.false_eq_true, if_false, Option.some.injEq] at hev ⊢
    subst hev
    rw [h1] at hK
    refine hK κ _ w (SRel.put hs.hp hs.env hs.size hs.defers V.undef (by rw [← h1]; exact dstOK_spec hd)) ?_
    cases o.dst <;> exact Trans.refl _ _ _

theorem mapM_get {α β : Type} {f : α → Option β} : ∀ {l : List α} {r : List β}, l.mapM f = some r → l.length = r.length ∧ ∀ (i : Nat) (x : α), l[i]? = some x → ∃ y, r[i]? = some y ∧ f x = some y
  | [], r, h => by simp at h; subst h; simp
  | x :: l, r, h => by
    rw [List.mapM_cons] at h
    cases hx : f x with
    | none => rw [hx] at h; cases h
    | some y =>
      cases hl : l.mapM f with
      | none => rw [hx, hl] at h; cases h
      | some r' =>
        rw [hx, hl] at h
        cases h
        obtain ⟨e, g⟩ := mapM_get hl
        refine ⟨by simp [e], fun i z hz => ?_⟩
        cases i with
        | zero => simp at hz; subst hz; exact ⟨y, by simp, hx⟩
        | succ i => simpa using g i z (by simpa using hz)

/-- Operations in the text's order. -/
theorem ops_wp {cf : CallFn} (hcf : CallsOK P cf) {ops : Array Oper} {l : List AOper} {d : Nat} (hl : ops.toList.mapM (compOper P ops) = some l) (hd : l.all (dstOK n) = true) :
    ∀ (m i : Nat) (κ : Kap) (s s' : St) (a : Act) (w : World), i + m = ops.size → SRel n κ s a w M0 → evOps cf d (l.drop i) s = some s' →
    (∀ κ' a' w', SRel n κ' s' a' w' M0 → Trans κ s.h w κ' s'.h w' → Q .normal a' w') → wpOps P ops Q (List.range' i m) a w := by
  obtain ⟨hlen, hg⟩ := mapM_get hl
  intro m
  induction m with
  | zero =>
    intro i κ s s' a w hi hs hev hQ
    have : l.drop i = [] := List.drop_eq_nil_of_le (by simp at hlen; omega)
    rw [this] at hev
    simp [evOps] at hev; subst hev
    simp only [List.range'_zero, wpOps]
    exact hQ κ a w hs (Trans.refl _ _ _)
  | succ m ih =>
    intro i κ s s' a w hi hs hev hQ
    have hlt : i < ops.size := by omega
    obtain ⟨ao, g1, g2⟩ := hg i ops[i] (by simp)
    have hdr : l.drop i = ao :: l.drop (i + 1) := by
      have hlt' : i < l.length := (List.getElem?_eq_some_iff.1 g1).1
      rw [List.drop_eq_getElem_cons hlt']
      congr 1
      exact (List.getElem?_eq_some_iff.1 g1).2
    rw [hdr] at hev
    simp only [evOps, Option.bind_eq_some_iff] at hev
    obtain ⟨s1, hs1, hev⟩ := hev
    rw [List.range'_succ]
    simp only [wpOps, Array.getElem?_eq_getElem hlt]
    refine step_wp hcf hs g2 ?_ hs1 (fun κ' a' w' q1 q2 => ?_)
    · exact List.all_eq_true.1 hd _ (List.mem_of_getElem? g1)
    · exact ih (i + 1) κ' s1 s' a' w' (by omega) q1 hev (fun κ'' a'' w'' q3 q4 => hQ κ'' a'' w'' q3 (q2.trans q4))
end
end Go.Va
end
section
namespace Go.Va

def AExit.to : AExit → Exit
  | .norm => .normal
  | .ex id => .exit id
  | .ret => .ret

/-- What a drawn region owes. -/
def DrawsOK (P : Program) (n : Nat) (cf : CallFn) (d : Nat) : Prop :=
  ∀ (id : Nat) (ops : Array Oper) (l : List AOper) (ord : List Nat), compReg P n ops true = some (l, ord) →
  ∀ (M0 : Nat → Prop) (κ : Kap) (s s' : St) (a : Act) (w : World) (Q : Exit → Act → World → Prop), SRel n κ s a w M0 → evDraw cf d l s = some s' →
    (∀ κ' a' w', SRel n κ' s' a' w' M0 → Trans κ s.h w κ' s'.h w' → Q .normal a' w') → (Code.region id ops true).wp P Q a w

section
variable {P : Program} {M0 : Nat → Prop} {n : Nat}

theorem plain_wp {cf : CallFn} (hcf : CallsOK P cf) {d id : Nat} {ops : Array Oper} {l : List AOper} {ord : List Nat} (hreg : compReg P n ops false = some (l, ord)) {κ : Kap} {s s' : St} {a : Act} {w : World} {Q : Exit → Act → World → Prop}
    (hs : SRel n κ s a w M0) (hev : evOps cf d l s = some s') (hQ : ∀ κ' a' w', SRel n κ' s' a' w' M0 → Trans κ s.h w κ' s'.h w' → Q .normal a' w') : (Code.region id ops false).wp P Q a w := by
  unfold compReg at hreg
  simp only [Option.bind_eq_some_iff] at hreg
  obtain ⟨l', hl, hreg⟩ := hreg
  split at hreg
  · rename_i hd
    simp at hreg
    obtain ⟨rfl, _⟩ := hreg
    refine wp_region ?_
    rw [List.range_eq_range']
    exact ops_wp hcf hl hd ops.size 0 κ s s' a w (by omega) hs (by simpa using hev) hQ
  · cases hreg

theorem code_wp {cx : Cx} {cf : CallFn} (hcf : CallsOK P cf) {d : Nat} (hdr : DrawsOK P n cf d) : ∀ (k : Nat),
    (∀ (c : Code) (κ : Kap) (s s' : St) (a : Act) (w : World) (Q : Exit → Act → World → Prop) (e : AExit), evCode cx cf d k (compCode P n c) s = some (e, s') → SRel n κ s a w M0 →
      (∀ κ' a' w', SRel n κ' s' a' w' M0 → Trans κ s.h w κ' s'.h w' → Q e.to a' w') → c.wp P Q a w) ∧
    (∀ (c : Code) (κ : Kap) (s s' : St) (a : Act) (w : World) (Q : Exit → Act → World → Prop) (e : AExit), evCode cx cf d k (.loop (compCode P n c)) s = some (e, s') → SRel n κ s a w M0 →
      (∀ κ' a' w', SRel n κ' s' a' w' M0 → Trans κ s.h w κ' s'.h w' → Q e.to a' w') → Code.rounds P c Q k a w) := by
  intro k
  induction k with
  | zero => exact ⟨fun c κ s s' a w Q e h => by simp [evCode] at h, fun c κ s s' a w Q e h => by simp [evCode] at h⟩
  | succ k ih =>
    have loop : ∀ (c : Code) (κ : Kap) (s s' : St) (a : Act) (w : World) (Q : Exit → Act → World → Prop) (e : AExit), evCode cx cf d (k + 1) (.loop (compCode P n c)) s = some (e, s') → SRel n κ s a w M0 →
      (∀ κ' a' w', SRel n κ' s' a' w' M0 → Trans κ s.h w κ' s'.h w' → Q e.to a' w') → Code.rounds P c Q (k + 1) a w := by
      intro c κ s s' a w Q e h hs hQ
      simp only [evCode, Option.bind_eq_some_iff] at h
      obtain ⟨⟨e1, s1⟩, h1, h2⟩ := h
      refine ih.1 c κ s s1 a w _ e1 h1 hs ?_
      intro κ' a' w' q1 q2
      simp only at h2
      split at h2
      · rename_i he; subst he
        exact ih.2 c κ' s1 s' a' w' Q e h2 q1 (fun κ'' a'' w'' q3 q4 => hQ κ'' a'' w'' q3 (q2.trans q4))
      · rename_i he
        cases h2
        cases e with
        | norm => exact absurd rfl he
        | ex id => exact hQ κ' a' w' q1 q2
        | ret => exact hQ κ' a' w' q1 q2
    refine ⟨?_, loop⟩
    intro c κ s s' a w Q e h hs hQ
    cases c with
    | skip => simp [compCode, evCode] at h; obtain ⟨rfl, rfl⟩ := h; exact wp_skip (hQ κ a w hs (Trans.refl _ _ _))
    | ret => simp [compCode, evCode] at h; obtain ⟨rfl, rfl⟩ := h; exact wp_ret (hQ κ a w hs (Trans.refl _ _ _))
    | exit id => simp [compCode, evCode] at h; obtain ⟨rfl, rfl⟩ := h; exact wp_exit (hQ κ a w hs (Trans.refl _ _ _))
    | region id ops draw =>
      simp only [compCode] at h
      cases hreg : compReg P n ops draw with
      | none => rw [hreg] at h; simp [evCode] at h
      | some lo =>
        obtain ⟨l, ord⟩ := lo
        rw [hreg] at h
        simp only [evCode, Option.map_eq_some_iff] at h
        obtain ⟨s1, h1, h2⟩ := h
        cases h2
        cases draw with
        | true => exact hdr id ops l ord hreg M0 κ s s' a w Q hs (by simpa using h1) hQ
        | false => exact plain_wp hcf hreg hs (by simpa using h1) hQ
    | seq x y =>
      simp only [compCode, evCode, Option.bind_eq_some_iff] at h
      obtain ⟨⟨e1, s1⟩, h1, h2⟩ := h
      refine wp_seq (ih.1 x κ s s1 a w _ e1 h1 hs ?_)
      intro κ' a' w' q1 q2
      simp only at h2
      split at h2
      · rename_i he; subst he
        exact ih.1 y κ' s1 s' a' w' Q e h2 q1 (fun κ'' a'' w'' q3 q4 => hQ κ'' a'' w'' q3 (q2.trans q4))
      · rename_i he
        cases h2
        cases e with
        | norm => exact absurd rfl he
        | ex id => exact hQ κ' a' w' q1 q2
        | ret => exact hQ κ' a' w' q1 q2
    | cond c x y =>
      simp only [compCode] at h
      cases hc : cOpd c with
      | none => rw [hc] at h; simp [evCode] at h
      | some c' =>
        rw [hc] at h
        simp only [evCode] at h
        split at h
        · rename_i t heq
          have := bool_inv (opd_rel hs.env hc) heq
          refine wp_cond this ?_
          cases t with
          | true => exact ih.1 x κ s s' a w Q e (by simpa using h) hs hQ
          | false => exact ih.1 y κ s s' a w Q e (by simpa using h) hs hQ
        · cases h
    | block id c =>
      simp only [compCode, evCode, Option.map_eq_some_iff] at h
      obtain ⟨⟨e1, s1⟩, h1, h2⟩ := h
      cases h2
      refine wp_block (ih.1 c κ s s1 a w _ e1 h1 hs ?_)
      intro κ' a' w' q1 q2
      have := hQ κ' a' w' q1 q2
      cases e1 with
      | norm => exact this
      | ret => exact this
      | ex id' =>
        simp only [AExit.to, Exit.inBlock]
        by_cases hid : id' = id
        · subst hid; simpa [AExit.to] using this
        · rw [if_neg hid]; simpa [hid, AExit.to] using this
    | loop c =>
      exact wp_loop_rounds (k + 1) (loop c κ s s' a w Q e h hs hQ)
    | _ => simp [compCode, evCode] at h
end
end Go.Va
end
section
namespace Go.Va

section
variable {P : Program} {κ : Kap} {h h' : Hp} {w : World} {M M0 : Nat → Prop}

theorem mark_get (ks : List Key) (k : Key) : (markRO h ks).get k = if k ∈ ks then (h.get k).mark else h.get k := rfl
theorem mark_obj (ks : List Key) (k : Key) : ((markRO h ks).get k).obj = (h.get k).obj := by
  rw [mark_get]; split <;> rfl
theorem mark_ver (ks : List Key) (k : Key) : ((markRO h ks).get k).ver = (h.get k).ver := by
  rw [mark_get]; split <;> rfl
theorem mark_mt {ks : List Key} {b : Nat} (hm : Mt κ (markRO h ks) b) : Mt κ h b := by
  obtain ⟨k, h1, h2, h3⟩ := hm
  rw [mark_obj] at h1
  refine ⟨k, h1, ?_, h3⟩
  rw [mark_get] at h2
  split at h2
  · simp [HE.mark] at h2
  · exact h2
theorem mark_own {ks : List Key} {b : Nat} (hm : Own κ (markRO h ks) b) : Own κ h b := by
  obtain ⟨k, h1, h3⟩ := hm
  rw [mark_obj] at h1
  exact ⟨k, h1, h3⟩

theorem trans_mark (ks : List Key) : Trans κ h w κ (markRO h ks) w where
  size := Nat.le_refl _
  frame := fun _ _ _ => rfl
  mt := fun b hm => .inl (mark_mt hm)
  own := fun b hm => .inl (mark_own hm)
  rows := fun b vs T fr hb => ⟨vs, hb, rfl⟩
  vers := fun k => by rw [mark_ver]; exact Nat.le_refl _
  same := fun k _ ho => by rw [mark_obj] at ho; exact ⟨ho, rfl⟩
  os := rfl
  tape := rfl
  output := rfl

theorem relH_mark (hr : RelH κ h w M0) (ks : List Key) : RelH κ (markRO h ks) w M0 where
  inj := fun k k' b h1 h2 => by rw [mark_obj] at h1 h2; exact hr.inj k k' b h1 h2
  m0 := fun k b h1 => by rw [mark_obj] at h1; exact hr.m0 k b h1
  m0lt := hr.m0lt
  obj := fun k o ho => by
    rw [mark_obj] at ho
    exact (hr.obj k o ho).keeps (trans_mark ks) ((trans_mark ks).keeps M0 hr.m0lt) rfl (fun _ _ => rfl)

/-- A block whose key is marked is no more written. -/
theorem mark_out (hr : RelH κ h w M0) {ks : List Key} {k : Key} {b : Nat} (hk : k ∈ ks) (hs : (h.get k).obj.isSome = true) (hb : κ k = some b) : ¬ Mx κ (markRO h ks) M0 b := by
  rintro (hm | ⟨k', h1, h2, h3⟩)
  · exact hr.m0 k b hs hb hm
  · rw [mark_obj] at h1
    have := hr.inj k' k b h1 hs h3 hb
    subst this
    rw [mark_get, if_pos hk] at h2
    simp [HE.mark] at h2

theorem keeps_mark (hr : RelH κ h w M0) (ks : List Key) : Keeps w w (Mx κ h M0) (Mx κ (markRO h ks) M0) := (trans_mark ks).keeps M0 hr.m0lt

theorem VC.of_VL {b : Nat} : ∀ {o : Nat} {ps : List PV} {vs : List Value}, VL w M ps vs → (∀ (j : Nat) (v : Value), vs[j]? = some v → w.cell? ((⟨b, o, none⟩ : Addr).add j) = some v) → (∀ p ∈ ps, p.one = true) → VC w M b o ps
  | _, [], _, .nil, _, _ => .nil b _
  | o, p :: ps, _, .cons h1 h2, hm, ho => by
    refine .cons (by have := hm 0 _ rfl; rw [add_at] at this; exact this) h1 (ho p (by simp)) (VC.of_VL h2 (fun j v hj => ?_) (fun p hp => ho p (by simp [hp])))
    have := hm (j + 1) v (by simpa using hj)
    rw [add_at] at this ⊢
    rw [← this]; congr 2; omega

theorem frz_one {n : Nat} {x : AV} {p : PV} {ks : List Key} (hf : frzV h n x = some (p, ks)) (ho : x.one = true) : p.one = true := by
  cases n with
  | zero => simp [frzV] at hf
  | succ n =>
    cases x with
    | p x => simp [frzV] at hf; obtain ⟨rfl, _⟩ := hf; exact ho
    | ref k ver off m s clip =>
      simp only [frzV, Option.bind_eq_some_iff] at hf
      obtain ⟨cs, _, hf⟩ := hf
      split at hf
      · simp only [Option.map_eq_some_iff] at hf
        obtain ⟨q, _, e⟩ := hf; cases e; rfl
      · cases hf
    | ptr k ver off =>
      simp only [frzV, Option.bind_eq_some_iff, Option.map_eq_some_iff] at hf
      obtain ⟨cs, _, q, _, e⟩ := hf; cases e; rfl
    | func f a b =>
      simp only [frzV, Option.bind_eq_some_iff, Option.map_eq_some_iff] at hf
      obtain ⟨q, _, q', _, e⟩ := hf; cases e; rfl
    | agg cs => simp [AV.one] at ho
    | tup cs => simp [AV.one] at ho
    | _ => simp [frzV] at hf

theorem frzL_one : ∀ {n : Nat} {xs : List AV} {ps : List PV} {ks : List Key}, frzL h n xs = some (ps, ks) → (∀ x ∈ xs, x.one = true) → ∀ p ∈ ps, p.one = true
  | 0, _, _, _, hf, _ => by simp [frzL] at hf
  | n + 1, [], ps, ks, hf, _ => by simp [frzL] at hf; obtain ⟨rfl, _⟩ := hf; simp
  | n + 1, x :: xs, ps, ks, hf, ho => by
    simp only [frzL, Option.bind_eq_some_iff, Option.map_eq_some_iff] at hf
    obtain ⟨⟨p, k1⟩, h1, ⟨q, k2⟩, h2, e⟩ := hf
    cases e
    intro y hy
    simp at hy
    rcases hy with rfl | hy
    · exact frz_one h1 (ho x (by simp))
    · exact frzL_one h2 (fun x hx => ho x (by simp [hx])) y hy

mutual
theorem frzV_rel (hr : RelH κ h w M0) : ∀ {n : Nat} {x : AV} {p : PV} {ks ks' : List Key} {v : Value}, frzV h n x = some (p, ks) → V κ h w (Mx κ h M0) x v → (∀ k ∈ ks, k ∈ ks') → VP w (Mx κ (markRO h ks') M0) p v
  | 0, _, _, _, _, _, hf, _, _ => by simp [frzV] at hf
  | n + 1, .p x, p, ks, ks', v, hf, hv, hk => by
    simp [frzV] at hf; obtain ⟨rfl, _⟩ := hf
    cases hv with | p hp => exact hp.keeps (keeps_mark hr ks')
  | n + 1, .ref k ver off m s clip, p, ks, ks', v, hf, hv, hk => by
    simp only [frzV, Option.bind_eq_some_iff] at hf
    obtain ⟨cs, hc, hf⟩ := hf
    split at hf
    · rename_i hle
      simp only [Option.map_eq_some_iff] at hf
      obtain ⟨⟨ps, k2⟩, hl, e⟩ := hf
      cases e
      have live := cellsAt_lives hc
      cases hv with
      | ref _ _ _ _ _ _ b cap q1 q2 q3 q4 =>
        have hb := (q4 live).1
        have ha := ((At.of_row hr hc hb).drop off).take (m * s)
        rw [Nat.zero_add] at ha
        obtain ⟨us, f1, f2, f3⟩ := ha.values
        have g1 := frzL_rel hr hl f3 (fun k hk' => hk k (by simp [hk']))
        exact .frz .any m ps b off cap q2 trivial (mark_out hr (hk k (by simp)) live.2 hb) (VC.of_VL g1 f2 (frzL_one hl ha.ones))
      | ref0 _ _ _ _ _ A q1 q2 =>
        simp only [Nat.zero_mul, List.take_zero] at hl
        cases n with
        | zero => simp [frzL] at hl
        | succ n => simp [frzL] at hl; obtain ⟨rfl, _⟩ := hl; exact .frz0 .any 0 A 0 (Nat.le_refl _) trivial
    · cases hf
  | n + 1, .ptr k ver off, p, ks, ks', v, hf, hv, hk => by
    simp only [frzV, Option.bind_eq_some_iff, Option.map_eq_some_iff] at hf
    obtain ⟨cs, hc, ⟨ps, k2⟩, hl, e⟩ := hf
    cases e
    have live := cellsAt_lives hc
    cases hv with
    | ptr _ _ _ b q1 q2 =>
      have hb := q2 live
      have ha := (At.of_row hr hc hb).drop off
      rw [Nat.zero_add] at ha
      obtain ⟨us, f1, f2, f3⟩ := ha.values
      have g1 := frzL_rel hr hl f3 (fun k hk' => hk k (by simp [hk']))
      exact .cptr ps b off (mark_out hr (hk k (by simp)) live.2 hb) (VC.of_VL g1 f2 (frzL_one hl ha.ones))
  | n + 1, .agg cs, p, ks, ks', v, hf, hv, hk => by
    simp only [frzV, Option.map_eq_some_iff] at hf
    obtain ⟨⟨ps, k2⟩, hl, e⟩ := hf
    cases e
    cases hv with
    | agg _ vs q1 q2 => exact .agg ps vs (frzL_rel hr hl q1 hk) (frzL_one hl q2)
  | n + 1, .tup cs, p, ks, ks', v, hf, hv, hk => by
    simp only [frzV, Option.map_eq_some_iff] at hf
    obtain ⟨⟨ps, k2⟩, hl, e⟩ := hf
    cases e
    cases hv with
    | tup _ vs q1 => exact .tup ps vs (frzL_rel hr hl q1 hk)
  | n + 1, .func f a b, p, ks, ks', v, hf, hv, hk => by
    simp only [frzV, Option.bind_eq_some_iff, Option.map_eq_some_iff] at hf
    obtain ⟨⟨ps, k2⟩, hl, ⟨qs, k3⟩, hl', e⟩ := hf
    cases e
    cases hv with
    | func _ _ _ x' y' q1 q2 => exact .func f ps qs x' y' (frzL_rel hr hl q1 (fun k hk' => hk k (by simp [hk']))) (frzL_rel hr hl' q2 (fun k hk' => hk k (by simp [hk'])))
  | n + 1, .map _ _, _, _, _, _, hf, _, _ => by simp [frzV] at hf
  | n + 1, .iter _ _, _, _, _, _, hf, _, _ => by simp [frzV] at hf
  | n + 1, .opq, _, _, _, _, hf, _, _ => by simp [frzV] at hf
theorem frzL_rel (hr : RelH κ h w M0) : ∀ {n : Nat} {xs : List AV} {ps : List PV} {ks ks' : List Key} {vs : List Value}, frzL h n xs = some (ps, ks) → Vs κ h w (Mx κ h M0) xs vs → (∀ k ∈ ks, k ∈ ks') → VL w (Mx κ (markRO h ks') M0) ps vs
  | 0, _, _, _, _, _, hf, _, _ => by simp [frzL] at hf
  | n + 1, [], ps, ks, ks', vs, hf, hv, hk => by
    simp [frzL] at hf; obtain ⟨rfl, _⟩ := hf; cases hv; exact .nil
  | n + 1, x :: xs, ps, ks, ks', vs, hf, hv, hk => by
    simp only [frzL, Option.bind_eq_some_iff, Option.map_eq_some_iff] at hf
    obtain ⟨⟨p, k1⟩, h1, ⟨q, k2⟩, h2, e⟩ := hf
    cases e
    cases hv with
    | cons q1 q2 => exact .cons (frzV_rel hr h1 q1 (fun k hk' => hk k (by simp [hk']))) (frzL_rel hr h2 q2 (fun k hk' => hk k (by simp [hk'])))
end

theorem frzFns_rel (hr : RelH κ h w M0) {n : Nat} : ∀ {xs ags : List AV} {ks ks' : List Key} {vs : List Value}, frzFns h n xs = some (ags, ks) → Vs κ h w (Mx κ h M0) xs vs → (∀ k ∈ ks, k ∈ ks') → Vs κ (markRO h ks') w (Mx κ (markRO h ks') M0) ags vs
  | [], ags, ks, ks', vs, hf, hv, hk => by simp [frzFns] at hf; obtain ⟨rfl, _⟩ := hf; cases hv; exact .nil
  | x :: xs, ags, ks, ks', vs, hf, hv, hk => by
    cases hv with
    | @cons _ v0 _ vs0 q1 q2 =>
      have other : ∀ {ags' k2}, frzFns h n xs = some (ags', k2) → ags = x :: ags' → ks = k2 → Vs κ (markRO h ks') w (Mx κ (markRO h ks') M0) ags (v0 :: vs0) := by
        intro ags' k2 e1 e2 e3
        subst e2; subst e3
        exact .cons (q1.keeps (trans_mark ks') (keeps_mark hr ks')) (frzFns_rel hr e1 q2 hk)
      cases x with
      | func f a b =>
        simp only [frzFns, Option.bind_eq_some_iff, Option.map_eq_some_iff] at hf
        obtain ⟨⟨p, k1⟩, h1, ⟨q, k2⟩, h2, e⟩ := hf
        cases e
        exact .cons (.p (frzV_rel hr h1 q1 (fun k hk' => hk k (by simp [hk'])))) (frzFns_rel hr h2 q2 (fun k hk' => hk k (by simp [hk'])))
      | _ =>
        simp only [frzFns, Option.map_eq_some_iff] at hf
        obtain ⟨⟨q, k2⟩, h2, e⟩ := hf
        cases e
        exact other h2 rfl rfl

mutual
theorem flat_any {w' : World} {M' : Nat → Prop} : ∀ {p : PV} {v : Value}, VP w M p v → p.flat = true → VP w' M' p v
  | _, _, .int k n, _ => .int k n
  | _, _, .bool b, _ => .bool b
  | _, _, .str s, _ => .str s
  | _, _, .nilp, _ => .nilp
  | _, _, .nilf, _ => .nilf
  | _, _, .frz0 fl n A cap h1 h2, _ => .frz0 fl n A cap h1 h2
  | _, _, .frz fl n cs b o cap h1 h2 hb hc, hf =>
    match cs, hf with
    | [], _ => .frz0 fl n _ cap h1 h2
    | c :: cs, hf => by simp [PV.flat] at hf
  | _, _, .agg cs vs hl ho, hf => .agg cs vs (flat_anyL hl (by simpa [PV.flat] using hf)) ho
  | _, _, .tup cs vs hl, hf => .tup cs vs (flat_anyL hl (by simpa [PV.flat] using hf))
  | _, _, .cptr0 b o, hf => by simp [PV.flat] at hf
  | _, _, .cptr cs b o hb hc, hf => by simp [PV.flat] at hf
  | _, _, .func f x y x' y' h1 h2, hf => by simp [PV.flat] at hf
theorem flat_anyL {w' : World} {M' : Nat → Prop} : ∀ {p : List PV} {v : List Value}, VL w M p v → PV.flatL p = true → VL w' M' p v
  | _, _, .nil, _ => .nil
  | _, _, .cons h1 h2, hf => .cons (flat_any h1 (by simp only [PV.flatL, Bool.and_eq_true] at hf; exact hf.1)) (flat_anyL h2 (by simp only [PV.flatL, Bool.and_eq_true] at hf; exact hf.2))
end
end
end Go.Va
end
