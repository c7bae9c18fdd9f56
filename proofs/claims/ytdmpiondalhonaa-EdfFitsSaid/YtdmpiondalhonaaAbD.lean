/- The abstract machine's operations, made out of the model's, and what each comes to. -/
import Derived.Test.YtdmpiondalhonaaAbC
namespace Go.Ab
open Go
set_option linter.unusedVariables false
set_option linter.unusedSimpArgs false

inductive AX where
  | t (n : Nat)
  | c (v : AV)
  deriving Inhabited

/-- What '==' asks of a type. -/
inductive TK where
  | b | p | i | s | ag (offs : List (Nat × Nat)) | o
  deriving Inhabited

/-- Methods by name: of which type, which function. -/
abbrev MT := List (String × List (TypeId × FuncId × Option (Option Nat)))

inductive AO where
  | mv (x : AX)
  | pick (c a b : AX)
  | alloc (e : TypeId) (cells : List AV)
  | box (e : TypeId) (x : AX)
  | build (zero : List AV) (parts : List (Nat × Nat × AX))
  | lit (e sz n : Nat) (zero : List AV) (parts : List (Nat × AX))
  | ld (n : Option Nat) (x : AX)
  | st (n : Nat) (a v : AX)
  | nilc (mt : MT) (x : AX)
  | bin (op : BinOp) (k : TK) (x y : AX)
  | un (op : UnOp) (x : AX)
  | cvt (k : IntKind) (x : AX)
  | mki (t : TypeId) (x : AX)
  | mkf (f : Fn) (first cap : List AX)
  | mks (e sz bytes : Nat) (zero : List AV) (l c : AX)
  | slc (k : Option Nat) (x : AX) (lo hi : Option AX)
  | fad (off : Nat) (x : AX)
  | fld (off : Nat) (n : Option Nat) (x : AX)
  | idx (e sz : Nat) (x i : AX)
  | idxs (x i : AX)
  | ext (x : AX) (i : Nat)
  | asrt (t : TypeId) (zero : List AV) (ag : Bool) (ok : Bool) (x : AX)
  | call (f : FuncId) (args : List AX)
  | callv (x : AX) (args : List AX)
  | inv (tab : List (TypeId × FuncId × Option (Option Nat))) (x : AX) (args : List AX)
  | len (str : Bool) (x : AX)
  | app (e sz bytes : Nat) (zero : List AV) (x y : AX)
  | mnmx (mx : Bool) (x y : AX)
  | addc (x y z : AX)
  | mkm
  | mget (zero : AV) (x i : AX)
  | mset (x i v : AX)
  | clr (sz : Nat) (zero : List AV) (x : AX)
  | nilS (neg : Bool) (x : AX)
  | bad
  deriving Inhabited

/-! ### from the model's operations -/
def one : AV → Bool
  | .agg _ | .tup _ | .junk => false
  | _ => true
def allOne : List AV → Bool
  | [] => true
  | c :: cs => one c && allOne cs

mutual
def cv : Value → Option AV
  | .int k n => some (.int k n)
  | .bool b => some (.bool b)
  | .string s => some (.str s)
  | .pointer none => some .nilp
  | .slice none 0 0 => some .nils
  | .nilFunc => some .nilf
  | .nilIface => some .nili
  | .map none => some .nilm
  | .agg ⟨cs⟩ => (cvs cs).bind fun l => if allOne l = true then some (.agg l) else none
  | .tuple ⟨cs⟩ => (cvs cs).map .tup
  | _ => none
def cvs : List Value → Option (List AV)
  | [] => some []
  | v :: vs => match cv v, cvs vs with
    | some a, some as => some (a :: as)
    | _, _ => none
end

def rx : Operand → Option AX
  | .tmp n => some (.t n)
  | .const v => (cv v).map .c
  | .func f => some (.c (.fn (.func f) [] []))
  | .global _ => none

def rxs (l : List Operand) : Option (List AX) := l.mapM rx

def isAg (P : Program) (t : TypeId) : Option Bool :=
  match P.underlying t with
  | some (.struct _) | some (.array _ _) => some true
  | some _ => some false
  | none => none

def szOf (P : Program) (t : TypeId) : Option Nat := (P.info? t).map (·.size)
/-- How a variable of this type is loaded: at once, or as so many cells. -/
def ldOf (P : Program) (t : TypeId) : Option (Option Nat) :=
  match isAg P t, szOf P t with
  | some true, some n => some (some n)
  | some false, some 1 => some none
  | _, _ => none
def zeroOf (P : Program) (t : TypeId) : Option (List AV) :=
  match P.info? t with
  | some i => match i.zero with
    | some z => cvs z.cells.toList
    | none => none
  | none => none

def orBad (o : Option AO) : AO := o.getD .bad

/-- The methods of this name: of which type, which function, and how the receiver is passed on. -/
def methTab (P : Program) (name : String) : List (TypeId × FuncId × Option (Option Nat)) :=
  (List.range P.types.size).filterMap fun t =>
    match P.info? t with
    | none => none
    | some i => match i.methods.find? (·.name == name) with
      | none => none
      | some m => if m.path.isEmpty then
          match m.func, P.underlying t with
          | some (f, true), some (.pointer _) => some (t, f, none)
          | some (f, false), some (.pointer e) => (ldOf P e).map fun l => (t, f, some l)
          | some (f, false), some _ => some (t, f, none)
          | _, _ => none
        else none

/-- The methods that interfaces of the program ask for, by their names. -/
def ifNames (P : Program) : List String :=
  ((List.range P.types.size).flatMap fun t => match P.underlying t with
    | some (.interface ms) => ms.toList.map (·.1)
    | _ => []).eraseDups
def mtsOf (P : Program) : MT := (ifNames P).filterMap fun n => match methTab P n with
  | [] => none
  | l => some (n, l)

def resolveFn (P : Program) (f : FuncId) (args : List AX) : Option AO :=
  match P.funcs[f]? with
  | none => none
  | some fn =>
    if fn.name == "runtime.NumGoroutine" then none
    else if fn.body.isNone then
      (if fn.name == "math/bits.Add64" && fn.origin == "" then
        match args with
        | [x, y, z] => some (.addc x y z)
        | _ => none
      else none)
    else some (.call f args)

def resolveApp (P : Program) (t t' : TypeId) (x y : AX) : Option AO :=
  if t = t' then
    match P.underlying t with
    | some (.slice e) =>
      match P.info? e, zeroOf P e with
      | some i, some z => if i.size = z.length ∧ 0 < i.size then some (.app e i.size i.bytes z x y) else none
      | _, _ => none
    | _ => none
  else none

def resolveBi (P : Program) (b : Builtin) (ts : List TypeId) (args : List AX) : Option AO :=
  match b, args with
  | .len, [x] => match (ts[0]?).bind P.underlying with
    | some .string => some (.len true x)
    | some (.slice _) => some (.len false x)
    | _ => none
  | .append, [x, y] => match ts with
    | [t, t'] => resolveApp P t t' x y
    | _ => none
  | .clear, [x] => match ts with
    | [t] => match P.underlying t with
      | some (.slice e) => match P.info? e, zeroOf P e with
        | some i, some z => if i.size = z.length ∧ 0 < i.size ∧ allOne z = true then some (.clr i.size z x) else none
        | _, _ => none
      | _ => none
    | _ => none
  | .max, [x, y] => some (.mnmx true x y)
  | .min, [x, y] => some (.mnmx false x y)
  | _, _ => none

def resolveCall (P : Program) (c : Call) : Option AO :=
  (rxs c.args.toList).bind fun args =>
    match c.callee with
    | .value (.func f) => resolveFn P f args
    | .value (.tmp n) => some (.callv (.t n) args)
    | .value _ => none
    | .invoke r m => (rx r).map fun r => .inv (methTab P m) r args
    | .builtin b => resolveBi P b c.argTypes.toList args

def flatOffs (P : Program) : List Field → Option (List (Nat × Nat))
  | [] => some []
  | f :: fs =>
    if f.name ≠ "_" then
      match P.underlying f.type with
      | some (.int _) => (flatOffs P fs).map ((f.offset, 0) :: ·)
      | some .bool => (flatOffs P fs).map ((f.offset, 1) :: ·)
      | some .string => (flatOffs P fs).map ((f.offset, 2) :: ·)
      | _ => none
    else none

def tkOf (P : Program) (t : TypeId) : TK :=
  match P.underlying t with
  | some .bool => .b
  | some (.pointer _) => .p
  | some (.interface _) => .i
  | some (.slice _) => .s
  | some (.struct fs) => if P.stoodInHeld t = false ∧ P.eqGuardType P.depth t = false then
      match flatOffs P fs.toList with
      | some l => .ag l
      | none => .o
    else .o
  | _ => .o

def optX : Option Operand → Option (Option AX)
  | none => some none
  | some y => (rx y).map some

/-- A slice compared with nil. -/
def isNilS (P : Program) (op : BinOp) (t : TypeId) (y : Operand) : Option Bool :=
  match op, P.underlying t, y with
  | .eql, some (.slice _), .const (.slice none 0 0) => some false
  | .neq, some (.slice _), .const (.slice none 0 0) => some true
  | _, _, _ => none

def rslv (P : Program) (op : Op) : AO := orBad <|
  match op with
  | .move x | .assign x => (rx x).map .mv
  | .pick c a b => do some (.pick (← rx c) (← rx a) (← rx b))
  | .alloc e => (zeroOf P e).map (.alloc e)
  | .box e x => (rx x).map (.box e)
  | .build t parts => do
    let z ← zeroOf P t
    match P.underlying t with
    | some (.struct fs) =>
      let ps ← parts.toList.mapM fun (i, x) => do
        let f ← fs[i]?
        some (f.offset, ← szOf P f.type, ← rx x)
      let _ ← fs.toList.mapM fun f => szOf P f.type
      some (.build z ps)
    | _ => none
  | .buildSlice t n parts =>
    match P.underlying t with
    | some (.slice e) => do
      let sz ← szOf P e
      let z ← zeroOf P e
      let ps ← parts.toList.mapM fun (i, x) => do some (i, ← rx x)
      if n * sz ≤ 2 ^ 24 ∧ z.length = sz ∧ 0 < sz then some (.lit e sz n z ps) else none
    | _ => none
  | .load t x => do some (.ld (← ldOf P t) (← rx x))
  | .store t a v => do some (.st (← szOf P t) (← rx a) (← rx v))
  | .nilCheck x => (rx x).map (.nilc (mtsOf P))
  | .binOp op t x y _ => match isNilS P op t y with
    | some neg => do some (.nilS neg (← rx x))
    | none => do some (.bin op (tkOf P t) (← rx x) (← rx y))
  | .unOp op _ x => (rx x).map (.un op)
  | .convert s d x =>
    match P.underlying s, P.underlying d with
    | some (.int _), some (.int k) => (rx x).map (.cvt k)
    | _, _ => none
  | .makeInterface t x =>
    match P.underlying t with
    | some (.interface _) | none => none
    | _ => (rx x).map (.mki t)
  | .makeFunc f a b => do some (.mkf f (← rxs a.toList) (← rxs b.toList))
  | .makeSlice t l c =>
    match P.underlying t with
    | some (.slice e) => do
      let i ← P.info? e
      let z ← zeroOf P e
      if i.size = z.length ∧ 0 < i.size then some (.mks e i.size i.bytes z (← rx l) (← rx c)) else none
    | _ => none
  | .slice t x lo hi none =>
    match P.underlying t with
    | some (.slice e) => do
      let k ← szOf P e
      let lo' ← optX lo
      let hi' ← optX hi
      some (.slc (some k) (← rx x) lo' hi')
    | some .string => do
      let lo' ← optX lo
      let hi' ← optX hi
      some (.slc none (← rx x) lo' hi')
    | _ => none
  | .fieldAddr s x i =>
    match P.underlying s with
    | some (.struct fs) => do
      let f ← fs[i]?
      let n ← szOf P f.type
      if n = 0 then none else some (.fad f.offset (← rx x))
    | _ => none
  | .field s x i =>
    match P.underlying s with
    | some (.struct fs) => do
      let f ← fs[i]?
      some (.fld f.offset (← ldOf P f.type) (← rx x))
    | _ => none
  | .indexAddr t x i =>
    match P.underlying t with
    | some (.slice e) => do some (.idx e (← szOf P e) (← rx x) (← rx i))
    | _ => none
  | .index t x i =>
    match P.underlying t with
    | some .string => do some (.idxs (← rx x) (← rx i))
    | _ => none
  | .extract x i => (rx x).map (.ext · i)
  | .typeAssert x _ t ok =>
    match P.underlying t with
    | some (.interface _) | none => none
    | _ => do some (.asrt t (← zeroOf P t) (← isAg P t) ok (← rx x))
  | .call c => resolveCall P c
  | .makeMap _ none => some .mkm
  | .lookup t x i false =>
    match P.underlying t with
    | some (.map k e) => match P.underlying k, (P.info? e).bind (·.zero) with
      | some (.int _), some (.bool b) => do some (.mget (.bool b) (← rx x) (← rx i))
      | some (.int _), some (.int k n) => do some (.mget (.int k n) (← rx x) (← rx i))
      | _, _ => none
    | _ => none
  | .mapUpdate t x i v =>
    match P.underlying t with
    | some (.map k _) => match P.underlying k with
      | some (.int _) => do some (.mset (← rx x) (← rx i) (← rx v))
      | _ => none
    | _ => none
  | _ => none

/-! ### what an operation comes to -/
mutual
def pur : AV → Bool
  | .ptr .. | .bptr .. | .sl .. | .map _ => false
  | .fn _ a b => purs a && purs b
  | .iface _ x => pur x
  | .agg cs => purs cs
  | .tup cs => purs cs
  | _ => true
def purs : List AV → Bool
  | [] => true
  | c :: cs => pur c && purs cs
end

def pursS : List (List AV) → Bool
  | [] => true
  | r :: rs => purs r && pursS rs

/-- What is asked on the way. -/
inductive Cnd where
  | t
  | and (a b : Cnd)
  | eqN (x y : Nat)
  | leN (x y : Nat)
  | leI (x y : Int)
  | ltI (x y : Int)
  | neI (x y : Int)
  | rget (rows : List (List AV)) (i : Nat) (r : List AV)
  | nil (rows : List (List AV))
  | pu (rows : List (List AV))
  | mget (rows : List (List AV)) (k : IntKind) (n : Int) (z v : AV)
  | mset (rows : List (List AV)) (k : IntKind) (n : Int) (v : AV) (rows' : List (List AV))
  deriving Inhabited

/-- What a map's rows have at a key. -/
def mgetS (k : IntKind) (n : Int) (z : AV) : List (List AV) → Option AV
  | [] => some z
  | [.int k' m, v] :: rows => if k = k' then if n = m then some v else mgetS k n z rows else none
  | _ => none
/-- A map's rows, with another entry. -/
def msetS (k : IntKind) (n : Int) (v : AV) : List (List AV) → Option (List (List AV))
  | [] => some [[.int k n, v]]
  | [.int k' m, u] :: rows => if k = k' then if n = m then some ([.int k n, v] :: rows) else (msetS k n v rows).map ([.int k' m, u] :: ·) else none
  | _ => none
def mBS (rows : List (List AV)) (k : IntKind) (n : Int) : Bool := match mgetS k n .junk rows with
  | some (.bool b) => b
  | _ => false
def mIS (rows : List (List AV)) (k : IntKind) (n : Int) : Int := match mgetS k n .junk rows with
  | some (.int _ m) => m
  | _ => 0
def mSS (rows : List (List AV)) (k : IntKind) (n : Int) (v : AV) : List (List AV) := (msetS k n v rows).getD rows

def Cnd.holds : Cnd → Prop
  | .t => True
  | .and a b => a.holds ∧ b.holds
  | .eqN x y => x = y
  | .leN x y => x ≤ y
  | .leI x y => x ≤ y
  | .ltI x y => x < y
  | .neI x y => x ≠ y
  | .rget rows i r => rows[i]? = some r
  | .nil rows => rows = []
  | .pu rows => pursS rows = true
  | .mget rows k n z v => mgetS k n z rows = some v
  | .mset rows k n v rows' => msetS k n v rows = some rows'

/-- The arithmetic, kept closed while code is run. -/
structure Ar where
  iop : BinOp → IntKind → Int → Int → Int
  cmp : BinOp → Int → Int → Bool
  sop : BinOp → ByteArray → ByteArray → Bool
  cat : ByteArray → ByteArray → ByteArray
  ssub : ByteArray → Nat → Nat → ByteArray
  beq : Bool → Bool → Bool
  and : Bool → Bool → Bool
  not : Bool → Bool
  neg : IntKind → Int → Int
  xor : IntKind → Int → Int
  cvt : IntKind → Int → Int
  mx : Int → Int → Int
  mn : Int → Int → Int
  tn : Int → Nat
  ofN : Nat → Int
  add : Nat → Nat → Nat
  mul : Nat → Nat → Nat
  mulI : Int → Nat → Int
  sub : Nat → Nat → Nat
  slen : ByteArray → Nat
  sidx : ByteArray → Int → Int
  rlen : List (List AV) → Nat
  rtake : List (List AV) → Nat → List (List AV)
  rdrop : List (List AV) → Nat → List (List AV)
  rapp : List (List AV) → Nat → List (List AV) → List (List AV)
  rset : List (List AV) → Nat → List AV → List (List AV)
  rrep : Nat → List AV → List (List AV)
  nd : Cnd → Prop
  im : Bool → Bool → Prop → Prop
  cI : List (List AV) → Nat → Nat → Int
  cB : List (List AV) → Nat → Nat → Bool
  cS : List (List AV) → Nat → Nat → ByteArray
  cR : List (List AV) → Nat → Nat → List (List AV)
  cX : List (List AV) → Nat → List AV
  s0 : Int → Int → Int
  c0 : Int → Int → Int
  mB : List (List AV) → IntKind → Int → Bool
  mI : List (List AV) → IntKind → Int → Int
  mS : List (List AV) → IntKind → Int → AV → List (List AV)

def iopS (op : BinOp) (k : IntKind) (x y : Int) : Int :=
  match op with
  | .add => k.wrap (x + y)
  | .sub => k.wrap (x - y)
  | .mul => k.wrap (x * y)
  | .quo => k.wrap (x.tdiv y)
  | .rem => x.tmod y
  | .and => k.wrap (BitVec.ofInt k.bits x &&& BitVec.ofInt k.bits y).toNat
  | .or => k.wrap (BitVec.ofInt k.bits x ||| BitVec.ofInt k.bits y).toNat
  | .xor => k.wrap (BitVec.ofInt k.bits x ^^^ BitVec.ofInt k.bits y).toNat
  | .andNot => k.wrap (BitVec.ofInt k.bits x &&& ~~~ BitVec.ofInt k.bits y).toNat
  | .shl => k.wrap (x * 2 ^ (Nat.min y.toNat k.bits))
  | .shr => x.fdiv (2 ^ (Nat.min y.toNat k.bits))
  | _ => 0

def cmpS (op : BinOp) (x y : Int) : Bool :=
  match op with
  | .eql => x == y
  | .neq => x != y
  | .lss => decide (x < y)
  | .leq => decide (x ≤ y)
  | .gtr => decide (x > y)
  | .geq => decide (x ≥ y)
  | _ => false

def sopS (op : BinOp) (x y : ByteArray) : Bool :=
  match op with
  | .eql => x.toList == y.toList
  | .neq => !(x.toList == y.toList)
  | .lss => Op.bytesLess x.toList y.toList
  | .leq => Op.bytesLess x.toList y.toList || x.toList == y.toList
  | .gtr => !(Op.bytesLess x.toList y.toList || x.toList == y.toList)
  | .geq => !(Op.bytesLess x.toList y.toList)
  | _ => false

def rappS (rows : List (List AV)) (n : Nat) (new : List (List AV)) : List (List AV) := rows.take n ++ new ++ rows.drop (n + new.length)

/-- A cell of a row. -/
def cellS (rows : List (List AV)) (i j : Nat) : AV := ((rows[i]?).bind (·[j]?)).getD .junk
def cIS (rows : List (List AV)) (i j : Nat) : Int := match cellS rows i j with
  | .int _ n => n
  | _ => 0
def cBS (rows : List (List AV)) (i j : Nat) : Bool := match cellS rows i j with
  | .bool b => b
  | _ => false
def cSS (rows : List (List AV)) (i j : Nat) : ByteArray := match cellS rows i j with
  | .str s => s
  | _ => ByteArray.empty
def cRS (rows : List (List AV)) (i j : Nat) : List (List AV) := match cellS rows i j with
  | .inl _ rs => rs
  | _ => []

def arS : Ar where
  iop := iopS
  cmp := cmpS
  sop := sopS
  cat := fun x y => x ++ y
  ssub := fun s a b => s.extract a b
  beq := fun x y => x == y
  and := fun x y => x && y
  not := fun x => !x
  neg := fun k x => k.wrap (0 - x)
  xor := fun k x => k.wrap (BitVec.ofInt k.bits (if k.signed then -1 else k.max) ^^^ BitVec.ofInt k.bits x).toNat
  cvt := fun k x => k.wrap x
  mx := fun x y => if y > x then y else x
  mn := fun x y => if y < x then y else x
  tn := Int.toNat
  ofN := fun n => (n : Int)
  add := fun x y => x + y
  mul := fun x y => x * y
  mulI := fun x y => x * y
  sub := fun x y => x - y
  slen := fun s => s.size
  sidx := fun s n => ((s.data.toList.getD n.toNat 0).toNat : Int)
  rlen := List.length
  rtake := fun r n => r.take n
  rdrop := fun r n => r.drop n
  rapp := rappS
  rset := fun r n x => r.set n x
  rrep := fun n r => List.replicate n r
  nd := Cnd.holds
  im := fun b c q => b = c → q
  cI := cIS
  cB := cBS
  cS := cSS
  cR := cRS
  cX := fun rows i => (rows[i]?).getD []
  s0 := fun x y => ((x.toNat + y.toNat : Nat) : Int) % 18446744073709551616
  c0 := fun x y => ((x.toNat + y.toNat : Nat) : Int) / 18446744073709551616
  mB := mBS
  mI := mIS
  mS := mSS

/-- How a row is spelt, by its elements' type. -/
abbrev RowF := Ar → TypeId → List (List AV) → Nat → List AV

inductive Out where
  | ok (v : AV) (H : List ABlk)
  | need (p : Cnd) (o : Out)
  | ask (p : List AV → Prop) (k : List AV → Out)
  | br (b : Bool) (k : Bool → Out)
  | nilq (neg : Bool) (n : Nat) (H : List ABlk)
  | call (f : FuncId) (args : List AV)
  | bad
  deriving Inhabited

def sym : AV → AV
  | .bool b => .sb b
  | v => v
def uns : AV → AV
  | .sb b => .bool b
  | v => v
def cellsOf : AV → List AV
  | .agg cs => cs
  | v => [uns v]
def lenL {α : Type} : List α → Nat
  | [] => 0
  | _ :: l => lenL l + 1
def getL {α : Type} : List α → Nat → Option α
  | [], _ => none
  | x :: _, 0 => some x
  | _ :: l, n + 1 => getL l n
def setL {α : Type} : List α → Nat → α → List α
  | [], _, _ => []
  | _ :: l, 0, y => y :: l
  | x :: l, n + 1, y => x :: setL l n y
def dropL {α : Type} : Nat → List α → List α
  | 0, l => l
  | _ + 1, [] => []
  | n + 1, _ :: l => dropL n l
def takeL {α : Type} : Nat → List α → Option (List α)
  | 0, _ => some []
  | _ + 1, [] => none
  | n + 1, x :: l => (takeL n l).map (x :: ·)
def appL {α : Type} : List α → List α → List α
  | [], m => m
  | x :: l, m => x :: appL l m
/-- `new` laid over `cs` from `o` on. -/
def splL : List AV → Nat → List AV → Option (List AV)
  | cs, 0, [] => some cs
  | [], 0, _ :: _ => none
  | _ :: cs, 0, y :: ys => (splL cs 0 ys).map (y :: ·)
  | [], _ + 1, _ => none
  | c :: cs, o + 1, ys => (splL cs o ys).map (c :: ·)
def repL {α : Type} : Nat → α → List α
  | 0, _ => []
  | n + 1, x => x :: repL n x

def ev (fr : List AV) : AX → AV
  | .t n => (getL fr n).getD .junk
  | .c v => v
def evs (fr : List AV) : List AX → List AV
  | [] => []
  | x :: xs => ev fr x :: evs fr xs

/-- A part of some cells: a lone cell, or so many. -/
def partA (n : Option Nat) (cs : List AV) : Option AV :=
  match n with
  | none => match cs with
    | c :: _ => some (sym c)
    | [] => none
  | some n => (takeL n cs).map .agg

def okO (v : Option AV) (H : List ABlk) : Out :=
  match v with
  | some v => .ok v H
  | none => .bad

def buildA (fr : List AV) : List AV → List (Nat × Nat × AX) → Option (List AV)
  | z, [] => some z
  | z, (o, n, x) :: ps =>
    let cs := cellsOf (ev fr x)
    if lenL cs = n ∧ allOne cs = true then
      match splL z o cs with
      | some z' => buildA fr z' ps
      | none => none
    else none

def litA (fr : List AV) (sz : Nat) : List (List AV) → List (Nat × AX) → Option (List (List AV))
  | rows, [] => some rows
  | rows, (i, x) :: ps =>
    let cs := cellsOf (ev fr x)
    if lenL cs = sz ∧ allOne cs = true ∧ i < lenL rows then litA fr sz (setL rows i cs) ps else none

/-- The rows of a slice that is read whole. -/
def rowsOf (A : Ar) (H : List ABlk) (x : AV) (k : List (List AV) → Out) (sz : Nat) : Out :=
  match x with
  | .nils => k []
  | .inl sz' rows => if sz' = sz then k rows else .need (.nil rows) (k [])
  | .sl id t o n => match getL H id with
    | some (.arr _ sz' rows) => if sz' = sz then .need (.and (.eqN t (A.rlen rows)) (.leN (A.add o n) (A.rlen rows))) (k (A.rtake (A.rdrop rows o) n)) else .bad
    | _ => .bad
  | _ => .bad

def binA (A : Ar) (op : BinOp) (x y : AV) (H : List ABlk) : Out :=
  match x, y with
  | .int k a, .int k' b =>
    match op with
    | .shl | .shr => .need (.leI 0 b) (.ok (.int k (A.iop op k a b)) H)
    | _ => if k = k' then
        match op with
        | .quo | .rem => .need (.neI b 0) (.ok (.int k (A.iop op k a b)) H)
        | .add | .sub | .mul | .and | .or | .xor | .andNot => .ok (.int k (A.iop op k a b)) H
        | .eql | .neq | .lss | .leq | .gtr | .geq => .ok (.sb (A.cmp op a b)) H
        | _ => .bad
      else .bad
  | .str s, .str t =>
    match op with
    | .add => .need (.leN (A.add (A.slen s) (A.slen t)) 9223372036854775807) (.ok (.str (A.cat s t)) H)
    | .eql | .neq | .lss | .leq | .gtr | .geq => .ok (.sb (A.sop op s t)) H
    | _ => .bad
  | _, _ => .bad

/-- Is a pointer nil? -/
def nilQ (x : AV) (H : List ABlk) (k : Bool → Out) : Out :=
  match x with
  | .nilp => k true
  | .bptr _ _ => k false
  | .iptr _ => k false
  | .ptr _ _ _ _ => k false
  | _ => .bad

def isNilp : AV → Bool
  | .nilp => true
  | _ => false
def nil2 (x y : AV) (H : List ABlk) (k : Bool → Out) : Out :=
  match isNilp y, isNilp x with
  | true, _ => nilQ x H k
  | false, true => nilQ y H k
  | false, false => .bad

def eqC (A : Ar) (k : Nat) (x y : AV) : Option Bool :=
  match k, x, y with
  | 0, .int k a, .int k' b => if k = k' then some (A.cmp .eql a b) else none
  | 1, .bool a, .bool b => some (A.beq a b)
  | 2, .str a, .str b => some (A.sop .eql a b)
  | _, _, _ => none
def eqF (A : Ar) (xs ys : List AV) : List (Nat × Nat) → Option Bool
  | [] => some true
  | (o, k) :: os => match getL xs o, getL ys o with
    | some x, some y => match eqC A k x y, eqF A xs ys os with
      | some b, some c => some (A.and b c)
      | _, _ => none
    | _, _ => none

def binQ (A : Ar) (op : BinOp) (k : TK) (x y : AV) (H : List ABlk) : Out :=
  match x, y with
  | .int _ _, .int _ _ => binA A op x y H
  | .str _, .str _ => binA A op x y H
  | .agg xs, .agg ys => match k, op with
    | .ag offs, .eql => match eqF A xs ys offs with
      | some b => .ok (.sb b) H
      | none => .bad
    | .ag offs, .neq => match eqF A xs ys offs with
      | some b => .ok (.sb (A.not b)) H
      | none => .bad
    | _, _ => .bad
  | x, y => match k, op with
    | .b, .eql => match sym x, sym y with
      | .sb a, .sb b => .ok (.sb (A.beq a b)) H
      | _, _ => .bad
    | .b, .neq => match sym x, sym y with
      | .sb a, .sb b => .ok (.sb (A.not (A.beq a b))) H
      | _, _ => .bad
    | .p, .eql => nil2 x y H fun b => .ok (.bool b) H
    | .p, .neq => nil2 x y H fun b => .ok (.bool (!b)) H
    | _, _ => .bad

/-- What is loaded from an address. -/
def ldA (A : Ar) (σr : RowF) (n : Option Nat) (x : AV) (H : List ABlk) (k : AV → Out) : Out :=
  match x with
  | .bptr id o => match getL H id with
    | some (.box _ cs) => match partA n (dropL o cs) with
      | some v => k v
      | none => .bad
    | _ => .bad
  | .iptr cs => match partA n cs with
    | some v => k v
    | none => .bad
  | .ptr id t r o => match getL H id with
    | some (.arr e _ rows) => .need (.and (.eqN t (A.rlen rows)) (.rget rows r (σr A e rows r))) (match partA n (dropL o (σr A e rows r)) with
      | some v => k v
      | none => .bad)
    | _ => .bad
  | _ => .bad

def bndA (fr : List AV) : Option AX → Option (Option Int)
  | none => some none
  | some x => match ev fr x with
    | .int _ n => some (some n)
    | _ => none

/-- A slice's bounds: what is asked, from, to. -/
def slcA (A : Ar) (k : Option Nat) (x : AV) (lo hi : Option Int) (H : List ABlk) : Out :=
  match k, x with
  | some z, .inl sz rows => if sz = z then match lo, hi with
    | none, none => .ok (.inl sz rows) H
    | none, some h => .need (.and (.leI 0 h) (.leI h (A.ofN (A.rlen rows)))) (.ok (.inl sz (A.rtake rows (A.tn h))) H)
    | some l, none => .need (.and (.leI 0 l) (.leI l (A.ofN (A.rlen rows)))) (.ok (.inl sz (A.rdrop rows (A.tn l))) H)
    | some l, some h => .need (.and (.leI 0 l) (.and (.leI l h) (.leI h (A.ofN (A.rlen rows))))) (.ok (.inl sz (A.rdrop (A.rtake rows (A.tn h)) (A.tn l))) H)
    else .bad
  | some z, .sl id t o n => match getL H id with
    | some (.arr _ sz rows) => if sz = z then match lo, hi with
      | none, none => .need (.eqN t (A.rlen rows)) (.ok (.sl id t o n) H)
      | none, some h => .need (.and (.leI 0 h) (.and (.leI h (A.ofN n)) (.eqN t (A.rlen rows)))) (.ok (.sl id t o (A.tn h)) H)
      | some l, none => .need (.and (.leI 0 l) (.and (.leI l (A.ofN n)) (.eqN t (A.rlen rows)))) (.ok (.sl id t (A.add o (A.tn l)) (A.sub n (A.tn l))) H)
      | some l, some h => .need (.and (.leI 0 l) (.and (.leI l h) (.and (.leI h (A.ofN n)) (.eqN t (A.rlen rows))))) (.ok (.sl id t (A.add o (A.tn l)) (A.sub (A.tn h) (A.tn l))) H)
      else .bad
    | _ => .bad
  | some _, .nils => .need (.and (.leI (lo.getD 0) 0) (.and (.leI 0 (lo.getD 0)) (.and (.leI (hi.getD 0) 0) (.leI 0 (hi.getD 0))))) (.ok .nils H)
  | none, .str s => match lo, hi with
    | none, none => .ok (.str s) H
    | none, some h => .need (.and (.leI 0 h) (.leI h (A.ofN (A.slen s)))) (.ok (.str (A.ssub s 0 (A.tn h))) H)
    | some l, none => .need (.and (.leI 0 l) (.leI l (A.ofN (A.slen s)))) (.ok (.str (A.ssub s (A.tn l) (A.slen s))) H)
    | some l, some h => .need (.and (.leI 0 l) (.and (.leI l h) (.leI h (A.ofN (A.slen s))))) (.ok (.str (A.ssub s (A.tn l) (A.tn h))) H)
  | _, _ => .bad

def appA (A : Ar) (e sz bytes : Nat) (x : AV) (new : List (List AV)) (H : List ABlk) : Out :=
  match x with
  | .nils => .need (.and (.leN (A.rlen new) 140737488355328) (.leN (A.mul (A.rlen new) bytes) 140737488355328)) (.ok (.sl (lenL H) (A.rlen new) 0 (A.rlen new)) (appL H [.arr e sz new]))
  | .sl id t 0 n => match getL H id with
    | some (.arr e' sz' rows) => if e' = e ∧ sz' = sz then
        .need (.and (.eqN t (A.rlen rows)) (.and (.leN n (A.rlen rows)) (.and (.leN (A.add n (A.rlen new)) 140737488355328) (.leN (A.mul (A.add n (A.rlen new)) bytes) 140737488355328)))) (.ok (.sl id (A.rlen (A.rapp rows n new)) 0 (A.add n (A.rlen new))) (setL H id (.arr e sz (A.rapp rows n new))))
      else .bad
    | _ => .bad
  | _ => .bad

def lookT : List (TypeId × FuncId × Option (Option Nat)) → TypeId → Option (FuncId × Option (Option Nat))
  | [], _ => none
  | (t', f, l) :: r, t => if t' = t then some (f, l) else lookT r t

def lookM : MT → String → TypeId → Option (FuncId × Option (Option Nat))
  | [], _, _ => none
  | (m, l) :: r, n, t => if m = n then lookT l t else lookM r n t
/-- A method value of an interface that holds a value whose method takes it as it is. -/
def mvalOk (mt : MT) (n : String) : List AV → List AV → Bool
  | [.iface t _], [] => match lookM mt n t with
    | some (_, none) => true
    | _ => false
  | _, _ => false

def exec1 (A : Ar) (σr : RowF) (fr : List AV) (H : List ABlk) : AO → Out
  | .mv x => .ok (ev fr x) H
  | .pick c a b => match ev fr c with
    | .bool true => .ok (ev fr a) H
    | .bool false => .ok (ev fr b) H
    | .sb s => .br s fun s => .ok (ev fr (if s then a else b)) H
    | _ => .bad
  | .alloc e z => if allOne z = true then .ok (.bptr (lenL H) 0) (appL H [.box e z]) else .bad
  | .box e x => let cs := cellsOf (ev fr x); if allOne cs = true then .ok (.bptr (lenL H) 0) (appL H [.box e cs]) else .bad
  | .build z ps => if allOne z = true then okO ((buildA fr z ps).map .agg) H else .bad
  | .lit e sz n z ps => if allOne z = true then
      match litA fr sz (repL n z) ps with
      | some rows => if n = 0 then .ok .nils H else if pursS rows then .ok (.inl sz rows) H else .ok (.sl (lenL H) n 0 n) (appL H [.arr e sz rows])
      | none => .bad
    else .bad
  | .ld n x => ldA A σr n (ev fr x) H fun v => .ok v H
  | .st n a v =>
    let cs := cellsOf (ev fr v)
    if lenL cs = n ∧ allOne cs = true then
      match ev fr a with
      | .bptr id o => match getL H id with
        | some (.box e bs) => match splL bs o cs with
          | some bs' => .ok (.tup []) (setL H id (.box e bs'))
          | none => .bad
        | _ => .bad
      | .ptr id t r o => match getL H id with
        | some (.arr e sz rows) => match splL (σr A e rows r) o cs with
          | some row' => .need (.and (.eqN t (A.rlen rows)) (.rget rows r (σr A e rows r))) (.ok (.tup []) (setL H id (.arr e sz (A.rset rows r row'))))
          | none => .bad
        | _ => .bad
      | _ => .bad
    else .bad
  | .nilc mt x => match ev fr x with
    | .ptr a b c d => .ok (.ptr a b c d) H
    | .bptr a b => .ok (.bptr a b) H
    | .iptr cs => .ok (.iptr cs) H
    | .fn (.func f) a b => .ok (.fn (.func f) a b) H
    | .fn (.method n) fi ca => if mvalOk mt n fi ca then .ok (.fn (.method n) fi ca) H else .bad
    | _ => .bad
  | .bin op k x y => binQ A op k (ev fr x) (ev fr y) H
  | .un op x => match op, ev fr x with
    | .not, .bool b => .ok (.bool (!b)) H
    | .not, .sb b => .ok (.sb (A.not b)) H
    | .neg, .int k n => .ok (.int k (A.neg k n)) H
    | .xor, .int k n => .ok (.int k (A.xor k n)) H
    | _, _ => .bad
  | .cvt k x => match ev fr x with
    | .int _ n => .ok (.int k (A.cvt k n)) H
    | _ => .bad
  | .mki t x => .ok (.iface t (uns (ev fr x))) H
  | .mkf f a b => .ok (.fn f (evs fr a) (evs fr b)) H
  | .mks e sz bytes z l c => match ev fr l, ev fr c with
    | .int .i64 l, .int .i64 c => if allOne z = true then .need (.and (.leI 0 l) (.and (.leI l c) (.and (.leI c 140737488355328) (.leI (A.mulI c bytes) 140737488355328)))) (.ok (.sl (lenL H) (A.tn l) 0 (A.tn l)) (appL H [.arr e sz (A.rrep (A.tn l) z)])) else .bad
    | _, _ => .bad
  | .slc k x lo hi => match bndA fr lo, bndA fr hi with
    | some lo, some hi => slcA A k (ev fr x) lo hi H
    | _, _ => .bad
  | .fad off x => match ev fr x with
    | .bptr id o => .ok (.bptr id (o + off)) H
    | .iptr cs => .ok (.iptr (dropL off cs)) H
    | .ptr id t r o => .ok (.ptr id t r (o + off)) H
    | _ => .bad
  | .fld off n x => match ev fr x with
    | .agg cs => okO (partA n (dropL off cs)) H
    | _ => .bad
  | .idx e sz x i => match ev fr x, ev fr i with
    | .inl sz' rows, .int _ n => if sz = sz' then .need (.and (.leI 0 n) (.rget rows (A.tn n) (σr A e rows (A.tn n)))) (.ok (.iptr (σr A e rows (A.tn n))) H) else .bad
    | .sl id t o len, .int _ n => match getL H id with
      | some (.arr _ sz' rows) => if sz = sz' then .need (.and (.leI 0 n) (.and (.ltI n (A.ofN len)) (.eqN t (A.rlen rows)))) (.ok (.ptr id t (A.add o (A.tn n)) 0) H) else .bad
      | _ => .bad
    | _, _ => .bad
  | .idxs x i => match ev fr x, ev fr i with
    | .str s, .int _ n => .need (.and (.leI 0 n) (.ltI n (A.ofN (A.slen s)))) (.ok (.int .u8 (A.sidx s n)) H)
    | _, _ => .bad
  | .ext x i => match ev fr x with
    | .tup vs => okO ((getL vs i).map sym) H
    | _ => .bad
  | .asrt t z ag ok x => match ev fr x with
    | .iface t' v => if t' = t then .ok (if ok then .tup [v, .bool true] else sym v) H else .bad
    | _ => .bad
  | .call f args => .call f (evs fr args)
  | .callv x args => match ev fr x with
    | .fn (.func f) a b => .call f (appL a (appL (evs fr args) b))
    | _ => .bad
  | .inv tab x args => match ev fr x with
    | .iface t v => match lookT tab t with
      | some (f, none) => .call f (v :: evs fr args)
      | some (f, some l) => ldA A σr l v H fun u => .call f (u :: evs fr args)
      | none => .bad
    | _ => .bad
  | .len str x => match str, ev fr x with
    | false, .nils => .ok (.int .i64 0) H
    | false, .inl _ rows => .ok (.int .i64 (A.ofN (A.rlen rows))) H
    | false, .sl id t _ n => match getL H id with
      | some (.arr _ _ rows) => .need (.eqN t (A.rlen rows)) (.ok (.int .i64 (A.ofN n)) H)
      | _ => .bad
    | true, .str s => .ok (.int .i64 (A.ofN (A.slen s))) H
    | _, _ => .bad
  | .app e sz bytes _ x y => rowsOf A H (ev fr y) (fun new => appA A e sz bytes (ev fr x) new H) sz
  | .mnmx mx x y => match ev fr x, ev fr y with
    | .int k a, .int k' b => if k = k' then .ok (.int k (if mx then A.mx a b else A.mn a b)) H else .bad
    | _, _ => .bad
  | .addc x y z => match ev fr x, ev fr y, ev fr z with
    | .int .u64 a, .int .u64 b, .int .u64 0 => .ok (.tup [.int .u64 (A.s0 a b), .int .u64 (A.c0 a b)]) H
    | _, _, _ => .bad
  | .mkm => .ok (.map (lenL H)) (appL H [.mpb []])
  | .mget z x i => match ev fr x, ev fr i with
    | .nilm, .int _ _ => .ok (sym z) H
    | .map id, .int k n => match getL H id with
      | some (.mpb rows) => match z with
        | .bool b => .need (.mget rows k n (.bool b) (.bool (A.mB rows k n))) (.ok (.sb (A.mB rows k n)) H)
        | .int k' m => .need (.mget rows k n (.int k' m) (.int k' (A.mI rows k n))) (.ok (.int k' (A.mI rows k n)) H)
        | _ => .bad
      | _ => .bad
    | _, _ => .bad
  | .mset x i v => match ev fr x, ev fr i with
    | .map id, .int k n => match getL H id with
      | some (.mpb rows) => if pur (uns (ev fr v)) = true then .need (.mset rows k n (uns (ev fr v)) (A.mS rows k n (uns (ev fr v)))) (.ok (.tup []) (setL H id (.mpb (A.mS rows k n (uns (ev fr v)))))) else .bad
      | _ => .bad
    | _, _ => .bad
  | .nilS neg x => match ev fr x with
    | .nils => .nilq neg 0 H
    | .inl _ rows => .nilq neg (A.rlen rows) H
    | .sl id t _ n => match getL H id with
      | some (.arr _ _ rows) => .need (.eqN t (A.rlen rows)) (.nilq neg n H)
      | _ => .bad
    | _ => .bad
  | .clr sz z x => match ev fr x with
    | .nils => .ok (.tup []) H
    | .sl id t o n => match getL H id with
      | some (.arr e sz' rows) => if sz' = sz then .need (.and (.eqN t (A.rlen rows)) (.leN (A.add o n) (A.rlen rows))) (.ok (.tup []) (setL H id (.arr e sz (A.rapp rows o (A.rrep n z))))) else .bad
      | _ => .bad
    | _ => .bad
  | .bad => .bad

end Go.Ab
