/- The pure evaluator, part B: abstract values, the step of one operation, regions, code, functions. Own text, over any program. -/
import Derived.Test.YtciajnknnoecaaaDoorPevA
namespace Go.Pev

/-- Abstract values. 'oth': a value in an interface, of a type of its own. 'own': a row that this function made; 'ref': a cell of a variable in memory; 'elt', 'oelt': a cell of an element; 'obj': an object behind a pointer; 'objv': such an object as it is handed over. -/
inductive AV where
  | int (k : IntKind) (n : Int)
  | bool (b : Bool)
  | str (s : ByteArray)
  | err (e : Err)
  | sl (s : Sh) (l : List s.T)
  | nsl
  | ag (fs : List AV)
  | tup (fs : List AV)
  | own (id : Nat)
  | ref (id off : Nat)
  | elt (s : Sh) (x : s.T) (off : Nat)
  | oelt (id sz : Nat) (i : Int) (off : Nat)
  | obj (id : Nat)
  | objv (k : Nat) (s : Sh) (m : s.T)
  | fn (f : Nat)
  | nilp
  | oth
  | iref (t : TypeId) (id off : Nat)
  | undef

/-- What this function holds in memory of its own. -/
inductive RS where
  | box (t : TypeId) (cs : List AV)
  | row (e : TypeId) (s : Sh) (l : List s.T)
  | fro (s : Sh) (l : List s.T)
  | obj (k : Nat) (s : Sh) (m : s.T)

structure Env where
  sl : List (Nat × AV)
  rs : List (Nat × Option RS)

def get {α : Type} : List (Nat × α) → Nat → Option α
  | [], _ => none
  | (k, v) :: r, t => match Nat.beq k t with | true => some v | false => get r t

def getR (l : List (Nat × Option RS)) (t : Nat) : Option RS :=
  match get l t with | some (some r) => some r | _ => none

abbrev Spec := List AV → Option AV

/-- A callee's answer: one, none, or one of two. -/
inductive Tree where
  | ret (a : AV)
  | fail
  | br (b : Bool) (x y : Tree)
def Tree.get : Tree → Option AV
  | .ret a => some a
  | .fail => none
  | .br b x y => cond b x.get y.get
structure CSpec where
  f : List AV → Tree
instance : Coe Spec CSpec := ⟨fun f => ⟨fun a => match f a with | some r => .ret r | none => .fail⟩⟩

/-- The program's side: errors, shapes of types, which struct types are compared, callees. -/
structure Tabs extends Cfg where
  /-- errors.As, one more than its number; 0: there is none. -/
  asF : Nat
  asPtr : TypeId
  asNum : TypeId
  shs : List (Nat × Sh)
  eqs : List Nat
  specs : List (Nat × CSpec)

/-- Readings, with branches. -/
inductive Rd (α : Type) where
  | ret (a : α)
  | fail
  | slot (t : Nat) (k : AV → Rd α)
  | res (id : Nat) (k : RS → Rd α)
  | br (b : Bool) (x y : Rd α)

def Rd.ofTree {α : Type} : Tree → (AV → Rd α) → Rd α
  | .ret a, k => k a
  | .fail, _ => .fail
  | .br b x y, k => .br b (Rd.ofTree x k) (Rd.ofTree y k)

def Rd.bind {α β : Type} : Rd α → (α → Rd β) → Rd β
  | .ret a, f => f a
  | .fail, _ => .fail
  | .slot t k, f => .slot t fun v => (k v).bind f
  | .res id k, f => .res id fun v => (k v).bind f
  | .br b x y, f => .br b (x.bind f) (y.bind f)

abbrev Ws := List (Nat × Option RS)

structure Out where
  v : AV
  ws : Ws

/-! ### data -/

def leaves : (s : Sh) → s.T → List AV
  | .int k, x => [.int k x]
  | .bool, x => [.bool x]
  | .str, x => [.str x]
  | .err, x => [.err x]
  | .ptr, _ => [.nilp]
  | .sl s, x => [.sl s x]
  | .pair a b, x => leaves a x.1 ++ leaves b x.2

def zleaves : Sh → List AV
  | .int k => [.int k 0]
  | .bool => [.bool false]
  | .str => [.str ⟨#[]⟩]
  | .err => [.err none]
  | .ptr => [.nilp]
  | .sl _ => [.nsl]
  | .pair a b => zleaves a ++ zleaves b

def castL (s' s : Sh) (l : List s'.T) : Option (List s.T) := if h : s' = s then some (h ▸ l) else none

def ofLeaves : (s : Sh) → List AV → Option s.T
  | .int k, l => match l with | [.int k' n] => (if k' = k then some n else none) | _ => none
  | .bool, l => match l with | [.bool b] => some b | _ => none
  | .str, l => match l with | [.str s] => some s | _ => none
  | .err, l => match l with | [.err e] => some e | _ => none
  | .ptr, l => match l with | [.nilp] => some () | _ => none
  | .sl s, l => match l with | [.sl s' l] => castL s' s l | [.nsl] => some [] | _ => none
  | .pair a b, l => match ofLeaves a (l.take a.sz), ofLeaves b (l.drop a.sz) with
    | some x, some y => some (x, y)
    | _, _ => none

def Sh.flat : Sh → Bool
  | .sl _ => false
  | .err => false
  | .ptr => false
  | .pair a b => a.flat && b.flat
  | _ => true

/-- Data alone. -/
def AV.pure1 : AV → Bool
  | .int .. | .bool _ | .str _ | .err _ | .sl .. | .nilp | .oth | .elt .. => true
  | _ => false
def AV.pure2 : AV → Bool
  | .ag l => l.all AV.pure1
  | a => a.pure1
def AV.pure : AV → Bool
  | .tup l => l.all AV.pure2
  | a => a.pure2
def AV.flat1 : AV → Bool
  | .int .. | .bool _ | .str _ | .oth => true
  | _ => false
def AV.flat2 : AV → Bool
  | .ag l => l.all AV.flat1
  | a => a.flat1
def AV.flat : AV → Bool
  | .tup l => l.all AV.flat2
  | a => a.flat2

/-- Does a value speak of this number? -/
def AV.ment1 (id : Nat) : AV → Bool
  | .own i | .ref i _ | .oelt i _ _ _ | .obj i | .iref _ i _ => Nat.beq i id
  | _ => false
def AV.ment2 (id : Nat) : AV → Bool
  | .ag l => l.any (AV.ment1 id)
  | a => a.ment1 id
def AV.ment (id : Nat) : AV → Bool
  | .tup l => l.any (AV.ment2 id)
  | a => a.ment2 id
def RS.ment (id : Nat) : RS → Bool
  | .box _ cs => cs.any (AV.ment1 id)
  | _ => false
def Ws.ment (id : Nat) : Ws → Bool
  | [] => false
  | (_, some r) :: l => r.ment id || Ws.ment id l
  | (_, none) :: l => Ws.ment id l
def slMent (id : Nat) (l : List (Nat × AV)) : Bool := l.any fun p => p.2.ment id

/-! ### types -/

def aggOf (P : Program) (t : TypeId) : Option Bool :=
  match P.underlying t with
  | some (.struct _) => some true
  | some (.array _ _) => none
  | some _ => some false
  | none => none
def fieldOf (P : Program) (t : TypeId) (j : Nat) : Option (Nat × TypeId) :=
  match P.underlying t with
  | some (.struct fs) => (fs[j]?).map fun f => (f.offset, f.type)
  | _ => none
def elemOf' (P : Program) (t : TypeId) : Option TypeId :=
  match P.underlying t with
  | some (.slice e) => some e
  | _ => none
def bytesOf' (P : Program) (t : TypeId) : Nat := match P.info? t with | some i => i.bytes | none => 0

def eqChkF (chk : TypeId → Sh → Bool) (shs : List (Nat × Sh)) : List Field → Sh → Nat → Bool
  | [], _, _ => false
  | f :: fs, s, off => match fs, s with
    | [], s => f.name != "_" && f.offset == off && chk f.type s && decide (get shs f.type = some s)
    | g :: fs, .pair a b => f.name != "_" && f.offset == off && chk f.type a && decide (get shs f.type = some a) && eqChkF chk shs (g :: fs) b (off + a.sz)
    | _ :: _, _ => false
def eqChk (P : Program) (shs : List (Nat × Sh)) : Nat → TypeId → Sh → Bool
  | 0, _, _ => false
  | d + 1, t, s => match P.underlying t with
    | some (.int _) => match s with | .int _ => true | _ => false
    | some .bool => decide (s = .bool)
    | some .string => decide (s = .str)
    | some (.struct fs) => !P.stoodInHeld t && eqChkF (eqChk P shs d) shs fs.toList s 0
    | _ => false
def eqOkB (P : Program) (shs : List (Nat × Sh)) (t : TypeId) : Bool :=
  match get shs t with
  | some s => eqChk P shs 6 t s && !P.eqGuardType P.depth t && decide (aggOf P t = some true)
  | none => false

/-! ### one operation -/

def constAV : Value → Option AV
  | .int k n => some (.int k n)
  | .bool b => some (.bool b)
  | .string s => some (.str s)
  | .nilIface => some (.err none)
  | .slice none 0 0 => some .nsl
  | .pointer none => some .nilp
  | _ => none

def Rd.ofO {α : Type} : Option α → Rd α
  | some a => .ret a
  | none => .fail

def opd : Operand → Rd AV
  | .tmp t => .slot t .ret
  | .const v => Rd.ofO (constAV v)
  | .func f => .ret (.fn f)
  | .global _ => .fail

def opds : List Operand → Rd (List AV)
  | [] => .ret []
  | x :: r => (opd x).bind fun a => (opds r).bind fun l => .ret (a :: l)

def intBin (op : BinOp) (k : IntKind) (a b : Int) : Option AV :=
  match op with
  | .add => some (.int k (k.wrap (a + b)))
  | .sub => some (.int k (k.wrap (a - b)))
  | .mul => some (.int k (k.wrap (a * b)))
  | .quo => match b with | .ofNat 0 => none | .ofNat (n + 1) => some (.int k (k.wrap (a.tdiv (n + 1 : Nat)))) | _ => none
  | .rem => match b with | .ofNat 0 => none | .ofNat (n + 1) => some (.int k (a.tmod (n + 1 : Nat))) | _ => none
  | .shl => match b with | .ofNat n => some (.int k (k.wrap (a * 2 ^ min n k.bits))) | _ => none
  | .shr => match b with | .ofNat n => some (.int k (a.fdiv (2 ^ min n k.bits))) | _ => none
  | .and => some (.int k (k.wrap (BitVec.ofInt k.bits a &&& BitVec.ofInt k.bits b).toNat))
  | .or => some (.int k (k.wrap (BitVec.ofInt k.bits a ||| BitVec.ofInt k.bits b).toNat))
  | .eql => some (.bool (a == b))
  | .neq => some (.bool (a != b))
  | .lss => some (.bool (decide (a < b)))
  | .leq => some (.bool (decide (a ≤ b)))
  | .gtr => some (.bool (decide (a > b)))
  | .geq => some (.bool (decide (a ≥ b)))
  | _ => none

def strBin (op : BinOp) (a b : ByteArray) : Rd AV :=
  match op with
  | .add => .br (decide (a.size + b.size ≤ 9223372036854775807)) (.ret (.str (a ++ b))) .fail
  | .eql => .ret (.bool (a.toList == b.toList))
  | .neq => .ret (.bool !(a.toList == b.toList))
  | .lss => .ret (.bool (Op.bytesLess a.toList b.toList))
  | .leq => .ret (.bool (Op.bytesLess a.toList b.toList || a.toList == b.toList))
  | .gtr => .ret (.bool !(Op.bytesLess a.toList b.toList || a.toList == b.toList))
  | .geq => .ret (.bool !(Op.bytesLess a.toList b.toList))
  | _ => .fail

def errEq : Err → Err → Option Bool
  | none, none => none
  | none, some _ => some false
  | some _, none => some false
  | some ([], a), some ([], b) => some (a == b)
  | some ([], _), some (_ :: _, _) => some false
  | some (_ :: _, _), some ([], _) => some false
  | some (_ :: _, _), some (_ :: _, _) => none

def eqB : (s : Sh) → s.T → s.T → Bool
  | .int _, x, y => (x : Int) == y
  | .bool, x, y => (x : Bool) == y
  | .str, x, y => (x : ByteArray).toList == (y : ByteArray).toList
  | .err, _, _ => false
  | .ptr, _, _ => false
  | .sl _, _, _ => false
  | .pair a b, x, y => eqB a x.1 y.1 && eqB b x.2 y.2

def isNilC : Operand → Bool
  | .const .nilIface => true
  | _ => false

def isIface (P : Program) (t : TypeId) : Bool := match P.underlying t with | some (.interface _) => true | _ => false
def isPtrT (P : Program) (t : TypeId) : Bool := match P.underlying t with | some (.pointer _) => true | _ => false
def isBoolT (P : Program) (t : TypeId) : Bool := match P.underlying t with | some .bool => true | _ => false

def ptrEq (op : BinOp) (p r : Bool) : Rd AV := match p with
  | true => match op with | .eql => .ret (.bool r) | .neq => .ret (.bool !r) | _ => .fail
  | false => .fail

def binAV (P : Program) (T : Tabs) (op : BinOp) (t : TypeId) (cx cy : Bool) (x y : AV) : Rd AV :=
  match x, y with
  | .int k a, .int k' b =>
    match op with
    | .shl | .shr => Rd.ofO (intBin op k a b)
    | _ => if k' = k then Rd.ofO (intBin op k a b) else .fail
  | .str a, .str b => strBin op a b
  | .bool a, .bool b => match isBoolT P t with
    | true => match op with | .eql => .ret (.bool (a == b)) | .neq => .ret (.bool !(a == b)) | _ => .fail
    | false => .fail
  | .err a, .err b => match isIface P t with
    | false => .fail
    | true => match cx, cy with
      | _, true => match op with | .eql => .ret (.bool a.isNone) | .neq => .ret (.bool !a.isNone) | _ => .fail
      | true, false => match op with | .eql => .ret (.bool b.isNone) | .neq => .ret (.bool !b.isNone) | _ => .fail
      | false, false => match errEq a b with
        | some r => match op with | .eql => .ret (.bool r) | .neq => .ret (.bool !r) | _ => .fail
        | none => .fail
  | .ag a, .ag b => match T.eqs.contains t, get T.shs t with
    | true, some s => match s.flat, ofLeaves s a, ofLeaves s b with
      | true, some x, some y => match op with | .eql => .ret (.bool (eqB s x y)) | .neq => .ret (.bool !(eqB s x y)) | _ => .fail
      | _, _, _ => .fail
    | _, _ => .fail
  | .oth, .err _ => match isIface P t, cy with
    | true, true => match op with | .eql => .ret (.bool false) | .neq => .ret (.bool true) | _ => .fail
    | _, _ => .fail
  | .nilp, .nilp => ptrEq op (isPtrT P t) true
  | .elt _ _ _, .nilp => ptrEq op (isPtrT P t) false
  | .nilp, .elt _ _ _ => ptrEq op (isPtrT P t) false
  | _, _ => .fail

/-- A value's leaves. -/
def AV.lv : AV → List AV
  | .ag l => l
  | a => [a]

/-- May this be a cell? -/
def okLeaf : AV → Bool
  | .ag _ | .tup _ | .objv .. | .undef => false
  | _ => true

/-- A leaf as data; a row of one's own counts as data from here on. -/
def dataL : AV → Rd (AV × Ws)
  | .own id => .res id fun
    | .row _ s l => .ret (.sl s l, [(id, some (.fro s l))])
    | .fro s l => .ret (.sl s l, [])
    | _ => .fail
  | a => .ret (a, [])
def dataLs : List AV → Rd (List AV × Ws)
  | [] => .ret ([], [])
  | a :: r => (dataL a).bind fun (x, w) => (dataLs r).bind fun (l, ws) => .ret (x :: l, w ++ ws)

def aggAV (P : Program) (t : TypeId) (l : List AV) : Option AV :=
  match aggOf P t, l with
  | some true, l => some (.ag l)
  | some false, [a] => some a
  | _, _ => none

/-- A value of this type as data, in its one spelling. -/
def normAV (P : Program) (T : Tabs) (t : TypeId) (l : List AV) : Option AV :=
  match get T.shs t with
  | some s => match ofLeaves s l with
    | some x => aggAV P t (leaves s x)
    | none => none
  | none => none

def aggFit (P : Program) (t : TypeId) (a : AV) : Bool :=
  match aggOf P t, a with
  | some true, .ag _ => true
  | some false, a => okLeaf a
  | _, _ => false

def normArg (P : Program) (T : Tabs) (t : TypeId) (a : AV) : Rd (AV × Ws) :=
  match aggFit P t a with
  | true => (dataLs a.lv).bind fun (l, ws) => (Rd.ofO (normAV P T t l)).bind fun v => .ret (v, ws)
  | false => .fail
def normArgs (P : Program) (T : Tabs) : List TypeId → List AV → Rd (List AV × Ws)
  | [], [] => .ret ([], [])
  | t :: ts, a :: r => (normArg P T t a).bind fun (x, w) => (normArgs P T ts r).bind fun (l, ws) => .ret (x :: l, w ++ ws)
  | _, _ => .fail

def splice (l : List AV) (off : Nat) (v : List AV) : List AV := l.take off ++ v ++ l.drop (off + v.length)

def setParts (P : Program) (T : Tabs) (t : TypeId) : List (Nat × AV) → List AV → Option (List AV)
  | [], l => some l
  | (i, a) :: r, l => match fieldOf P t i with
    | some (off, ft) => match get T.shs ft, aggFit P ft a with
      | some s, true => if a.lv.length = s.sz ∧ off + s.sz ≤ l.length then setParts P T t r (splice l off a.lv) else none
      | _, _ => none
    | none => none

def placesOk (P : Program) (t : TypeId) : Bool :=
  match P.underlying t with
  | some (.struct fs) => (fs.toList.mapM (fun f => (P.info? f.type).map fun i => (f.offset, i.size))).isSome
  | _ => false

def partsOf (ps : List (Nat × Operand)) : Rd (List (Nat × AV)) :=
  match ps with
  | [] => .ret []
  | (i, x) :: r => (opd x).bind fun a => (partsOf r).bind fun l => .ret ((i, a) :: l)

/-- The elements of a slice literal without gaps. -/
def litEls (P : Program) (e : TypeId) (s : Sh) : Nat → List (Nat × AV) → Rd (List s.T × Ws)
  | _, [] => .ret ([], [])
  | n, (i, a) :: r => match Nat.beq i n && aggFit P e a with
    | true => (dataLs a.lv).bind fun (l, w) => (Rd.ofO (ofLeaves s l)).bind fun x => (litEls P e s (n + 1) r).bind fun (xs, ws) => .ret (x :: xs, w ++ ws)
    | false => .fail

def loadAV (P : Program) (t : TypeId) (sz : Nat) (l : List AV) (off : Nat) : Option AV :=
  match aggOf P t with
  | some true => if off + sz ≤ l.length then some (.ag ((l.drop off).take sz)) else none
  | some false => (l.drop off).head?
  | none => none

def getI {α : Type} (l : List α) (i : Int) (d : α) : α := l.getD i.toNat d

def appLim (b : Nat) (n m : Nat) : Bool := decide ((n + m) * b ≤ 140737488355328)

/-- What a second operand of append holds, as data of this shape. -/
def appSrc (s : Sh) : AV → Rd (List s.T)
  | .own id => .res id fun
    | .row _ s' l => Rd.ofO (castL s' s l)
    | .fro s' l => Rd.ofO (castL s' s l)
    | _ => .fail
  | .sl s' l => Rd.ofO (castL s' s l)
  | .nsl => .ret []
  | _ => .fail

def u8s (s : ByteArray) : List Int := s.data.toList.map fun b => (b.toNat : Int)
def ofU8s (l : List Int) : ByteArray := ⟨(l.map fun n => n.toNat.toUInt8).toArray⟩

/-- A fault's cells: its place, and the error behind it. -/
abbrev FSh : Sh := .pair (.pair (.int .i64) (.int .i64)) .err

/-- errors.As at an error: what the target gets, if it gets anything. -/
def asSem (T : Tabs) (t : TypeId) (e : Err) : Option (Option AV) :=
  match Nat.beq t T.asPtr with
  | true => match e with
    | some (p :: ps, n) => some (some (.elt FSh (p, some (ps, n)) 0))
    | _ => some none
  | false => match Nat.beq t T.asNum with
    | true => match e with
      | some (_, n) => some (some (.int .i64 n))
      | none => some none
    | false => none

def step (P : Program) (T : Tabs) (o : Oper) : Rd Out :=
  let ret (a : AV) : Rd Out := .ret ⟨a, []⟩
  let new (r : RS) (v : Nat → AV) (ws : Ws) : Rd Out := match o.dst with
    | some d => .ret ⟨v d, (d, some r) :: ws⟩
    | none => .fail
  match o.op with
  | .move x | .assign x => (opd x).bind ret
  | .pick c x y => (opd c).bind fun
    | .bool b => .br b ((opd x).bind ret) ((opd y).bind ret)
    | _ => .fail
  | .alloc t => match get T.shs t with
    | some s => new (.box t (zleaves s)) (.ref · 0) []
    | none => .fail
  | .box t x => (opd x).bind fun a => match get T.shs t, aggOf P t, a with
    | some s, some true, .ag l => if l.length = s.sz ∧ l.all okLeaf = true then new (.box t l) (.ref · 0) [] else .fail
    | some s, some false, a => if 1 = s.sz ∧ okLeaf a = true then new (.box t [a]) (.ref · 0) [] else .fail
    | _, _, _ => .fail
  | .build t ps => match get T.shs t, placesOk P t with
    | some s, true => (partsOf ps.toList).bind fun l => match setParts P T t l (zleaves s) with
      | some r => ret (.ag r)
      | none => .fail
    | _, _ => .fail
  | .buildSlice t n ps => match elemOf' P t with
    | some e => match get T.shs e with
      | some s => if n * s.sz ≤ 1000 ∧ 0 < n then (partsOf ps.toList).bind fun l => if l.length = n then (litEls P e s 0 l).bind fun (xs, ws) => new (.row e s xs) (.own ·) ws else .fail else .fail
      | none => .fail
    | none => .fail
  | .load t a => match get T.shs t with
    | some st => (opd a).bind fun
      | .ref id off => .res id fun
        | .box _ cs => (Rd.ofO (loadAV P t st.sz cs off)).bind ret
        | _ => .fail
      | .elt s x off => (Rd.ofO (loadAV P t st.sz (leaves s x) off)).bind ret
      | .oelt id sz i off => .res id fun
        | .row _ s l => if s.sz = sz then .br (decide (0 ≤ i)) (.br (decide (i < l.length)) ((Rd.ofO (loadAV P t st.sz (leaves s (getI l i s.dflt)) off)).bind ret) .fail) .fail else .fail
        | _ => .fail
      | _ => .fail
    | none => .fail
  | .store t a x => match get T.shs t with
    | some st => (opd a).bind fun a => (opd x).bind fun v => match aggOf P t, v with
      | some true, .ag l => storeAt st a l
      | some false, v => if okLeaf v = true then storeAt st a [v] else .fail
      | _, _ => .fail
    | none => .fail
  | .nilCheck x => (opd x).bind fun
    | .ref id off => ret (.ref id off)
    | .elt s x off => ret (.elt s x off)
    | .oelt id sz i off => ret (.oelt id sz i off)
    | _ => .fail
  | .binOp op t x y _ => (opd x).bind fun a => (opd y).bind fun b => (binAV P T op t (isNilC x) (isNilC y) a b).bind ret
  | .unOp op _ x => (opd x).bind fun
    | .bool b => match op with | .not => ret (.bool !b) | _ => .fail
    | .int k n => match op with | .neg => ret (.int k (k.wrap (0 - n))) | _ => .fail
    | _ => .fail
  | .convert src dst x => (opd x).bind fun
    | .int _ n => match P.underlying src, P.underlying dst with
      | some _, some (.int k) => ret (.int k (k.wrap n))
      | _, _ => .fail
    | .str s => match P.underlying src, P.underlying dst with
      | some _, some .string => ret (.str s)
      | some .string, some (.slice e) => match P.underlying e with
        | some (.int .u8) => ret (.sl (.int .u8) (u8s s))
        | _ => .fail
      | _, _ => .fail
    | a => match elemOf' P src, P.underlying dst with
      | some e, some .string => match P.underlying e with
        | some (.int .u8) => (appSrc (.int .u8) a).bind fun l => ret (.str (ofU8s l))
        | _ => .fail
      | _, _ => .fail
  | .makeInterface t x => (opd x).bind fun
    | .int .i64 n => if t = T.errno then ret (.err (some ([], n))) else .fail
    | .ref id off => match isPtrT P t with
      | true => if t = T.fptr then .res id fun
          | .box u [.int .i64 k, .int .i64 n, .err (some e)] => if u = T.fault ∧ off = 0 then .ret ⟨.err (some ((k, n) :: e.1, e.2)), [(id, none)]⟩ else .fail
          | _ => .fail
        else if t = T.asPtr ∨ t = T.asNum then ret (.iref t id off) else .fail
      | false => .fail
    | _ => .fail
  | .fieldAddr t x f => match fieldOf P t f with
    | some (o, ft) => match get T.shs ft with
      | some _ => (opd x).bind fun
        | .ref id off => ret (.ref id (off + o))
        | .elt s x off => ret (.elt s x (off + o))
        | .oelt id sz i off => ret (.oelt id sz i (off + o))
        | _ => .fail
      | none => .fail
    | none => .fail
  | .field t x f => match fieldOf P t f with
    | some (o, ft) => match get T.shs ft with
      | some s => (opd x).bind fun
        | .ag l => (Rd.ofO (loadAV P ft s.sz l o)).bind ret
        | _ => .fail
      | none => .fail
    | none => .fail
  | .indexAddr t x i => match elemOf' P t with
    | some e => match get T.shs e with
      | some se => (opd x).bind fun xs => (opd i).bind fun
        | .int _ i => match xs with
          | .sl s l => if s = se then .br (decide (0 ≤ i)) (.br (decide (i < l.length)) (ret (.elt s (getI l i s.dflt) 0)) .fail) .fail else .fail
          | .own id => .res id fun
            | .row e' s l => if e' = e ∧ s = se then .br (decide (0 ≤ i)) (.br (decide (i < l.length)) (ret (.oelt id s.sz i 0)) .fail) .fail else .fail
            | .fro s l => if s = se then .br (decide (0 ≤ i)) (.br (decide (i < l.length)) (ret (.elt s (getI l i s.dflt) 0)) .fail) .fail else .fail
            | _ => .fail
          | _ => .fail
        | _ => .fail
      | none => .fail
    | none => .fail
  | .index t x i => match P.underlying t with
    | some .string => (opd x).bind fun
      | .str s => (opd i).bind fun
        | .int _ i => .br (decide (0 ≤ i)) (.br (decide (i < s.size)) (ret (.int .u8 ((s.data.toList.getD i.toNat 0).toNat : Int))) .fail) .fail
        | _ => .fail
      | _ => .fail
    | _ => .fail
  | .slice t x lo hi none => (opd x).bind fun
    | .str s => match P.underlying t with
      | some .string => (bound lo 0).bind fun l => (bound hi s.size).bind fun h =>
        .br (decide (0 ≤ l)) (.br (decide (l ≤ h)) (.br (decide (h ≤ s.size)) (ret (.str (s.extract l.toNat h.toNat))) .fail) .fail) .fail
      | _ => .fail
    | .sl s xs => match elemOf' P t with
      | some e => match get T.shs e with
        | some se => if s = se then (bound lo 0).bind fun l => (bound hi xs.length).bind fun h =>
          .br (decide (0 ≤ l)) (.br (decide (l ≤ h)) (.br (decide (h ≤ xs.length)) (ret (.sl s ((xs.drop l.toNat).take (h - l).toNat))) .fail) .fail) .fail else .fail
        | none => .fail
      | none => .fail
    | _ => .fail
  | .extract x i => (opd x).bind fun
    | .tup l => (Rd.ofO (l[i]?)).bind ret
    | _ => .fail
  | .call c => match c.callee with
    | .builtin .len => match c.args.toList, c.argTypes.toList with
      | [x], [t] => (opd x).bind fun
        | .str s => match P.underlying t with | some .string => ret (.int .i64 s.size) | _ => .fail
        | .nsl => match elemOf' P t with | some _ => ret (.int .i64 0) | none => .fail
        | .sl _ l => match elemOf' P t with | some _ => ret (.int .i64 l.length) | none => .fail
        | .own id => .res id fun
          | .row _ _ l => match elemOf' P t with | some _ => ret (.int .i64 l.length) | none => .fail
          | .fro _ l => match elemOf' P t with | some _ => ret (.int .i64 l.length) | none => .fail
          | _ => .fail
        | _ => .fail
      | _, _ => .fail
    | .builtin .min => match c.args.toList with
      | [x, y] => (opd x).bind fun a => (opd y).bind fun b => match a, b with
        | .int k m, .int _ n => ret (.int k (cond (decide (n < m)) n m))
        | _, _ => .fail
      | _ => .fail
    | .builtin .max => match c.args.toList with
      | [x, y] => (opd x).bind fun a => (opd y).bind fun b => match a, b with
        | .int k m, .int _ n => ret (.int k (cond (decide (m < n)) n m))
        | _, _ => .fail
      | _ => .fail
    | .builtin .append => match c.args.toList, c.argTypes.toList with
      | [x, y], [t, t'] => if t' = t then match elemOf' P t with
        | some e => if bytesOf' P e = 0 then .fail else match get T.shs e with
          | some s => (opd x).bind fun a => (opd y).bind fun b => (appSrc s b).bind fun ys => match a with
            | .nsl => .br (appLim (bytesOf' P e) 0 ys.length) (new (.row e s ys) (.own ·) []) .fail
            | .own id => .res id fun
              | .row e' s' l => if e' = e then match castL s' s l with
                | some xs => .br (appLim (bytesOf' P e) xs.length ys.length) (new (.row e s (xs ++ ys)) (.own ·) [(id, none)]) .fail
                | none => .fail else .fail
              | _ => .fail
            | _ => .fail
          | none => .fail
        | none => .fail else .fail
      | _, _ => .fail
    | .value (.func g) => match Nat.beq (g + 1) T.asF with
      | true => match c.args.toList with
        | [x, y] => (opd x).bind fun
          | .err e => (opd y).bind fun
            | .iref t id 0 => .res id fun
              | .box u [_] => match asSem T t e with
                | some none => ret (.bool false)
                | some (some l) => .ret ⟨.bool true, [(id, some (.box u [l]))]⟩
                | none => .fail
              | _ => .fail
            | _ => .fail
          | _ => .fail
        | _ => .fail
      | false => match P.funcs[g]? with
        | some fn => match get T.specs g with
          | some sp => (opds c.args.toList).bind fun as => (normArgs P T fn.params.toList as).bind fun (vs, ws) => Rd.ofTree (sp.f vs) fun r => match r.pure with
              | true => .ret ⟨r, match r.flat with | true => [] | false => ws⟩
              | false => .fail
          | none => .fail
        | none => .fail
    | _ => .fail
  | _ => .fail
where
  bound : Option Operand → Nat → Rd Int
    | some x, _ => (opd x).bind fun | .int _ i => .ret i | _ => .fail
    | none, n => .ret n
  storeAt (st : Sh) (a : AV) (v : List AV) : Rd Out :=
    if v.length = st.sz ∧ v.all okLeaf = true then match a with
      | .ref id off => .res id fun
        | .box t cs => if off + v.length ≤ cs.length then .ret ⟨.undef, [(id, some (.box t (splice cs off v)))]⟩ else .fail
        | _ => .fail
      | .oelt id sz i off => .res id fun
        | .row e s l => (dataLs v).bind fun (v, ws) => if s.sz = sz ∧ off + v.length ≤ s.sz then
          match ofLeaves s (splice (leaves s (getI l i s.dflt)) off v), get ws id with
          | some x, none => .br (decide (0 ≤ i)) (.br (decide (i < l.length)) (.ret ⟨.undef, (id, some (.row e s (l.set i.toNat x))) :: ws⟩) .fail) .fail
          | _, _ => .fail else .fail
        | _ => .fail
      | _ => .fail
    else .fail

end Go.Pev
