/- The pure evaluator, part C: regions, code, loops, functions. Own text, over any program. -/
import Derived.Test.YtciajnknnoecaaaDoorPevB
namespace Go.Pev

abbrev R := Option AV

/-- What one operation read and wrote. -/
structure Tr where
  dst : Option Nat
  rdS : List Nat
  rdR : List Nat
  v : AV
  ws : Ws

def Rd.run {α : Type} (E : Env) : Rd α → List Nat → List Nat → (α → List Nat → List Nat → R) → R
  | .ret a, s, r, k => k a s r
  | .fail, _, _, _ => none
  | .slot t f, s, r, k => match get E.sl t with
    | some a => (f a).run E (t :: s) r k
    | none => none
  | .res id f, s, r, k => match getR E.rs id with
    | some a => (f a).run E s (id :: r) k
    | none => none
  | .br b x y, s, r, k => cond b (x.run E s r k) (y.run E s r k)

def rsMent (id : Nat) (l : List (Nat × Option RS)) : Bool := Ws.ment id l

def okNew (E : Env) (dst : Option Nat) (ws : Ws) : Bool :=
  match dst with
  | none => true
  | some d => match get ws d with
    | some (some r) => !(slMent d E.sl) && !(rsMent d E.rs) && !(Ws.ment d ws) && !(r.ment d)
    | _ => true

def upd (E : Env) (dst : Option Nat) (o : Out) : Env :=
  ⟨match dst with | some d => (d, o.v) :: E.sl | none => E.sl, o.ws ++ E.rs⟩

def evalOp (P : Program) (T : Tabs) (ops : Array Oper) (o : Oper) (E : Env) (k : Env → Tr → R) : R :=
  match o.guard with
  | none => go E []
  | some (g, want) => match (ops[g]?).bind (·.dst) with
    | none => none
    | some t => match get E.sl t with
      | some (.bool b) => cond b (br t want true) (br t want false)
      | some .undef => skip E [t]
      | _ => none
where
  go (E : Env) (s : List Nat) : R :=
    (step P T o).run E s [] fun out s r => match okNew E o.dst out.ws with
      | true => k (upd E o.dst out) ⟨o.dst, s, r, out.v, out.ws⟩
      | false => none
  skip (E : Env) (s : List Nat) : R := k (upd E o.dst ⟨.undef, []⟩) ⟨o.dst, s, [], .undef, []⟩
  br (t : Nat) (want b : Bool) : R :=
    let E' : Env := ⟨(t, .bool b) :: E.sl, E.rs⟩
    match want, b with
    | true, true => go E' [t]
    | false, false => go E' [t]
    | _, _ => skip E' [t]

def evalOps (P : Program) (T : Tabs) (ops : Array Oper) : List Oper → Env → List Tr → (Env → List Tr → R) → R
  | [], E, tr, k => k E tr
  | o :: r, E, tr, k => evalOp P T ops o E fun E' t => evalOps P T ops r E' (t :: tr) k

/-! ### regions that draw their order -/

/-- The operations that must come up before each one, as bits. -/
def predsGo (ops : List Oper) (done : List Nat) : List Nat :=   -- done: reversed, of the earlier ones
  match ops with
  | [] => done.reverse
  | o :: r =>
    let n := done.length
    let m := o.after.toList.foldl (fun m e => match Region.binds .any e, Nat.blt e.on n with
      | true, true => m ||| (1 <<< e.on) ||| (done.getD (n - 1 - e.on) 0)
      | _, _ => m) 0
    predsGo r (m :: done)

def meets (a b : List Nat) : Bool := a.any fun x => b.any fun y => Nat.beq x y
def wids (w : Ws) : List Nat := w.map (·.1)
def dsts (t : Tr) : List Nat := match t.dst with | some d => [d] | none => []
/-- The number that an operation makes, if it makes one. -/
def news (t : Tr) : List Nat := match t.dst with | some d => (match get t.ws d with | some (some _) => [d] | _ => []) | none => []
def trMent (id : Nat) (t : Tr) : Bool := t.v.ment id || Ws.ment id t.ws

/-- May x (earlier in the text) and y come up in either order? -/
def apart (x y : Tr) : Bool :=
  !(meets (dsts x) (y.rdS ++ dsts y)) && !(meets x.rdS (dsts y)) && !(meets (wids x.ws) (y.rdR ++ wids y.ws)) && !(meets x.rdR (wids y.ws)) &&
  !((news x).any fun d => trMent d y) && !((news y).any fun d => trMent d x)

def apartAll (x : Tr) (i : Nat) : List Tr → List Nat → Bool
  | [], _ => true
  | y :: r, p :: ps => (p.testBit i || apart x y) && apartAll x i r ps
  | _ :: _, [] => false

def drawOkGo (i : Nat) : List Tr → List Nat → Bool
  | [], _ => true
  | x :: r, _ :: ps => apartAll x i r ps && drawOkGo (i + 1) r ps
  | _ :: _, [] => false

def drawOk (ops : List Oper) (tr : List Tr) : Bool := drawOkGo 0 tr (predsGo ops [])

/-! ### loops: what is kept at a loop's head -/

inductive An where
  | ownS (t id : Nat) (e : TypeId)
  | ownB (b off id : Nat) (e : TypeId)
  | keep (ss rs : List Nat)

/-- A loop told in one step. -/
abbrev Orc := Env → (Exit → Env → R) → R

structure Anns where
  l : List (Nat × List An)
  orc : List (Nat × Orc)
  N : Nat

def firstRegion : Code → Option Nat
  | .region id _ _ => some id
  | .seq a b => match firstRegion a with | some i => some i | none => firstRegion b
  | .cond _ x y => match firstRegion x with | some i => some i | none => firstRegion y
  | .block _ c => firstRegion c
  | .loop c => firstRegion c
  | _ => none

/-- What is kept where a loop is left: under its number + 100000. -/
def annOut (A : Anns) (c : Code) : Option (List An) := match firstRegion c with | some i => get A.l (i + 100000) | none => none

def keepL {α : Type} (l : List (Nat × α)) : List Nat → List (Nat × α)
  | [] => []
  | t :: r => match get l t with | some a => (t, a) :: keepL l r | none => keepL l r

def freshId (E : Env) (id : Nat) : Bool := !(slMent id E.sl) && !(rsMent id E.rs)

/-- A leaf becomes the row with this number. -/
def asOwn (T : Tabs) (E : Env) (a : AV) (id : Nat) (e : TypeId) : Option (Ws) :=
  match a with
  | .own x => match getR E.rs x, freshId E id with
    | some (.row e' s l), true => some [(id, some (.row e' s l)), (x, none)]
    | _, _ => none
  | .nsl => match get T.shs e, freshId E id with
    | some s, true => some [(id, some (.row e s []))]
    | _, _ => none
  | _ => none

def isOwn (a : AV) (id : Nat) : Bool := match a with | .own x => Nat.beq x id | _ => false

def prep1 (T : Tabs) (E : Env) : An → Option Env
  | .ownS t id e => match get E.sl t with
    | some a => match isOwn a id with
      | true => some E
      | false => match asOwn T E a id e with
        | some ws => some ⟨(t, .own id) :: E.sl, ws ++ E.rs⟩
        | none => none
    | none => none
  | .ownB b off id e => match getR E.rs b with
    | some (.box t cs) => match (cs.drop off).head? with
      | some a => match isOwn a id with
        | true => some E
        | false => match asOwn T E a id e with
          | some ws => if off < cs.length ∧ b ≠ id then some ⟨E.sl, (b, some (.box t (splice cs off [.own id]))) :: ws ++ E.rs⟩ else none
          | none => none
      | none => none
    | _ => none
  | .keep ss rs => some ⟨keepL E.sl ss, keepL E.rs rs⟩

def prep (T : Tabs) : List An → Env → Option Env
  | [], E => some E
  | a :: r, E => match prep1 T E a with
    | some E' => prep T r E'
    | none => none

def annOf (A : Anns) (c : Code) : List An := match firstRegion c with | some i => (match get A.l i with | some l => l | none => []) | none => []

def orcOf (A : Anns) (c : Code) : Option Orc := match firstRegion c with | some i => get A.orc i | none => none

def loopE (pr : Env → Option Env) (f : Env → (Exit → Env → R) → R) : Nat → Env → (Exit → Env → R) → R
  | 0, _, _ => none
  | n + 1, E, k => f E fun x E' => match x with
    | .normal => match pr E' with
      | some E2 => loopE pr f n E2 k
      | none => none
    | x => k x E'

/-- Behind a loop: what is not kept is forgotten. -/
def outK (T : Tabs) (A : Anns) (c : Code) (k : Exit → Env → R) : Exit → Env → R :=
  match annOut A c with
  | none => k
  | some l => fun x E => match prep T l E with
    | some E' => k x E'
    | none => none

def condAV (E : Env) : Operand → Option Bool
  | .tmp t => match get E.sl t with | some (.bool b) => some b | _ => none
  | .const (.bool b) => some b
  | _ => none

def evalC (P : Program) (T : Tabs) (A : Anns) : Code → Env → (Exit → Env → R) → R
  | .skip, E, k => k .normal E
  | .region _ ops draw, E, k => evalOps P T ops ops.toList E [] fun E' tr => match draw with
    | false => k .normal E'
    | true => match drawOk ops.toList tr.reverse with
      | true => k .normal E'
      | false => none
  | .seq a b, E, k => evalC P T A a E fun x E' => match x with
    | .normal => evalC P T A b E' k
    | x => k x E'
  | .cond c x y, E, k => match condAV E c with
    | some b => cond b (evalC P T A x E k) (evalC P T A y E k)
    | none => none
  | .block id c, E, k => evalC P T A c E fun x E' => match x with
    | .exit i => match Nat.beq i id with
      | true => k .normal E'
      | false => k (.exit i) E'
    | x => k x E'
  | .loop c, E, k => match prep T (annOf A c) E with
    | some E' => match orcOf A c with
      | some o => o E' k
      | none => loopE (prep T (annOf A c)) (evalC P T A c) A.N E' (outK T A c k)
    | none => none
  | .exit id, E, k => k (.exit id) E
  | .ret, E, k => k .ret E
  | _, _, _ => none

/-- A code's loops. -/
def loopsOf : Code → List Code
  | .seq a b => loopsOf a ++ loopsOf b
  | .cond _ x y => loopsOf x ++ loopsOf y
  | .block _ c => loopsOf c
  | .loop c => c :: loopsOf c
  | _ => []

def loopsF (P : Program) (f : Nat) : List Code :=
  match P.funcs[f]? with
  | some fn => match fn.body with | some c => loopsOf c | none => []
  | none => []

def dataV (E : Env) : AV → Option AV
  | .own id => match getR E.rs id with
    | some (.row _ s l) => some (.sl s l)
    | some (.fro s l) => some (.sl s l)
    | _ => none
  | a => some a
def dataVs (E : Env) : List AV → Option (List AV)
  | [] => some []
  | a :: r => match dataV E a, dataVs E r with
    | some x, some l => some (x :: l)
    | _, _ => none

def finOne (P : Program) (T : Tabs) (E : Env) (t : TypeId) : ResultVar → R
  | .tmp i => match get E.sl i with
    | some a => match aggFit P t a, dataVs E a.lv with
      | true, some l => normAV P T t l
      | _, _ => none
    | none => none
  | .cell i t' => match get E.sl i with
    | some (.ref id 0) => match getR E.rs id with
      | some (.box u cs) => if u = t' ∧ t' = t then match dataVs E cs with
        | some l => normAV P T t l
        | none => none else none
      | _ => none
    | _ => none

def finAll (P : Program) (T : Tabs) (E : Env) : List TypeId → List ResultVar → Option (List AV)
  | [], [] => some []
  | t :: ts, v :: vs => match finOne P T E t v, finAll P T E ts vs with
    | some x, some l => some (x :: l)
    | _, _ => none
  | _, _ => none

def finish (P : Program) (T : Tabs) (fn : Func) (x : Exit) (E : Env) : R :=
  match x with
  | .normal => fin
  | .ret => fin
  | _ => none
where
  fin : R := match finAll P T E fn.resultTypes.toList fn.results.toList with
    | some [a] => some a
    | some l => some (.tup l)
    | none => none

def argSl : Nat → List AV → List (Nat × AV)
  | _, [] => []
  | n, a :: r => (n, a) :: argSl (n + 1) r

def evalF (P : Program) (T : Tabs) (A : Anns) (f : Nat) (args : List AV) : R :=
  match P.funcs[f]? with
  | some fn => match fn.body with
    | some c => evalC P T A c ⟨argSl 0 args, []⟩ (finish P T fn)
    | none => none
  | none => none

end Go.Pev
