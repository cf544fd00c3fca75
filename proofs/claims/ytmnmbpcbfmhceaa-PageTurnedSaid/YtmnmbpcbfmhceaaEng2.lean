/-
  THE ENGINE, 2: loaded code is compiled to the small machine's code. Nothing here speaks of one program.
-/
import Derived.Test.YtmnmbpcbfmhceaaEng1
set_option linter.unusedVariables false
namespace Go.Eng

/-- What a cut needs to know of a function: the slots of what it captured; which functions leave the shared memory alone. -/
structure CI where
  nt : Nat
  caught : List Nat
  pure : List Nat

def elemOf (P : Program) (t : TypeId) : Nat := match P.underlying t with | some (.slice e) => e | _ => 0
def isAggT (P : Program) (t : TypeId) : Bool := match P.underlying t with | some (.struct _) => true | some (.array _ _) => true | _ => false
def szOf (P : Program) (t : TypeId) : Option Nat := if isAggT P t then some (P.cellsOf t) else none

def constV (P : Program) (t : TypeId) : Value → Option AV
  | .slice none 0 0 => some (.c (.z (elemOf P t)))
  | .int k n => some (.c (.p (.int k n)))
  | .bool b => some (.c (.p (.bool b)))
  | .string s => some (.c (.p (.string s)))
  | .pointer none => some (.c (.p (.pointer none)))
  | .map none => some (.c (.p (.map none)))
  | .nilFunc => some (.c (.p .nilFunc))
  | _ => none

def opd (P : Program) (t : TypeId) : Operand → Option O
  | .tmp n => some (.t n)
  | .const v => (constV P t v).map .k
  | .func f => some (.k (.f f []))
  | .global _ => none

def opdO (P : Program) (t : TypeId) : Option Operand → Option (Option O)
  | none => some none
  | some x => (opd P t x).map some

/-- The cells of a type's zero value. -/
def zeroC (P : Program) : Nat → TypeId → Option (List CV)
  | 0, _ => none
  | d + 1, t => match P.underlying t with
    | some (.int k) => some [.p (.int k 0)]
    | some .bool => some [.p (.bool false)]
    | some .string => some [.p (.string .empty)]
    | some (.pointer _) => some [.p (.pointer none)]
    | some (.map _ _) => some [.p (.map none)]
    | some (.func _ _ _) => some [.p .nilFunc]
    | some (.slice e) => some [.z e]
    | some (.array n e) => (zeroC P d e).map fun z => (List.replicate n z).flatten
    | some (.struct fs) => fs.toList.foldr (fun f acc => match zeroC P d f.type, acc with | some x, some y => some (x ++ y) | _, _ => none) (some [])
    | _ => none

/-- Is a value a plain cell's zero, as told? -/
def okZ : CV → Value → Bool
  | .p (.int k n), .int j m => k == j && n == m
  | .p (.bool a), .bool b => a == b
  | .p (.string a), .string b => a.data.toList == b.data.toList
  | .p (.pointer none), .pointer none => true
  | .p (.map none), .map none => true
  | .p .nilFunc, .nilFunc => true
  | .z _, .slice none 0 0 => true
  | _, _ => false
def okZs : List CV → List Value → Bool
  | [], [] => true
  | x :: xs, y :: ys => okZ x y && okZs xs ys
  | _, _ => false

/-- The zero cells of a type, held against the table's own zero value. -/
def zeroT (P : Program) (t : TypeId) : Option (List CV) :=
  match zeroC P 10 t, (P.info? t).bind (·.zero) with
  | some z, some v => if okZs z v.cells.toList && z.length == P.cellsOf t then some z else none
  | _, _ => none

def total : List (Nat × Kd) → Nat
  | [] => 0
  | (n, _) :: r => n + total r

/-- The kinds of fields' cells, one behind the other. -/
def kfs (P : Program) (g : TypeId → Option (List (Nat × Kd))) : Nat → List Field → Option (List (Nat × Kd))
  | _, [] => some []
  | off, f :: r => if f.offset = off ∧ f.name ≠ "_" then (match g f.type, kfs P g (off + P.cellsOf f.type) r with
    | some x, some y => if total x = P.cellsOf f.type then some (x ++ y) else none
    | _, _ => none) else none

/-- The kinds of a comparable type's cells, by runs. -/
def kindsOf (P : Program) : Nat → TypeId → Option (List (Nat × Kd))
  | 0, _ => none
  | d + 1, t => match P.underlying t with
    | some (.int k) => some [(1, .i k)]
    | some .bool => some [(1, .b)]
    | some .string => some [(1, .s)]
    | some (.array n e) => match kindsOf P d e with
      | some [(1, k)] => if P.cellsOf e = 1 then some [(n, k)] else none
      | _ => none
    | some (.struct fs) => if P.stoodInHeld t then none else kfs P (kindsOf P d) 0 fs.toList
    | _ => none

/-- Does a slot come of a nil check, in this region, or of what was captured? -/
def shared (ci : CI) (ops : Array Oper) : Nat → Operand → Bool
  | 0, _ => false
  | d + 1, .tmp t => ci.caught.contains t || ops.any fun o => o.dst == some t && match o.op with
    | .nilCheck _ => true
    | .fieldAddr _ x _ => shared ci ops d x
    | .indexAddr _ x _ => shared ci ops d x
    | _ => false
  | _, _ => false

def allM {α β : Type} (f : α → Option β) : List α → Option (List β)
  | [] => some []
  | x :: xs => match f x, allM f xs with
    | some y, some ys => some (y :: ys)
    | _, _ => none

def args (P : Program) (as : Array Operand) (ts : Array TypeId) : Option (List O) := allM (fun (x : Operand × TypeId) => opd P x.2 x.1) (as.toList.zip ts.toList)

def ceq (P : Program) (ne : Bool) (t : TypeId) (x y : O) : Option AOp :=
  match P.underlying t with
  | some (.int _) => some (.cmp (if ne then .ne else .eq) x y)
  | some .string => some (.cmp (if ne then .ne else .eq) x y)
  | some .bool => some (.cmb ne x y)
  | some (.pointer _) => some (.cmn ne x y)
  | some (.struct _) => if P.eqGuardType P.depth t then none else (kindsOf P 10 t).map fun ks => .eqg ne ks x y
  | some (.array _ _) => if P.eqGuardType P.depth t then none else (kindsOf P 10 t).map fun ks => .eqg ne ks x y
  | _ => none

def cbin (P : Program) (op : BinOp) (t : TypeId) (x y : O) : Option AOp :=
  match op with
  | .add => some (.ari .add x y) | .sub => some (.ari .sub x y) | .mul => some (.ari .mul x y) | .quo => some (.ari .quo x y) | .rem => some (.ari .rem x y)
  | .and => some (.ari .and x y) | .or => some (.ari .or x y) | .xor => some (.ari .xor x y) | .andNot => some (.ari .andNot x y)
  | .shl => some (.ari .shl x y) | .shr => some (.ari .shr x y)
  | .lss => some (.cmp .lt x y) | .leq => some (.cmp .le x y) | .gtr => some (.cmp .gt x y) | .geq => some (.cmp .ge x y)
  | .eql => ceq P false t x y
  | .neq => ceq P true t x y

/-- The parts of a struct or an array, each with its place and its size. -/
def cparts (P : Program) (t : TypeId) (parts : Array (Nat × Operand)) : Option (List (Nat × Nat × O)) :=
  match P.underlying t with
  | some (.struct fs) => if !(fs.toList.all fun f => (P.info? f.type).isSome) then none else allM (fun (p : Nat × Operand) => match fs[p.1]? with | some f => (opd P f.type p.2).map fun x => (f.offset, P.cellsOf f.type, x) | none => none) parts.toList
  | some (.array _ e) => if (P.info? e).isNone then none else allM (fun (p : Nat × Operand) => (opd P e p.2).map fun x => (p.1 * P.cellsOf e, P.cellsOf e, x)) parts.toList
  | _ => none

def cbuiltin (P : Program) (b : Builtin) (as : Array Operand) (ts : Array TypeId) : Option AOp :=
  match b, args P as ts with
  | .len, some [x] => match (ts[0]?).bind fun t => P.underlying t with
    | some .string => some (.lns x)
    | some (.slice _) => some (.ln x)
    | _ => none
  | .min, some [x, y] => some (.mn x y)
  | .copy, some [x, y] => match (ts[0]?).bind fun t => P.underlying t with
    | some (.slice e) => if 0 < P.cellsOf e then some (.cpy (P.cellsOf e) x y) else none
    | _ => none
  | .append, some [x, y] => match (ts[0]?).bind fun t => P.underlying t with
    | some (.slice e) => if ts[0]? = ts[1]? ∧ 0 < P.cellsOf e ∧ (zeroT P e).isSome then some (.ap (P.cellsOf e) (P.bytesOf e) e x y) else none
    | _ => none
  | _, _ => none

/-- One operation. -/
def cop (P : Program) (ci : CI) (ops : Array Oper) (o : Oper) : Option AOp :=
  match o.op with
  | .move x | .assign x => (opd P o.type x).map .mv
  | .pick c a b => match opd P 0 c, opd P o.type a, opd P o.type b with
    | some c, some a, some b => some (.pk c a b)
    | _, _, _ => none
  | .binOp op t x y u => match opd P t x, opd P u y with
    | some x, some y => cbin P op t x y
    | _, _ => none
  | .unOp op t x => match op, opd P t x with
    | .not, some x => some (.not x)
    | .neg, some x => some (.neg x)
    | .xor, some x => some (.cpl x)
    | _, _ => none
  | .convert src dst x => match opd P src x, P.underlying src, P.underlying dst with
    | some x, some (.int _), some (.int k) => some (.cvi k x)
    | some x, some (.slice e), some .string => if P.underlying e matches some (.int .u8) then some (.cvs x) else none
    | _, _, _ => none
  | .alloc t => if o.type = 0 then (zeroT P t).map .al else none
  | .box t x => (opd P t x).map fun x => if o.type = 0 then .bx (P.cellsOf t) x else .bh (P.cellsOf t) x
  | .fieldAddr s x f => match P.underlying s, opd P 0 x with
    | some (.struct fs), some x => match fs[f]? with
      | some fl => if 0 < P.cellsOf fl.type then some (.fa fl.offset (P.cellsOf fl.type) x) else none
      | none => none
    | _, _ => none
  | .indexAddr t x i => match P.underlying t, opd P t x, opd P 0 i with
    | some (.array n e), some x, some i => if 0 < P.cellsOf e then some (.ia n (P.cellsOf e) x i) else none
    | some (.slice e), some x, some i => if 0 < P.cellsOf e then some (.is (P.cellsOf e) x i) else none
    | _, _, _ => none
  | .load t x => if (P.underlying t).isSome then (opd P 0 x).map fun y => if shared ci ops 10 x then .ldh (szOf P t) y else .ld (szOf P t) y else none
  | .store t x v => match opd P 0 x, opd P t v with
    | some y, some v => if P.cellsOf t = 0 then none else some (if shared ci ops 10 x then .sth (P.cellsOf t) y v else .st (P.cellsOf t) y v)
    | _, _ => none
  | .build t ps => match zeroT P t, cparts P t ps with
    | some z, some l => some (.bd z l)
    | _, _ => none
  | .buildSlice t n ps => match P.underlying t with
    | some (.slice e) => match zeroT P e, allM (fun (p : Nat × Operand) => (opd P e p.2).map fun x => (p.1, x)) ps.toList with
      | some z, some l => if 0 < z.length ∧ n * z.length ≤ 2 ^ 24 ∧ (n = 0 → l.isEmpty) then some (.bs z.length n e z l) else none
      | _, _ => none
    | _ => none
  | .index t x i => match P.underlying t, opd P t x, opd P 0 i with
    | some .string, some x, some i => some (.ix x i)
    | _, _, _ => none
  | .field t x f => match P.underlying t, opd P t x with
    | some (.struct fs), some x => match fs[f]? with
      | some fl => if (P.underlying fl.type).isSome then some (.fd fl.offset (szOf P fl.type) x) else none
      | none => none
    | _, _ => none
  | .slice t x lo hi none => match P.underlying t, opd P t x, opdO P 0 lo, opdO P 0 hi with
    | some .string, some x, some lo, some hi => some (.sls x lo hi)
    | some (.array n e), some x, some lo, some hi => if 0 < P.cellsOf e then some (.sla n (P.cellsOf e) x lo hi) else none
    | some (.slice e), some x, some lo, some hi => if 0 < P.cellsOf e then some (.sl (P.cellsOf e) x lo hi) else none
    | _, _, _, _ => none
  | .extract x i => (opd P 0 x).map fun x => .ex i x
  | .nilCheck x => (opd P 0 x).map .nc
  | .makeSlice t l c => match P.underlying t, opd P 0 l, opd P 0 c with
    | some (.slice e), some l, some c => (zeroT P e).map fun z => .ms (P.cellsOf e) (P.bytesOf e) z l c
    | _, _, _ => none
  | .makeFunc (.func f) first caps => if first.toList.isEmpty then (allM (opd P 0) caps.toList).map fun l => .mf f l else none
  | .makeMap _ none => some .mm
  | .lookup t m k false => match P.underlying t with
    | some (.map kt et) => match opd P t m, opd P kt k, kindsOf P 10 kt, zeroT P et with
      -- LK
      | _, _, _, _ => none
    | _ => none
  | .mapUpdate t m k v => match P.underlying t with
    | some (.map kt et) => match opd P t m, opd P kt k, opd P et v, kindsOf P 10 kt with
      -- MU
      | _, _, _, _ => none
    | _ => none
  | .call c => if c.args.size ≠ c.argTypes.size then none else match c.callee with
    | .builtin b => cbuiltin P b c.args c.argTypes
    | .value (.func f) => (args P c.args c.argTypes).map fun l => if ci.pure.contains f then .callp f l else .call f l
    | .value x => match opd P 0 x, args P c.args c.argTypes with
      | some x, some l => some (.callv x l)
      | _, _ => none
    | _ => none
  | _ => none

def cguard (ops : Array Oper) : Option (Nat × Bool) → Option (Option (Nat × Bool))
  | none => some none
  | some (j, b) => match (ops[j]?).bind (·.dst) with
    | some d => some (some (d, b))
    | none => none

/-- What an operation has to come behind, in whatever mode. -/
def preOf (o : Oper) : List Nat := (o.after.toList.filter fun e => match e.ground with | .textOnly _ => false | .gcOnly _ => false | _ => true).map (·.on)

def needsDst : AOp → Bool
  | .st .. | .sth .. | .mu .. => false
  | _ => true

def cao (P : Program) (ci : CI) (ops : Array Oper) (o : Oper) : Option AO :=
  match cop P ci ops o, cguard ops o.guard with
  | some op, some g => if o.dst.isSome = needsDst op ∧ o.dst.all (· < ci.nt) then some ⟨o.dst, g, op⟩ else none
  | _, _ => none

/-! ### Regions that draw their order -/

def opds : AOp → List O
  | .mv x | .not x | .neg x | .cpl x | .cvi _ x | .fa _ _ x | .ld _ x | .ldh _ x | .fd _ _ x | .ex _ x | .nc x | .ln x | .lns x | .cvs x | .bx _ x | .bh _ x => [x]
  | .pk c a b => [c, a, b]
  | .ari _ x y | .cmp _ x y | .cmb _ x y | .cmn _ x y | .eqg _ _ x y | .mn x y => [x, y]
  | .ia _ _ x i | .is _ x i | .ix x i => [x, i]
  | .bd _ l => l.map (·.2.2)
  | .bs _ _ _ _ l => l.map (·.2)
  | .sls x lo hi | .sla _ _ x lo hi | .sl _ x lo hi => x :: (lo.toList ++ hi.toList)
  | .lk _ m k => [m, k]
  | .mf _ l => l
  | .al _ => []
  | .ms _ _ _ x y => [x, y]
  | .st _ x v | .sth _ x v => [x, v]
  | .cpy _ x y | .ap _ _ _ x y => [x, y]
  | .mm => []
  | .mu m k v => [m, k, v]
  | .call _ l | .callp _ l => l
  | .callv x l => x :: l

/-- 0: looks at the frame alone; 1: looks at memory too; 2: makes a local variable; 3: all else. -/
def cls : AOp → Nat
  | .ld .. | .ldh .. | .cvs .. | .lk .. | .callp .. => 1
  | .al .. | .bx .. | .ms .. => 2
  | .st .. | .sth .. | .cpy .. | .ap .. | .mm | .bh .. | .mu .. | .call .. | .callv .. => 3
  | _ => 0

def slots (l : List O) : List Nat := l.filterMap fun | .t n => some n | _ => none
def looks (o : AO) : List Nat := slots (opds o.op) ++ (match o.g with | some (g, _) => [g] | none => [])
def apartO (x y : AO) : Bool :=
  (match x.d with | some d => !(looks y).contains d && y.d != some d | none => true) && (match y.d with | some d => !(looks x).contains d | none => true)
/-- What looks at local variables, at the shared memory; what changes local variables that are there, the shared memory. -/
def rl : AOp → Bool | .ld .. | .cvs .. => true | _ => false
def rh : AOp → Bool | .ldh .. | .lk .. | .callp .. => true | _ => false
def wl : AOp → Bool | .st .. | .cpy .. | .callv .. => true | _ => false
def wh : AOp → Bool | .sth .. | .ap .. | .mm | .bh .. | .mu .. | .call .. | .callv .. => true | _ => false
/-- May x, that comes first, come behind y? -/
def swapOK (x y : AO) : Bool := decide (cls x.op ≤ 1) && !(rl x.op && wl y.op) && !(rh x.op && wh y.op) && apartO x y

def rdy (pres : List (List Nat)) (done : List Nat) (i : Nat) : Bool := !done.contains i && (match pres[i]? with | some p => p.all done.contains | none => false)

/-- What has to come behind i. -/
def behind (pres : List (List Nat)) (i : Nat) : List Nat :=
  (List.range pres.length).foldl (fun T j => if (match pres[j]? with | some p => p.any T.contains | none => false) then j :: T else T) [i]

def okT (pres : List (List Nat)) (done : List Nat) (i : Nat) (T : List Nat) : Bool :=
  T.all fun j => !done.contains j && (j == i || (match pres[j]? with | some p => p.any T.contains | none => false))

/-- May operation i come first of all that is left? -/
def okFirst (l : List AO) (pres : List (List Nat)) (done : List Nat) (i : Nat) : Bool :=
  rdy pres done i && (match l[i]? with
    | some x => if cls x.op ≤ 1 then
        (let T := behind pres i
        okT pres done i T && (List.range l.length).all fun j => done.contains j || T.contains j || (match l[j]? with | some y => swapOK x y | none => true))
      else (List.range l.length).all fun j => j == i || !rdy pres done j
    | none => false)

/-- What comes to one end whatever is asked of it. -/
def firm : AOp → Bool | .st .. | .sth .. | .al .. | .bx .. | .ms .. => true | .callp .. => false | op => decide (cls op ≤ 1)

/-- All orders of what is left. -/
def allOrders (l : List AO) (pres : List (List Nat)) : Nat → List Nat → List (List Nat)
  | 0, _ => [[]]
  | fuel + 1, done =>
    match (List.range l.length).find? (okFirst l pres done) with
    | some i => (allOrders l pres fuel (i :: done)).map (i :: ·)
    | none =>
      let r := (List.range l.length).filter (rdy pres done)
      if r.isEmpty then [[]] else r.flatMap fun i => (allOrders l pres fuel (i :: done)).map (i :: ·)

/-- A good order as far as one serves for all; then all orders of a few writes that are left. -/
def canon (l : List AO) (pres : List (List Nat)) : Nat → List Nat → List Nat
  | 0, _ => []
  | fuel + 1, done =>
    match (List.range l.length).find? (okFirst l pres done) with
    | some i => i :: canon l pres fuel (i :: done)
    | none => []

def okPrefix (l : List AO) (pres : List (List Nat)) : List Nat → List Nat → Bool
  | _, [] => true
  | done, i :: is => okFirst l pres done i && okPrefix l pres (i :: done) is

/-- The operations of a region in an order that serves for all, and the ends that are to be looked at one by one. -/
def order (l : List AO) (pres : List (List Nat)) : Option (List AO × List (List AO)) :=
  let c := canon l pres l.length []
  let os := allOrders l pres (l.length - c.length) c.reverse
  if okPrefix l pres [] c && pres.length == l.length && (os.length ≤ 8 : Bool) && ((List.range l.length).all fun i => c.contains i || (match l[i]? with | some x => firm x.op | none => true)) then
    (match allM (fun i => l[i]?) c, allM (fun o => allM (fun i => l[i]?) o) os with
    | some m, some ms => some (m, ms)
    | _, _ => none)
  else none

/-- Code. -/
def cc (P : Program) (ci : CI) : Code → Option AC
  | .skip => some .skip
  | .region _ ops draw => match allM (cao P ci ops) ops.toList with
    | some l => if draw then (match order l (ops.toList.map preOf) with
        | some (m, [[]]) => some (.reg m)
        | some (m, ms) => some (.alt m ms)
        | none => none) else some (.reg l)
    | none => none
  | .seq a b => match cc P ci a, cc P ci b with | some a, some b => some (.seq a b) | _, _ => none
  | .cond c a b => match opd P 0 c, cc P ci a, cc P ci b with | some c, some a, some b => some (.cond c a b) | _, _, _ => none
  | .block id a => (cc P ci a).map (.block id)
  | .loop a => (cc P ci a).map .loop
  | .exit id => some (.exit id)
  | .ret => some .ret
  | _ => none

/-- Where a function's results stand. -/
inductive Rv where
  | t (n : Nat)
  | c (n : Nat) (sz : Option Nat)

structure AFn where
  np : Nat
  nt : Nat
  body : AC
  res : List Rv

def cres (P : Program) : ResultVar → Rv
  | .tmp t => .t t
  | .cell a t => .c a (szOf P t)

def cfn (P : Program) (pure : List Nat) (f : Func) : Option AFn :=
  match f.body with
  | some b => if !(f.results.toList.all fun | .cell _ t => (P.underlying t).isSome | _ => true) then none else (cc P ⟨f.ntmps, (List.range f.nfree).map (· + f.params.size), pure⟩ b).map fun c => ⟨f.params.size + f.nfree, f.ntmps, c, f.results.toList.map (cres P)⟩
  | none => none

end Go.Eng
