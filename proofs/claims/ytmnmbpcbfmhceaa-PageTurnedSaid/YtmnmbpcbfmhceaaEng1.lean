/-
  THE ENGINE, 1: a small abstract machine for Go code: values, states, operations, code. Its operations are compiled off the loaded program (Eng2) and shown to be met by the model (Eng3 ..).
  Nothing here speaks of one program.
-/
import Derived.WalkKit
import Derived.KernelRfl
namespace Go.Eng

/-- What one cell of memory holds: a plain value, a slice (its elements' cells; its own row's block, if it is a row's end), or an empty slice without room. -/
inductive CV where
  | p (v : Value)
  | s (e : Nat) (xs : List (List CV)) (tok : Option Nat)
  | z (ty : Nat)
  deriving Inhabited

/-- What a slot of a frame holds: a cell, an aggregate, several results; the address of a local variable (by the slot that names it), a slice of a local array, the address of an element that nobody writes; a function; nothing that is known. -/
inductive AV where
  | c (x : CV)
  | g (cs : List CV)
  | t (vs : List AV)
  | lp (d o : Nat)
  | lw (d o n c : Nat)
  | ep (cs : List CV)
  | f (f : Nat) (caps : List AV)
  | u
  deriving Inhabited

abbrev Env := Nat → Option AV
abbrev Loc := Nat → Option (List CV)

/-- The kinds of plain cells. -/
inductive Kd where | i (k : IntKind) | b | s | o
  deriving DecidableEq

/-- What stands in memory under a block's number: variables, a map (key's cells to value's cells), the end of a row that may grow. -/
inductive Obj where
  | row (cs : List CV)
  | map (ks : List Kd) (m : List CV → Option (List CV))
  | tip (n e ty : Nat)

abbrev Heap := Nat → Option Obj

structure St where
  env : Env
  loc : Loc
  heap : Heap

/-- A frame, a row of variables, by a list. -/
def mk {α : Type} : List (Nat × α) → Nat → Option α
  | [], _ => none
  | (y, v) :: l, x => if x = y then some v else mk l x

def upd {α : Type} (H : Nat → Option α) (b : Nat) (o : Option α) : Nat → Option α := fun x => if x = b then o else H x

/-- Does a value lead to local variable d? -/
def refs (d : Nat) : AV → Bool
  | .lp x _ => x == d
  | .lw x _ _ _ => x == d
  | .f _ caps => caps.any fun | .lp x _ => x == d | .c _ => false | _ => true
  | .t vs => vs.any fun | .c _ => false | .g _ => false | _ => true
  | _ => false

def put (e : Env) (d : Option Nat) (v : AV) : Env :=
  match d with
  | some d => upd e d (some v)
  | none => e

/-- Operands. -/
inductive O where
  | t (n : Nat)
  | k (v : AV)

def ev (e : Env) : O → Option AV
  | .t n => e n
  | .k v => some v

inductive Cmp where | eq | ne | lt | le | gt | ge
  deriving DecidableEq
inductive Ari where | add | sub | mul | quo | rem | and | or | xor | andNot | shl | shr
  deriving DecidableEq

inductive AOp where
  | mv (x : O)
  | pk (c a b : O)
  | ari (op : Ari) (x y : O)
  | cmp (op : Cmp) (x y : O)
  | cmb (ne : Bool) (x y : O)
  | cmn (ne : Bool) (x y : O)
  | eqg (ne : Bool) (ks : List (Nat × Kd)) (x y : O)
  | not (x : O)
  | neg (x : O)
  | cpl (x : O)
  | cvi (k : IntKind) (x : O)
  | fa (off n : Nat) (x : O)
  | ia (n e : Nat) (x i : O)
  | is (e : Nat) (x i : O)
  | ld (n : Option Nat) (x : O)
  | ldh (n : Option Nat) (x : O)
  | bd (z : List CV) (parts : List (Nat × Nat × O))
  | bs (e n ty : Nat) (z : List CV) (parts : List (Nat × O))
  | ix (x i : O)
  | fd (off : Nat) (n : Option Nat) (x : O)
  | sls (x : O) (lo hi : Option O)
  | sla (n e : Nat) (x : O) (lo hi : Option O)
  | sl (e : Nat) (x : O) (lo hi : Option O)
  | ex (i : Nat) (x : O)
  | nc (x : O)
  | ln (x : O)
  | lns (x : O)
  | mn (x y : O)
  | cvs (x : O)
  | lk (z : AV) (m k : O)
  | mf (f : Nat) (caps : List O)
  -- what makes or changes local variables
  | al (z : List CV)
  | bx (n : Nat) (x : O)
  | ms (e by_ : Nat) (z : List CV) (len cap : O)
  | st (n : Nat) (x v : O)
  | sth (n : Nat) (x v : O)
  | cpy (e : Nat) (x y : O)
  -- what changes the memory that is shared
  | ap (e by_ ty : Nat) (x y : O)
  | mm
  | bh (n : Nat) (x : O)
  | mu (m k v : O)
  | call (f : Nat) (args : List O)
  | callp (f : Nat) (args : List O)
  | callv (x : O) (args : List O)

structure AO where
  d : Option Nat
  g : Option (Nat × Bool)
  op : AOp

inductive AC where
  | skip
  | reg (ops : List AO)
  | alt (ops : List AO) (ends : List (List AO))
  | seq (a b : AC)
  | cond (c : O) (a b : AC)
  | block (id : Nat) (a : AC)
  | loop (a : AC)
  | exit (id : Nat)
  | ret

/-- One operation without a guard; one without a place for its value; one behind a guard. -/
@[reducible] def o1 (d : Nat) (op : AOp) : AO := ⟨some d, none, op⟩
@[reducible] def o0 (op : AOp) : AO := ⟨none, none, op⟩
@[reducible] def og (d g : Nat) (b : Bool) (op : AOp) : AO := ⟨some d, some (g, b), op⟩
/-- So many cells alike. -/
def rep (n : Nat) (x : CV) : List CV := List.replicate n x

/-! ## Values -/

def AV.cells : AV → Option (List CV)
  | .c x => some [x]
  | .g cs => some cs
  | _ => none

def AV.ofCells (n : Option Nat) (cs : List CV) : Option AV :=
  match n with
  | some _ => some (.g cs)
  | none => match cs with | [x] => some (.c x) | _ => none

@[reducible] def I (k : IntKind) (n : Int) : AV := .c (.p (.int k n))
@[reducible] def B (b : Bool) : AV := .c (.p (.bool b))
@[reducible] def S (s : ByteArray) : AV := .c (.p (.string s))

def ariI (op : Ari) (k : IntKind) (x : Int) (j : IntKind) (y : Int) : Option AV :=
  match op with
  | .shl => if y < 0 then none else some (I k (k.wrap (x * 2 ^ (min y.toNat k.bits))))
  | .shr => if y < 0 then none else some (I k (x.fdiv (2 ^ (min y.toNat k.bits))))
  | .add => if k = j then some (I k (k.wrap (x + y))) else none
  | .sub => if k = j then some (I k (k.wrap (x - y))) else none
  | .mul => if k = j then some (I k (k.wrap (x * y))) else none
  | .quo => if k = j then (if y = 0 then none else some (I k (k.wrap (x.tdiv y)))) else none
  | .rem => if k = j then (if y = 0 then none else some (I k (x.tmod y))) else none
  | .and => if k = j then some (I k (k.wrap (BitVec.ofInt k.bits x &&& BitVec.ofInt k.bits y).toNat)) else none
  | .or => if k = j then some (I k (k.wrap (BitVec.ofInt k.bits x ||| BitVec.ofInt k.bits y).toNat)) else none
  | .xor => if k = j then some (I k (k.wrap (BitVec.ofInt k.bits x ^^^ BitVec.ofInt k.bits y).toNat)) else none
  | .andNot => if k = j then some (I k (k.wrap (BitVec.ofInt k.bits x &&& ~~~ (BitVec.ofInt k.bits y)).toNat)) else none

def ariV (op : Ari) : AV → AV → Option AV
  | .c (.p (.int k x)), .c (.p (.int j y)) => ariI op k x j y
  | .c (.p (.string x)), .c (.p (.string y)) =>
    match op with
    | .add => if x.size + y.size ≤ 9223372036854775807 then some (S (x ++ y)) else none
    | _ => none
  | _, _ => none

def cmpI (op : Cmp) (x y : Int) : Bool :=
  match op with
  | .eq => decide (x = y)
  | .ne => decide (x ≠ y)
  | .lt => decide (x < y)
  | .le => decide (x ≤ y)
  | .gt => decide (y < x)
  | .ge => decide (y ≤ x)

def isNilP : Option Addr → Bool
  | none => true
  | some _ => false

def cmpV (op : Cmp) : AV → AV → Option AV
  | .c (.p (.int k x)), .c (.p (.int j y)) => if k = j then some (B (cmpI op x y)) else none
  | .c (.p (.string x)), .c (.p (.string y)) =>
    match op with
    | .eq => some (B (decide (x = y)))
    | .ne => some (B (decide (x ≠ y)))
    | _ => none
  | _, _ => none

/-- Two cells of one plain kind. -/
def eqC : CV → CV → Bool
  | .p (.int _ x), .p (.int _ y) => decide (x = y)
  | .p (.bool x), .p (.bool y) => x == y
  | .p (.string x), .p (.string y) => decide (x = y)
  | _, _ => false

def eqCs : List CV → List CV → Bool
  | [], [] => true
  | x :: xs, y :: ys => eqC x y && eqCs xs ys
  | _, _ => false

def kind : CV → Kd
  | .p (.int k _) => .i k
  | .p (.bool _) => .b
  | .p (.string _) => .s
  | _ => .o
def kinds (cs : List CV) : List Kd := cs.map kind
/-- Kinds by runs. -/
def expand : List (Nat × Kd) → List Kd
  | [] => []
  | (n, k) :: r => (if n = 1 then [k] else List.replicate n k) ++ expand r

def natOf : AV → Option Int
  | .c (.p (.int _ n)) => some n
  | _ => none

/-- A part of some cells. -/
def part (cs : List CV) (off n : Nat) : List CV := (cs.drop off).take n
/-- Some cells with others laid over them. -/
def lay (cs : List CV) (off : Nat) (new : List CV) : List CV := cs.take off ++ new ++ cs.drop (off + new.length)

def evs (e : Env) : List O → Option (List AV)
  | [] => some []
  | x :: xs => match ev e x, evs e xs with
    | some v, some vs => some (v :: vs)
    | _, _ => none

def fillParts (e : Env) : List CV → List (Nat × Nat × O) → Option (List CV)
  | z, [] => some z
  | z, (off, n, x) :: r =>
    match (ev e x).bind AV.cells with
    | some cs => if cs.length = n ∧ off + n ≤ z.length then fillParts e (lay z off cs) r else none
    | none => none

def fillElems (e : Env) (sz : Nat) : List (List CV) → List (Nat × O) → Option (List (List CV))
  | z, [] => some z
  | z, (i, x) :: r =>
    match (ev e x).bind AV.cells with
    | some cs => if cs.length = sz ∧ i < z.length then fillElems e sz (z.set i cs) r else none
    | none => none

def bound (e : Env) (x : Option O) (dflt : Nat) : Option Int :=
  match x with
  | none => some dflt
  | some x => (ev e x).bind natOf

/-- The bytes that cells hold. -/
def byteOf : CV → UInt8
  | .p (.int _ n) => UInt8.ofNat n.toNat
  | _ => 0
def isByte : CV → Bool
  | .p (.int .u8 n) => decide (0 ≤ n) && decide (n < 256)
  | _ => false
def b8 (b : UInt8) : CV := .p (.int .u8 b.toNat)

def bytesOf (cs : List CV) : Option (List UInt8) :=
  if cs.all isByte then some (cs.map byteOf) else none

def str (l : List UInt8) : ByteArray := ⟨l.toArray⟩

/-- A slice's elements, where they are known: a local array's part, or a slice that nobody writes. -/
def elems (l : Loc) (e : Nat) : AV → Option (List CV)
  | .c (.s e' xs _) => if e' = e then some xs.flatten else none
  | .c (.z _) => some []
  | .lw d o n _ => match l d with
    | some cs => if o + n * e ≤ cs.length then some (part cs o (n * e)) else none
    | none => none
  | _ => none

def lenV : AV → Option Int
  | .c (.s _ xs _) => some xs.length
  | .c (.z _) => some 0
  | .lw _ _ n _ => some n
  | _ => none

def okCap : AV → Bool
  | .lp _ _ => true
  | .c (.p _) => true
  | _ => false

/-- What a quiet operation gives. -/
def qv (op : AOp) (s : St) : Option AV :=
  match op with
  | .mv x => ev s.env x
  | .pk c a b => match ev s.env c with
    | some (.c (.p (.bool true))) => ev s.env a
    | some (.c (.p (.bool false))) => ev s.env b
    | _ => none
  | .ari op x y => match ev s.env x, ev s.env y with
    | some a, some b => ariV op a b
    | _, _ => none
  | .cmp op x y => match ev s.env x, ev s.env y with
    | some a, some b => cmpV op a b
    | _, _ => none
  | .cmb ne x y => match ev s.env x, ev s.env y with
    | some (.c (.p (.bool a))), some (.c (.p (.bool b))) => some (B (if ne then !(a == b) else a == b))
    | _, _ => none
  | .cmn ne x y => match ev s.env x, ev s.env y with
    | some (.c (.p (.pointer a))), some (.c (.p (.pointer none))) => some (B (if ne then !(isNilP a) else isNilP a))
    | _, _ => none
  | .eqg ne ks x y => match ev s.env x, ev s.env y with
    | some (.g xs), some (.g ys) => if kinds xs = expand ks ∧ kinds ys = expand ks then some (B (if ne then !(eqCs xs ys) else eqCs xs ys)) else none
    | _, _ => none
  | .not x => match ev s.env x with
    | some (.c (.p (.bool b))) => some (B (!b))
    | _ => none
  | .neg x => match ev s.env x with
    | some (.c (.p (.int k n))) => some (I k (k.wrap (0 - n)))
    | _ => none
  | .cpl x => match ev s.env x with
    | some (.c (.p (.int k n))) => some (I k (k.wrap (BitVec.ofInt k.bits (if k.signed then -1 else k.max) ^^^ BitVec.ofInt k.bits n).toNat))
    | _ => none
  | .cvi k x => match ev s.env x with
    | some (.c (.p (.int _ n))) => some (I k (k.wrap n))
    | _ => none
  | .fa off n x => match ev s.env x with
    | some (.lp d o) => some (.lp d (o + off))
    | some (.ep cs) => some (.ep (part cs off n))
    | some (.c (.p (.pointer (some ⟨b, o, none⟩)))) => some (.c (.p (.pointer (some ⟨b, o + off, none⟩))))
    | _ => none
  | .ia n e x i => match ev s.env x, (ev s.env i).bind natOf with
    | some (.lp d o), some i => if 0 ≤ i ∧ i < n then some (.lp d (o + i.toNat * e)) else none
    | some (.ep cs), some i => if 0 ≤ i ∧ i < n then some (.ep (part cs (i.toNat * e) e)) else none
    | _, _ => none
  | .is e x i => match ev s.env x, (ev s.env i).bind natOf with
    | some (.lw d o n _), some i => if 0 ≤ i ∧ i < n then some (.lp d (o + i.toNat * e)) else none
    | some (.c (.s e' xs _)), some i => if 0 ≤ i ∧ i < xs.length ∧ e' = e then (xs[i.toNat]?).map .ep else none
    | _, _ => none
  | .ld n x => match ev s.env x with
    | some (.lp d o) => match s.loc d with
      | some cs => if o + n.getD 1 ≤ cs.length then AV.ofCells n (part cs o (n.getD 1)) else none
      | none => none
    | some (.ep cs) => if cs.length = n.getD 1 then AV.ofCells n cs else none
    | _ => none
  | .ldh n x => match ev s.env x with
    | some (.c (.p (.pointer (some ⟨b, o, none⟩)))) => match s.heap b with
      | some (.row cs) => if o + n.getD 1 ≤ cs.length then AV.ofCells n (part cs o (n.getD 1)) else none
      | _ => none
    | _ => none
  | .bd z parts => (fillParts s.env z parts).map .g
  | .bs e n ty z parts => if n = 0 then some (.c (.z ty)) else (fillElems s.env e (List.replicate n z) parts).map fun xs => .c (.s e xs none)
  | .ix x i => match ev s.env x, (ev s.env i).bind natOf with
    | some (.c (.p (.string t))), some i => if 0 ≤ i ∧ i < t.size then some (I .u8 ((t.data.toList.getD i.toNat 0).toNat : Nat)) else none
    | _, _ => none
  | .fd off n x => match ev s.env x with
    | some (.g cs) => if off + n.getD 1 ≤ cs.length then AV.ofCells n (part cs off (n.getD 1)) else none
    | _ => none
  | .sls x lo hi => match ev s.env x with
    | some (.c (.p (.string t))) => match bound s.env lo 0, bound s.env hi t.size with
      | some l, some h => if 0 ≤ l ∧ l ≤ h ∧ h ≤ t.size then some (S (t.extract l.toNat h.toNat)) else none
      | _, _ => none
    | _ => none
  | .sla n e x lo hi => match ev s.env x, bound s.env lo 0, bound s.env hi n with
    | some (.lp d o), some l, some h => if 0 ≤ l ∧ l ≤ h ∧ h ≤ n ∧ l < n then some (.lw d (o + l.toNat * e) (h.toNat - l.toNat) (n - l.toNat)) else if l = n ∧ h = n then some (.c (.s e [] none)) else none
    | _, _, _ => none
  | .sl e x lo hi => match ev s.env x with
    | some (.lw d o n c) => match bound s.env lo 0, bound s.env hi n with
      | some l, some h => if 0 ≤ l ∧ l ≤ h ∧ h ≤ n ∧ n ≤ c ∧ l < c then some (.lw d (o + l.toNat * e) (h.toNat - l.toNat) (c - l.toNat)) else none
      | _, _ => none
    | some (.c (.s e' xs _)) => match bound s.env lo 0, bound s.env hi xs.length with
      | some l, some h => if 0 ≤ l ∧ l ≤ h ∧ h ≤ xs.length ∧ e' = e then some (.c (.s e ((xs.take h.toNat).drop l.toNat) none)) else none
      | _, _ => none
    | some (.c (.z ty)) => match bound s.env lo 0, bound s.env hi 0 with
      | some l, some h => if l = 0 ∧ h = 0 then some (.c (.z ty)) else none
      | _, _ => none
    | _ => none
  | .ex i x => match ev s.env x with
    | some (.t vs) => vs[i]?
    | _ => none
  | .nc x => match ev s.env x with
    | some (.lp d o) => some (.lp d o)
    | some (.ep cs) => some (.ep cs)
    | some (.c (.p (.pointer (some a)))) => some (.c (.p (.pointer (some a))))
    | _ => none
  | .ln x => ((ev s.env x).bind lenV).map (I .i64)
  | .lns x => match ev s.env x with
    | some (.c (.p (.string t))) => some (I .i64 t.size)
    | _ => none
  | .mn x y => match ev s.env x, ev s.env y with
    | some (.c (.p (.int k a))), some (.c (.p (.int j b))) => if k = j then some (I k (if b < a then b else a)) else none
    | _, _ => none
  | .cvs x => match ev s.env x with
    | some v => match (elems s.loc 1 v).bind bytesOf with
      | some l => some (S (str l))
      | none => none
    | none => none
  | .lk z m k => match ev s.env m, (ev s.env k).bind AV.cells with
    | some (.c (.p (.map none))), some _ => some z
    | some (.c (.p (.map (some r)))), some k => match s.heap r with
      | some (.map ks m) => if kinds k = ks then (match m k with
        | some cs => match z with
          | .g _ => some (.g cs)
          | _ => AV.ofCells none cs
        | none => some z) else none
      | _ => none
    | _, _ => none
  | .mf f caps => match evs s.env caps with
    | some vs => if vs.all okCap then some (.f f vs) else none
    | none => none
  | _ => none

end Go.Eng
