/- The abstract evaluator: what an operation of the model's code does to pure data. -/
import Derived.Test.YtllfgnhnooonfaaDoorEngB
set_option autoImplicit false
set_option linter.unusedSimpArgs false
set_option linter.unusedVariables false
namespace Go.Proofs.YtllfgnhnooonfaaDoor
namespace Eng

structure Ty where
  desc : TypeDesc
  zero : Value
  size : Nat
  bytes : Nat
  /-- A struct whose fields are compared cell by cell: where each lies, and as what (0 a bool, 1 an integer, 2 a string). -/
  eqL : Option (List (Nat × Nat))

def okVal : Value → Bool
  | .agg cs => cs.toList.all Value.oneCell
  | .tuple _ => false
  | _ => true

def isAggD : TypeDesc → Bool
  | .struct _ => true
  | .array _ _ => true
  | _ => false

/-- The fields of a struct that are compared, cell by cell: where each cell lies, and as what. -/
def EqFs (P : Program) (R : TypeId → Nat → List (Nat × Nat) → Prop) (size base : Nat) : List Field → List (Nat × Nat) → Prop
  | [], l => l = []
  | f :: fs, l => f.name ≠ "_" ∧ ∃ l1 l2, l = l1 ++ l2 ∧ R f.type (base + f.offset) l1 ∧ (∃ j, P.info? f.type = some j ∧ f.offset + j.size ≤ size) ∧ EqFs P R size base fs l2

def EqP (P : Program) : Nat → TypeId → Nat → List (Nat × Nat) → Prop
  | 0, _, _, _ => False
  | d + 1, t, base, l => (∃ i, P.info? t = some i ∧ i.size = 1 ∧ ((l = [(base, 0)] ∧ P.underlying t = some .bool) ∨ (l = [(base, 1)] ∧ ∃ k, P.underlying t = some (.int k)) ∨ (l = [(base, 2)] ∧ P.underlying t = some .string))) ∨
      (∃ i fs, P.info? t = some i ∧ P.stoodInHeld t = false ∧ P.underlying t = some (.struct fs) ∧ EqFs P (EqP P d) i.size base fs.toList l)

structure EqOk (P : Program) (t : TypeId) (l : List (Nat × Nat)) : Prop where
  guard : P.eqGuardType P.depth t = false
  stood : P.stoodInHeld t = false
  plan : ∃ (d : Nat) (fs : Array Field) (i : TypeInfo), d ≤ 9999 ∧ P.underlying t = some (.struct fs) ∧ EqFs P (EqP P d) i.size 0 fs.toList l

structure TyOk (P : Program) (t : TypeId) (ty : Ty) : Prop where
  under : P.underlying t = some ty.desc
  info : ∃ i, P.info? t = some i ∧ i.zero = some ty.zero ∧ i.size = ty.size ∧ i.bytes = ty.bytes
  zok : okVal ty.zero = true
  zsize : ty.zero.cells.size = ty.size
  one : isAggD ty.desc = false → ty.size = 1
  eqs : ∀ l, ty.eqL = some l → EqOk P t l

abbrev Ups := List (Nat × Blk)

inductive Tr (α : Type) where
  | ret (a : α)
  | fail
  | ask (p : Prop) (k : Tr α)
  | ite (b : Bool) (t e : Tr α)
  | call (q : Bool) (f : Nat) (bi : List Blk) (args : List D) (k : D → List Blk → Tr α)

def E.cells : E → List C
  | .c y => [y]
  | .a cs => cs

def ofVal : Value → D
  | .agg cs => .e (.a (cs.toList.map fun c => .v (.x c)))
  | .tuple _ => .top
  | v => .e (.c (.v (.x v)))

@[match_pattern] def D.x (v : Value) : D := .e (.c (.v (.x v)))

def evConst (v : Value) : D := if okVal v then ofVal v else .top

def evO (En : Nat → D) : Operand → D
  | .tmp t => En t
  | .const v => evConst v
  | .global g => .x (.pointer (some ⟨g, 0, none⟩))
  | .func f => .x (.func (.func f) #[] #[])

def need {α : Type} (q : Bool) (d : D) (k : D → Tr α) : Tr α :=
  match d with
  | .g b d => .ask (q = true → b = true) (k d)
  | d => k d

def splice {α : Type} (cs : List α) (off : Nat) (xs : List α) : List α := cs.take off ++ xs ++ cs.drop (off + xs.length)

def pick1 {α : Type} [Inhabited α] (agg : Bool) (size : Nat) (mk1 : α → C) (cs : List α) : D :=
  if agg then .e (.a ((cs.take size).map mk1)) else .e (.c (mk1 (cs.headD default)))

def zeroV (ty : Ty) : List V := ty.zero.cells.toList.map fun c => .x c

/-- The cells of a row from one on; where there is no such row, zeros. -/
def rowAt (ty : Ty) (rows : List (List V)) (i off : Nat) : List V :=
  match rows[i]? with
  | some r => r.drop off
  | none => zeroV ty

def loadE (ty : Ty) (h : Nat → Option Blk) (q : Bool) : D → Tr (D × Ups)
  | .p b off => match h b with
    | some (.loc cs) => .ask (q = true → off + ty.size ≤ cs.length) (.ret (pick1 (isAggD ty.desc) ty.size id (cs.drop off), []))
    | _ => .fail
  | .q cs => .ask (q = true → ty.size ≤ cs.length) (.ret (pick1 (isAggD ty.desc) ty.size .v cs, []))
  | .w r k i off => match h r with
    | some (.row k' rows) => .ask (q = true → k' = k ∧ i < rows.length ∧ off + ty.size ≤ k) (.ret (pick1 (isAggD ty.desc) ty.size .v (rowAt ty rows i off), []))
    | some (.ice k' rows) => .ask (q = true → k' = k ∧ i < rows.length ∧ off + ty.size ≤ k) (.ret (pick1 (isAggD ty.desc) ty.size .v (rowAt ty rows i off), []))
    | _ => .fail
  | _ => .fail

def allV : List C → Option (List V)
  | [] => some []
  | .v a :: r => (allV r).map (a :: ·)
  | .o _ _ :: _ => none

/-- A cell as what nobody writes: an own slice's row is given up for that. -/
def frzC (h : Nat → Option Blk) : C → Option (V × Ups × Prop)
  | .v a => some (a, [], True)
  | .o r n => match h r with
    | some (.row k rows) => some (.s k (rows.take n), [(r, .ice k rows)], n ≤ rows.length)
    | some (.ice k rows) => some (.s k (rows.take n), [], n ≤ rows.length)
    | _ => none

def frzCs (h : Nat → Option Blk) : List C → Option (List V × Ups × Prop)
  | [] => some ([], [], True)
  | .v a :: r => match frzCs h r with
    | some (vs, u, p) => some (a :: vs, u, p)
    | none => none
  | .o r n :: cs => match frzC h (.o r n) with
    | some (v, u1, p1) => match frzCs (updL h u1) cs with
      | some (vs, u2, p2) => some (v :: vs, u1 ++ u2, p1 ∧ p2)
      | none => none
    | none => none

def storeE (ty : Ty) (h : Nat → Option Blk) : D → D → Tr (D × Ups)
  | .p b off, .e e => match h b with
    | some (.loc cs) => .ask (e.cells.length = ty.size ∧ off + ty.size ≤ cs.length) (.ret (.top, [(b, .loc (splice cs off e.cells))]))
    | _ => .fail
  | .w r k i off, .e e => match frzCs h e.cells with
    | some (vs, u, p) => match updL h u r with
      | some (.row k' rows) => .ask (p ∧ vs.length = ty.size ∧ k' = k ∧ i < rows.length ∧ off + ty.size ≤ k) (.ret (.top, u ++ [(r, .row k' (rows.set i (splice (rows.getD i []) off vs)))]))
      | _ => .fail
    | none => .fail
  | _, _ => .fail

def shiftPtr (off : Nat) : D → Option D
  | .p b o => some (.p b (o + off))
  | .q cs => some (.q (cs.drop off))
  | .w r k i o => some (.w r k i (o + off))
  | _ => none

/-- A field: where it lies, how many cells it takes, is it an aggregate? -/
def fieldInfo (Γ : Nat → Option Ty) (ty : Ty) (f : Nat) : Option (Nat × Nat × Bool) :=
  match ty.desc with
  | .struct fs => match fs[f]? with
    | some fl => match Γ fl.type with
      | some tf => some (fl.offset, tf.size, isAggD tf.desc)
      | none => none
    | none => none
  | _ => none

def fieldAddrE (Γ : Nat → Option Ty) (ty : Ty) (f : Nat) (d : D) : Tr (D × Ups) :=
  match fieldInfo Γ ty f with
  | some (off, size, _) => .ask (size ≠ 0) (match shiftPtr off d with | some d' => .ret (d', []) | none => .fail)
  | none => .fail

def fieldE (Γ : Nat → Option Ty) (ty : Ty) (f : Nat) (q : Bool) (d : D) : Tr (D × Ups) :=
  match fieldInfo Γ ty f with
  | some (off, size, agg) => match d with
    | .e (.a cs) => .ask (q = true → off + size ≤ cs.length ∧ size ≠ 0) (.ret (pick1 agg size id (cs.drop off), []))
    | _ => .fail
  | none => .fail

/-- One of n places, by an index. -/
def among {α : Type} (q : Bool) (i : Int) (f : Nat → Tr α) : Nat → Tr α
  | 0 => .fail
  | 1 => .ask (q = true → i = 0) (f 0)
  | n + 1 => .ite (decide (i = n)) (f n) (among q i f n)

def indexAddrE (Γ : Nat → Option Ty) (ty : Ty) (q : Bool) (d ix : D) : Tr (D × Ups) :=
  match ix with
  | .x (.int _ i) => match ty.desc with
    | .slice e => match Γ e with
      | some te => match d with
        | .e (.c (.v (.s k rows))) => .ask (q = true → 0 ≤ i ∧ i < rows.length ∧ k = te.size) (.ret (.q (rows.getD i.toNat (zeroV te)), []))
        | .e (.c (.o r n)) => .ask (q = true → 0 ≤ i ∧ i < n) (.ret (.w r te.size i.toNat 0, []))
        | .e (.c (.v (.x (.slice none 0 0)))) => .ask (q = true → False) (.ret (.q (zeroV te), []))
        | _ => .fail
      | none => .fail
    | .array n e => match Γ e with
      | some te => if 2 < n then .ask (q = true → 0 ≤ i ∧ i < n) (match shiftPtr (i.toNat * te.size) d with | some d' => .ret (d', []) | none => .fail)
        else .ask (2 ≤ n) (among q i (fun j => match shiftPtr (j * te.size) d with | some d' => .ret (d', []) | none => .fail) n)
      | none => .fail
    | _ => .fail
  | _ => .fail

def strAt (s : ByteArray) (i : Nat) : UInt8 := s.data.toList.getD i 0

def indexE (Γ : Nat → Option Ty) (ty : Ty) (q : Bool) (d ix : D) : Tr (D × Ups) :=
  match ix with
  | .x (.int _ i) => match ty.desc with
    | .string => match d with
      | .x (.string s) => .ask (q = true → 0 ≤ i ∧ i < s.size) (.ret (.x (.int .u8 (strAt s i.toNat).toNat), []))
      | _ => .fail
    | .array n e => match Γ e with
      | some te => match d with
        | .e (.a cs) => among q i (fun j => .ask (j * te.size + te.size ≤ cs.length ∧ te.size ≠ 0) (.ret (pick1 (isAggD te.desc) te.size id (cs.drop (j * te.size)), []))) n
        | _ => .fail
      | none => .fail
    | _ => .fail
  | _ => .fail

def binI (q : Bool) (op : BinOp) (k : IntKind) (a b : Int) : Tr (D × Ups) :=
  match op with
  | .add => .ret (.x (.int k (k.wrap (a + b))), [])
  | .sub => .ret (.x (.int k (k.wrap (a - b))), [])
  | .mul => .ret (.x (.int k (k.wrap (a * b))), [])
  | .quo => .ask (q = true → b ≠ 0) (.ret (.x (.int k (k.wrap (a.tdiv b))), []))
  | .rem => .ask (q = true → b ≠ 0) (.ret (.x (.int k (a.tmod b)), []))
  | .and => .ret (.x (.int k (k.wrap ((BitVec.ofInt k.bits a &&& BitVec.ofInt k.bits b).toNat))), [])
  | .or => .ret (.x (.int k (k.wrap ((BitVec.ofInt k.bits a ||| BitVec.ofInt k.bits b).toNat))), [])
  | .xor => .ret (.x (.int k (k.wrap ((BitVec.ofInt k.bits a ^^^ BitVec.ofInt k.bits b).toNat))), [])
  | .eql => .ret (.x (.bool (a == b)), [])
  | .neq => .ret (.x (.bool (a != b)), [])
  | .lss => .ret (.x (.bool (decide (a < b))), [])
  | .leq => .ret (.x (.bool (decide (a ≤ b))), [])
  | .gtr => .ret (.x (.bool (decide (a > b))), [])
  | .geq => .ret (.x (.bool (decide (a ≥ b))), [])
  | _ => .fail

def shiftI (q : Bool) (op : BinOp) (k : IntKind) (a b : Int) : Tr (D × Ups) :=
  match op with
  | .shl => .ask (q = true → 0 ≤ b) (.ret (.x (.int k (k.wrap (a * 2 ^ (min b.toNat k.bits)))), []))
  | .shr => .ask (q = true → 0 ≤ b) (.ret (.x (.int k (a.fdiv (2 ^ (min b.toNat k.bits)))), []))
  | _ => .fail

def binS (op : BinOp) (a b : ByteArray) : Tr (D × Ups) :=
  match op with
  | .add => .ask (a.size + b.size ≤ 9223372036854775807) (.ret (.x (.string (a ++ b)), []))
  | .eql => .ret (.x (.bool (a.data.toList == b.data.toList)), [])
  | .neq => .ret (.x (.bool (!(a.data.toList == b.data.toList))), [])
  | .lss => .ret (.x (.bool (Op.bytesLess a.data.toList b.data.toList)), [])
  | .leq => .ret (.x (.bool (Op.bytesLess a.data.toList b.data.toList || a.data.toList == b.data.toList)), [])
  | .gtr => .ret (.x (.bool (!(Op.bytesLess a.data.toList b.data.toList || a.data.toList == b.data.toList))), [])
  | .geq => .ret (.x (.bool (!Op.bytesLess a.data.toList b.data.toList)), [])
  | _ => .fail

/-- Two cells' values that are one or not, by their type. -/
def eqCell : C → C → Option Bool
  | .v (.x (.int _ a)), .v (.x (.int _ b)) => some (a == b)
  | .v (.x (.bool a)), .v (.x (.bool b)) => some (a == b)
  | .v (.x (.string a)), .v (.x (.string b)) => some (a.data.toList == b.data.toList)
  | _, _ => none

def binE (Γ : Nat → Option Ty) (q : Bool) (op : BinOp) (t : TypeId) (x y : D) : Tr (D × Ups) :=
  match x, y with
  | .x (.int k a), .x (.int k' b) => match op with
    | .shl => shiftI q .shl k a b
    | .shr => shiftI q .shr k a b
    | op => if k = k' then binI q op k a b else .fail
  | .x (.string a), .x (.string b) => binS op a b
  | .x (.bool a), .x (.bool b) => match Γ t with
    | some ty => match ty.desc with
      | .bool => match op with
        | .eql => .ret (.x (.bool (a == b)), [])
        | .neq => .ret (.x (.bool (!(a == b))), [])
        | _ => .fail
      | _ => .fail
    | none => .fail
  | _, _ => .fail

def unE (op : UnOp) (x : D) : Tr (D × Ups) :=
  match op, x with
  | .not, .x (.bool b) => .ret (.x (.bool (!b)), [])
  | .neg, .x (.int k n) => .ret (.x (.int k (k.wrap (0 - n))), [])
  | .xor, .x (.int k n) => .ret (.x (.int k (k.wrap ((BitVec.ofInt k.bits (if k.signed then -1 else k.max) ^^^ BitVec.ofInt k.bits n).toNat))), [])
  | _, _ => .fail

/-- .. of what isn't known, where nothing runs. -/
def unQ (q : Bool) (op : UnOp) (x : D) : Tr (D × Ups) :=
  match x with
  | .top => .ask (q = true → False) (.ret (.top, []))
  | x => unE op x

def pickE (q : Bool) (c : D) (a b : Operand) (ea eb : D) : Tr (D × Ups) :=
  match c with
  | .x (.bool c) =>
    match b with
    | .const (.bool false) => need (q && c) ea fun
      | .x (.bool v) => .ret (.x (.bool (c && v)), [])
      | _ => .ask (c = false) (.ret (.x (.bool false), []))
    | _ => match a with
      | .const (.bool true) => need (q && !c) eb fun
        | .x (.bool v) => .ret (.x (.bool (c || v)), [])
        | _ => .ask (c = true) (.ret (.x (.bool true), []))
      | _ => .fail
  | _ => .fail

def rowsOf (h : Nat → Option Blk) : D → Option (List (List V))
  | .e (.c (.v (.s _ rows))) => some rows
  | .e (.c (.v (.x (.slice none 0 0)))) => some []
  | .e (.c (.o r n)) => match h r with
    | some (.row _ rows) => some (rows.take n)
    | some (.ice _ rows) => some (rows.take n)
    | _ => none
  | _ => none

def lenE (ty : Ty) (x : D) : Tr (D × Ups) :=
  match ty.desc with
  | .string => match x with
    | .x (.string s) => .ret (.x (.int .i64 s.size), [])
    | _ => .fail
  | .array n _ => .ret (.x (.int .i64 n), [])
  | .slice _ => match x with
    | .e (.c (.v (.s _ rows))) => .ret (.x (.int .i64 rows.length), [])
    | .e (.c (.o _ n)) => .ret (.x (.int .i64 n), [])
    | .e (.c (.v (.x (.slice none 0 0)))) => .ret (.x (.int .i64 0), [])
    | _ => .fail
  | _ => .fail

def bytesRows (s : ByteArray) : List (List V) := s.data.toList.map fun b => [.x (.int .u8 b.toNat)]

/-- What is appended, seen as rows; the first argument's type tells of which size. -/
def appendE (Γ : Nat → Option Ty) (ts : Array TypeId) (h : Nat → Option Blk) (nx : Nat) (s x : D) : Tr (D × Ups) :=
  match ts[0]?, ts[1]? with
  | some t0, some t1 => match Γ t0, Γ t1 with
    | some ty0, some ty1 => match ty0.desc with
      | .slice e => match Γ e with
        | some te =>
          let new : Option (List (List V)) := match ty1.desc with
            | .string => match x with | .x (.string s) => some (bytesRows s) | _ => none
            | .slice _ => rowsOf h x
            | _ => none
          match new with
          | some rs => match s with
            | .e (.c (.v (.x (.slice none 0 0)))) => .ask (te.size ≠ 0 ∧ (∀ r, r ∈ rs → r.length = te.size) ∧ rs.length * te.bytes ≤ 70368744177664 ∧ rs.length ≤ 70368744177664 ∧ ∀ r n, x = .e (.c (.o r n)) → n = rs.length) (.ret (.e (.c (.o nx rs.length)), [(nx, .row te.size rs)]))
            | .e (.c (.o r n)) => match h r with
              | some (.row k rows) => .ask (k = te.size ∧ te.size ≠ 0 ∧ n ≤ rows.length ∧ (∀ r, r ∈ rs → r.length = te.size) ∧ (n + rs.length) * te.bytes ≤ 70368744177664 ∧ n + rs.length ≤ 70368744177664 ∧ ∀ r n, x = .e (.c (.o r n)) → n = rs.length)
                  (.ret (.e (.c (.o nx (n + rs.length))), [(r, .gone), (nx, .row k (rows.take n ++ rs))]))
              | _ => .fail
            | _ => .fail
          | none => .fail
        | none => .fail
      | _ => .fail
    | _, _ => .fail
  | _, _ => .fail

def fillE (place : Nat → Option (Nat × Nat)) (cells : List C) : List (Nat × D) → Option (List C)
  | [] => some cells
  | (i, .e e) :: rest => match place i with
    | some (off, size) => if e.cells.length = size ∧ off + size ≤ cells.length then fillE place (splice cells off e.cells) rest else none
    | none => none
  | _ :: _ => none

def placeE (Γ : Nat → Option Ty) (fs : Array Field) (i : Nat) : Option (Nat × Nat) :=
  match fs[i]? with
  | some f => match Γ f.type with
    | some tf => some (f.offset, tf.size)
    | none => none
  | none => none

def placeD (Γ : Nat → Option Ty) (ty : Ty) (i : Nat) : Option (Nat × Nat) :=
  match ty.desc with
  | .struct fs => placeE Γ fs i
  | .array _ e => match Γ e with
    | some te => some (i * te.size, te.size)
    | none => none
  | _ => none

def buildOk (Γ : Nat → Option Ty) (ty : Ty) : Bool :=
  match ty.desc with
  | .struct fs => fs.toList.all fun f => (Γ f.type).isSome
  | .array _ e => (Γ e).isSome
  | _ => false

def zeroC (ty : Ty) : List C := ty.zero.cells.toList.map fun c => .v (.x c)

def buildE (Γ : Nat → Option Ty) (ty : Ty) (parts : List (Nat × D)) : Tr (D × Ups) :=
  .ask (buildOk Γ ty = true) (match fillE (placeD Γ ty) (zeroC ty) parts with
    | some cs => .ret (.e (.a cs), [])
    | none => .fail)

/-- The parts of a slice's literal, one behind the other. -/
def partsE (size : Nat) : (Nat → Option Blk) → Nat → List (Nat × D) → Option (List (List V) × Ups × Prop)
  | _, _, [] => some ([], [], True)
  | h, j, (i, .e e) :: rest => match frzCs h e.cells with
    | some (vs, u1, p1) => match partsE size (updL h u1) (j + 1) rest with
      | some (rows, u2, p2) => some (vs :: rows, u1 ++ u2, (i = j ∧ vs.length = size ∧ p1) ∧ p2)
      | none => none
    | none => none
  | _, _, _ :: _ => none

def buildSliceE (Γ : Nat → Option Ty) (ty : Ty) (h : Nat → Option Blk) (n : Nat) (nx : Nat) (parts : List (Nat × D)) : Tr (D × Ups) :=
  match ty.desc with
  | .slice e => match Γ e with
    | some te => match partsE te.size h 0 parts with
      | some (rows, u, p) => .ask (p ∧ n = rows.length ∧ te.size ≠ 0 ∧ n * te.size ≤ 16777216) (.ret (.e (.c (.o nx n)), u ++ [(nx, .row te.size rows)]))
      | none => .fail
    | none => .fail
  | _ => .fail

def boundE (dflt : Int) : Option D → Option Int
  | none => some dflt
  | some (.x (.int _ i)) => some i
  | _ => none

def sliceE (Γ : Nat → Option Ty) (ty : Ty) (q : Bool) (h : Nat → Option Blk) (nx : Nat) (x : D) (lo hi mx : Option D) : Tr (D × Ups) :=
  match mx with
  | some m => match m, hi, lo with
    | .x (.int _ 0), some (.x (.int _ 0)), none => match ty.desc with
      | .slice e => match Γ e with
        | some te => match x with
          | .e (.c (.v (.s _ _))) => .ret (.e (.c (.o nx 0)), [(nx, .row te.size [])])
          | .e (.c (.o _ _)) => .ret (.e (.c (.o nx 0)), [(nx, .row te.size [])])
          | .e (.c (.v (.x (.slice none 0 0)))) => .ret (.e (.c (.o nx 0)), [(nx, .row te.size [])])
          | _ => .fail
        | none => .fail
      | _ => .fail
    | _, _, _ => .fail
  | none => match ty.desc with
    | .string => match x with
      | .x (.string s) => match boundE 0 lo, boundE s.size hi with
        | some l, some hh => .ask (q = true → 0 ≤ l ∧ l ≤ hh ∧ hh ≤ s.size) (.ret (.x (.string (s.extract l.toNat hh.toNat)), []))
        | _, _ => .fail
      | _ => .fail
    | .slice e => match Γ e with
      | some te => match x with
        | .e (.c (.v (.s k rows))) => match boundE 0 lo, boundE rows.length hi with
          | some l, some hh => .ask (q = true → k = te.size ∧ 0 ≤ l ∧ l ≤ hh ∧ hh ≤ rows.length) (.ret (.e (.c (.v (.s k ((rows.take hh.toNat).drop l.toNat)))), []))
          | _, _ => .fail
        | .e (.c (.v (.x (.slice none 0 0)))) => match boundE 0 lo, boundE 0 hi with
          | some l, some hh => .ask (q = true → l = 0 ∧ hh = 0) (.ret (.x (.slice none 0 0), []))
          | _, _ => .fail
        | .e (.c (.o r n)) => match lo with
          | none => match boundE n hi with
            | some hh => .ask (q = true → 0 ≤ hh ∧ hh ≤ n) (.ret (.e (.c (.o r hh.toNat)), []))
            | none => .fail
          | some _ => match boundE 0 lo, boundE n hi with
            | some l, some hh => match h r with
              | some (.row k rows) => .ask (k = te.size ∧ 0 ≤ l ∧ l ≤ hh ∧ hh ≤ n ∧ n ≤ rows.length) (.ret (.e (.c (.v (.s k ((rows.take hh.toNat).drop l.toNat)))), [(r, .ice k rows)]))
              | some (.ice k rows) => .ask (q = true → k = te.size ∧ 0 ≤ l ∧ l ≤ hh ∧ hh ≤ n ∧ n ≤ rows.length) (.ret (.e (.c (.v (.s k ((rows.take hh.toNat).drop l.toNat)))), []))
              | _ => .fail
            | _, _ => .fail
        | _ => .fail
      | none => .fail
    | _ => .fail

def minI (k : IntKind) (up : Bool) : Int → List D → Tr (D × Ups)
  | x, [] => .ret (.x (.int k x), [])
  | x, .x (.int k' y) :: r => .ask (k' = k) (minI k up (if up then (if y > x then y else x) else (if y < x then y else x)) r)
  | _, _ :: _ => .fail

def minE (up : Bool) : List D → Tr (D × Ups)
  | .x (.int k x) :: r => minI k up x r
  | _ => .fail

def convE (Γ : Nat → Option Ty) (src dst : TypeId) (x : D) : Tr (D × Ups) :=
  match Γ src, Γ dst with
  | some _, some td => match td.desc, x with
    | .int k, .x (.int _ n) => .ret (.x (.int k (k.wrap n)), [])
    | .string, .x (.string s) => .ret (.x (.string s), [])
    | .string, .x (.int _ n) => .ret (.x (.string (Utf8.encode n)), [])
    | _, _ => .fail
  | _, _ => .fail

def extractE (i : Nat) : D → Tr (D × Ups)
  | .t es => match es[i]? with
    | some e => .ret (.e e, [])
    | none => .fail
  | _ => .fail

/-- An argument of a call, as what nobody writes while it runs. -/
def frzD (h : Nat → Option Blk) : D → Option (D × Ups × Prop)
  | .e (.c c) => match frzCs h [c] with
    | some ([v], u, p) => some (.e (.c (.v v)), u, p)
    | _ => none
  | .e (.a cs) => match frzCs h cs with
    | some (vs, u, p) => some (.e (.a (vs.map .v)), u, p)
    | none => none
  | _ => none

/-- Other ids for the same things. -/
def renC (τ : Nat → Nat) : C → C
  | .v a => .v a
  | .o r n => .o (τ r) n

def renE (τ : Nat → Nat) : E → E
  | .c a => .c (renC τ a)
  | .a cs => .a (cs.map (renC τ))

def renD (τ : Nat → Nat) : D → D
  | .e a => .e (renE τ a)
  | .t es => .t (es.map (renE τ))
  | .p b off => .p (τ b) off
  | .q cs => .q cs
  | .w r k i off => .w (τ r) k i off
  | .u r k off n => .u (τ r) k off n
  | .g b d => .g b (renD τ d)
  | .top => .top

def renBlk (τ : Nat → Nat) : Blk → Blk
  | .loc cs => .loc (cs.map (renC τ))
  | .row k rows => .row k rows
  | .ice k rows => .ice k rows
  | .full k rows c => .full k rows c
  | .gone => .gone

/-- The ids of own things in a cell. -/
def idsC : C → List Nat
  | .v _ => []
  | .o r _ => [r]

def idsB : Blk → List Nat
  | .loc cs => cs.flatMap idsC
  | _ => []

def plainC : C → Bool
  | .v (.x _) => true
  | _ => false

def plainE : E → Bool
  | .c c => plainC c
  | .a cs => cs.all plainC

/-- Nothing in it is a slice. -/
def plainD : D → Bool
  | .e e => plainE e
  | .t es => es.all plainE
  | _ => false

/-- What is handed over to a call: the blocks that its pointers point to, with the rows of their cells; and the rows of its slices, where the callee takes these over. -/
def handD (own : Bool) (h : Nat → Option Blk) : D → List Nat
  | .p b _ => b :: (match h b with | some x => idsB x | none => [])
  | .e (.c c) => if own then idsC c else []
  | .e (.a cs) => if own then cs.flatMap idsC else []
  | .u r _ _ _ => if own then [r] else []
  | _ => []

def pos (l : List Nat) (r : Nat) : Nat :=
  match l with
  | [] => 0
  | x :: xs => if r = x then 0 else pos xs r + 1

def passD (own : Bool) (hs : List Nat) (h : Nat → Option Blk) : D → Option (D × Ups × Prop)
  | .p b off => some (.p (pos hs b) off, [], True)
  | .e e => if own then some (.e (renE (pos hs) e), [], True) else frzD h (.e e)
  | .q cs => some (.q cs, [], True)
  | .u r k off n => if own then some (.u (pos hs r) k off n, [], True) else none
  | _ => none

def passDs (own : Bool) (hs : List Nat) (h : Nat → Option Blk) : List D → Option (List D × Ups × Prop)
  | [] => some ([], [], True)
  | d :: r => match passD own hs h d with
    | some (d', u1, p1) => match passDs own hs (updL h u1) r with
      | some (ds, u2, p2) => some (d' :: ds, u1 ++ u2, p1 ∧ p2)
      | none => none
    | none => none

def backT (hs : List Nat) (nx i : Nat) : Nat := if i < hs.length then hs.getD i 0 else nx + (i - hs.length)

def outUps (τ : Nat → Nat) : Nat → List Blk → Ups
  | _, [] => []
  | i, b :: r => (τ i, renBlk τ b) :: outUps τ (i + 1) r

def nodup : List Nat → Bool
  | [] => true
  | x :: xs => !xs.contains x && nodup xs

/-- A call of a Go function. -/
def callE (own : Bool) (h : Nat → Option Blk) (nx : Nat) (q : Bool) (f : Nat) (ds : List D) : Tr (D × Ups) :=
  let hs := ds.flatMap (handD own h)
  match passDs own hs h ds with
  | some (args, u1, p) =>
    let h1 := updL h u1
    let bi := hs.map fun r => renBlk (pos hs) ((h1 r).getD .gone)
    .ask (p ∧ nodup hs = true ∧ (hs.all fun r => live (h1 r) && ((h1 r).map idsB |>.getD []).all (hs.contains ·)) = true)
      (.call q f bi args fun val bo =>
        if hs.isEmpty && bo.isEmpty && plainD val then .ret (val, [])
        else .ask (hs.length ≤ bo.length ∧ bo.length ≤ hs.length + 64) (.ret (renD (backT hs nx) val, u1 ++ outUps (backT hs nx) 0 bo)))
  | none => .ask (q = true → False) (.ret (.top, []))

end Eng
end Go.Proofs.YtllfgnhnooonfaaDoor

/-! Each operation does what the evaluator says: the runs. -/
namespace Go.Proofs.YtllfgnhnooonfaaDoor
namespace Eng

/-- The blocks that are handed over. -/
def Hd (ρ : Nat → Option Pl) (b : Nat) : Prop := ∃ i base c, ρ i = some (.blk b base c)

/-- A contract: called with the blocks bi handed over and with arguments that read so, in whatever memory, the function returns what reads so; nothing else that was there has changed. -/
def Plain (P : Program) (f : FuncId) : Prop := ∃ fn, P.funcs[f]? = some fn ∧ (fn.name == "runtime.NumGoroutine") = false ∧ fn.body.isNone = false

def ACall (P : Program) (f : FuncId) (bi : List Blk) (args : List D) (val : D) (bo : List Blk) : Prop :=
  Plain P f ∧ ∀ (own0 : Nat → Prop) (w : World) (ρ : Nat → Option Pl) (vs : List Value), Mem own0 (Hd ρ) w ρ (fun i => bi[i]?) w → All2 (RepD w (Ow own0 ρ fun i => bi[i]?) ρ) args vs →
    Calls P f vs.toArray w fun e w' => ∃ u ρ', e = .returned u ∧ Sub ρ ρ' ∧ RepD w' (Ow own0 ρ' fun i => bo[i]?) ρ' val u ∧ Mem own0 (Hd ρ) w ρ' (fun i => bo[i]?) w'

/-- A call of a function that the model itself answers: no code of it runs. -/
def XCall (P : Program) (f : FuncId) (bi : List Blk) (args : List D) (val : D) (bo : List Blk) : Prop :=
  ∀ (own0 : Nat → Prop) (w : World) (ρ : Nat → Option Pl) (vs : List Value), Mem own0 (Hd ρ) w ρ (fun i => bi[i]?) w → All2 (RepD w (Ow own0 ρ fun i => bi[i]?) ρ) args vs →
    ∃ u ρ', (callFunc f vs.toArray).run P w = .ok (.value u) w ∧ Sub ρ ρ' ∧ RepD w (Ow own0 ρ' fun i => bo[i]?) ρ' val u ∧ Mem own0 (Hd ρ) w ρ' (fun i => bo[i]?) w
def BCall (P : Program) (f : FuncId) (bi : List Blk) (args : List D) (val : D) (bo : List Blk) : Prop := ACall P f bi args val bo ∨ XCall P f bi args val bo
def Goes (P : Program) (f : FuncId) (vs : Array Value) (w : World) (Q : Ending → World → Prop) : Prop := (Plain P f ∧ Calls P f vs w Q) ∨ ∃ v, (callFunc f vs).run P w = .ok (.value v) w ∧ Q (.returned v) w
theorem Goes.mono {P : Program} {f : FuncId} {vs : Array Value} {w : World} {Q Q' : Ending → World → Prop} (h : Goes P f vs w Q) (hq : ∀ e w', Q e w' → Q' e w') : Goes P f vs w Q' := by
  rcases h with ⟨hp, hc⟩ | ⟨v, hr, hv⟩
  · exact .inl ⟨hp, hc.mono hq⟩
  · exact .inr ⟨v, hr, hq _ _ hv⟩
theorem BCall.goes {P : Program} {f : FuncId} {bi : List Blk} {args : List D} {val : D} {bo : List Blk} (h : BCall P f bi args val bo) (own0 : Nat → Prop) (w : World) (ρ : Nat → Option Pl) (vs : List Value) (hm : Mem own0 (Hd ρ) w ρ (fun i => bi[i]?) w) (ha : All2 (RepD w (Ow own0 ρ fun i => bi[i]?) ρ) args vs) :
    Goes P f vs.toArray w fun e w' => ∃ u ρ', e = .returned u ∧ Sub ρ ρ' ∧ RepD w' (Ow own0 ρ' fun i => bo[i]?) ρ' val u ∧ Mem own0 (Hd ρ) w ρ' (fun i => bo[i]?) w' := by
  rcases h with h | h
  · exact .inl ⟨h.1, h.2 own0 w ρ vs hm ha⟩
  · obtain ⟨u, ρ', hr, h1, h2, h3⟩ := h own0 w ρ vs hm ha
    exact .inr ⟨u, hr, u, ρ', rfl, h1, h2, h3⟩

def Tr.gives {α : Type} (P : Program) : Tr α → α → Prop
  | .ret a, x => x = a
  | .fail, _ => False
  | .ask p k, x => p ∧ k.gives P x
  | .ite b t e, x => if b = true then t.gives P x else e.gives P x
  | .call q f bi args k, x => ∃ val bo, (q = true → BCall P f bi args val bo) ∧ (k val bo).gives P x

def Tr.sat {α : Type} (P : Program) : Tr α → (α → Prop) → Prop
  | .ret a, Q => Q a
  | .fail, _ => False
  | .ask p k, Q => p ∧ k.sat P Q
  | .ite b t e, Q => (b = true → t.sat P Q) ∧ (b = false → e.sat P Q)
  | .call q f bi args k, Q => ∃ val bo, (q = true → BCall P f bi args val bo) ∧ (k val bo).sat P Q

theorem Tr.sat_gives {α : Type} {P : Program} {t : Tr α} {Q : α → Prop} (h : t.sat P Q) : ∃ x, t.gives P x ∧ Q x := by
  induction t with
  | ret a => exact ⟨a, rfl, h⟩
  | fail => exact h.elim
  | ask p k ih => obtain ⟨hp, hk⟩ := h; obtain ⟨x, hx, hq⟩ := ih hk; exact ⟨x, ⟨hp, hx⟩, hq⟩
  | ite b t e iht ihe =>
    cases b with
    | true => obtain ⟨x, hx, hq⟩ := iht (h.1 rfl); exact ⟨x, by simpa [gives] using hx, hq⟩
    | false => obtain ⟨x, hx, hq⟩ := ihe (h.2 rfl); exact ⟨x, by simpa [gives] using hx, hq⟩
  | call q f bi args k ih => obtain ⟨v, bo, hc, hk⟩ := h; obtain ⟨x, hx, hq⟩ := ih v bo hk; exact ⟨x, ⟨v, bo, hc, hx⟩, hq⟩

def Tr.bind {α β : Type} : Tr α → (α → Tr β) → Tr β
  | .ret a, f => f a
  | .fail, _ => .fail
  | .ask p k, f => .ask p (k.bind f)
  | .ite b t e, f => .ite b (t.bind f) (e.bind f)
  | .call q g bi args k, f => .call q g bi args fun v bo => (k v bo).bind f

theorem Tr.gives_bind {α β : Type} {P : Program} {t : Tr α} {f : α → Tr β} {y : β} (h : (t.bind f).gives P y) : ∃ x, t.gives P x ∧ (f x).gives P y := by
  induction t with
  | ret a => exact ⟨a, rfl, h⟩
  | fail => exact h.elim
  | ask p k ih => obtain ⟨hp, hk⟩ := h; obtain ⟨x, hx, hq⟩ := ih hk; exact ⟨x, ⟨hp, hx⟩, hq⟩
  | ite b t e iht ihe =>
    cases b with
    | true => obtain ⟨x, hx, hq⟩ := iht (by simpa [bind, gives] using h); exact ⟨x, by simpa [gives] using hx, hq⟩
    | false => obtain ⟨x, hx, hq⟩ := ihe (by simpa [bind, gives] using h); exact ⟨x, by simpa [gives] using hx, hq⟩
  | call q g bi args k ih => obtain ⟨v, bo, hc, hk⟩ := h; obtain ⟨x, hx, hq⟩ := ih v bo hk; exact ⟨x, ⟨v, bo, hc, hx⟩, hq⟩

theorem Tr.sat_bind {α β : Type} {P : Program} {t : Tr α} {f : α → Tr β} {Q : β → Prop} : (t.bind f).sat P Q ↔ t.sat P fun x => (f x).sat P Q := by
  induction t with
  | ret a => rfl
  | fail => rfl
  | ask p k ih => simp only [bind, sat, ih]
  | ite b t e iht ihe => simp only [bind, sat, iht, ihe]
  | call q g bi args k ih => simp only [bind, sat, ih]

variable {P : Program} {w : World} {ow : Nat → Prop} {ρ : Nat → Option Pl} {q : Bool}

theorem need_gives {α : Type} {d : D} {k : D → Tr α} {x : α} (hq : q = true) (h : (need q d k).gives P x) :
    ∃ d', (∀ u, RepD w ow ρ d u → RepD w ow ρ d' u) ∧ (k d').gives P x := by
  cases d with
  | g b d => exact ⟨d, fun u hu => hu.1 (h.1 hq), h.2⟩
  | e a => exact ⟨_, fun u hu => hu, h⟩
  | t es => exact ⟨_, fun u hu => hu, h⟩
  | p b off => exact ⟨_, fun u hu => hu, h⟩
  | q cs => exact ⟨_, fun u hu => hu, h⟩
  | w r k i off => exact ⟨_, fun u hu => hu, h⟩
  | u r k off n => exact ⟨_, fun u hu => hu, h⟩
  | top => exact ⟨_, fun u hu => hu, h⟩

theorem oneCell_eq (v : Value) : v.oneCell' = v.oneCell := by cases v <;> rfl

theorem rep_x {v u : Value} (h : RepD w ow ρ (.x v) u) : u = v ∧ v.oneCell = true := by
  change RepV w ow (.x v) u at h
  cases h with
  | x _ h => exact ⟨rfl, h⟩

theorem rep_x_mk {v : Value} (h : v.oneCell = true) : RepD w ow ρ (.x v) v := RepV.x v h

theorem RepC.oneCell {c : C} {u : Value} (h : RepC w ow ρ c u) : u.oneCell = true := by
  cases c with
  | v a => exact RepV.oneCell h
  | o r n =>
    obtain ⟨m, _, h⟩ := h
    cases m with
    | nil => obtain ⟨_, a, rfl⟩ := h; rfl
    | blk b base cap => obtain ⟨rfl, _⟩ := h; rfl

theorem all2_ofVal (cs : List Value) (h : cs.all Value.oneCell = true) : All2 (RepC w ow ρ) (cs.map fun c => .v (.x c)) cs := by
  induction cs with
  | nil => trivial
  | cons c r ih => simp at h; exact ⟨RepV.x _ h.1, ih (by simpa using h.2)⟩

theorem rep_evConst (v : Value) : RepD w ow ρ (evConst v) v := by
  unfold evConst
  split
  · rename_i h
    cases v <;> first
      | exact RepV.x _ rfl
      | (rename_i cs; exact ⟨cs.toList, by simp, all2_ofVal _ h⟩)
      | simp [okVal] at h
  · trivial

theorem rep_evO {En : Nat → D} {a : Act} (h : ∀ t, RepD w ow ρ (En t) (a.tmps.getD t undef)) (x : Operand) : RepD w ow ρ (evO En x) (a.eval x) := by
  cases x with
  | tmp t => exact h t
  | const v => exact rep_evConst v
  | global g => exact RepV.x _ rfl
  | func f => exact RepV.x _ rfl

/-- The cells of what is no tuple. -/
theorem rep_cells {e : E} {u : Value} (h : RepE w ow ρ e u) : All2 (RepC w ow ρ) e.cells u.cells.toList ∧ (e.cells.length = u.cells.size) := by
  cases e with
  | c y =>
    have h1 := RepC.oneCell (show RepC w ow ρ y u from h)
    have : u.cells = #[u] := by cases u <;> first | rfl | simp [Value.oneCell] at h1
    rw [this]
    exact ⟨⟨h, trivial⟩, rfl⟩
  | a cs =>
    obtain ⟨us, rfl, h⟩ := h
    exact ⟨by simpa [E.cells, Value.cells] using h, by simpa [E.cells, Value.cells] using h.length⟩

theorem rep_e_nt {e : E} {u : Value} (h : RepE w ow ρ e u) : (∃ us, u = .tuple us) → False := by
  rintro ⟨us, rfl⟩
  cases e with
  | c y => have := RepC.oneCell (show RepC w ow ρ y _ from h); simp [Value.oneCell] at this
  | a cs => obtain ⟨us', h, _⟩ := h; cases h

theorem run_isAgg {t : TypeId} {ty : Ty} (h : TyOk P t ty) (w : World) : (isAgg t).run P w = .ok (isAggD ty.desc) w := by
  unfold isAgg
  rw [Sem.run_bind, run_underlying h.under w]
  simp only [Result.andThen_ok]
  cases ty.desc <;> rfl

theorem run_sizeOf {t : TypeId} {ty : Ty} (h : TyOk P t ty) (w : World) : (sizeOf t).run P w = .ok ty.size w := by
  obtain ⟨i, hi, _, hs, _⟩ := h.info
  simp [sizeOf, typeInfo, hi, hs]

theorem run_zero {t : TypeId} {ty : Ty} (h : TyOk P t ty) (w : World) : (zeroValue t).run P w = .ok ty.zero w := by
  obtain ⟨i, hi, hz, _, _⟩ := h.info
  simp [zeroValue, typeInfo, hi, hz]

/-- Cells that lie one behind the other are loaded. -/
theorem run_loadVar {t : TypeId} {ty : Ty} (h : TyOk P t ty) (w : World) (a : Addr) (xs : List Value) (hl : xs.length = ty.size) (hone : isAggD ty.desc = false → ty.size = 1)
    (hx : ∀ j v, xs[j]? = some v → w.cell? (a.add j) = some v) :
    (loadVar t a).run P w = .ok (if isAggD ty.desc then .agg xs.toArray else xs.headD undef) w := by
  unfold loadVar
  rw [Sem.run_bind, run_isAgg h]
  simp only [Result.andThen_ok]
  cases hd : isAggD ty.desc with
  | true => simp [run_sizeOf h, ← hl, run_loadCells_list (P := P) w a xs hx]
  | false =>
    have h1 := hone hd
    match xs, hl with
    | [x], _ =>
      have hx0 := hx 0 x rfl
      have ha : a.add 0 = a := by simp [Addr.add]
      rw [ha] at hx0
      simp [hx0]
    | [], hl => simp at hl; omega
    | _ :: _ :: _, hl => simp at hl; omega

theorem rep_pick1 {α : Type} [Inhabited α] {R : α → Value → Prop} {mk1 : α → C} (hmk : ∀ c u, R c u → RepC w ow ρ (mk1 c) u) {cs : List α} {xs : List Value} {agg : Bool} {size : Nat}
    (h : All2 R cs xs) (hs : size ≤ cs.length) (hone : agg = false → size = 1) :
    RepD w ow ρ (pick1 agg size mk1 cs) (if agg then .agg (xs.take size).toArray else (xs.take size).headD undef) := by
  unfold pick1
  cases agg with
  | true => exact ⟨_, rfl, All2.map_left ((h.take size).mono fun a b => hmk a b)⟩
  | false =>
    have h1 := hone rfl
    subst h1
    match cs, xs, h with
    | c :: _, x :: _, ⟨h0, _⟩ => exact hmk _ _ h0
    | [], [], _ => simp at hs
    | [], _ :: _, h => exact h.elim
    | _ :: _, [], h => exact h.elim

theorem addr_add_lit (b o j : Nat) : (Addr.add ⟨b, o, none⟩ j) = ⟨b, o + j, none⟩ := by
  unfold Addr.add; split
  · rename_i h; simp [h]
  · rfl

theorem addr_add_add (a : Addr) (i j : Nat) (h : j ≠ 0 ∨ a.spot = none) : (a.add i).add j = a.add (i + j) := by
  unfold Addr.add
  split <;> split <;> (try split) <;> simp_all <;> omega

end Eng
end Go.Proofs.YtllfgnhnooonfaaDoor
