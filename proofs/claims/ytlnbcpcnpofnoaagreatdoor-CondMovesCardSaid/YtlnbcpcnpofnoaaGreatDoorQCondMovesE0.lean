/- An evaluator of the translation's code over plain values: lists, numbers, strings. -/
import Derived.Calls
namespace Go.Proofs.YtlnbcpcnpofnoaaGreatDoor.E
open Go
set_option linter.unusedVariables false

/-! ### Plain types, and what is said with them -/
inductive Ty where
  | int (k : IntKind) | bool | str | nil | any
  | lst (t : Ty) | pair (a b : Ty) | agg (t : Ty)
  deriving DecidableEq
@[reducible] def Ty.D : Ty → Type
  | .int _ => Int
  | .bool => Bool
  | .str => ByteArray
  | .nil => Unit
  | .any => Unit
  | .lst t => List t.D
  | .pair a b => a.D × b.D
  | .agg t => t.D
def Ty.dflt : (t : Ty) → t.D
  | .int _ => (0 : Int)
  | .bool => false
  | .str => ByteArray.empty
  | .nil => ()
  | .any => ()
  | .lst _ => []
  | .pair a b => (a.dflt, b.dflt)
  | .agg t => t.dflt

/-- What a call may answer: a set of answers (of one, or none). -/
def M (α : Type) : Type := α → Prop
def M.none {α : Type} : M α := fun _ => False
def M.ret {α : Type} (a : α) : M α := fun r => r = a
/-- Where it isn't known whether p: if p, the first one; in any case the second one. -/
def M.nq {α : Type} (p : Prop) (a b : M α) : M α := fun r => (p → a r) ∧ b r
def M.bind {α β : Type} (m : M α) (f : α → M β) : M β := fun r => ∃ a, m a ∧ f a r

/-! ### What a temporary may hold -/
inductive AV where
  | dead
  | undef
  | t (ty : Ty) (x : ty.D)
  | tup (ty : Ty) (x : ty.D)
  | bp (p : Prop) (d : Decidable p)
  | nq (p : Prop)
  | lit (ty : Ty) (l : List ty.D)
  | ptr (d off : Nat)
  | row (d : Nat)
  | view (d off n : Nat)
  | elt (d : Nat) (i : Nat)
  | vptr (d : Nat) (ty : Ty) (i : Int) (len : Nat)
  | cell (ty : Ty) (x : ty.D)
  | glob (g : Nat)
  | fn (f : Nat)
inductive MB where
  | none
  | capd
  | gone
  | box (l : List AV)
  | own (app : Bool) (ty : Ty) (l : List ty.D)
  | froz (ty : Ty) (l : List ty.D)
structure St where
  s : Nat → AV
  m : Nat → MB
def upd {α : Type} (f : Nat → α) (d : Nat) (v : α) : Nat → α := fun i => bif Nat.beq i d then v else f i
def St.put (st : St) (dst : Option Nat) (v : AV) : St :=
  match st, dst with
  | ⟨s, m⟩, some d => ⟨upd s d v, m⟩
  | ⟨s, m⟩, none => ⟨s, m⟩
def St.set (st : St) (d : Nat) (b : MB) : St := match st with
  | ⟨s, m⟩ => ⟨s, upd m d b⟩
def MB.freeze : MB → MB
  | .own _ ty l => .froz ty l
  | .froz ty l => .froz ty l
  | .none => .none
  | .capd => .capd
  | _ => .gone
/-- Rows that are written no more. -/
def St.kill (st : St) : List Nat → St
  | [] => st
  | d :: r => (st.kill r).set d ((st.kill r).m d).freeze
/-- A row that an append has taken over. -/
def St.lose (st : St) : Option Nat → St
  | none => st
  | some d => st.set d .gone
def st0 : St := ⟨fun _ => .dead, fun _ => .none⟩

def tyOfL : List (Σ t : Ty, t.D) → Σ t : Ty, t.D
  | [] => ⟨.nil, ()⟩
  | [v] => v
  | v :: w :: r => ⟨.pair v.1 (tyOfL (w :: r)).1, (v.2, (tyOfL (w :: r)).2)⟩
def ofVal : Value → Option (Σ t : Ty, t.D)
  | .int k n => some ⟨.int k, n⟩
  | .bool b => some ⟨.bool, b⟩
  | .string s => some ⟨.str, s⟩
  | .slice none 0 0 => some ⟨.nil, ()⟩
  | _ => none
def ofVals : List Value → Option (List (Σ t : Ty, t.D))
  | [] => some []
  | v :: r => match ofVal v, ofVals r with
    | some x, some l => some (x :: l)
    | _, _ => none
def ofValue : Value → AV
  | .agg cs => match ofVals cs.toList with
    | some (x :: l) => .t (.agg (tyOfL (x :: l)).1) (tyOfL (x :: l)).2
    | _ => .dead
  | v => match ofVal v with
    | some x => .t x.1 x.2
    | none => .dead
def St.ev (st : St) : Operand → AV
  | .tmp t => st.s t
  | .const v => ofValue v
  | .global g => .glob g
  | .func f => .fn f
/-- A value with what lies behind it. -/
def AV.at (m : Nat → MB) : AV → AV × MB
  | .ptr d o => (.ptr d o, m d)
  | .row d => match m d with
    | .froz ty l => (.t (.lst ty) l, .none)
    | b => (.row d, b)
  | .view d o n => match m d with
    | .froz ty l => (.t (.lst ty) ((l.drop o).take n), .none)
    | b => (.view d o n, b)
  | .elt d i => (.elt d i, m d)
  | .vptr d ty i n => (.vptr d ty i n, m d)
  | .lit ty l => (.t (.lst ty) l, .capd)
  | v => (v, .none)
def St.look (st : St) (x : Operand) : AV × MB := (st.ev x).at st.m

/-! ### One plain type into another -/
def castD {a b : Ty} (h : a = b) (x : a.D) : b.D := h ▸ x
def coD : (a b : Ty) → a.D → Option b.D
  | .int j, .int k, x => bif decide (j = k) then some x else none
  | .bool, .bool, x => some x
  | .str, .str, x => some x
  | .any, .any, _ => some ()
  | .nil, .nil, _ => some ()
  | .nil, .lst _, _ => some []
  | .pair a b, .pair c d, x => match coD a c x.1, coD b d x.2 with
    | some y, some z => some (y, z)
    | _, _ => none
  | .agg a, .agg b, x => coD a b x
  | .lst a, .lst b, x => if h : a = b then some (castD (congrArg Ty.lst h) x) else none
  | _, _, _ => none
/-- A value as one of a plain type. -/
def asOne (v : AV) (m : MB) (ty : Ty) : Option ty.D :=
  match v with
  | .t a x => coD a ty x
  | .bp p d => match ty with
    | .bool => some (@decide p d)
    | _ => none
  | .row _ => match ty, m with
    | .lst t, .own _ a l => if h : a = t then some (castD (congrArg Ty.lst h) l) else none
    | _, _ => none
  | .view _ off n => match ty, m with
    | .lst t, .own _ a l => if h : a = t then some (castD (congrArg Ty.lst h) ((l.drop off).take n)) else none
    | _, _ => none
  | _ => none
/-- The parts of a struct's value, cell by cell. -/
def cellsOf : (t : Ty) → t.D → List AV
  | .pair a b, x => cellsOf a x.1 ++ cellsOf b x.2
  | .agg a, x => cellsOf a x
  | t, x => [.t t x]
def flat (v : AV × MB) : Option (List AV) := match v.1, v.2 with
  | .t ty x, _ => some (cellsOf ty x)
  | .bp p d, _ => some [.bp p d]
  | .row d, .own _ _ _ => some [.row d]
  | .ptr d o, .box _ => some [.ptr d o]
  | _, _ => none
/-- Cells that hold plain values, as one value. -/
def plainAV : AV → Option (Σ t : Ty, t.D)
  | .t t x => some ⟨t, x⟩
  | .bp p d => some ⟨.bool, @decide p d⟩
  | _ => none
def gather : List AV → Option (List (Σ t : Ty, t.D))
  | [] => some []
  | v :: r => match plainAV v, gather r with
    | some x, some l => some (x :: l)
    | _, _ => none
def aggOf (l : List AV) : AV := match gather l with
  | some (x :: l) => .t (.agg (tyOfL (x :: l)).1) (tyOfL (x :: l)).2
  | _ => .dead
def tupNth : (t : Ty) → t.D → Nat → AV
  | .pair a _, x, 0 => .t a x.1
  | .pair _ b, x, n + 1 => tupNth b x.2 n
  | t, x, _ => .t t x
def tupLen : Ty → Nat
  | .nil => 0
  | .pair _ b => tupLen b + 1
  | _ => 1
def part (l : List AV) (off n : Nat) : List AV := (l.drop off).take n
def rdT (t : Ty) (l : List t.D) (i : Int) : t.D := l.getD i.toNat t.dflt

/-! ### The types and functions that a program knows -/
inductive TI where
  | unk
  | plain
  | bool
  | str
  | int (k : IntKind)
  | slice (e : TypeId) (ty : Ty) (size bytes : Nat)
  | arr (e : TypeId) (ty : Ty) (size len : Nat)
  | vec (e : TypeId) (ty : Ty) (len : Nat) (zero : List AV)
  | struct (fields : List (Nat × Nat)) (size : Nat) (zero : List AV)
/-- How many cells. -/
def Ty.n : Ty → Nat
  | .pair a b => a.n + b.n
  | .agg a => a.n
  | _ => 1
/-- Is a type of the program told by a plain one? -/
def TI.fits (ti : TI) (ty : Ty) : Bool :=
  match ti, ty with
  | .unk, _ => false
  | .struct _ size _, .agg a => Nat.beq size a.n
  | .struct _ _ _, _ => false
  | .arr _ _ _ _, _ => false
  | .vec _ _ _ _, _ => false
  | _, .agg _ => false
  | _, .pair _ _ => false
  | _, _ => true
/-- How many cells a variable has: 0 where that isn't known. -/
def TI.n : TI → Nat
  | .unk => 0
  | .struct _ size _ => size
  | .vec _ _ len _ => len
  | .arr _ _ _ _ => 0
  | _ => 1
/-- A type of one cell that holds a plain value. -/
def TI.leaf (ti : TI) (ty : Ty) : Bool := match ti, ty with
  | .int j, .int k => decide (j = k)
  | .bool, .bool => true
  | .str, .str => true
  | _, _ => false
/-- What a new variable holds. -/
def TI.zero : TI → Option (List AV)
  | .struct _ _ z => some z
  | .vec _ _ _ z => some z
  | .int k => some [.t (.int k) (0 : Int)]
  | .bool => some [.t .bool false]
  | .str => some [.t .str ByteArray.empty]
  | .slice _ _ _ _ => some [.t .nil ()]
  | _ => none
def TI.isInt : TI → Bool
  | .int _ => true
  | _ => false
/-- A function that is known: what it takes, what it answers. 'own': a row that is handed over; 'ioRow', 'ioBox': it writes on the row (at the pointer) that comes first, and the answer bears what it holds then. -/
inductive FnE where
  | plain (args res : Ty) (tup : Bool) (F : args.D → M res.D)
  | own (args ty : Ty) (F : args.D → M (List ty.D))
  | ioRow (ty args res : Ty) (F : List ty.D → args.D → M (res.D × List ty.D))
  | ioBox (ty args res : Ty) (F : ty.D → args.D → M (res.D × ty.D))
def outAV (tup : Bool) (res : Ty) (r : res.D) : AV := match tup with
  | true => .tup res r
  | false => .t res r
def Ty.isNil : Ty → Bool
  | .nil => true
  | _ => false
def outIO (res : Ty) (r : res.D) : AV := bif res.isNil then .dead else .t res r
/-- A table of types, entry by entry. -/
def tyIf (i : TypeId) (x : TI) (rest : TypeId → TI) : TypeId → TI := fun T => bif Nat.beq T i then x else rest T
structure Ctx where
  ty : TypeId → TI
  fn : FuncId → Option FnE
  glob : Nat → Option (IntKind × List Int)
  /-- Structs that are held against one another: what of. -/
  eq : TypeId → Option Ty
  /-- Fields of structs' values that are read: of what type. -/
  fld : TypeId → Nat → Option TypeId

/-- What an operation does. -/
inductive Res where
  | fail
  | put (v : AV)
  | ite (p : Prop) (d : Decidable p) (next : Res)
  | call (res : Ty) (tup : Bool) (m : M res.D) (kill : List Nat)
  | callOwn (ty : Ty) (m : M (List ty.D))
  | callRow (ty res : Ty) (m : M (res.D × List ty.D)) (d : Nat) (app : Bool) (f : List ty.D → List ty.D)
  | callBox (ty res : Ty) (m : M (res.D × ty.D)) (d off : Nat) (l : List AV)
  | alloc (ptr : Bool) (b : MB)
  | app (base : Option Nat) (ty : Ty) (l : List ty.D) (kill : List Nat)
  | upd (d : Nat) (b : MB)

abbrev Look := Operand → AV × MB
def asArgs (st : Look) : (l : List Operand) → (ty : Ty) → Option ty.D
  | [], .nil => some ()
  | [x], ty => match ty.isNil with
    | true => none
    | false => asOne (st x).1 (st x).2 ty
  | x :: y :: r, .pair a b => match asOne (st x).1 (st x).2 a, asArgs st (y :: r) b with
    | some u, some w => some (u, w)
    | _, _ => none
  | _, _ => none
/-- Rows that are handed to a function, or into a value: they are written no more. -/
def rowsOf : List AV → List Nat
  | [] => []
  | .row d :: r => d :: rowsOf r
  | .view d _ _ :: r => d :: rowsOf r
  | _ :: r => rowsOf r
def Ty.hasLst : Ty → Bool
  | .lst _ => true
  | .pair a b => a.hasLst || b.hasLst
  | .agg a => a.hasLst
  | _ => false
def putParts (fs : List (Nat × Nat)) (st : Look) : List (Nat × Operand) → List AV → Option (List AV)
  | [], z => some z
  | (i, x) :: r, z => match fs[i]?, flat (st x) with
    | some p, some cs => match Nat.beq cs.length p.2 with
      | true => putParts fs st r (z.take p.1 ++ cs ++ z.drop (p.1 + p.2))
      | false => none
    | _, _ => none
def putElems (ty : Ty) (st : Look) : List (Nat × Operand) → List ty.D → Option (List ty.D)
  | [], l => some l
  | (i, x) :: r, l => match asOne (st x).1 (st x).2 ty with
    | some v => match rowsOf [(st x).1], Nat.blt i l.length with
      | [], true => putElems ty st r (l.set i v)
      | _, _ => none
    | none => none

def mxI (x y : Int) : Int := if y > x then y else x
def mnI (x y : Int) : Int := if y < x then y else x
def foldI (f : Int → Int → Int) (k : IntKind) : Int → List AV → Option Int
  | x, [] => some x
  | x, .t (.int j) y :: r => bif decide (j = k) then foldI f k (f x y) r else none
  | _, _ => none
def strDec (x y : ByteArray) : Decidable (x = y) := inferInstance
/-- Are two values of a plain type one? -/
def eqP : (t : Ty) → t.D → t.D → Prop
  | .int _, x, y => x = y
  | .bool, x, y => x = y
  | .str, x, y => x = y
  | .pair a b, x, y => eqP a x.1 y.1 ∧ eqP b x.2 y.2
  | .agg a, x, y => eqP a x y
  | _, _, _ => False
def eqD : (t : Ty) → (x y : t.D) → Decidable (eqP t x y)
  | .int _, x, y => Int.instDecidableEq x y
  | .bool, x, y => instDecidableEqBool x y
  | .str, x, y => strDec x y
  | .pair a b, x, y => @instDecidableAnd _ _ (eqD a x.1 y.1) (eqD b x.2 y.2)
  | .agg a, x, y => eqD a x y
  | .nil, _, _ => .isFalse id
  | .any, _, _ => .isFalse id
  | .lst _, _, _ => .isFalse id
def Ty.comparable : Ty → Bool
  | .int _ => true
  | .bool => true
  | .str => true
  | .pair a b => a.comparable && b.comparable
  | .agg a => a.comparable
  | _ => false
def byteAt (s : ByteArray) (i : Int) : Int := (s.data.toList.getD i.toNat 0).toNat
def strOf (l : List Int) : ByteArray := ⟨(l.map fun n => UInt8.ofNat n.toNat).toArray⟩
def bytesOf (s : ByteArray) : List Int := s.data.toList.map fun b => (b.toNat : Int)

def binInt (op : BinOp) (k : IntKind) (x y : Int) : Res :=
  match op with
  | .add => .put (.t (.int k) (k.wrap (x + y)))
  | .sub => .put (.t (.int k) (k.wrap (x - y)))
  | .mul => .put (.t (.int k) (k.wrap (x * y)))
  | .quo => .ite (y ≠ 0) inferInstance (.put (.t (.int k) (k.wrap (x.tdiv y))))
  | .rem => .ite (y ≠ 0) inferInstance (.put (.t (.int k) (x.tmod y)))
  | .eql => .put (.bp (x = y) inferInstance)
  | .neq => .put (.bp (x ≠ y) inferInstance)
  | .lss => .put (.bp (x < y) inferInstance)
  | .leq => .put (.bp (x ≤ y) inferInstance)
  | .gtr => .put (.bp (x > y) inferInstance)
  | .geq => .put (.bp (x ≥ y) inferInstance)
  | .and => .put (.t (.int k) (k.wrap (BitVec.ofInt k.bits x &&& BitVec.ofInt k.bits y).toNat))
  | .or => .put (.t (.int k) (k.wrap (BitVec.ofInt k.bits x ||| BitVec.ofInt k.bits y).toNat))
  | .xor => .put (.t (.int k) (k.wrap (BitVec.ofInt k.bits x ^^^ BitVec.ofInt k.bits y).toNat))
  | .andNot => .put (.t (.int k) (k.wrap (BitVec.ofInt k.bits x &&& ~~~ BitVec.ofInt k.bits y).toNat))
  | _ => .fail
def shiftInt (op : BinOp) (k : IntKind) (x y : Int) : Res :=
  match op with
  | .shl => .ite (0 ≤ y) inferInstance (.put (.t (.int k) (k.wrap (x * 2 ^ (min y.toNat k.bits)))))
  | .shr => .ite (0 ≤ y) inferInstance (.put (.t (.int k) (x.fdiv (2 ^ (min y.toNat k.bits)))))
  | _ => .fail
def isShift : BinOp → Bool
  | .shl => true
  | .shr => true
  | _ => false
def memN (n : Nat) : List Nat → Bool
  | [] => false
  | m :: r => Nat.beq n m || memN n r
def evBool (op : BinOp) (ti : TI) (a b : Bool) : Res := match op, ti with
  | .eql, .bool => .put (.bp (a = b) inferInstance)
  | .neq, .bool => .put (.bp (a ≠ b) inferInstance)
  | _, _ => .fail
def evStr (op : BinOp) (a b : ByteArray) : Res := match op with
  | .eql => .put (.bp (a = b) (strDec a b))
  | .neq => .put (.bp (¬ a = b) (@instDecidableNot _ (strDec a b)))
  | .add => .ite (a.size + b.size ≤ 9223372036854775807) inferInstance (.put (.t .str (a ++ b)))
  | _ => .fail
def evBin (op : BinOp) (ti : TI) (eq : Option Ty) (x y : AV) : Res :=
  match x, y with
  | .t (.int j) a, .t (.int k) b => match isShift op with
    | true => shiftInt op j a b
    | false => bif decide (j = k) then binInt op j a b else .fail
  | .t (.lst _) l, .t .nil _ => match op, ti with
    | .eql, .slice _ _ _ _ => .put (.nq (l = []))
    | _, _ => .fail
  | .t .bool a, .t .bool b => evBool op ti a b
  | .bp p d, .t .bool b => evBool op ti (@decide p d) b
  | .t .bool a, .bp p d => evBool op ti a (@decide p d)
  | .bp p d, .bp q e => evBool op ti (@decide p d) (@decide q e)
  | .t .str a, .t .str b => evStr op a b
  | .t (.agg a) x, .t (.agg b) y => match eq with
    | some e => match coD a e x, coD b e y with
      | some x, some y => match op with
        | .eql => .put (.bp (eqP e x y) (eqD e x y))
        | .neq => .put (.bp (¬ eqP e x y) (@instDecidableNot _ (eqD e x y)))
        | _ => .fail
      | _, _ => .fail
    | none => .fail
  | _, _ => .fail
def evUn (op : UnOp) (x : AV) : Res :=
  match op, x with
  | .neg, .t (.int k) n => .put (.t (.int k) (k.wrap (0 - n)))
  | .xor, .t (.int k) n => .put (.t (.int k) (k.wrap (BitVec.ofInt k.bits (if k.signed then -1 else k.max) ^^^ BitVec.ofInt k.bits n).toNat))
  | .not, .t .bool b => .put (.t .bool (!b))
  | .not, .bp p d => .put (.bp (¬ p) (@instDecidableNot p d))
  | _, _ => .fail
def memN0 : List Nat → List Nat → Bool
  | [d], l => l.any fun e => Nat.beq d e
  | _, _ => true
def evAppend (ty : Ty) (add : List ty.D) (x : AV × MB) (rows : List Nat) : Res := match x.1, x.2 with
  | .t .nil _, _ => .ite (add.length ≤ 1099511627776) inferInstance (.app none ty add rows)
  | .t (.lst a) l, .capd => match rows with
    | [] => if h : a = ty then .ite (l.length + add.length ≤ 1099511627776) inferInstance (.put (.t (.lst ty) (castD (congrArg Ty.lst h) l ++ add))) else .fail
    | _ => .fail
  | .row d, .own true a l => match memN d rows with
    | false => if h : a = ty then .ite (l.length + add.length ≤ 1099511627776) inferInstance (.app (some d) ty (castD (congrArg Ty.lst h) l ++ add) rows) else .fail
    | true => .fail
  | _, _ => .fail
/-- A call of a function that is known. -/
def evFnCall (Γ : Ctx) (c : Call) (st : Look) (f : Nat) : Res :=
  match Γ.fn f with
  | some (.plain args res tup F) => match asArgs st c.args.toList args with
    | some x => .call res tup (F x) (bif res.hasLst then rowsOf (c.args.toList.map fun x => (st x).1) else [])
    | none => .fail
  | some (.own args ty F) => match asArgs st c.args.toList args, rowsOf (c.args.toList.map fun x => (st x).1) with
    | some x, [] => .callOwn ty (F x)
    | _, _ => .fail
  | some (.ioRow ty args res F) => match c.args.toList with
    | a :: r => match asArgs st r args, memN0 (rowsOf [(st a).1]) (rowsOf (r.map fun x => (st x).1)), res.hasLst with
      | some x, false, false => match (st a).1, (st a).2 with
        | .row d, .own app t l => if h : t = ty then .ite (0 < l.length) inferInstance (.callRow ty res (F (castD (congrArg Ty.lst h) l) x) d app (fun c => c)) else .fail
        | .view d off n, .own app t l => if h : t = ty then .ite (0 < n) inferInstance (.callRow ty res (F ((castD (congrArg Ty.lst h) l).drop off |>.take n) x) d app (fun c => (castD (congrArg Ty.lst h) l).take off ++ c ++ (castD (congrArg Ty.lst h) l).drop (off + n))) else .fail
        | _, _ => .fail
      | _, _, _ => .fail
    | [] => .fail
  | some (.ioBox ty args res F) => match c.args.toList with
    | a :: r => match asArgs st r args, res.hasLst with
      | some x, false => match (st a).1, (st a).2 with
        | .ptr d off, .box l => match l[off]? with
          | some v => match asOne v .none ty with
            | some y => .callBox ty res (F y x) d off l
            | none => .fail
          | none => .fail
        | _, _ => .fail
      | _, _ => .fail
    | [] => .fail
  | none => .fail
def evCall (Γ : Ctx) (c : Call) (st : Look) : Res :=
  match c.callee with
  | .builtin b => match b, c.args.toList with
    | .len, [x] => match c.argTypes.toList with
      | [t] => match Γ.ty t with
        | .slice _ _ _ _ => match (st x).1, (st x).2 with
          | .t (.lst _) l, _ => .put (.t (.int .i64) (l.length : Int))
          | .t .nil _, _ => .put (.t (.int .i64) (0 : Int))
          | .row _, .own _ _ l => .put (.t (.int .i64) (l.length : Int))
          | .view _ _ n, .own _ _ _ => .put (.t (.int .i64) (n : Int))
          | _, _ => .fail
        | .str => match (st x).1 with
          | .t .str s => .put (.t (.int .i64) (s.size : Int))
          | _ => .fail
        | _ => .fail
      | _ => .fail
    | .max, x :: r => match (st x).1 with
      | .t (.int k) a => match foldI mxI k a (r.map fun x => (st x).1) with
        | some v => .put (.t (.int k) v)
        | none => .fail
      | _ => .fail
    | .min, x :: r => match (st x).1 with
      | .t (.int k) a => match foldI mnI k a (r.map fun x => (st x).1) with
        | some v => .put (.t (.int k) v)
        | none => .fail
      | _ => .fail
    | .append, [x, y] => match c.argTypes.toList with
      | [t, u] => match Nat.beq t u, Γ.ty t with
        | true, .slice _ ty _ _ => match asOne (st y).1 (st y).2 (.lst ty) with
          | some add => evAppend ty add (st x) (rowsOf [(st y).1])
          | none => .fail
        | _, _ => .fail
      | _ => .fail
    | _, _ => .fail
  | .value (.func f) => evFnCall Γ c st f
  | .value x => match (st x).1 with
    | .fn f => evFnCall Γ c st f
    | _ => .fail
  | _ => .fail
def sameOp : Operand → Operand → Bool
  | .tmp a, .tmp b => Nat.beq a b
  | .const (.int _ a), .const (.int _ b) => decide (a = b)
  | _, _ => false
/-- The bounds of a piece of something of length n. -/
def cut (st : Look) (n : Nat) (lo hi : Option Operand) (K : Option Int → Option Int → Res) : Res :=
  match lo, hi with
  | none, none => K none none
  | none, some h => match (st h).1 with
    | .t (.int _) h => .ite (0 ≤ h) inferInstance (.ite (h ≤ (n : Int)) inferInstance (K none (some h)))
    | _ => .fail
  | some l, none => match (st l).1 with
    | .t (.int _) l => .ite (0 ≤ l) inferInstance (.ite (l ≤ (n : Int)) inferInstance (K (some l) none))
    | _ => .fail
  | some l, some h => match (st l).1, (st h).1 with
    | .t (.int _) l, .t (.int _) h => .ite (0 ≤ h) inferInstance (.ite (h ≤ (n : Int)) inferInstance (.ite (0 ≤ l) inferInstance (.ite (l ≤ h) inferInstance (K (some l) (some h)))))
    | _, _ => .fail
def pieceL (ty : Ty) (l : List ty.D) (a b : Option Int) : Res := match a, b with
  | none, none => .put (.t (.lst ty) l)
  | none, some h => .put (.t (.lst ty) (l.take h.toNat))
  | some k, none => .put (.t (.lst ty) (l.drop k.toNat))
  | some k, some h => .put (.t (.lst ty) ((l.take h.toNat).drop k.toNat))
def pieceV (d : Nat) (a b : Option Int) : Res := match a, b with
  | none, some h => .put (.view d 0 h.toNat)
  | some k, some h => .ite (k < h) inferInstance (.put (.view d k.toNat (h.toNat - k.toNat)))
  | _, _ => .fail
def pieceS (s : ByteArray) (a b : Option Int) : Res := match a, b with
  | none, none => .put (.t .str s)
  | none, some h => .put (.t .str (s.extract 0 h.toNat))
  | some k, none => .put (.t .str (s.extract k.toNat s.size))
  | some k, some h => .put (.t .str (s.extract k.toNat h.toNat))
/-- Cells that hold plain values of one type. -/
def vecL (ty : Ty) : List AV → Option (List ty.D)
  | [] => some []
  | v :: r => match asOne v .none ty, vecL ty r with
    | some x, some l => some (x :: l)
    | _, _ => none
def vecSet (ty : Ty) (i : Int) (v : ty.D) : Nat → List ty.D → List AV
  | _, [] => []
  | j, x :: r => .t ty (@ite _ (i = (j : Int)) (Int.instDecidableEq i j) v x) :: vecSet ty i v (j + 1) r
def isConst : Operand → Bool
  | .const _ => true
  | _ => false
def evOp (Γ : Ctx) (o : Oper) (st : Look) : Res :=
  match o.op with
  | .move x => .put (st x).1
  | .assign x => .put (st x).1
  | .pick c a b => match (st c).1 with
    | .t .bool true => .put (st a).1
    | .t .bool false => .put (st b).1
    | _ => .fail
  | .alloc T => match (Γ.ty T).zero with
    | some z => .alloc true (.box z)
    | none => .fail
  | .nilCheck x => match (st x).1, (st x).2 with
    | .ptr d o, .box _ => .put (.ptr d o)
    | .elt d i, .own _ _ _ => .put (.elt d i)
    | .cell ty y, _ => .put (.cell ty y)
    | _, _ => .fail
  | .box _ x => match flat (st x) with
    | some l => .alloc true (.box l)
    | none => .fail
  | .fieldAddr T x f => match Γ.ty T with
    | .struct fs _ _ => match fs[f]? with
      | some p => match (st x).1, (st x).2 with
        | .ptr d off, .box _ => .put (.ptr d (off + p.1))
        | .cell ty v, _ => match Nat.beq p.2 1, part (cellsOf ty v) p.1 p.2 with
          | true, [.t a y] => .put (.cell a y)
          | false, l => match aggOf l, Nat.ble (p.1 + p.2) ty.n with
            | .t a y, true => .put (.cell a y)
            | _, _ => .fail
          | _, _ => .fail
        | _, _ => .fail
      | none => .fail
    | _ => .fail
  | .load T x => match (st x).1, (st x).2 with
    | .ptr _ off, .box l => match Γ.ty T with
      | .struct _ size _ => match Nat.ble (off + size) l.length with
        | true => .put (aggOf (part l off size))
        | false => .fail
      | .vec _ _ size _ => match Nat.ble (off + size) l.length with
        | true => .put (aggOf (part l off size))
        | false => .fail
      | ti => match Nat.beq ti.n 1, l[off]? with
        | true, some v => .put v
        | _, _ => .fail
    | .vptr _ ty i len, .box l => match (Γ.ty T).leaf ty, Nat.beq l.length len, vecL ty l with
      | true, true, some xs => .put (.t ty (rdT ty xs i))
      | _, _, _ => .fail
    | .elt _ i, .own _ ty l => match (Γ.ty T).fits ty with
      | true => .put (.t ty (l.getD i ty.dflt))
      | false => .fail
    | .cell ty x, _ => match (Γ.ty T).fits ty with
      | true => .put (.t ty x)
      | false => .fail
    | _, _ => .fail
  | .store T a x => match (st a).1, (st a).2 with
    | .ptr d off, .box l => match flat (st x) with
      | some cs => match Nat.beq cs.length (Γ.ty T).n, Nat.ble (off + cs.length) l.length with
        | true, true => .upd d (.box (l.take off ++ cs ++ l.drop (off + cs.length)))
        | _, _ => .fail
      | none => .fail
    | .vptr d ty i len, .box l => match (Γ.ty T).leaf ty, Nat.beq l.length len, vecL ty l, asOne (st x).1 (st x).2 ty, rowsOf [(st x).1] with
      | true, true, some xs, some v, [] => .upd d (.box (vecSet ty i v 0 xs))
      | _, _, _, _, _ => .fail
    | .elt d i, .own app ty l => match (Γ.ty T).fits ty, asOne (st x).1 (st x).2 ty, rowsOf [(st x).1] with
      | true, some v, [] => .upd d (.own app ty (l.set i v))
      | _, _, _ => .fail
    | _, _ => .fail
  | .indexAddr T x i => match (st i).1, Γ.ty T with
    | .t (.int _) n, .slice _ tt _ _ => match (st x).1, (st x).2 with
      | .t (.lst ty) l, _ => bif decide (ty = tt) then .ite (0 ≤ n) inferInstance (.ite (n < (l.length : Int)) inferInstance (.put (.cell ty (rdT ty l n)))) else .fail
      | .row d, .own _ ty l => bif decide (ty = tt) then .ite (0 ≤ n) inferInstance (.ite (n < (l.length : Int)) inferInstance (.put (.elt d n.toNat))) else .fail
      | .view d off len, .own _ ty l => bif decide (ty = tt) then .ite (0 ≤ n) inferInstance (.ite (n < (len : Int)) inferInstance (.put (.elt d (off + n.toNat)))) else .fail
      | _, _ => .fail
    | .t (.int _) n, .arr _ tt _ len => match (st x).1 with
      | .glob g => match Γ.glob g with
        | some v => bif decide (Ty.int v.1 = tt) && Nat.beq v.2.length len && Nat.ble 2 len then .ite (0 ≤ n) inferInstance (.ite (n < (len : Int)) inferInstance (.put (.cell (.int v.1) (rdT (.int v.1) v.2 n)))) else .fail
        | none => .fail
      | _ => .fail
    | .t (.int _) n, .vec _ tt len _ => match (st x).1, (st x).2 with
      | .ptr d off, .box l => match isConst i with
        | true => match decide (0 ≤ n), Nat.blt n.toNat len with
          | true, true => .put (.ptr d (off + n.toNat))
          | _, _ => .fail
        | false => match Nat.beq off 0 with
          | true => .ite (0 ≤ n) inferInstance (.ite (n < (len : Int)) inferInstance (.put (.vptr d tt n len)))
          | false => .fail
      | _, _ => .fail
    | _, _ => .fail
  | .field T x f => match Γ.ty T, (st x).1, Γ.fld T f with
    | .struct fs _ _, .t (.agg a) y, some u => match fs[f]? with
      | some p => match Nat.beq (Γ.ty u).n 1, Γ.ty u, (cellsOf a y)[p.1]? with
        | _, .struct _ _ _, _ => .fail
        | true, _, some v => .put v
        | _, _, _ => .fail
      | none => .fail
    | _, _, _ => .fail
  | .index T x i => match (st i).1, Γ.ty T, (st x).1 with
    | .t (.int _) n, .vec _ tt len _, .t (.agg a) y => match vecL tt (cellsOf a y) with
      | some xs => match Nat.beq xs.length len with
        | true => .ite (0 ≤ n) inferInstance (.ite (n < (len : Int)) inferInstance (.put (.t tt (rdT tt xs n))))
        | false => .fail
      | none => .fail
    | .t (.int _) n, .str, .t .str s => .ite (0 ≤ n) inferInstance (.ite (n < (s.size : Int)) inferInstance (.put (.t (.int .u8) (byteAt s n))))
    | _, _, _ => .fail
  | .makeSlice T x y => match (st x).1, Γ.ty T, sameOp x y with
    | .t (.int _) n, .slice _ ty _ _, true => .ite (0 ≤ n) inferInstance (.ite (n ≤ 1099511627776) inferInstance (.alloc false (.own true ty (List.replicate n.toNat ty.dflt))))
    | _, _, _ => .fail
  | .build T parts => match Γ.ty T with
    | .struct fs _ z => match putParts fs st parts.toList z with
      | some l => .put (aggOf l)
      | none => .fail
    | .vec _ _ len z => match putParts ((List.range len).map fun i => (i, 1)) st parts.toList z with
      | some l => .put (aggOf l)
      | none => .fail
    | _ => .fail
  | .buildSlice T n parts => match Γ.ty T with
    | .slice _ ty _ _ => match n, Nat.ble (n * ty.n) 16777216 with
      | 0, true => match parts.toList with
        | [] => .alloc false (.own true ty [])
        | _ => .fail
      | _ + 1, true => match putElems ty st parts.toList (List.replicate n ty.dflt) with
        | some l => .put (.lit ty l)
        | none => .fail
      | _, _ => .fail
    | _ => .fail
  | .slice T x lo hi mx => match Γ.ty T, mx with
    | .slice _ tt _ _, none => match (st x).1, (st x).2 with
      | .t (.lst ty) l, _ => bif decide (ty = tt) then cut st l.length lo hi (pieceL ty l) else .fail
      | .row d, .own _ ty l => bif decide (ty = tt) then cut st l.length lo hi (pieceV d) else .fail
      | _, _ => .fail
    | .str, none => match (st x).1 with
      | .t .str s => cut st s.size lo hi (pieceS s)
      | _ => .fail
    | _, _ => .fail
  | .extract x i => match (st x).1 with
    | .tup ty v => match Nat.blt i (tupLen ty) with
      | true => .put (tupNth ty v i)
      | false => .fail
    | _ => .fail
  | .convert S T x => match Γ.ty S, Γ.ty T, (st x).1, (st x).2 with
    | .int _, .int k, .t (.int _) n, _ => .put (.t (.int k) (k.wrap n))
    | .str, .str, .t .str s, _ => .put (.t .str s)
    | .slice e _ _ _, .str, v, m => match Γ.ty e, asOne v m (.lst (.int .u8)) with
      | .int .u8, some l => .put (.t .str (strOf l))
      | _, _ => .fail
    | .str, .slice e _ _ _, .t .str s, _ => match Γ.ty e with
      | .int .u8 => .put (.t (.lst (.int .u8)) (bytesOf s))
      | _ => .fail
    | _, _, _, _ => .fail
  | .binOp op T x y _ => evBin op (Γ.ty T) (Γ.eq T) (st x).1 (st y).1
  | .unOp op _ x => evUn op (st x).1
  | .call c => evCall Γ c st
  | _ => .fail

/-! ### Running -/
/-- (For the kernel's sake: what mentions this is unfolded ahead of a test.) -/
def tall0 : Unit := ()
def tall1 : Unit := tall0
def tall2 : Unit := tall1
def tall3 : Unit := tall2
def tall4 : Unit := tall3
def tall5 : Unit := tall4
def tall6 : Unit := tall5
def tall7 : Unit := tall6
def tall8 : Unit := tall7
def tall9 : Unit := tall8
/-- (For the kernel's sake: a value is computed where it is stored, not where it is read.) -/
def AV.force {ρ : Type} (v : AV) (K : AV → M ρ) : M ρ := (fun (_ : Unit) => match v with
  | .dead => K .dead
  | .undef => K .undef
  | .fn f => K (.fn f)
  | .t ty x => K (.t ty x)
  | .tup ty x => K (.tup ty x)
  | .bp p d => K (.bp p d)
  | .nq p => K (.nq p)
  | .lit ty l => K (.lit ty l)
  | .ptr d o => K (.ptr d o)
  | .row d => K (.row d)
  | .view d o n => K (.view d o n)
  | .elt d i => K (.elt d i)
  | .vptr d ty i n => K (.vptr d ty i n)
  | .cell ty x => K (.cell ty x)
  | .glob g => K (.glob g)) tall9
def forceL {ρ : Type} : List AV → (List AV → M ρ) → M ρ
  | [], K => (fun (_ : Unit) => K []) tall9
  | v :: r, K => v.force fun v => forceL r fun r => K (v :: r)
def MB.force {ρ : Type} (b : MB) (K : MB → M ρ) : M ρ := (fun (_ : Unit) => match b with
  | .none => K .none
  | .capd => K .capd
  | .gone => K .gone
  | .box l => forceL l fun l => K (.box l)
  | .own app ty l => K (.own app ty l)
  | .froz ty l => K (.froz ty l)) tall9
def runRes {ρ : Type} (dst : Option Nat) (st : St) (K : St → M ρ) : Res → M ρ
  | .fail => M.none
  | .put v => v.force fun v => K (st.put dst v)
  | .ite p d n => @ite (M ρ) p d (runRes dst st K n) M.none
  | .call res tup m kill => M.bind m fun r => K ((st.put dst (outAV tup res r)).kill kill)
  | .callOwn ty m => match dst with
    | some d => match st.m d with
      | .none => M.bind m fun r => K ((st.put (some d) (.row d)).set d (.own true ty r))
      | _ => M.none
    | none => M.none
  | .callRow ty res m d app f => M.bind m fun r => K ((st.put dst (outIO res r.1)).set d (.own app ty (f r.2)))
  | .callBox ty res m d off l => M.bind m fun r => forceL (l.set off (.t ty r.2)) fun l => K ((st.put dst (outIO res r.1)).set d (.box l))
  | .app base ty l kill => match dst with
    | some d => match st.m d with
      | .none => K ((((st.kill kill).lose base).put (some d) (.row d)).set d (.own true ty l))
      | _ => M.none
    | none => M.none
  | .alloc isP b => match dst with
    | some d => match st.m d with
      | .none => b.force fun b => match isP with
        | true => K ((st.put (some d) (.ptr d 0)).set d b)
        | false => K ((st.put (some d) (.row d)).set d b)
      | _ => M.none
    | none => M.none
  | .upd d b => b.force fun b => K ((st.put dst .dead).set d b)
/-- An operation whose answer tells which later ones are carried out. -/
def runTest {ρ : Type} (dst : Option Nat) (st : St) (K : St → M ρ) : Res → M ρ
  | .put (.bp p d) => @ite (M ρ) p d (K (st.put dst (.t .bool true))) (K (st.put dst (.t .bool false)))
  | .put (.t .bool b) => if b = true then K (st.put dst (.t .bool true)) else K (st.put dst (.t .bool false))
  | _ => M.none
/-- In a region that draws its order only these may change what is there. -/
def loud (o : Oper) : Bool := match o.op with
  | .store _ _ _ => true
  | .call { callee := .builtin .append, .. } => true
  | _ => false
def Res.hush : Res → Res
  | .call res tup m [] => .call res tup m []
  | .call _ _ _ _ => .fail
  | .callRow _ _ _ _ _ _ => .fail
  | .callBox _ _ _ _ _ _ => .fail
  | .app _ _ _ _ => .fail
  | .upd _ _ => .fail
  | .ite p d n => .ite p d n.hush
  | r => r
def Res.tame (dr : Bool) (o : Oper) (r : Res) : Res := bif dr && !loud o then r.hush else r
/-- Where the order is drawn, an operation sees no more than its own operands. -/
def tmpOf : Operand → Option Nat
  | .tmp t => some t
  | _ => none
def tmpsOf (o : Oper) : List Nat := o.op.operands.toList.filterMap tmpOf
def restr (o : Oper) (s : Nat → AV) : Nat → AV := fun t => bif memN t (tmpsOf o) then s t else .dead
def lookOf (dr : Bool) (o : Oper) (s : Nat → AV) (m : Nat → MB) : Look := match dr with
  | true => St.look ⟨restr o s, m⟩
  | false => St.look ⟨s, m⟩
def refOf : AV → Option Nat
  | .ptr d _ => some d
  | .row d => some d
  | .view d _ _ => some d
  | .elt d _ => some d
  | .vptr d _ _ _ => some d
  | _ => none
/-- Where a store writes: the slot of its address. -/
def storeAt (o : Oper) : Option Nat := match o.op with
  | .store _ (.tmp a) _ => some a
  | _ => none
def isExt (o : Oper) : Bool := match o.op with
  | .extract _ _ => true
  | _ => false
def isAlloc (o : Oper) : Bool := match o.op with
  | .alloc _ => true
  | _ => false
def noRef (s : Nat → AV) (d : Nat) : List Nat → Bool
  | [] => true
  | t :: r => (match refOf (s t) with
    | some e => !Nat.beq e d
    | none => true) && noRef s d r
def onlyAlloc (a : Nat) : List Oper → Bool
  | [] => true
  | o :: r => (match o.dst with
    | some d => !Nat.beq d a || isAlloc o
    | none => true) && onlyAlloc a r
def boundTo (k : Nat) (o : Oper) : Bool := o.after.any fun e => Region.binds .any e && e.on == k
/-- Where the order is drawn: a store that may come ahead of operation k writes on nothing that k sees. -/
def sepAll (s : Nat → AV) (k : Nat) (p : Oper) (rest : List Oper) : List Oper → Bool
  | [] => true
  | j :: r => (match storeAt j with
    | some a => boundTo k j || ((match refOf (s a) with
      | some d => noRef s d (tmpsOf p)
      | none => true) && onlyAlloc a rest)
    | none => true) && sepAll s k p rest r
def isTest (k : Nat) : List Oper → Bool
  | [] => false
  | o :: r => match o.guard with
    | some g => Nat.beq g.1 k || isTest k r
    | none => isTest k r
def nthDst : List Oper → Nat → Option Nat
  | [], _ => none
  | o :: _, 0 => o.dst
  | _ :: r, n + 1 => nthDst r n
def evOps {ρ : Type} (Γ : Ctx) (dr : Bool) (all : List Oper) (K : St → M ρ) : List Oper → Nat → St → M ρ
  | [], _, st => K st
  | o :: rest, k, ⟨s, m⟩ =>
    let st : St := ⟨s, m⟩
    let go : Unit → M ρ := fun _ => match isTest k rest with
      | true => runTest o.dst st (fun st => evOps Γ dr all K rest (k + 1) st) ((evOp Γ o (lookOf dr o s m)).tame dr o)
      | false => runRes o.dst st (fun st => evOps Γ dr all K rest (k + 1) st) ((evOp Γ o (lookOf dr o s m)).tame dr o)
    match dr && !loud o && !(isExt o || sepAll s k o rest rest) with
    | true => M.none
    | false => match o.guard with
    | none => go ()
    | some g => match nthDst all g.1 with
      | none => M.none
      | some d => match s d with
        | .t .bool b => match b == g.2 with
          | true => go ()
          | false => evOps Γ dr all K rest (k + 1) (st.put o.dst .undef)
        | .undef => evOps Γ dr all K rest (k + 1) (st.put o.dst .undef)
        | _ => M.none

inductive Ex where
  | normal
  | exit (id : Nat)
  | ret
def Kont (ρ : Type) : Type := Ex → St → M ρ
def Kont.thn {ρ : Type} (next : St → M ρ) (Q : Kont ρ) : Kont ρ := (fun (_ : Unit) => fun e st => match e with
  | .normal => next st
  | .exit i => Q (.exit i) st
  | .ret => Q .ret st) tall9
def Kont.blk {ρ : Type} (id : Nat) (Q : Kont ρ) : Kont ρ := (fun (_ : Unit) => fun e st => match e with
  | .normal => Q .normal st
  | .exit i => bif Nat.beq i id then Q .normal st else Q (.exit i) st
  | .ret => Q .ret st) tall9
/-- What a loop, or a place where ways meet, goes on with: slots and their types. -/
inductive LK where
  | val (ty : Ty)
  | own (app : Bool) (ty : Ty)
  | box (tys : List Ty)
@[reducible] def tysTy : List Ty → Ty
  | [] => .nil
  | [a] => a
  | a :: b :: r => .pair a (tysTy (b :: r))
@[reducible] def LK.ty : LK → Ty
  | .val t => t
  | .own _ t => .lst t
  | .box l => tysTy l
@[reducible] def liveTy : List (Nat × LK) → Ty
  | [] => .nil
  | [a] => a.2.ty
  | a :: b :: r => .pair a.2.ty (liveTy (b :: r))
def capCells (m : Nat → MB) : (l : List AV) → (ts : List Ty) → Option (tysTy ts).D
  | [], [] => some ()
  | [v], [t] => asOne (v.at m).1 (v.at m).2 t
  | v :: w :: r, t :: u :: ts => match asOne (v.at m).1 (v.at m).2 t, capCells m (w :: r) (u :: ts) with
    | some x, some y => some (x, y)
    | _, _ => none
  | _, _ => none
def capOne (st : St) (d : Nat) : (k : LK) → Option k.ty.D
  | .val t => asOne ((st.s d).at st.m).1 ((st.s d).at st.m).2 t
  | .own app t => match st.s d with
    | .t .nil _ => match app with
      | true => some []
      | false => none
    | .row e => match st.m e with
      | .own b a l => bif b == app then asOne (.row e) (.own b a l) (.lst t) else none
      | _ => none
    | _ => none
  | .box ts => match st.s d with
    | .ptr e 0 => match st.m e with
      | .box l => capCells st.m l ts
      | _ => none
    | _ => none
def capture (st : St) : (l : List (Nat × LK)) → Option (liveTy l).D
  | [] => some ()
  | [a] => capOne st a.1 a.2
  | a :: b :: r => match capOne st a.1 a.2, capture st (b :: r) with
    | some x, some y => some (x, y)
    | _, _ => none
/-- The rows and boxes that are met: those that may be written on, and those that are only read from here on. -/
def metRow (st : St) : List (Nat × LK) → List Nat
  | [] => []
  | (d, .own _ _) :: r => rowsOf [st.s d] ++ metRow st r
  | (d, .box _) :: r => match st.s d with
    | .ptr e _ => e :: metRow st r
    | _ => metRow st r
  | _ :: r => metRow st r
def metVal (st : St) : List (Nat × LK) → List Nat
  | [] => []
  | (d, .val _) :: r => rowsOf [st.s d] ++ metVal st r
  | (d, .box _) :: r => match st.s d with
    | .ptr e _ => match st.m e with
      | .box l => rowsOf l ++ metVal st r
      | _ => metVal st r
    | _ => metVal st r
  | _ :: r => metVal st r
def apartB (vals : List Nat) : List Nat → Bool
  | [] => true
  | n :: r => !memN n r && !memN n vals && apartB vals r
def uncells : (ts : List Ty) → (tysTy ts).D → List AV
  | [], _ => []
  | [t], x => [.t t x]
  | t :: u :: ts, x => .t t x.1 :: uncells (u :: ts) x.2
def restOne (st : St) (d : Nat) : (k : LK) → k.ty.D → St
  | .val t, x => st.put (some d) (.t t x)
  | .own app t, x => (st.put (some d) (.row d)).set d (.own app t x)
  | .box ts, x => (st.put (some d) (.ptr d 0)).set d (.box (uncells ts x))
def restore : (l : List (Nat × LK)) → (liveTy l).D → St → St
  | [], _, st => st
  | [a], x, st => restOne st a.1 a.2 x
  | a :: b :: r, x, st => restOne (restore (b :: r) x.2 st) a.1 a.2 x.1
def nodupB : List (Nat × LK) → Bool
  | [] => true
  | a :: r => !memN a.1 (r.map (·.1)) && nodupB r
def catch_ {ρ : Type} (l : List (Nat × LK)) (st : St) (K : (liveTy l).D → M ρ) : M ρ := match apartB (metVal st l) (metRow st l) && nodupB l with
  | true => match capture st l with
    | some x => K x
    | none => M.none
  | false => M.none

def iterM {α ρ : Type} (F : (α → M ρ) → α → M ρ) : Nat → α → M ρ
  | 0, _ => M.none
  | n + 1, x => F (iterM F n) x
/-- A loop: of as many rounds as it takes. -/
def loopM {α ρ : Type} (F : (α → M ρ) → α → M ρ) (x : α) : M ρ := fun r => ∃ n, iterM F n x r
/-- A place where ways meet. -/
def joinM {α ρ : Type} (F : α → M ρ) (x : α) : M ρ := (fun (_ : Unit) => F x) tall9

def headId : Code → Nat
  | .region id _ _ => id
  | .seq a _ => headId a
  | .block _ a => headId a
  | .loop a => headId a
  | .scope a => headId a
  | .cond _ a _ => headId a
  | _ => 0
abbrev Live := Nat → Option (List (Nat × LK))
def evCode {ρ : Type} (Γ : Ctx) (A : Live) : Code → St → Kont ρ → M ρ
  | .skip, st, Q => Q .normal st
  | .region _ ops dr, st, Q => evOps Γ dr ops.toList (Q .normal) ops.toList 0 st
  | .seq a b, st, Q => match A (2 * headId b + 1) with
    | some l => evCode Γ A a st (Kont.thn (fun st' => catch_ l st' (joinM fun x => evCode Γ A b (restore l x st0) Q)) Q)
    | none => evCode Γ A a st (Kont.thn (fun st' => evCode Γ A b st' Q) Q)
  | .cond c a b, st, Q => match st.ev c with
    | .bp p d => @ite (M ρ) p d (evCode Γ A a st Q) (evCode Γ A b st Q)
    | .nq p => M.nq p (evCode Γ A a st Q) (evCode Γ A b st Q)
    | .t .bool x => if x = true then evCode Γ A a st Q else evCode Γ A b st Q
    | _ => M.none
  | .block id a, st, Q => evCode Γ A a st (Kont.blk id Q)
  | .loop a, st, Q => match A (2 * headId a) with
    | some l => catch_ l st (loopM fun rec x => evCode Γ A a (restore l x st0) (Kont.thn (fun st' => catch_ l st' rec) Q))
    | none => M.none
  | .scope a, st, Q => evCode Γ A a st Q
  | .exit id, st, Q => Q (.exit id) st
  | .ret, st, Q => Q .ret st
  | _, _, _ => M.none

/-! ### Functions -/
def resAV (Γ : Ctx) (st : St) : ResultVar → AV × MB
  | .tmp t => st.look (.tmp t)
  | .cell a T => match st.look (.tmp a) with
    | (.ptr _ off, .box l) => match Γ.ty T with
      | .struct _ size _ => match Nat.ble (off + size) l.length with
        | true => (aggOf (part l off size), .none)
        | false => (.dead, .none)
      | .vec _ _ size _ => match Nat.ble (off + size) l.length with
        | true => (aggOf (part l off size), .none)
        | false => (.dead, .none)
      | ti => match Nat.beq ti.n 1, l[off]? with
        | true, some v => v.at st.m
        | _, _ => (.dead, .none)
    | _ => (.dead, .none)
def asRes (Γ : Ctx) (st : St) : (l : List ResultVar) → (ty : Ty) → Option ty.D
  | [], .nil => some ()
  | [x], ty => match ty.isNil with
    | true => none
    | false => asOne (resAV Γ st x).1 (resAV Γ st x).2 ty
  | x :: y :: r, .pair a b => match asOne (resAV Γ st x).1 (resAV Γ st x).2 a, asRes Γ st (y :: r) b with
    | some u, some w => some (u, w)
    | _, _ => none
  | _, _ => none
def finM (Γ : Ctx) (rs : List ResultVar) (ty : Ty) (st : St) : M ty.D := match asRes Γ st rs ty with
  | some x => M.ret x
  | none => M.none
def finQ (Γ : Ctx) (rs : List ResultVar) (ty : Ty) : Kont ty.D := fun e st => match e with
  | .normal => finM Γ rs ty st
  | .ret => finM Γ rs ty st
  | .exit _ => M.none
def argsSt : Nat → (ty : Ty) → ty.D → St → St
  | n, .pair a b, x, st => (argsSt (n + 1) b x.2 st).put (some n) (.t a x.1)
  | _, .nil, _, st => st
  | n, t, x, st => st.put (some n) (.t t x)
def bodyOf (fn : Func) : Code := match fn.body with
  | some c => c
  | none => .skip
def evFn (Γ : Ctx) (A : Live) (fn : Func) (args res : Ty) (x : args.D) : M res.D :=
  evCode Γ A (bodyOf fn) (argsSt 0 args x st0) (finQ Γ fn.results.toList res)
/-- A function that hands over a row of its own. -/
def finOwn (rs : List ResultVar) (ty : Ty) : Kont (List ty.D) := fun e st => match e, rs with
  | .exit _, _ => M.none
  | _, [.tmp t] => match st.s t with
    | .row d => match st.m d with
      | .own true a l => if h : a = ty then M.ret (castD (congrArg Ty.lst h) l) else M.none
      | _ => M.none
    | _ => M.none
  | _, _ => M.none
def evFnOwn (Γ : Ctx) (A : Live) (fn : Func) (args ty : Ty) (x : args.D) : M (List ty.D) :=
  evCode Γ A (bodyOf fn) (argsSt 0 args x st0) (finOwn fn.results.toList ty)
/-- A function that writes on the row that comes first. -/
def finRow (Γ : Ctx) (rs : List ResultVar) (ty res : Ty) : Kont (res.D × List ty.D) := fun e st =>
  match (match e with | .exit _ => none | _ => asRes Γ st rs res), (match st.m 0 with | .own false a l => asOne (.row 0) (.own false a l) (.lst ty) | _ => none) with
  | some x, some l => M.ret (x, l)
  | _, _ => M.none
def rowSt (ty args : Ty) (l : List ty.D) (x : args.D) : St := ((argsSt 1 args x st0).put (some 0) (.row 0)).set 0 (.own false ty l)
def evFnRow (Γ : Ctx) (A : Live) (fn : Func) (ty args res : Ty) (l : List ty.D) (x : args.D) : M (res.D × List ty.D) :=
  evCode Γ A (bodyOf fn) (rowSt ty args l x) (finRow Γ fn.results.toList ty res)
/-- A function that writes on the variable whose address comes first. -/
def finBox (Γ : Ctx) (rs : List ResultVar) (ty res : Ty) : Kont (res.D × ty.D) := fun e st =>
  match (match e with | .exit _ => none | _ => asRes Γ st rs res), (match st.m 0 with | .box [v] => asOne v .none ty | _ => none) with
  | some x, some l => M.ret (x, l)
  | _, _ => M.none
def boxSt (ty args : Ty) (y : ty.D) (x : args.D) : St := ((argsSt 1 args x st0).put (some 0) (.ptr 0 0)).set 0 (.box [.t ty y])
def evFnBox (Γ : Ctx) (A : Live) (fn : Func) (ty args res : Ty) (y : ty.D) (x : args.D) : M (res.D × ty.D) :=
  evCode Γ A (bodyOf fn) (boxSt ty args y x) (finBox Γ fn.results.toList ty res)

/-! ### The loops and the meeting places of a function -/
inductive Dir where
  | l | r
def focus {ρ : Type} (Γ : Ctx) (A : Live) : Code → Kont ρ → List Dir → Code × Kont ρ
  | .seq a b, Q, .l :: p => match A (2 * headId b + 1) with
    | some l => focus Γ A a (Kont.thn (fun st' => catch_ l st' (joinM fun x => evCode Γ A b (restore l x st0) Q)) Q) p
    | none => focus Γ A a (Kont.thn (fun st' => evCode Γ A b st' Q) Q) p
  | .seq _ b, Q, .r :: p => focus Γ A b Q p
  | .cond _ a _, Q, .l :: p => focus Γ A a Q p
  | .cond _ _ b, Q, .r :: p => focus Γ A b Q p
  | .block id a, Q, .l :: p => focus Γ A a (Kont.blk id Q) p
  | .scope a, Q, .l :: p => focus Γ A a Q p
  | .loop a, Q, .l :: p => match A (2 * headId a) with
    | some l => focus Γ A a (Kont.thn (fun st' => catch_ l st' (loopM fun rec x => evCode Γ A a (restore l x st0) (Kont.thn (fun st' => catch_ l st' rec) Q))) Q) p
    | none => (.skip, Q)
  | c, Q, _ => (c, Q)
/-- One round of the loop at the end of a road, with what follows behind the loop. -/
def roundOf {ρ : Type} (Γ : Ctx) (A : Live) (l : List (Nat × LK)) (cq : Code × Kont ρ) (rec : (liveTy l).D → M ρ) (x : (liveTy l).D) : M ρ :=
  match cq.1 with
  | .loop a => evCode Γ A a (restore l x st0) (Kont.thn (fun st' => catch_ l st' rec) cq.2)
  | _ => M.none
def loopOf {ρ : Type} (Γ : Ctx) (A : Live) (l : List (Nat × LK)) (cq : Code × Kont ρ) : (liveTy l).D → M ρ :=
  match cq.1 with
  | .loop a => loopM fun rec x => evCode Γ A a (restore l x st0) (Kont.thn (fun st' => catch_ l st' rec) cq.2)
  | _ => fun _ => M.none
/-- What follows from a meeting place on. -/
def joinOf {ρ : Type} (Γ : Ctx) (A : Live) (l : List (Nat × LK)) (cq : Code × Kont ρ) : (liveTy l).D → M ρ :=
  joinM fun x => evCode Γ A cq.1 (restore l x st0) cq.2
end Go.Proofs.YtlnbcpcnpofnoaaGreatDoor.E
