/- An evaluator of the model's code over typed values: definitions. -/
import Derived.Orders
set_option linter.all false
namespace Go.PG

/-! ### what is done with data -/
namespace P
def cond {α : Type} (b : Bool) (x y : α) : α := match b with
  | true => x
  | false => y
def bind {α β : Type} (x : Option α) (f : α → Option β) : Option β := match x with
  | some a => f a
  | none => none
def map {α β : Type} (f : α → β) (x : Option α) : Option β := match x with
  | some a => some (f a)
  | none => none
def iter {τ ρ : Type} (k : Nat) (f : τ → Option (τ ⊕ ρ)) (x : τ) : Option ρ :=
  Nat.rec (motive := fun _ => τ → Option ρ) (fun _ => none) (fun _ ih x => match f x with
    | none => none
    | some (.inl y) => ih y
    | some (.inr r) => some r) k x
def either {α β γ : Type} (f : α → γ) (g : β → γ) (s : α ⊕ β) : γ := match s with
  | .inl a => f a
  | .inr b => g b
def nil (α : Type) : List α := []
def wrap (k : IntKind) (x : Int) : Int := k.wrap x
def add (x y : Int) : Int := x + y
def sub (x y : Int) : Int := x - y
def mul (x y : Int) : Int := x * y
def ieq (x y : Int) : Bool := x == y
def ilt (x y : Int) : Bool := decide (x < y)
def ile (x y : Int) : Bool := decide (x ≤ y)
def shr (x : Int) (n : Nat) : Int := x.fdiv (2 ^ n)
def not (x : Bool) : Bool := !x
def and (x y : Bool) : Bool := x && y
def beq (x y : Bool) : Bool := x == y
def seq (x y : ByteArray) : Bool := x.toList == y.toList
def slt (x y : ByteArray) : Bool := Op.bytesLess x.toList y.toList
def sle (x y : ByteArray) : Bool := Op.bytesLess x.toList y.toList || x.toList == y.toList
def scat (x y : ByteArray) : ByteArray := x ++ y
def slen (x : ByteArray) : Int := (x.size : Int)
def ssub (x : ByteArray) (l u : Int) : ByteArray := x.extract l.toNat u.toNat
def sat (x : ByteArray) (i : Int) : Int := ((x[i.toNat]?.map UInt8.toNat).getD 0 : Nat)
def len {α : Type} (l : List α) : Int := (l.length : Int)
def get {α : Type} (l : List α) (i : Int) (d : α) : α := l.getD i.toNat d
def set {α : Type} (l : List α) (i : Int) (x : α) : List α := l.set i.toNat x
def app {α : Type} (l m : List α) : List α := l ++ m
def quo (x y : Int) : Int := x.tdiv y
def rem (x y : Int) : Int := x.tmod y
def shlk (k : IntKind) (x y : Int) : Int := x * 2 ^ min y.toNat k.bits
def shrk (k : IntKind) (x y : Int) : Int := x.fdiv (2 ^ min y.toNat k.bits)
def sfit (x y : ByteArray) : Bool := decide (((x.size + y.size : Nat) : Int) ≤ IntKind.i64.max)
def sub_ {α : Type} (l : List α) (a b : Int) : List α := (l.take b.toNat).drop a.toNat
/-- Is an index one of so many? -/
def inb (i n : Int) : Bool := decide (0 ≤ i) && decide (i < n)
/-- May one slice from l up to u, of so many? -/
def cut (l u n : Int) : Bool := decide (0 ≤ l) && decide (l ≤ u) && decide (u ≤ n)
/-- Is there room for so many elements of so many bytes? -/
def room (n : Int) (bytes : Nat) : Bool := decide (n.toNat * bytes ≤ 35184372088832)
end P

/-! ### types and their data -/
inductive Ty where
  | unit | bool | str | opq | int (k : IntKind) | slice (e : Ty) | st (b : Ty) | pair (a b : Ty)
  deriving DecidableEq

@[reducible] def Ty.D : Ty → Type
  | .unit | .opq => Unit
  | .bool => Bool
  | .str => ByteArray
  | .int _ => Int
  | .slice e => List e.D
  | .st b => b.D
  | .pair a b => a.D × b.D

def Ty.size : Ty → Nat
  | .unit => 0
  | .st b => b.size
  | .pair a b => a.size + b.size
  | _ => 1

def Ty.zero : (t : Ty) → t.D
  | .unit | .opq => ()
  | .bool => false
  | .str => ⟨#[]⟩
  | .int _ => (0 : Int)
  | .slice _ => []
  | .st b => b.zero
  | .pair a b => (a.zero, b.zero)

def Ty.nth : Ty → Nat → Option Ty
  | .pair a _, 0 => some a
  | .pair _ r, j + 1 => r.nth j
  | t, 0 => some t
  | _, _ + 1 => none

def Ty.off : Ty → Nat → Nat
  | .pair a r, j + 1 => a.size + r.off j
  | _, _ => 0

def compD : (b : Ty) → Nat → b.D → Option (Σ t : Ty, t.D)
  | .pair a _, 0, x => some ⟨a, x.1⟩
  | .pair _ r, j + 1, x => compD r j x.2
  | t, 0, x => some ⟨t, x⟩
  | _, _ + 1, _ => none

def updD : (b : Ty) → Nat → b.D → (t : Ty) → t.D → Option b.D
  | .pair a _, 0, x, t, y => if h : t = a then some (h ▸ y, x.2) else none
  | .pair _ r, j + 1, x, t, y => match updD r j x.2 t y with
    | some z => some (x.1, z)
    | none => none
  | t', 0, _, t, y => if h : t = t' then some (h ▸ y) else none
  | _, _ + 1, _, _, _ => none

/-! ### abstract values -/
inductive AV where
  | undef
  | unit
  | data (t : Ty) (x : t.D)
  | nilS (e : Ty)
  | own (id : Nat)
  | ptr (id : Nat) (p : List Nat)
  | rptr (t : Ty) (x : t.D)
  | eptr (id : Nat) (i : Int) (p : List Nat)
  | fn (f : Nat) (caps : AV)
  | st (b : AV)
  | pr (a b : AV)
  | tup (b : AV)

def compP : AV → Nat → Option AV
  | .pr a _, 0 => some a
  | .pr _ r, j + 1 => compP r j
  | .data t x, j => match compD t j x with
    | some p => some (.data p.1 p.2)
    | none => none
  | x, 0 => some x
  | _, _ + 1 => none

/-- A component of a chain of values. -/
def tupP : AV → Nat → Option AV
  | .pr a _, 0 => some a
  | .pr _ r, j + 1 => tupP r j
  | .unit, _ => none
  | x, 0 => some x
  | _, _ + 1 => none

def AV.comp : AV → Nat → Option AV
  | .data (.st b) x, j => match compD b j x with
    | some p => some (.data p.1 p.2)
    | none => none
  | .st b, j => compP b j
  | _, _ => none

def spread : (b : Ty) → b.D → AV
  | .pair a r, x => .pr (.data a x.1) (spread r x.2)
  | t, x => .data t x

def updS : AV → Nat → AV → Option AV
  | .pr _ r, 0, v => some (.pr v r)
  | .pr a r, j + 1, v => match updS r j v with
    | some z => some (.pr a z)
    | none => none
  | _, 0, v => some v
  | _, _ + 1, _ => none

def updP : AV → Nat → AV → Option AV
  | .pr _ r, 0, v => some (.pr v r)
  | .pr a r, j + 1, v => match updP r j v with
    | some z => some (.pr a z)
    | none => none
  | .data t x, j, .data t' y => match updD t j x t' y with
    | some z => some (.data t z)
    | none => none
  | .data t x, j, v => updS (spread t x) j v
  | _, 0, v => some v
  | _, _ + 1, _ => none

def AV.upd : AV → Nat → AV → Option AV
  | .data (.st b) x, j, .data t y => match updD b j x t y with
    | some z => some (.data (.st b) z)
    | none => none
  | .data (.st b) x, j, v => match updS (spread b x) j v with
    | some z => some (.st z)
    | none => none
  | .st b, j, v => match updP b j v with
    | some z => some (.st z)
    | none => none
  | _, _, _ => none

def AV.get : AV → List Nat → Option AV
  | v, [] => some v
  | v, j :: p => match v.comp j with
    | some u => u.get p
    | none => none

def AV.set : AV → List Nat → AV → Option AV
  | _, [], u => some u
  | v, j :: p, u => match v.comp j with
    | some x => match x.set p u with
      | some y => v.upd j y
      | none => none
    | none => none

def offs : Ty → List Nat → Option (Nat × Ty)
  | t, [] => some (0, t)
  | .st b, j :: p => match b.nth j with
    | some t => match offs t p with
      | some (o, u) => some (b.off j + o, u)
      | none => none
    | none => none
  | _, _ :: _ => none

/-- Has a value a type's form? -/
def fitsT : AV → Ty → Bool
  | .data t _, L => decide (t = L)
  | .st a, .st b => fitsT a b
  | .pr a r, .pair ta tr => match fitsT a ta with
    | true => fitsT r tr
    | false => false
  | .nilS _, .slice _ => true
  | .own _, .slice _ => true
  | .undef, .opq | .undef, .int _ | .undef, .bool | .undef, .str | .undef, .slice _ => true
  | .ptr _ _, .opq | .rptr _ _, .opq | .eptr _ _ _, .opq | .fn _ _, .opq => true
  | _, _ => false

/-- A value of which nothing is known, in a type's form. -/
def undefOf : Ty → AV
  | .unit => .unit
  | .st b => .st (undefOf b)
  | .pair a b => .pr (undefOf a) (undefOf b)
  | _ => .undef

inductive Ent where
  | box (v : AV) (L : Ty)
  | row (e : Ty) (xs : List e.D)
  /-- an id that nobody holds yet -/
  | rsv

structure Hp where
  e : Nat → Option Ent
  lk : Nat → Bool
  next : Nat

structure St where
  n : Nat
  fr : Nat → AV
  ro : Nat → Bool
  h : Hp

def set1 {α : Type} (f : Nat → α) (i : Nat) (x : α) : Nat → α := fun j => match Nat.beq j i with
  | true => x
  | false => f j

def Hp.put (h : Hp) (id : Nat) (e : Ent) : Hp := { h with e := set1 h.e id (some e) }
def Hp.kill (h : Hp) (id : Nat) : Hp := { h with e := set1 h.e id none }
def Hp.kills (h : Hp) : List Nat → Hp
  | [] => h
  | i :: l => (h.kill i).kills l
def Hp.new (h : Hp) (e : Ent) : Hp := { e := set1 h.e h.next (some e), lk := h.lk, next := h.next + 1 }

/-- No part of it is unknown, and it is no tuple. -/
def AV.solid : AV → Bool
  | .undef | .tup _ => false
  | .st b => b.solid
  | .pr a b => match a.solid with
    | true => b.solid
    | false => false
  | _ => true

/-- The ids of the rows of one's own in a value. -/
def AV.owns : AV → List Nat
  | .own id => [id]
  | .st b => b.owns
  | .pr a b => a.owns ++ b.owns
  | _ => []

def toD (h : Hp) : AV → (t : Ty) → Option t.D
  | .data t' x, t => if e : t' = t then some (e ▸ x) else none
  | .nilS _, .slice _ => some []
  | .own id, .slice e' => match h.e id with
    | some (.row e xs) => if q : e = e' then some (q ▸ xs) else none
    | _ => none
  | .st b, .st tb => toD h b tb
  | .pr a r, .pair ta tr => match toD h a ta with
    | some x => match toD h r tr with
      | some y => some (x, y)
      | none => none
    | none => none
  | .unit, .unit => some ()
  | _, _ => none

def Ty.flat : Ty → Bool
  | .slice _ | .opq => false
  | .st b => b.flat
  | .pair a b => a.flat && b.flat
  | _ => true

def unlocked (h : Hp) : List Nat → Bool
  | [] => true
  | i :: l => match h.lk i with
    | true => false
    | false => unlocked h l

/-- A value as data; the rows of one's own in it are given up. -/
def freeze {ρ : Type} (h : Hp) (v : AV) (t : Ty) (K : t.D → Hp → Option ρ) : Option ρ :=
  match toD h v t with
  | some x => match unlocked h v.owns with
    | true => K x (h.kills v.owns)
    | false => none
  | none => none

/-! ### constants -/
def mkPr : AV → AV → AV
  | .data a x, .data b y => .data (.pair a b) (x, y)
  | a, b => .pr a b
def mkSt : AV → AV
  | .data b x => .data (.st b) x
  | b => .st b

def ofCell : (t : Ty) → Value → Option AV
  | .bool, .bool b => some (.data .bool b)
  | .int k, .int k' n => match decide (k' = k) with
    | true => some (.data (.int k) n)
    | false => none
  | .str, .string s => some (.data .str s)
  | .slice e, .slice none 0 0 => some (.nilS e)
  | .opq, .agg _ => none
  | .opq, .tuple _ => none
  | .opq, _ => some .undef
  | _, _ => none

def ofCells : (t : Ty) → List Value → Option (AV × List Value)
  | .st b, cs => match ofCells b cs with
    | some (a, r) => some (mkSt a, r)
    | none => none
  | .pair a b, cs => match ofCells a cs with
    | some (x, r) => match ofCells b r with
      | some (y, r') => some (mkPr x y, r')
      | none => none
    | none => none
  | t, v :: r => match ofCell t v with
    | some a => some (a, r)
    | none => none
  | _, [] => none

def zeroAV : Ty → AV
  | .unit => .unit
  | .opq => .undef
  | .slice e => .nilS e
  | .st b => mkSt (zeroAV b)
  | .pair a b => mkPr (zeroAV a) (zeroAV b)
  | t => .data t t.zero

def isSt : Ty → Bool
  | .st _ => true
  | _ => false

def constAV (ty : Option Ty) (v : Value) : AV :=
  match ty with
  | some t => match v with
    | .tuple _ => .undef
    | .agg cs => match isSt t with
      | true => match ofCells t cs.toList with
        | some (a, []) => a
        | _ => .undef
      | false => .undef
    | v => match isSt t with
      | true => .undef
      | false => match ofCells t [v] with
        | some (a, []) => a
        | _ => .undef
  | none => match v with
    | .bool b => .data .bool b
    | .int k n => .data (.int k) n
    | .string s => .data .str s
    | _ => .undef

/-! ### the environment -/
structure Spec where
  a : Ty
  r : Ty
  F : a.D → Option r.D

/-- Arguments: a chain; the last one stands alone. -/
def argAV : (t : Ty) → t.D → AV
  | .unit, _ => .unit
  | .pair a r, x => .pr (.data a x.1) (argAV r x.2)
  | t, x => .data t x
def argList : (t : Ty) → t.D → List AV
  | .unit, _ => []
  | .pair a r, x => .data a x.1 :: argList r x.2
  | t, x => [.data t x]

inductive Sh where
  | d (t : Ty) | o (e : Ty) | p (a b : Sh) | s (b : Sh)
@[reducible] def Sh.D : Sh → Type
  | .d t => t.D
  | .o e => List e.D
  | .p a b => a.D × b.D
  | .s b => b.D

inductive Item where
  | var (t : Nat) (sh : Sh)
  | cel (t : Nat) (p : List Nat) (e : Ty)
  | box (t : Nat) (p : List Nat) (sh : Sh)
@[reducible] def Item.D : Item → Type
  | .var _ sh => sh.D
  | .cel _ _ e => List e.D
  | .box _ _ sh => sh.D
@[reducible] def ItemsD : List Item → Type
  | [] => Unit
  | [i] => i.D
  | i :: j :: r => i.D × ItemsD (j :: r)

structure Hint where
  head : List Item
  scr : List Nat
  out : Option (Nat × List Item)

structure TyRow where
  ty : Ty
  /-- of a slice's element -/
  bytes : Nat
  /-- may be compared by '==' as a struct -/
  eq : Bool
  /-- an array -/
  arr : Bool

def look {α : Type} : List (Nat × α) → Nat → Option α
  | [], _ => none
  | (j, a) :: l, i => match Nat.beq i j with
    | true => some a
    | false => look l i

/-- A function of no arguments that lays one box, and yields what leads to it. -/
structure Maker where
  v : AV
  L : Ty
  f : Nat → AV

structure Env where
  T : List (Nat × TyRow)
  specs : List (Nat × Spec)
  codes : List (Nat × Func × List (Nat × Hint))
  k : Nat
  lays : List (Nat × Maker) := []

def Env.ty (E : Env) (t : TypeId) : Option Ty := match look E.T t with
  | some r => some r.ty
  | none => none

/-- May a value be an operand of a comparison at a type? -/
def eqOk (E : Env) (t : TypeId) : AV → Bool
  | .data (.st b) _ => match look E.T t with
    | some r => match decide (r.ty = .st b) with
      | true => r.eq
      | false => false
    | none => false
  | .data .bool _ => match E.ty t with
    | some .bool => true
    | _ => false
  | _ => true

def isArr (E : Env) (t : TypeId) : Bool := match look E.T t with
  | some r => r.arr
  | none => false

def opnd (ty : Option Ty) (fr : Nat → AV) : Operand → AV
  | .tmp t => fr t
  | .const v => constAV ty v
  | .func f => .fn f .unit
  | .global _ => .undef

/-! ### operations -/
def wrapAV (k : IntKind) (x : Int) : AV := .data (.int k) (P.wrap k x)

def beqD : (t : Ty) → t.D → t.D → Option Bool
  | .bool, x, y => some (P.beq x y)
  | .int _, x, y => some (P.ieq x y)
  | .str, x, y => some (P.seq x y)
  | .st b, x, y => beqD b x y
  | .pair a b, x, y => match beqD a x.1 y.1 with
    | some p => match beqD b x.2 y.2 with
      | some q => some (P.and p q)
      | none => none
    | none => none
  | _, _, _ => none

def binAV (op : BinOp) : AV → AV → Option AV
  | .data (.int k) x, .data (.int k') y => match decide (k = k') with
    | true => match op with
      | .add => some (wrapAV k (P.add x y))
      | .sub => some (wrapAV k (P.sub x y))
      | .mul => some (wrapAV k (P.mul x y))
      | .eql => some (.data .bool (P.ieq x y))
      | .neq => some (.data .bool (P.not (P.ieq x y)))
      | .lss => some (.data .bool (P.ilt x y))
      | .leq => some (.data .bool (P.ile x y))
      | .gtr => some (.data .bool (P.ilt y x))
      | .geq => some (.data .bool (P.ile y x))
      | _ => none
    | false => none
  | .data .str x, .data .str y => match op with
    | .eql => some (.data .bool (P.seq x y))
    | .neq => some (.data .bool (P.not (P.seq x y)))
    | .lss => some (.data .bool (P.slt x y))
    | .leq => some (.data .bool (P.sle x y))
    | .gtr => some (.data .bool (P.not (P.sle x y)))
    | .geq => some (.data .bool (P.not (P.slt x y)))
    | _ => none
  | .data .bool x, .data .bool y => match op with
    | .eql => some (.data .bool (P.beq x y))
    | .neq => some (.data .bool (P.not (P.beq x y)))
    | _ => none
  | .data (.st b) x, .data (.st b') y =>
    if h : b' = b then match beqD b x (h ▸ y) with
      | some r => match op with
        | .eql => some (.data .bool r)
        | .neq => some (.data .bool (P.not r))
        | _ => none
      | none => none
    else none
  | _, _ => none

/-- Operations that may fail: what must hold, and what then comes. -/
def hardAV (op : BinOp) : AV → AV → Option (Bool × AV)
  | .data (.int k) x, .data (.int k') y => match op with
    | .shl => some (P.ile 0 y, wrapAV k (P.shlk k x y))
    | .shr => some (P.ile 0 y, .data (.int k) (P.shrk k x y))
    | .quo => match decide (k = k') with
      | true => some (P.not (P.ieq y 0), wrapAV k (P.quo x y))
      | false => none
    | .rem => match decide (k = k') with
      | true => some (P.not (P.ieq y 0), .data (.int k) (P.rem x y))
      | false => none
    | _ => none
  | .data .str x, .data .str y => match op with
    | .add => some (P.sfit x y, .data .str (P.scat x y))
    | _ => none
  | _, _ => none

def orNone {α ρ : Type} (x : Option α) (K : α → Option ρ) : Option ρ := match x with
  | some a => K a
  | none => none

def test {ρ : Type} (b : Bool) (x : Option ρ) : Option ρ := P.cond b x none

def St.put (st : St) (d : Option Tmp) (v : AV) : Option St := match d with
  | none => some st
  | some t => match st.ro t, Nat.blt t st.n with
    | false, true => some { st with fr := set1 st.fr t v }
    | _, _ => none

abbrev Handler := ∀ {ρ : Type}, FuncId → List AV → Hp → (AV → Hp → Option ρ) → Option ρ

/-- No part of a type is closed to the evaluator. -/
def dataTy : Ty → Bool
  | .unit | .opq => false
  | .st b => dataTy b
  | .pair a b => match dataTy a with
    | true => dataTy b
    | false => false
  | _ => true

/-- Elements of a literal slice. -/
def fillParts (e : Ty) (h : Hp) : List (Nat × AV) → List e.D → Option (List e.D)
  | [], acc => some acc
  | (i, v) :: r, acc => match toD h v e, Nat.blt i acc.length with
    | some x, true => fillParts e h r (acc.set i x)
    | _, _ => none

def asInt : AV → Option Int
  | .data (.int _) x => some x
  | _ => none

def argsD (h : Hp) : List AV → Ty → Option AV
  | [], _ => some .unit
  | [_], .pair _ _ => none
  | [_], .unit => none
  | [v], _ => some v
  | v :: r, .pair _ b => match argsD h r b with
    | some x => some (.pr v x)
    | none => none
  | _, _ => none

def resAV : (t : Ty) → t.D → AV
  | .pair a b, x => .tup (spread (.pair a b) x)
  | .unit, _ => .tup .unit
  | t, x => .data t x

def callSpec {ρ : Type} (s : Spec) (args : List AV) (h : Hp) (K : AV → Hp → Option ρ) : Option ρ :=
  match argsD h args s.a with
  | none => none
  | some v => match s.r.flat with
    | true => match toD h v s.a with
      | some x => P.bind (s.F x) fun r => K (resAV s.r r) h
      | none => none
    | false => freeze h v s.a fun x h' => P.bind (s.F x) fun r => K (resAV s.r r) h'

def capsList : AV → List AV
  | .unit => []
  | .pr a b => a :: capsList b
  | x => [x]
def capsOf : List AV → AV
  | [] => .unit
  | a :: l => .pr a (capsOf l)

def sliceLen (h : Hp) : AV → Option Int
  | .data (.slice _) xs => some (P.len xs)
  | .data .str s => some (P.slen s)
  | .nilS _ => some 0
  | .own id => match h.e id with
    | some (.row _ xs) => some (P.len xs)
    | _ => none
  | _ => none

/-- append(own or nil, ..) -/
def evAppend {ρ : Type} (bytes : Nat) (e : Ty) (s x : AV) (h : Hp) (K : AV → Hp → Option ρ) : Option ρ :=
  match toD h s (.slice e), s with
  | some xs, .own _ | some xs, .nilS _ => match toD h x (.slice e) with
    | some ys => match unlocked h (s.owns ++ x.owns) with
      | true => test (P.room (P.add (P.len xs) (P.len ys)) bytes) (K (.own h.next) (((h.kills (s.owns ++ x.owns))).new (.row e (P.app xs ys))))
      | false => none
    | none => none
  | _, _ => none

def evBuiltin {ρ : Type} (E : Env) (b : Builtin) (argTypes : Array TypeId) (args : List AV) (h : Hp) (K : AV → Hp → Option ρ) : Option ρ :=
  match b, args with
  | .len, [x] => match argTypes.toList with
    | t :: _ => match E.ty t, x with
      | some .str, .data .str s => K (.data (.int .i64) (P.slen s)) h
      | some (.slice _), .data .str _ => none
      | some (.slice _), x => match sliceLen h x with
        | some n => K (.data (.int .i64) n) h
        | none => none
      | _, _ => none
    | [] => none
  | .append, [s, x] => match argTypes.toList with
    | [t, u] => match E.ty u with
      | some (.slice _) => match look E.T t with
        | some r => match r.ty with
          | .slice e => evAppend r.bytes e s x h K
          | _ => none
        | none => none
      | _ => none
    | _ => none
  | _, _ => none

def evSlice {ρ : Type} (ty : Option Ty) (x : AV) (lo hi mx : Option AV) (h : Hp) (K : AV → Hp → Option ρ) : Option ρ :=
  match mx with
  | some m => match ty, asInt m, lo.bind asInt, hi.bind asInt with
    | some (.slice e), some 0, some 0, some 0 => match x with
      | .data (.slice _) _ => K (.nilS e) h
      | .nilS _ => K (.nilS e) h
      | .own id => match h.e id with
        | some _ => K (.nilS e) h
        | none => none
      | _ => none
    | _, _, _, _ => none
  | none => match sliceLen h x with
    | none => none
    | some n => match (lo.map asInt).getD (some 0), (hi.map asInt).getD (some n) with
      | some l, some u => test (P.cut l u n) (match ty, x with
        | some (.slice e), .data (.slice e') xs => match decide (e = e') with
          | true => K (.data (.slice e') (P.sub_ xs l u)) h
          | false => none
        | some .str, .data .str s => K (.data .str (P.ssub s l u)) h
        | some (.slice e), .own id => match h.e id, h.lk id with
          | some (.row e' xs), false => match decide (e = e') with
            | true => K (.own h.next) ((h.kill id).new (.row e' (P.sub_ xs l u)))
            | false => none
          | _, _ => none
        | _, _ => none)
      | _, _ => none

def memb (i : Nat) : List Nat → Bool
  | [] => false
  | j :: l => match Nat.beq i j with
    | true => true
    | false => memb i l

def setD : (t : Ty) → t.D → List Nat → (u : Ty) → u.D → Option t.D
  | t, _, [], u, y => if e : u = t then some (e ▸ y) else none
  | .st b, x, j :: p, u, y => match compD b j x with
    | some q => match setD q.1 q.2 p u y with
      | some z => updD b j x q.1 z
      | none => none
    | none => none
  | _, _, _ :: _, _, _ => none

/-- May one go on, from a place of a type, to its part? -/
def addPath (ty : TypeId → Option Ty) (s : TypeId) (L : Ty) (p : List Nat) (j : Nat) : Bool := match offs L p with
  | some (_, .st b) => match decide (ty s = some (.st b)), b.nth j with
    | true, some _ => true
    | _, _ => false
  | _ => false

def partTy : Ty → Nat → Option Ty
  | .st b, j => b.nth j
  | _, _ => none

def buildParts (fr : Nat → AV) (L : Ty) : List (Nat × Operand) → AV → Option AV
  | [], v => some v
  | (j, x) :: r, v => match partTy L j with
    | some t => match (opnd (some t) fr x).solid, fitsT (opnd (some t) fr x) t with
      | true, true => match v.upd j (opnd (some t) fr x) with
        | some v' => buildParts fr L r v'
        | none => none
      | _, _ => none
    | none => none

/-- A part of a whole, told by a number. -/
def evIdx {ρ : Type} (v : AV) (n : Int) (h : Hp) (K : AV → Hp → Option ρ) : Nat → Nat → Option ρ
  | 0, _ => none
  | m + 1, j => match v.comp j with
    | some u => P.cond (P.ieq n (Int.ofNat j)) (K u h) (evIdx v n h K m (j + 1))
    | none => none
def Ty.width : Ty → Nat
  | .pair _ r => r.width + 1
  | _ => 1

def evOp (E : Env) (call : Handler) {ρ : Type} (o : Oper) (st : St) (K : AV → Hp → Option ρ) : Option ρ :=
  let h := st.h
  match o.op with
  | .move x | .assign x => K (opnd (E.ty o.type) st.fr x) h
  | .pick c a b => match opnd none st.fr c with
    | .data .bool t => P.cond t (K (opnd (E.ty o.type) st.fr a) h) (K (opnd (E.ty o.type) st.fr b) h)
    | _ => none
  | .alloc t => match E.ty t with
    | some L => K (.ptr h.next []) (h.new (.box (zeroAV L) L))
    | none => none
  | .box t x => match E.ty t with
    | some L => match (opnd (some L) st.fr x).solid, fitsT (opnd (some L) st.fr x) L with
      | true, true => K (.ptr h.next []) (h.new (.box (opnd (some L) st.fr x) L))
      | _, _ => none
    | none => none
  | .build t ps => match E.ty t with
    | some (.st b) => match buildParts st.fr (.st b) ps.toList (zeroAV (.st b)) with
      | some v => K v h
      | none => none
    | _ => none
  | .buildSlice t n ps => match E.ty t with
    | some (.slice e) => match fillParts e h (ps.toList.map fun p => (p.1, opnd (some e) st.fr p.2)) (List.replicate n e.zero), dataTy e, Nat.ble (n * e.size) 16777216 with
      | some xs, true, true => match unlocked h (ps.toList.flatMap fun p => (opnd (some e) st.fr p.2).owns) with
        | true => K (.own h.next) ((h.kills (ps.toList.flatMap fun p => (opnd (some e) st.fr p.2).owns)).new (.row e xs))
        | false => none
      | _, _, _ => none
    | _ => none
  | .load t a => match opnd none st.fr a with
    | .rptr u x => match decide (E.ty t = some u) with
      | true => K (.data u x) h
      | false => none
    | .ptr id p => match h.e id with
      | some (.box v L) => match offs L p with
        | some (_, u) => match decide (E.ty t = some u), v.get p with
          | true, some y => K y h
          | _, _ => none
        | none => none
      | _ => none
    | .eptr id i p => match h.e id with
      | some (.row e xs) => match offs e p with
        | some (_, u) => match decide (E.ty t = some u), (AV.data e (P.get xs i e.zero)).get p with
          | true, some y => K y h
          | _, _ => none
        | none => none
      | _ => none
    | _ => none
  | .store t a x => match opnd none st.fr a with
    | .ptr id p => match h.e id, h.lk id with
      | some (.box v L), false => match offs L p with
        | some (_, u) => match decide (E.ty t = some u), (opnd (E.ty t) st.fr x).solid, fitsT (opnd (E.ty t) st.fr x) u with
          | true, true, true => match v.set p (opnd (E.ty t) st.fr x) with
            | some v' => K .undef (h.put id (.box v' L))
            | none => none
          | _, _, _ => none
        | none => none
      | _, _ => none
    | .eptr id i p => match h.e id, h.lk id with
      | some (.row e xs), false => match offs e p with
        | some (_, u) => match decide (E.ty t = some u), memb id (opnd (E.ty t) st.fr x).owns with
          | true, false => freeze h (opnd (E.ty t) st.fr x) u fun y h' =>
            match setD e (P.get xs i e.zero) p u y with
            | some z => K .undef (h'.put id (.row e (P.set xs i z)))
            | none => none
          | _, _ => none
        | none => none
      | _, _ => none
    | _ => none
  | .nilCheck x => match opnd none st.fr x with
    | .ptr id p => match h.e id with
      | some _ => K (.ptr id p) h
      | none => none
    | .rptr t y => K (.rptr t y) h
    | .eptr id i p => match h.e id with
      | some _ => K (.eptr id i p) h
      | none => none
    | .fn f c => K (.fn f c) h
    | _ => none
  | .binOp op t x y _ => match hardAV op (opnd (E.ty t) st.fr x) (opnd (E.ty t) st.fr y) with
    | some (b, v) => test b (K v h)
    | none => match eqOk E t (opnd (E.ty t) st.fr x) with
      | true => match binAV op (opnd (E.ty t) st.fr x) (opnd (E.ty t) st.fr y) with
        | some v => K v h
        | none => none
      | false => none
  | .unOp op _ x => match op, opnd none st.fr x with
    | .not, .data .bool b => K (.data .bool (P.not b)) h
    | .neg, .data (.int k) n => K (wrapAV k (P.sub 0 n)) h
    | _, _ => none
  | .convert s t x => match E.ty s, E.ty t, opnd none st.fr x with
    | some (.int _), some (.int k), .data (.int _) n => K (wrapAV k n) h
    | some .str, some .str, .data .str s => K (.data .str s) h
    | _, _, _ => none
  | .fieldAddr s x j => match isArr E s with
   | true => none
   | false => match opnd none st.fr x with
    | .rptr (.st b) y => match decide (E.ty s = some (.st b)), compD b j y with
      | true, some q => K (.rptr q.1 q.2) h
      | _, _ => none
    | .ptr id p => match h.e id with
      | some (.box _ L) => match addPath E.ty s L p j with
        | true => K (.ptr id (p ++ [j])) h
        | false => none
      | _ => none
    | .eptr id i p => match h.e id with
      | some (.row e _) => match addPath E.ty s e p j with
        | true => K (.eptr id i (p ++ [j])) h
        | false => none
      | _ => none
    | _ => none
  | .field s x j => match isArr E s with
   | true => none
   | false => match E.ty s with
    | some L => match fitsT (opnd (some L) st.fr x) L, (opnd (some L) st.fr x).comp j with
      | true, some u => K u h
      | _, _ => none
    | none => none
  | .index t x i => match isArr E t with
   | false => none
   | true => match E.ty t with
    | some (.st b) => match fitsT (opnd (some (.st b)) st.fr x) (.st b), opnd none st.fr i with
      | true, .data (.int _) n => evIdx (opnd (some (.st b)) st.fr x) n h K b.width 0
      | _, _ => none
    | _ => none
  | .indexAddr t x i => match isArr E t with
   | false => match opnd none st.fr x, opnd none st.fr i with
    | .data (.slice e) xs, .data (.int _) n => match decide (E.ty t = some (.slice e)) with
      | true => test (P.inb n (P.len xs)) (K (.rptr e (P.get xs n e.zero)) h)
      | false => none
    | .own id, .data (.int _) n => match h.e id with
      | some (.row e xs) => match decide (E.ty t = some (.slice e)) with
        | true => test (P.inb n (P.len xs)) (K (.eptr id n []) h)
        | false => none
      | _ => none
    | _, _ => none
   | true => match opnd none st.fr x, opnd none st.fr i with
    | .ptr id p, .data (.int _) (.ofNat n) => match h.e id with
      | some (.box _ L) => match addPath E.ty t L p n with
        | true => K (.ptr id (p ++ [n])) h
        | false => none
      | _ => none
    | .rptr (.st b) y, .data (.int _) (.ofNat n) => match decide (E.ty t = some (.st b)), compD b n y with
      | true, some q => K (.rptr q.1 q.2) h
      | _, _ => none
    | _, _ => none
  | .slice t x lo hi mx => evSlice (E.ty t) (opnd none st.fr x) (lo.map (opnd none st.fr)) (hi.map (opnd none st.fr)) (mx.map (opnd none st.fr)) h K
  | .makeFunc (.func f) first caps => match first.toList with
    | [] => K (.fn f (capsOf (caps.toList.map (opnd none st.fr)))) h
    | _ => none
  | .extract t j => match opnd none st.fr t with
    | .tup b => match tupP b j with
      | some u => K u h
      | none => none
    | _ => none
  | .call c => match c.callee with
    | .builtin b => evBuiltin E b c.argTypes (c.args.toList.map (opnd none st.fr)) h K
    | .value f => match opnd none st.fr f with
      | .fn g caps =>
        match Nat.beq c.args.toList.length c.argTypes.toList.length with
        | false => none
        | true => match look E.specs g, caps with
          | some s, .unit => callSpec s ((c.args.toList.zip c.argTypes.toList).map fun p => opnd (E.ty p.2) st.fr p.1) h K
          | _, _ => call g (((c.args.toList.zip c.argTypes.toList).map fun p => opnd (E.ty p.2) st.fr p.1) ++ capsList caps) h K
      | _ => none
    | _ => none
  | _ => none

/-! ### regions -/
def skipOp {ρ : Type} (o : Oper) (st : St) (K : St → Option ρ) : Option ρ := match st.put o.dst (.tup .unit) with
  | some st' => K st'
  | none => none
def doOp (E : Env) (call : Handler) {ρ : Type} (o : Oper) (st : St) (K : St → Option ρ) : Option ρ :=
  evOp E call o st fun v h => match ({ st with h := h } : St).put o.dst v with
    | some st' => K st'
    | none => none

def refine1 (st : St) (t : Nat) (b : Bool) : St := { st with fr := set1 st.fr t (.data .bool b) }

def evOps (E : Env) (call : Handler) {ρ : Type} (all : List Oper) : List Oper → St → (St → Option ρ) → Option ρ
  | [], st, K => K st
  | o :: r, st, K => match o.guard with
    | none => doOp E call o st fun st' => evOps E call all r st' K
    | some (j, want) => match all[j]? with
      | some oj => match oj.dst with
        | some t => match st.fr t with
          | .data .bool b => P.cond b
              (match want with
                | true => doOp E call o (refine1 st t true) fun st' => evOps E call all r st' K
                | false => skipOp o (refine1 st t true) fun st' => evOps E call all r st' K)
              (match want with
                | true => skipOp o (refine1 st t false) fun st' => evOps E call all r st' K
                | false => doOp E call o (refine1 st t false) fun st' => evOps E call all r st' K)
          | .tup .unit => skipOp o st fun st' => evOps E call all r st' K
          | _ => none
        | none => none
      | none => none

/-! ### loops -/
def Code.key : Code → Nat
  | .region id _ _ => id
  | .seq a _ => Code.key a
  | .block _ c => Code.key c
  | .loop c => Code.key c
  | _ => 0

def assigned : Code → List Nat
  | .region _ ops _ => ops.toList.filterMap (·.dst)
  | .seq a b => assigned a ++ assigned b
  | .cond _ a b => assigned a ++ assigned b
  | .block _ c => assigned c
  | .loop c => assigned c
  | _ => []

/-- Follow a way from a slot: through a function's captured addresses. -/
def follow : AV → List Nat → Option AV
  | v, [] => some v
  | .fn _ c, j :: p => match tupP c j with
    | some u => follow u p
    | none => none
  | _, _ :: _ => none

/-- Read a shape; beside it: the rows that stay one's own, and those given up. -/
def unSh (h : Hp) : (sh : Sh) → AV → Option (sh.D × List Nat × List Nat)
  | .d t, v => match toD h v t with
    | some x => some (x, [], v.owns)
    | none => none
  | .o e, v => match toD h v (.slice e), v with
    | some xs, .own id => some (xs, [id], [])
    | some xs, .nilS _ => some (xs, [], [])
    | _, _ => none
  | .p a b, .pr u v => match unSh h a u with
    | some (x, l, l') => match unSh h b v with
      | some (y, m, m') => some ((x, y), l ++ m, l' ++ m')
      | none => none
    | none => none
  | .s b, .st v => unSh h b v
  | _, _ => none

def packSh : (sh : Sh) → sh.D → Hp → AV × Hp
  | .d t, x, h => (.data t x, h)
  | .o e, xs, h => (.own h.next, h.new (.row e xs))
  | .p a b, x, h => (.pr (packSh a x.1 h).1 (packSh b x.2 (packSh a x.1 h).2).1, (packSh b x.2 (packSh a x.1 h).2).2)
  | .s b, x, h => (.st (packSh b x h).1, (packSh b x h).2)

/-- Read an item. fr0: the frame by which boxes and cells are found. -/
def unItem (fr0 : Nat → AV) (st : St) : (i : Item) → Option (i.D × List Nat × List Nat)
  | .var t sh => unSh st.h sh (st.fr t)
  | .cel t p e => match (follow (fr0 t) p) with
    | some (.own id) => match st.h.e id with
      | some (.row e' xs) => if q : e' = e then some (q ▸ xs, [], []) else none
      | _ => none
    | _ => none
  | .box t p sh => match (follow (fr0 t) p) with
    | some (.ptr id []) => match st.h.e id with
      | some (.box v _) => unSh st.h sh v
      | _ => none
    | _ => none

def unItems (fr0 : Nat → AV) (st : St) : (l : List Item) → Option (ItemsD l × List Nat × List Nat)
  | [] => some ((), [], [])
  | [i] => unItem fr0 st i
  | i :: j :: r => match unItem fr0 st i with
    | some (x, l, l') => match unItems fr0 st (j :: r) with
      | some (y, m, m') => some ((x, y), l ++ m, l' ++ m')
      | none => none
    | none => none

/-- The ids that an item's place bears. -/
def kept1 (fr0 : Nat → AV) : Item → Option (List Nat)
  | .var _ _ => some []
  | .cel t p _ => match follow (fr0 t) p with
    | some (.own id) => some [id]
    | _ => none
  | .box t p _ => match follow (fr0 t) p with
    | some (.ptr id []) => some [id]
    | _ => none
def kept (fr0 : Nat → AV) : List Item → Option (List Nat)
  | [] => some []
  | i :: r => match kept1 fr0 i with
    | some l => match kept fr0 r with
      | some m => some (l ++ m)
      | none => none
    | none => none
/-- Boxes whose contents are not asked for again. -/
def scrIds (fr0 : Nat → AV) : List Nat → Option (List Nat)
  | [] => some []
  | t :: r => match fr0 t with
    | .ptr id [] => match scrIds fr0 r with
      | some m => some (id :: m)
      | none => none
    | _ => none

def nodup : List Nat → Bool
  | [] => true
  | i :: l => match memb i l with
    | true => false
    | false => nodup l

def subs : List Nat → List Nat → Bool
  | [], _ => true
  | i :: l, m => match memb i m with
    | true => subs l m
    | false => false

def above (n : Nat) : List Nat → Bool
  | [] => true
  | i :: l => match Nat.ble n i with
    | true => above n l
    | false => false

/-- What was a box is a box. -/
def alive (h h' : Hp) : List Nat → Bool
  | [] => true
  | i :: l => match h.e i with
    | some (.box _ _) => match h'.e i with
      | some (.box _ _) => alive h h' l
      | _ => false
    | _ => alive h h' l

/-- Lay an item: st holds what has been laid. -/
def packItem (fr0 : Nat → AV) : (i : Item) → i.D → St → Option St
  | .var t sh, x, st => some { st with fr := set1 st.fr t (packSh sh x st.h).1, h := (packSh sh x st.h).2 }
  | .cel t p e, xs, st => match follow (fr0 t) p with
    | some (.own id) => some { st with h := st.h.put id (.row e xs) }
    | _ => none
  | .box t p sh, x, st => match follow (fr0 t) p with
    | some (.ptr id []) => match st.h.e id with
      | some (.box _ L) => match fitsT (packSh sh x st.h).1 L with
        | true => some { st with h := (packSh sh x st.h).2.put id (.box (packSh sh x st.h).1 L) }
        | false => none
      | _ => none
    | _ => none

def packItems (fr0 : Nat → AV) : (l : List Item) → ItemsD l → St → Option St
  | [], _, st => some st
  | [i], x, st => packItem fr0 i x st
  | i :: j :: r, x, st => match packItem fr0 i x.1 st with
    | some st' => packItems fr0 (j :: r) x.2 st'
    | none => none


/-- Nothing is known of what these ids bear. -/
def clr (h : Hp) (l : List Nat) : Hp :=
  { e := fun i => match memb i l with
      | true => match h.e i with
        | some (.box _ L) => match fitsT (undefOf L) L with
          | true => some (.box (undefOf L) L)
          | false => none
        | _ => none
      | false => h.e i
    lk := fun i => match memb i l with
      | true => false
      | false => h.lk i
    next := h.next }

/-- The state inside a loop, ahead of its items: what the body doesn't set stays and is locked. -/
def inner (as : List Nat) (st : St) (c : List Nat) : St :=
  { n := st.n
    fr := fun t => match memb t as with
      | true => .undef
      | false => st.fr t
    ro := fun t => match memb t as with
      | true => st.ro t
      | false => true
    h := clr { e := st.h.e, lk := fun i => Nat.blt i st.h.next, next := st.h.next } c }

/-- The state behind a loop: st1's slots and heap under st0's locks. -/
def outer (st0 st1 : St) : St := { st1 with ro := st0.ro, h := { st1.h with lk := st0.h.lk } }

/-- Read the items once more; c: the ids that the loop may write. -/
def again (st b : St) (c : List Nat) (s : St) (l : List Item) : Option (ItemsD l) :=
  match alive b.h s.h c with
  | false => none
  | true => match unItems st.fr s l, kept st.fr l with
    | some (z, os, ds), some ks => match nodup (ks ++ (os ++ ds)), subs ks c, unlocked s.h (ks ++ (os ++ ds)), above st.h.next (os ++ ds) with
      | true, true, true, true => some z
      | _, _, _, _ => none
    | _, _ => none

def evLoop {ρ : Type} (k : Nat) (hint : Option Hint) (as : List Nat) (st : St)
    (body : ∀ {σ : Type}, St → (St → Option σ) → (Nat → St → Option σ) → (St → Option σ) → Option σ)
    (ke : Nat → St → Option ρ) (kr : St → Option ρ) : Option ρ :=
  match hint with
  | none => none
  | some ⟨hd, scr, out⟩ => match scrIds st.fr scr, kept st.fr hd, unItems st.fr st hd with
    | some sc, some ks, some (x, os, ds) => match unlocked st.h (sc ++ ks), unlocked st.h (os ++ ds), nodup (ks ++ (os ++ ds)) with
      | true, true, true =>
        let b := inner as { st with h := st.h.kills (os ++ ds) } (sc ++ ks)
        match out with
        | none => P.iter k (fun y => match packItems st.fr hd y b with
            | none => none
            | some s => body s (fun s' => match again st b (sc ++ ks) s' hd with
                | some z => some (Sum.inl z)
                | none => none) (fun i s' => P.map .inr (ke i (outer st s'))) (fun s' => P.map .inr (kr (outer st s')))) x
        | some (i0, tl) => P.bind (P.iter (ρ := ItemsD tl ⊕ ρ) k (fun y => match packItems st.fr hd y b with
            | none => none
            | some s => body s (fun s' => match again st b (sc ++ ks) s' hd with
                | some z => some (Sum.inl z)
                | none => none)
              (fun i s' => match Nat.beq i i0 with
                | true => match again st b (sc ++ ks) s' tl with
                  | some z => some (Sum.inr (Sum.inl z))
                  | none => none
                | false => P.map (fun r => .inr (.inr r)) (ke i (outer st s')))
              (fun s' => P.map (fun r => .inr (.inr r)) (kr (outer st s')))) x) (P.either (fun z => match packItems st.fr tl z b with
              | none => none
              | some s => ke i0 (outer st s)) fun r => some r)
      | _, _, _ => none
    | _, _, _ => none

/-! ### regions whose order is drawn -/
def isLight (E : Env) : Op → Bool
  | .move _ | .assign _ | .pick _ _ _ | .load _ _ | .nilCheck _ | .binOp _ _ _ _ _ | .unOp _ _ _ | .convert _ _ _ | .fieldAddr _ _ _ | .field _ _ _ | .index _ _ _ | .indexAddr _ _ _ | .extract _ _ | .makeFunc _ _ _ | .slice _ _ _ _ _ => true
  | .call c => match c.callee with
    | .builtin .len => true
    | .value (.func g) => match look E.specs g with
      | some _ => true
      | none => false
    | _ => false
  | _ => false

def makes (E : Env) : Op → Option Maker
  | .call c => match c.callee, c.args.toList with
    | .value (.func g), [] => look E.lays g
    | _, _ => none
  | _ => none
def isAlloc (E : Env) : Op → Bool
  | .alloc _ => true
  | o => match makes E o with
    | some _ => true
    | none => false

def noCall : Handler := fun _ _ _ _ => none

def nobody : List Nat → Bool
  | [] => true
  | _ => false

/-- A call that gives up nothing. -/
def evLcall {ρ : Type} (E : Env) (c : Call) (st : St) (K : AV → Hp → Option ρ) : Option ρ :=
  match c.callee with
  | .builtin .len => evBuiltin E .len c.argTypes (c.args.toList.map (opnd none st.fr)) st.h K
  | .value (.func g) => match Nat.beq c.args.toList.length c.argTypes.toList.length, look E.specs g with
    | true, some s => match argsD st.h ((c.args.toList.zip c.argTypes.toList).map fun p => opnd (E.ty p.2) st.fr p.1) s.a with
      | some v => match toD st.h v s.a, (match s.r.flat with | true => true | false => nobody v.owns) with
        | some x, true => P.bind (s.F x) fun r => K (resAV s.r r) st.h
        | _, _ => none
      | none => none
    | _, _ => none
  | _ => none

/-- Slices of what is not one's own. -/
def evLslice {ρ : Type} (ty : Option Ty) (x : AV) (lo hi mx : Option AV) (h : Hp) (K : AV → Hp → Option ρ) : Option ρ :=
  match x with
  | .own _ => none
  | x => evSlice ty x lo hi mx h K

def evLight {ρ : Type} (E : Env) (o : Oper) (st : St) (K : AV → Hp → Option ρ) : Option ρ :=
  match o.op with
  | .call c => evLcall E c st K
  | .slice t x lo hi mx => evLslice (E.ty t) (opnd none st.fr x) (lo.map (opnd none st.fr)) (hi.map (opnd none st.fr)) (mx.map (opnd none st.fr)) st.h K
  | _ => evOp E noCall o st K

/-- n0 + i: the id that operation i may take. -/
def evDop {ρ : Type} (E : Env) (call : Handler) (n0 i : Nat) (o : Oper) (st : St) (K : AV → Hp → Option ρ) : Option ρ :=
  match isLight E o.op with
  | true => evLight E o st K
  | false => match o.op with
    | .alloc t => match E.ty t, st.h.e (n0 + i), st.h.lk (n0 + i) with
      | some L, some .rsv, false => K (.ptr (n0 + i) []) (st.h.put (n0 + i) (.box (zeroAV L) L))
      | _, _, _ => none
    | op => match makes E op with
      | some m => match st.h.e (n0 + i), st.h.lk (n0 + i) with
        | some .rsv, false => K (m.f (n0 + i)) (st.h.put (n0 + i) (.box m.v m.L))
        | _, _ => none
      | none => evOp E call o st K

def putK {ρ : Type} (o : Oper) (st : St) (K : St → Option ρ) (v : AV) (h : Hp) : Option ρ := match ({ st with h := h } : St).put o.dst v with
  | some st' => K st'
  | none => none

def evDstep {ρ : Type} (E : Env) (call : Handler) (n0 : Nat) (all : List Oper) (i : Nat) (o : Oper) (st : St) (K : St → Option ρ) : Option ρ :=
  match o.guard with
  | none => evDop E call n0 i o st (putK o st K)
  | some (j, want) => match all[j]? with
    | some oj => match oj.dst with
      | some t => match st.fr t with
        | .data .bool b => P.cond b
            (match want with
              | true => evDop E call n0 i o (refine1 st t true) (putK o (refine1 st t true) K)
              | false => skipOp o (refine1 st t true) K)
            (match want with
              | true => skipOp o (refine1 st t false) K
              | false => evDop E call n0 i o (refine1 st t false) (putK o (refine1 st t false) K))
        | .tup .unit => skipOp o st K
        | _ => none
      | none => none
    | none => none

def evD {ρ : Type} (E : Env) (call : Handler) (n0 : Nat) (all : List Oper) : List (Nat × Oper) → St → (St → Option ρ) → Option ρ
  | [], st, K => K st
  | (i, o) :: r, st, K => evDstep E call n0 all i o st fun st' => evD E call n0 all r st' K

def reserve (h : Hp) (n : Nat) : Hp :=
  { e := fun id => match Nat.ble h.next id, Nat.blt id (h.next + n) with
      | true, true => some .rsv
      | _, _ => h.e id
    lk := h.lk
    next := h.next + n }

def enum {α : Type} : Nat → List α → List (Nat × α)
  | _, [] => []
  | i, x :: l => (i, x) :: enum (i + 1) l

def evDraw {ρ : Type} (E : Env) (call : Handler) (ops : List Oper) (st : St) (K : St → Option ρ) : Option ρ :=
  evD E call st.h.next ops (enum 0 ops) { st with h := reserve st.h ops.length } K

/-- Which operations come ahead of operation j, as bits. -/
def edgeMask (acc : List Nat) (j : Nat) : List Edge → Option Nat
  | [] => some 0
  | e :: r => match Region.binds .any e with
    | false => edgeMask acc j r
    | true => match Nat.blt e.on j with
      | true => match edgeMask acc j r with
        | some m => some (Nat.lor (Nat.lor (Nat.shiftLeft 1 e.on) (acc.getD e.on 0)) m)
        | none => none
      | false => none
def masks : List Nat → Nat → List Oper → Option (List Nat)
  | acc, _, [] => some acc
  | acc, j, o :: r => match edgeMask acc j o.after.toList with
    | some m => masks (acc ++ [m]) (j + 1) r
    | none => none

def tmpsOf : List Operand → List Nat
  | [] => []
  | .tmp t :: r => t :: tmpsOf r
  | _ :: r => tmpsOf r
def looks (all : List Oper) (o : Oper) : List Nat :=
  (match o.guard with
   | some (g, _) => match all[g]? with
     | some og => match og.dst with
       | some t => [t]
       | none => []
     | none => []
   | none => []) ++ tmpsOf o.op.operands.toList

def free (E : Env) (o : Oper) : Bool := match isLight E o.op with
  | true => true
  | false => isAlloc E o.op

def clear (d : Option Tmp) (l : List Nat) : Bool := match d with
  | some t => match memb t l with
    | true => false
    | false => true
  | none => true

def indep (E : Env) (all : List Oper) (x y : Oper) : Bool := match free E x, free E y with
  | true, true => match clear x.dst (looks all y), clear y.dst (looks all x), clear x.dst y.dst.toList with
    | true, true, true => true
    | _, _, _ => false
  | _, _ => false

/-- Operation j with each one listed ahead of it. -/
def rowOk (E : Env) (all : List Oper) (j : Nat) (oj : Oper) (m : Nat) : Nat → List Oper → Bool
  | _, [] => true
  | i, o :: r => match Nat.blt i j with
    | false => true
    | true => match Nat.testBit m i with
      | true => rowOk E all j oj m (i + 1) r
      | false => match indep E all o oj with
        | true => rowOk E all j oj m (i + 1) r
        | false => false
def rowsOk (E : Env) (all : List Oper) : Nat → List Oper → List Nat → Bool
  | _, [], _ => true
  | j, o :: r, m :: ms => match rowOk E all j o m 0 all with
    | true => rowsOk E all (j + 1) r ms
    | false => false
  | _, _ :: _, [] => false
def drawOk (E : Env) (ops : List Oper) : Bool := match masks [] 0 ops with
  | some ms => rowsOk E ops 0 ops ms
  | none => false

/-! ### code -/
def evC (E : Env) (call : Handler) (hs : List (Nat × Hint)) : Code → ∀ {ρ : Type}, St → (St → Option ρ) → (Nat → St → Option ρ) → (St → Option ρ) → Option ρ
  | .skip, _, st, kn, _, _ => kn st
  | .region _ ops draw, _, st, kn, _, _ => match draw with
    | false => evOps E call ops.toList ops.toList st kn
    | true => match drawOk E ops.toList with
      | true => evDraw E call ops.toList st kn
      | false => none
  | .seq a b, _, st, kn, ke, kr => evC E call hs a st (fun st' => evC E call hs b st' kn ke kr) ke kr
  | .cond c a b, _, st, kn, ke, kr => match c with
    | .tmp t => match st.fr t with
      | .data .bool x => P.cond x (evC E call hs a (refine1 st t true) kn ke kr) (evC E call hs b (refine1 st t false) kn ke kr)
      | _ => none
    | .const (.bool x) => P.cond x (evC E call hs a st kn ke kr) (evC E call hs b st kn ke kr)
    | _ => none
  | .block id c, _, st, kn, ke, kr => evC E call hs c st kn (fun i st' => match Nat.beq i id with
    | true => kn st'
    | false => ke i st') kr
  | .loop c, _, st, _, ke, kr => evLoop E.k (look hs (Code.key c)) (assigned c) st (fun s kn' ke' kr' => evC E call hs c s kn' ke' kr') ke kr
  | .exit id, _, st, _, ke, _ => ke id st
  | .ret, _, st, _, _, kr => kr st
  | _, _, _, _, _, _ => none

def resOf (E : Env) (h : Hp) (fr : Nat → AV) : ResultVar → Option AV
  | .tmp t => some (fr t)
  | .cell a t => match fr a with
    | .ptr id p => match h.e id with
      | some (.box v L) => match offs L p with
        | some (_, u) => match decide (E.ty t = some u) with
          | true => v.get p
          | false => none
        | none => none
      | _ => none
    | _ => none

def ressOf (E : Env) (h : Hp) (fr : Nat → AV) : List ResultVar → Option AV
  | [] => some .unit
  | r :: l => match resOf E h fr r with
    | some v => match ressOf E h fr l with
      | some u => some (.pr v u)
      | none => none
    | none => none

def resultAV (E : Env) (h : Hp) (fr : Nat → AV) (l : List ResultVar) : Option AV :=
  match l with
  | [r] => resOf E h fr r
  | l => match ressOf E h fr l with
    | some v => some (.tup v)
    | none => none

def argsFr : List AV → Nat → AV
  | [], _ => .undef
  | v :: _, 0 => v
  | _ :: l, t + 1 => argsFr l t

def evBody (E : Env) (call : Handler) {ρ : Type} (fn : Func) (hs : List (Nat × Hint)) (args : List AV) (h : Hp) (K : AV → Hp → Option ρ) : Option ρ :=
  match fn.body with
  | none => none
  | some c =>
    let fin := fun (st : St) => match resultAV E st.h st.fr fn.results.toList with
      | some v => K v st.h
      | none => none
    evC E call hs c { n := fn.ntmps, fr := argsFr args, ro := fun _ => false, h := h } fin (fun _ _ => none) fin

def evCall (E : Env) : Nat → Handler
  | 0 => fun _ _ _ _ => none
  | n + 1 => fun f args h K => match look E.codes f with
    | some (fn, hs) => evBody E (evCall E n) fn hs args h K
    | none => none

def h0 : Hp := { e := fun _ => none, lk := fun _ => false, next := 0 }

/-- A chain of values as data. -/
def toChain (h : Hp) : AV → (t : Ty) → Option t.D
  | .pr a r, .pair ta tr => match toD h a ta with
    | some x => match toChain h r tr with
      | some y => some (x, y)
      | none => none
    | none => none
  | .pr _ _, .unit => none
  | .pr a .unit, t => toD h a t
  | _, _ => none

def toRes (h : Hp) : (t : Ty) → AV → Option t.D
  | .pair a b, .tup v => toChain h v (.pair a b)
  | .pair _ _, _ => none
  | .unit, .tup .unit => some ()
  | .unit, _ => none
  | t, v => toD h v t

def evFn (E : Env) (n : Nat) (fn : Func) (hs : List (Nat × Hint)) (a r : Ty) (x : a.D) : Option r.D :=
  evBody E (evCall E n) fn hs (argList a x) h0 fun v h => toRes h r v

end Go.PG
