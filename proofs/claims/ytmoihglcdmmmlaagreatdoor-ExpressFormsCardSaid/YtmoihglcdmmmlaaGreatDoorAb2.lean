/-
  The executor: a lean form of a function's code (LC: statements over expression trees X), and what it comes to (exec), by a bound on the steps. Plain functions: nothing here is of any program, and nothing is proved here but the equations by which they are read.
-/
import Derived.Test.YtmoihglcdmmmlaaGreatDoorAb1
namespace Go.Proofs.YtmoihglcdmmmlaaGreatDoor
open Go
noncomputable section

abbrev Tm := List AV

def undefA : AV := .tup []

def tget (t : Tm) : Nat → AV := List.rec (fun _ => undefA) (fun x _ ih n => Nat.rec x (fun m _ => ih m) n) t
def tset (t : Tm) : Nat → AV → Tm := List.rec (fun _ _ => []) (fun x xs ih n v => Nat.rec (v :: xs) (fun m _ => x :: ih m v) n) t

theorem tget_nil (n : Nat) : tget [] n = undefA := rfl
theorem tget_zero (x : AV) (xs : Tm) : tget (x :: xs) 0 = x := rfl
theorem tget_succ (x : AV) (xs : Tm) (n : Nat) : tget (x :: xs) (n + 1) = tget xs n := rfl
theorem tset_nil (n : Nat) (v : AV) : tset [] n v = [] := rfl
theorem tset_zero (x : AV) (xs : Tm) (v : AV) : tset (x :: xs) 0 v = v :: xs := rfl
theorem tset_succ (x : AV) (xs : Tm) (n : Nat) (v : AV) : tset (x :: xs) (n + 1) v = x :: tset xs n v := rfl

inductive Od where
  | t (i : Nat)
  | c (v : AV)
  | g (n : Nat)

/-- Operations of one operand. -/
inductive U where
  | mv
  | ld
  | lda (n : Nat)
  | fad (o : Nat)
  | nck
  | un (o : UnOp)
  | cvi (k : IntKind)
  | cvid
  | cvbs
  | fld (o n : Nat) (a : Bool)
  | ext (i : Nat)
  | len
  | lens
  | usd
  | box (e : Nat)
  | cvp (e n : Nat)

/-- Operations of two operands. -/
inductive B where
  | bin (o : BinOp)
  | eqp (n : Bool)
  | eqb (n : Bool)
  | eqs (n : Bool)
  | st
  | sta (n : Nat)
  | iad (sz : Nat)
  | iaa (n sz : Nat)
  | ixs
  | app (sz bytes e : Nat)
  | appg (sz bytes e : Nat)
  | mx
  | mn
  | ust (e : Nat)
  | mks (z : List AV) (bytes e : Nat)

/-- Operations of a list of operands. -/
inductive K where
  | pick
  | build (z : List AV) (ps : List (Nat × Nat))
  | bsl (sz e : Nat)
  | mkf (f : FuncId) (n : Nat)
  | sls (a b : Bool)
  | slv (sz : Nat) (a b : Bool)
  | call (f : FuncId)
  | callv

/-- Expressions: each operation with the slot that the program gives it. sw: the second operand's operations stand first. gd: 'c and b' (w true, df false), 'c or b' (w false, df true). -/
inductive X where
  | od (o : Od)
  | u (d : Option Nat) (f : U) (x : X)
  | b (d : Option Nat) (sw : Bool) (f : B) (x y : X)
  | k (d : Option Nat) (f : K) (xs : X)
  | nil
  | cons (x xs : X)
  | a (d : Option Nat) (z : List AV) (e : Nat)
  | gd (d : Option Nat) (w df : Bool) (c b : X)

/-- A statement: into which of the frame's slots; only if that slot has that truth (then the expression is one operation). -/
structure LS where
  d : Option Nat
  g : Option (Nat × Bool)
  x : X

/-- In a region that draws its order: what an operation is: it looks at no box; it reads boxes, between so many of the main ones; a main one; a new box. -/
inductive DK where
  | p
  | l (lo hi : Nat)
  | m
  | a

structure DO where
  k : DK
  pr : List Nat
  o : LS

inductive LC where
  | skip
  | reg (ops : List LS)
  | drw (ops : List DO)
  | seq (a b : LC)
  | cond (c : Od) (a b : LC)
  | blk (id : Nat) (c : LC)
  | loop (c : LC)
  | exit (id : Nat)
  | scope (c : LC)
  | again (c r : LC)
  | label (l : Nat)
  | goto (l : Nat)
  | ret
  | stop

inductive LR where
  | t (i : Nat)
  | c (a : Nat)
  | ca (a n : Nat)

/-- A function: how many slots the frame has, how many of them are its parameters, its code, its results, and which slot of the program's each slot of the frame is. -/
structure LF where
  n : Nat
  np : Nat
  code : LC
  res : List LR
  m : List Nat

inductive Ex where
  | nrm
  | exit (id : Nat)
  | goto (l : Nat)
  | ret

inductive R where
  | no
  | ok (e : Ex) (t : Tm) (s : St)

inductive Rv where
  | no
  | ok (v : AV) (s : St)

structure Env where
  fn : Nat → Option LF
  it : Nat → Option (List AV → St → Rv)
  gl : Nat → Option (List AV)

def Env.ev (E : Env) (t : Tm) : Od → AV
  | .t i => tget t i
  | .c v => v
  | .g n => match E.gl n with
    | some cs => .eptr cs 0
    | none => undefA

mutual
def AV.beq : AV → AV → Bool
  | .bool a, .bool b => a == b
  | .int j a, .int k b => decide (j = k) && decide (a = b)
  | .str a, .str b => decide (a = b)
  | .nilp, .nilp => true
  | .ptr a b, .ptr c d => Nat.beq a c && Nat.beq b d
  | .eptr a b, .eptr c d => Nat.beq b d && AV.beqs a c
  | .nils, .nils => true
  | .sl a b c, .sl a' b' c' => Nat.beq a a' && (Nat.beq b b' && AV.beqs c c')
  | .ms a b c, .ms a' b' c' => Nat.beq a a' && (Nat.beq b b' && Nat.beq c c')
  | .gs a b, .gs a' b' => Nat.beq a a' && Nat.beq b b'
  | .gp a b c d, .gp a' b' c' d' => Nat.beq a a' && (Nat.beq b b' && (Nat.beq c c' && Nat.beq d d'))
  | .tp a b c, .tp a' b' c' => Nat.beq a a' && (Nat.beq b b' && AV.beqs c c')
  | .fn f a b, .fn f' a' b' => Nat.beq f f' && (AV.beqs a a' && AV.beqs b b')
  | .nilfn, .nilfn => true
  | .niface, .niface => true
  | .agg a, .agg b => AV.beqs a b
  | .tup a, .tup b => AV.beqs a b
  | _, _ => false
def AV.beqs : List AV → List AV → Bool
  | [], [] => true
  | x :: xs, y :: ys => AV.beq x y && AV.beqs xs ys
  | _, _ => false
end

-- ---------------------------------------------------------------- the operations, one by one
def opt (s : St) (o : Option AV) : Rv :=
  match o with
  | some v => .ok v s
  | none => .no

def newBox (e : Nat) (cs : List AV) (s : St) : Rv :=
  .ok (.ptr s.nx 0) { s with hp := s.hp.set s.nx cs, nx := s.nx + 1, ty := s.ty.set s.nx e }

/-- Cells put in from a place on. -/
def splice : List AV → Nat → List AV → List AV
  | cs, 0, [] => cs
  | [], _, _ => []
  | _ :: cs, 0, x :: xs => x :: splice cs 0 xs
  | c :: cs, n + 1, xs => c :: splice cs n xs

def buildA : List AV → List (Nat × Nat) → List AV → Option (List AV)
  | z, [], [] => some z
  | z, (o, n) :: ps, x :: xs =>
    let c := x.cells
    bif Nat.beq c.length n && Nat.ble (o + n) z.length then buildA (splice z o c) ps xs else none
  | _, _, _ => none

def bslA (sz : Nat) : List AV → Bool
  | [] => true
  | x :: xs => Nat.beq x.cells.length sz && (x.cells.all AV.one && bslA sz xs)

/-- A new slice of these, with a token of its own. -/
def newSl (sz e : Nat) (els : List AV) (s : St) : Rv :=
  let n := els.length
  .ok (.sl s.nt n els) { s with tk := s.tk.set s.nt (.f n sz e), nt := s.nt + 1 }

/-- The element at a place of a slice that is still its maker's own. -/
def gel (s : St) (t n z i : Nat) : Option AV :=
  match s.tk.get t with
  | some (.g z' _ els) => bif Nat.beq n els.length && Nat.beq z z' then nth els i else none
  | _ => none

/-- The cells behind a pointer, and where it points among them. -/
def cellsAt (s : St) (p : AV) : Option (List AV × Nat) :=
  match p with
  | .ptr b o => (match s.hp.get b with
    | some cs => some (cs, o)
    | none => none)
  | .eptr cs o => some (cs, o)
  | .gp t n z p => (match gel s t n z (p / z) with
    | some e => some (e.cells, p % z)
    | none => none)
  | _ => none

def ldA (s : St) (p : AV) : Option AV :=
  match cellsAt s p with
  | some (cs, o) => nth cs o
  | none => none

def cut (o n : Nat) (cs : List AV) : Option AV :=
  bif Nat.ble (o + n) cs.length then some (.agg ((cs.drop o).take n)) else none

def ldaA (n : Nat) (s : St) (p : AV) : Option AV :=
  match cellsAt s p with
  | some (cs, o) => cut o n cs
  | none => none

/-- An element with cells put in. -/
def AV.put (e : AV) (o : Nat) (vs : List AV) : AV :=
  match e with
  | .agg cs => .agg (splice cs o vs)
  | _ => match vs with
    | [v] => v
    | _ => e

def setNth {α : Type} : List α → Nat → α → List α
  | [], _, _ => []
  | _ :: xs, 0, v => v :: xs
  | x :: xs, n + 1, v => x :: setNth xs n v

def stgA (t n z i o : Nat) (vs : List AV) (s : St) : Rv :=
  match s.tk.get t with
  | some (.g sz ty els) => (match nth els i with
    | some e => bif Nat.beq n els.length && (Nat.beq z sz && Nat.ble (o + vs.length) e.cells.length) then
        .ok undefA { s with tk := s.tk.set t (.g sz ty (setNth els i (e.put o vs))) } else .no
    | none => .no)
  | _ => .no

/-- Cells are written behind a pointer. -/
def storeA (p : AV) (vs : List AV) (s : St) : Rv :=
  bif vs.all AV.one then
    match p with
    | .ptr b o => (match s.hp.get b with
      | some cs => bif Nat.ble (o + vs.length) cs.length then .ok undefA { s with hp := s.hp.set b (splice cs o vs) } else .no
      | none => .no)
    | .gp t n z p => stgA t n z (p / z) (p % z) vs s
    | _ => .no
  else .no

def stA (p v : AV) (s : St) : Rv := storeA p [v] s

def staA (n : Nat) (p v : AV) (s : St) : Rv :=
  match v with
  | .agg vs => bif Nat.beq vs.length n then storeA p vs s else .no
  | _ => .no

def nckA : AV → Option AV
  | .nilp | .niface | .nilfn => none
  | x => some x

def kEq : IntKind → IntKind → Bool
  | .i8, .i8 | .i16, .i16 | .i32, .i32 | .i64, .i64 | .u8, .u8 | .u16, .u16 | .u32, .u32 | .u64, .u64 => true
  | _, _ => false

def wrapI (k : IntKind) (n : Int) : Int :=
  match k, n with
  | .i64, .ofNat m => bif Nat.ble m 9223372036854775807 then .ofNat m else k.wrap n
  | _, _ => k.wrap n

def isubI : Int → Int → Int
  | .ofNat a, .ofNat b => bif Nat.ble b a then .ofNat (a - b) else Int.ofNat a - Int.ofNat b
  | a, b => a - b

def iltI : Int → Int → Bool
  | .ofNat a, .ofNat b => Nat.blt a b
  | .negSucc _, .ofNat _ => true
  | .ofNat _, .negSucc _ => false
  | a, b => decide (a < b)

def ieqI : Int → Int → Bool
  | .ofNat a, .ofNat b => Nat.beq a b
  | .negSucc a, .negSucc b => Nat.beq a b
  | _, _ => false

def intA (o : BinOp) (k : IntKind) (a b : Int) : Option AV :=
  match o with
  | .add => some (.int k (wrapI k (a + b)))
  | .sub => some (.int k (wrapI k (isubI a b)))
  | .mul => some (.int k (k.wrap (a * b)))
  | .eql => some (.bool (ieqI a b))
  | .neq => some (.bool (!(ieqI a b)))
  | .lss => some (.bool (iltI a b))
  | .geq => some (.bool (!(iltI a b)))
  | .gtr => some (.bool (iltI b a))
  | .leq => some (.bool (!(iltI b a)))
  | .quo => bif ieqI b 0 then none else some (.int k (k.wrap (a.tdiv b)))
  | .rem => bif ieqI b 0 then none else some (.int k (a.tmod b))
  | .and => some (.int k (k.wrap (BitVec.ofInt k.bits a &&& BitVec.ofInt k.bits b).toNat))
  | .or => some (.int k (k.wrap (BitVec.ofInt k.bits a ||| BitVec.ofInt k.bits b).toNat))
  | .xor => some (.int k (k.wrap (BitVec.ofInt k.bits a ^^^ BitVec.ofInt k.bits b).toNat))
  | .andNot => some (.int k (k.wrap (BitVec.ofInt k.bits a &&& ~~~ (BitVec.ofInt k.bits b)).toNat))
  | _ => none

def shiftA (o : BinOp) (k : IntKind) (a b : Int) : Option AV :=
  bif iltI b 0 then none else
  match o with
  | .shl => some (.int k (k.wrap (a * 2 ^ (min b.toNat k.bits))))
  | .shr => some (.int k (a.fdiv (2 ^ (min b.toNat k.bits))))
  | _ => none

def strEq : List Nat → List Nat → Bool
  | [], [] => true
  | a :: x, b :: y => Nat.beq a b && strEq x y
  | _, _ => false

def strLt : List Nat → List Nat → Bool
  | _, [] => false
  | [], _ :: _ => true
  | a :: x, b :: y => Nat.blt a b || (Nat.beq a b && strLt x y)

def strA (o : BinOp) (x y : List Nat) : Option AV :=
  match o with
  | .add => bif Nat.ble (x.length + y.length) 9223372036854775807 then some (.str (x ++ y)) else none
  | .eql => some (.bool (strEq x y))
  | .neq => some (.bool (!(strEq x y)))
  | .lss => some (.bool (strLt x y))
  | .leq => some (.bool (strLt x y || strEq x y))
  | .gtr => some (.bool (!(strLt x y || strEq x y)))
  | .geq => some (.bool (!(strLt x y)))
  | _ => none

def isShift : BinOp → Bool
  | .shl | .shr => true
  | _ => false

def binA (o : BinOp) (x y : AV) : Option AV :=
  match x, y with
  | .int k a, .int k' b => bif isShift o then shiftA o k a b else bif kEq k k' then intA o k a b else none
  | .str a, .str b => strA o a b
  | _, _ => none

def neg' (n b : Bool) : AV := .bool (bif n then !b else b)

def eqpA (n : Bool) (x y : AV) : Option AV :=
  match x, y with
  | .nilp, .nilp => some (neg' n true)
  | .nilp, .ptr _ _ | .nilp, .eptr _ _ | .ptr _ _, .nilp | .eptr _ _, .nilp => some (neg' n false)
  | .ptr b o, .ptr b' o' => bif Nat.beq b b' then some (neg' n (Nat.beq o o')) else none
  | _, _ => none

def eqbA (n : Bool) (x y : AV) : Option AV :=
  match x, y with
  | .bool a, .bool b => some (neg' n (a == b))
  | _, _ => none

def eqsA (n : Bool) (x y : AV) : Option AV :=
  match x, y with
  | .nils, .nils => some (neg' n true)
  | .sl _ _ _, .nils | .ms _ _ _, .nils | .nils, .sl _ _ _ | .nils, .ms _ _ _ => some (neg' n false)
  | _, _ => none

def unA (o : UnOp) (x : AV) : Option AV :=
  match o, x with
  | .not, .bool b => some (.bool (!b))
  | .neg, .int k n => some (.int k (k.wrap (0 - n)))
  | .xor, .int k n => some (.int k (k.wrap (BitVec.ofInt k.bits (if k.signed then -1 else k.max) ^^^ BitVec.ofInt k.bits n).toNat))
  | _, _ => none

def cviA (k : IntKind) (x : AV) : Option AV :=
  match x with
  | .int _ n => some (.int k (wrapI k n))
  | _ => none

def cvidA (x : AV) : Option AV :=
  match x with
  | .str s => some (.str s)
  | _ => none

/-- Bytes of a list of cells. -/
def bytesOf : List AV → Option (List Nat)
  | [] => some []
  | .int .u8 (.ofNat n) :: xs => bif Nat.blt n 256 then (match bytesOf xs with
    | some l => some (n :: l)
    | none => none) else none
  | _ :: _ => none

def cvbsA (x : AV) : Option AV :=
  match x with
  | .nils => some (.str [])
  | .sl _ _ els => (match bytesOf els with
    | some l => some (.str l)
    | none => none)
  | _ => none

def natOf : AV → Option Nat
  | .int _ (.ofNat n) => some n
  | _ => none

def mksA (z : List AV) (bytes e : Nat) (l c : AV) (s : St) : Rv :=
  match natOf l, natOf c with
  | some l, some c =>
    bif Nat.ble l c && Nat.ble (bytes * c) 281474976710656 && Nat.ble c 9223372036854775807 then
      .ok (.ms s.nx 0 l) { s with hp := s.hp.set s.nx (List.replicate c z).flatten, nx := s.nx + 1, ty := s.ty.set s.nx e }
    else .no
  | _, _ => .no

def slsA (x : AV) (lo hi : Nat) : Option AV :=
  match x with
  | .str s => bif Nat.ble lo hi && Nat.ble hi s.length then some (.str ((s.drop lo).take (hi - lo))) else none
  | _ => none

def lenA : AV → Option Nat
  | .str s => some s.length
  | .nils => some 0
  | .sl _ n _ => some n
  | .ms _ _ n => some n
  | .gs _ n => some n
  | _ => none

/-- A box's address, as unsafe.Pointer and back: the box's type, and its cells' number, are looked at. -/
def cvpA (e n : Nat) (s : St) (x : AV) : Option AV :=
  match x with
  | .ptr b 0 => (match s.ty.get b, s.hp.get b with
    | some e', some cs => bif Nat.beq e e' && Nat.beq cs.length n then some (.ptr b 0) else none
    | _, _ => none)
  | _ => none

/-- Of a slice alone. -/
def lenV : AV → Option Nat
  | .str _ => none
  | x => lenA x

def lenS : AV → Option Nat
  | .str s => some s.length
  | _ => none

def slvA (sz : Nat) (x : AV) (lo hi : Nat) : Option AV :=
  match x with
  | .nils => bif Nat.beq lo 0 && Nat.beq hi 0 then some .nils else none
  | .sl t n els =>
    bif Nat.ble lo hi && Nat.ble hi n then
      bif Nat.beq lo 0 && Nat.beq hi n then some (.sl t n els)
      else bif bslA sz els then some (.sl 0 (hi - lo) ((els.drop lo).take (hi - lo))) else none
    else none
  | .ms b o n => bif Nat.ble lo hi && Nat.ble hi n then (bif Nat.beq (hi - lo) 0 then some (.sl 0 0 []) else some (.ms b (o + lo * sz) (hi - lo))) else none
  | _ => none

def fadA (o : Nat) (x : AV) : Option AV :=
  match x with
  | .ptr b p => some (.ptr b (p + o))
  | .eptr cs p => some (.eptr cs (p + o))
  | .gp t n z p => some (.gp t n z (p + o))
  | _ => none

def fldA (o n : Nat) (a : Bool) (x : AV) : Option AV :=
  match x with
  | .agg cs => bif a then some (.agg ((cs.drop o).take n)) else nth cs o
  | _ => none

def iadA (sz : Nat) (x i : AV) : Option AV :=
  match natOf i with
  | none => none
  | some i =>
    match x with
    | .sl _ n els => bif Nat.blt i n then (match nth els i with
      | some e => bif Nat.beq e.cells.length sz then some (.eptr e.cells 0) else none
      | none => none) else none
    | .ms b o n => bif Nat.blt i n then some (.ptr b (o + i * sz)) else none
    | .gs t n => bif Nat.blt i n then some (.gp t n sz (i * sz)) else none
    | _ => none

def iaaA (n sz : Nat) (x i : AV) : Option AV :=
  match natOf i with
  | none => none
  | some i => bif Nat.blt i n then fadA (i * sz) x else none

def ixsA (x i : AV) : Option AV :=
  match x, natOf i with
  | .str s, some i => (match nth s i with
    | some c => some (.int .u8 (.ofNat c))
    | none => none)
  | _, _ => none

def extA (i : Nat) (x : AV) : Option AV :=
  match x with
  | .tup vs => nth vs i
  | _ => none

def mapU8 : List Nat → List AV
  | [] => []
  | c :: s => .int .u8 (.ofNat c) :: mapU8 s

/-- What is put behind: its elements. -/
def tailA : AV → Option (List AV)
  | .nils => some []
  | .sl _ _ els => some els
  | .str s => some (mapU8 s)
  | _ => none

def appA (sz bytes e : Nat) (x y : AV) (s : St) : Rv :=
  match tailA y with
  | none => .no
  | some ys =>
    bif bslA sz ys then
      match x with
      | .nils => match ys with
        | [] => .ok .nils s
        | _ :: _ => bif Nat.ble (ys.length * bytes) 70368744177664 then newSl sz e ys s else .no
      | .sl t n els =>
        match ys with
        | [] => .ok (.sl t n els) s
        | _ :: _ =>
          match s.tk.get t with
          | some (.f n' sz' e') =>
            let m := n + ys.length
            bif Nat.beq n n' && (Nat.beq sz sz' && (Nat.beq e e' && Nat.ble (m * bytes) 70368744177664)) then
              .ok (.sl t m (els ++ ys)) { s with tk := s.tk.set t (.f m sz e) }
            else .no
          | _ => .no
      | _ => .no
    else .no

/-- The same, of a slice that stays its maker's own. -/
def appgA (sz bytes e : Nat) (x y : AV) (s : St) : Rv :=
  match tailA y with
  | none => .no
  | some ys =>
    bif bslA sz ys && (bif Nat.beq ys.length 0 then false else true) then
      match x with
      | .nils => bif Nat.ble (ys.length * bytes) 70368744177664 then
          .ok (.gs s.nt ys.length) { s with tk := s.tk.set s.nt (.g sz e ys), nt := s.nt + 1 } else .no
      | .gs t n =>
        match s.tk.get t with
        | some (.g sz' e' els) =>
          bif Nat.beq n els.length && (Nat.beq sz sz' && (Nat.beq e e' && Nat.ble ((n + ys.length) * bytes) 70368744177664)) then
            .ok (.gs t (n + ys.length)) { s with tk := s.tk.set t (.g sz e (els ++ ys)) }
          else .no
        | _ => .no
      | _ => .no
    else .no

def mxA (x y : AV) : Option AV :=
  match x, y with
  | .int k a, .int k' b => bif kEq k k' then some (.int k (bif iltI a b then b else a)) else none
  | _, _ => none

def mnA (x y : AV) : Option AV :=
  match x, y with
  | .int k a, .int k' b => bif kEq k k' then some (.int k (bif iltI b a then b else a)) else none
  | _, _ => none

def usdA (s : St) (x : AV) : Option AV :=
  match x with
  | .nils => some .nilp
  | .sl t n els => bif Nat.beq n 0 || Nat.beq t 0 then none else (match s.tk.get t with
    | some (.f n' _ e) => bif Nat.beq n n' then some (.tp e n els) else none
    | _ => none)
  | _ => none

def nat64 : AV → Option Nat
  | .int .i64 (.ofNat n) => some n
  | _ => none

def ustA (e : Nat) (x n : AV) : Option AV :=
  match x, nat64 n with
  | .nilp, some 0 => some (.str [])
  | .tp e' m els, some n => bif Nat.beq n m && (Nat.beq e e' && Nat.ble n 9223372036854775807) then (match bytesOf els with
    | some l => some (.str l)
    | none => none) else none
  | _, _ => none

def resA (t : Tm) (s : St) : LR → Option AV
  | .t i => some (tget t i)
  | .c a => ldA s (tget t a)
  | .ca a n => ldaA n s (tget t a)

def ress (t : Tm) (s : St) : List LR → Option (List AV)
  | [] => some []
  | r :: rs => match resA t s r with
    | none => none
    | some v => match ress t s rs with
      | none => none
      | some vs => some (v :: vs)

/-- A slice that was its maker's own is told, where it is handed out. -/
def tell (v : AV) (s : St) : Rv :=
  match v with
  | .gs t n => (match s.tk.get t with
    | some (.g sz e els) => bif Nat.beq n els.length then .ok (.sl t n els) { s with tk := s.tk.set t (.f n sz e) } else .no
    | _ => .no)
  | v => .ok v s

def tells : List AV → List AV → St → Rv
  | [], acc, s => .ok (.tup acc.reverse) s
  | v :: vs, acc, s => match tell v s with
    | .ok v s => tells vs (v :: acc) s
    | .no => .no

def resv (t : Tm) (s : St) (l : List LR) : Rv :=
  match ress t s l with
  | none => .no
  | some [v] => tell v s
  | some vs => tells vs [] s

/-- A call: by what is known of it, or by its code. -/
def callA (E : Env) (ih : LC → Tm → St → R) (f : FuncId) (as : List AV) (s : St) : Rv :=
  match E.it f with
  | some g => g as s
  | none => match E.fn f with
    | none => .no
    | some lf => bif Nat.ble as.length lf.np then (match ih lf.code (as ++ List.replicate (lf.n - as.length) undefA) s with
      | .ok .nrm t s => resv t s lf.res
      | .ok .ret t s => resv t s lf.res
      | _ => .no) else .no

def apU (f : U) (x : AV) (s : St) : Rv :=
  match f with
  | .mv => .ok x s
  | .ld => opt s (ldA s x)
  | .lda n => opt s (ldaA n s x)
  | .fad o => opt s (fadA o x)
  | .nck => opt s (nckA x)
  | .un o => opt s (unA o x)
  | .cvi k => opt s (cviA k x)
  | .cvid => opt s (cvidA x)
  | .cvbs => opt s (cvbsA x)
  | .fld o n a => opt s (fldA o n a x)
  | .ext i => opt s (extA i x)
  | .len => (match lenV x with
    | some n => .ok (.int .i64 (.ofNat n)) s
    | none => .no)
  | .lens => (match lenS x with
    | some n => .ok (.int .i64 (.ofNat n)) s
    | none => .no)
  | .usd => opt s (usdA s x)
  | .box e => newBox e x.cells s
  | .cvp e n => opt s (cvpA e n s x)

def apB (f : B) (x y : AV) (s : St) : Rv :=
  match f with
  | .bin o => opt s (binA o x y)
  | .eqp n => opt s (eqpA n x y)
  | .eqb n => opt s (eqbA n x y)
  | .eqs n => opt s (eqsA n x y)
  | .st => stA x y s
  | .sta n => staA n x y s
  | .iad sz => opt s (iadA sz x y)
  | .iaa n sz => opt s (iaaA n sz x y)
  | .ixs => opt s (ixsA x y)
  | .app sz b e => appA sz b e x y s
  | .appg sz b e => appgA sz b e x y s
  | .mx => opt s (mxA x y)
  | .mn => opt s (mnA x y)
  | .ust e => opt s (ustA e x y)
  | .mks z b e => mksA z b e x y s

/-- The two bounds of a slice expression, out of those that are written. -/
def bounds (a b : Bool) (n : Nat) (xs : List AV) : Option (Nat × Nat) :=
  match a, b, xs with
  | false, false, [] => some (0, n)
  | true, false, [x] => (match natOf x with
    | some l => some (l, n)
    | none => none)
  | false, true, [x] => (match natOf x with
    | some h => some (0, h)
    | none => none)
  | true, true, [x, y] => (match natOf x, natOf y with
    | some l, some h => some (l, h)
    | _, _ => none)
  | _, _, _ => none

def apK (E : Env) (ih : LC → Tm → St → R) (f : K) (xs : List AV) (s : St) : Rv :=
  match f with
  | .call f => callA E ih f xs s
  | .callv => (match xs with
    | .fn f first captured :: as => callA E ih f (first ++ (as ++ captured)) s
    | _ => .no)
  | .pick => (match xs with
    | [.bool c, x, y] => .ok (bif c then x else y) s
    | _ => .no)
  | .build z ps => (match buildA z ps xs with
    | some cs => .ok (.agg cs) s
    | none => .no)
  | .bsl sz e => bif bslA sz xs then newSl sz e xs s else .no
  | .mkf f n => bif Nat.ble n xs.length then .ok (.fn f (xs.take n) (xs.drop n)) s else .no
  | .sls a b => (match xs with
    | .str x :: ys => (match bounds a b x.length ys with
      | some (l, h) => opt s (slsA (.str x) l h)
      | none => .no)
    | _ => .no)
  | .slv sz a b => (match xs with
    | x :: ys => (match lenA x with
      | some n => (match bounds a b n ys with
        | some (l, h) => opt s (slvA sz x l h)
        | none => .no)
      | none => .no)
    | _ => .no)

def bnd (r : Rv) (f : AV → St → Rv) : Rv :=
  match r with
  | .ok v s => f v s
  | .no => .no

def consA (v : AV) (w : AV) (s : St) : Rv :=
  match w with
  | .tup vs => .ok (.tup (v :: vs)) s
  | _ => .no

def apKt (E : Env) (ih : LC → Tm → St → R) (f : K) (w : AV) (s : St) : Rv :=
  match w with
  | .tup vs => apK E ih f vs s
  | _ => .no

def gdA (w df : Bool) (c : AV) (s : St) (b : St → Rv) : Rv :=
  match c with
  | .bool c => bif c == w then b s else .ok (.bool df) s
  | _ => .no

def evX (E : Env) (ih : LC → Tm → St → R) (t : Tm) (x : X) : St → Rv :=
  X.rec (motive := fun _ => St → Rv) (fun o s => .ok (E.ev t o) s) (fun _ f _ ix s => bnd (ix s) (apU f))
    (fun _ sw f _ _ ix iy s => bif sw then bnd (iy s) (fun w s => bnd (ix s) (fun v s => apB f v w s)) else bnd (ix s) (fun v s => bnd (iy s) (apB f v)))
    (fun _ f _ ix s => bnd (ix s) (apKt E ih f)) (fun s => .ok (.tup []) s) (fun _ _ ix iy s => bnd (ix s) (fun v s => bnd (iy s) (consA v)))
    (fun _ z e s => newBox e z s) (fun _ w df _ _ ic ib s => bnd (ic s) (fun c s => gdA w df c s ib)) x

section
variable (E : Env) (ih : LC → Tm → St → R) (t : Tm) (s : St)
theorem evX_od (o : Od) : evX E ih t (.od o) s = .ok (E.ev t o) s := rfl
theorem evX_u (d : Option Nat) (f : U) (x : X) : evX E ih t (.u d f x) s = bnd (evX E ih t x s) (apU f) := rfl
theorem evX_b (d : Option Nat) (f : B) (x y : X) : evX E ih t (.b d false f x y) s = bnd (evX E ih t x s) (fun v s => bnd (evX E ih t y s) (apB f v)) := rfl
theorem evX_bs (d : Option Nat) (f : B) (x y : X) : evX E ih t (.b d true f x y) s = bnd (evX E ih t y s) (fun w s => bnd (evX E ih t x s) (fun v s => apB f v w s)) := rfl
theorem evX_k (d : Option Nat) (f : K) (x : X) : evX E ih t (.k d f x) s = bnd (evX E ih t x s) (apKt E ih f) := rfl
theorem evX_nil : evX E ih t .nil s = .ok (.tup []) s := rfl
theorem evX_cons (x y : X) : evX E ih t (.cons x y) s = bnd (evX E ih t x s) (fun v s => bnd (evX E ih t y s) (consA v)) := rfl
theorem evX_a (d : Option Nat) (z : List AV) (e : Nat) : evX E ih t (.a d z e) s = newBox e z s := rfl
theorem evX_gd (d : Option Nat) (w df : Bool) (c b : X) : evX E ih t (.gd d w df c b) s = bnd (evX E ih t c s) (fun c s => gdA w df c s (evX E ih t b)) := rfl
end

def wantedA (t : Tm) (g : Option (Nat × Bool)) : Bool :=
  match g with
  | none => true
  | some (i, b) => match tget t i with
    | .bool b' => b' == b
    | _ => false

def putA (t : Tm) (d : Option Nat) (v : AV) : Tm :=
  match d with
  | some i => tset t i v
  | none => t

/-- One statement. -/
def stmA (E : Env) (ih : LC → Tm → St → R) (o : LS) (t : Tm) (s : St) (k : Tm → St → R) : R :=
  bif wantedA t o.g then
    (match evX E ih t o.x s with
    | .ok v s => k (putA t o.d v) s
    | .no => .no)
  else k (putA t o.d undefA) s

def opsA (E : Env) (ih : LC → Tm → St → R) (l : List LS) : Tm → St → R :=
  List.rec (fun t s => .ok .nrm t s) (fun o _ k t s => stmA E ih o t s k) l
theorem opsA_nil (E : Env) (ih : LC → Tm → St → R) (t : Tm) (s : St) : opsA E ih [] t s = .ok .nrm t s := rfl
theorem opsA_cons (E : Env) (ih : LC → Tm → St → R) (o : LS) (os : List LS) (t : Tm) (s : St) : opsA E ih (o :: os) t s = stmA E ih o t s (opsA E ih os) := rfl

-- ---------------------------------------------------------------- a region that draws its order
/-- The new boxes, ahead of all else. -/
def drawNew : List DO → St → St
  | [], s => s
  | o :: os, s => match o.k, o.o.x with
    | .a, .a _ z e => drawNew os { s with hp := s.hp.set s.nx z, nx := s.nx + 1, ty := s.ty.set s.nx e }
    | _, _ => drawNew os s

/-- A reading that has to come to the same in each state between. -/
structure Chk where
  x : X
  t : Tm
  v : AV
  lo : Nat
  hi : Nat

def rvEq (r : Rv) (v : AV) : Bool :=
  match r with
  | .ok x _ => AV.beq x v
  | .no => false

def chk1 (E : Env) (ih : LC → Tm → St → R) (c : Chk) : List St → Nat → Bool
  | [], _ => true
  | s :: ss, i => (bif Nat.ble c.lo i && Nat.ble i c.hi then rvEq (evX E ih c.t c.x s) c.v else true) && chk1 E ih c ss (i + 1)

def chks (E : Env) (ih : LC → Tm → St → R) (ss : List St) : List Chk → Bool
  | [] => true
  | c :: cs => chk1 E ih c ss 0 && chks E ih ss cs

/-- In the order of the text: nx: the next new box's number; ss: the states behind the main ones, the last one first; cs: what has to be looked at at the end. -/
def drawRun (E : Env) (ih : LC → Tm → St → R) : List DO → Nat → Tm → St → List St → List Chk → R
  | [], _, t, s, ss, cs => bif chks E ih ss.reverse cs then .ok .nrm t s else .no
  | o :: os, nx, t, s, ss, cs =>
    match o.k with
    | .a => drawRun E ih os (nx + 1) (putA t o.o.d (.ptr nx 0)) s ss cs
    | .p =>
      bif wantedA t o.o.g then
        match evX E ih t o.o.x s with
        | .ok v _ => drawRun E ih os nx (putA t o.o.d v) s ss cs
        | .no => .no
      else drawRun E ih os nx (putA t o.o.d undefA) s ss cs
    | .l lo hi =>
      bif wantedA t o.o.g then
        match evX E ih t o.o.x s with
        | .ok v _ => drawRun E ih os nx (putA t o.o.d v) s ss (bif Nat.beq lo hi then cs else { x := o.o.x, t := t, v := v, lo := lo, hi := hi } :: cs)
        | .no => .no
      else drawRun E ih os nx (putA t o.o.d undefA) s ss cs
    | .m =>
      bif wantedA t o.o.g then
        match evX E ih t o.o.x s with
        | .ok v s => drawRun E ih os nx (putA t o.o.d v) s (s :: ss) cs
        | .no => .no
      else drawRun E ih os nx (putA t o.o.d undefA) s (s :: ss) cs

def drawA (E : Env) (ih : LC → Tm → St → R) (l : List DO) (t : Tm) (s : St) : R :=
  let s' := drawNew l s
  drawRun E ih l s.nx t s' [s'] []

def findL : LC → Nat → Option LC
  | .seq a b, l =>
    match findL a l with
    | some r => some (.seq r b)
    | none => findL b l
  | .label l', l => bif Nat.beq l' l then some .skip else none
  | _, _ => none

-- ---------------------------------------------------------------- the code
def execSeq (r : R) (k : Tm → St → R) : R :=
  match r with
  | .ok .nrm t s => k t s
  | r => r

def execCond (c : AV) (a b : Tm → St → R) (t : Tm) (s : St) : R :=
  match c with
  | .bool true => a t s
  | .bool false => b t s
  | _ => .no

def execBlk (id : Nat) (r : R) : R :=
  match r with
  | .ok (.exit i) t s => bif Nat.beq i id then .ok .nrm t s else .ok (.exit i) t s
  | r => r

def execAgain (c : LC) (r : R) (k : LC → Tm → St → R) : R :=
  match r with
  | .ok (.goto l) t s => (match findL c l with
    | some r' => k r' t s
    | none => .ok (.goto l) t s)
  | r => r

def execS (E : Env) (ih : LC → Tm → St → R) (c : LC) (t : Tm) (s : St) : R :=
  match c with
  | .seq a b => execSeq (ih a t s) (ih b)
  | .reg ops => opsA E ih ops t s
  | .cond c a b => execCond (E.ev t c) (ih a) (ih b) t s
  | .skip => .ok .nrm t s
  | .drw l => drawA E ih l t s
  | .blk id c => execBlk id (ih c t s)
  | .loop c => execSeq (ih c t s) (ih (.loop c))
  | .exit id => .ok (.exit id) t s
  | .scope c => ih (.again c c) t s
  | .again c r => execAgain c (ih r t s) (fun r' => ih (.again c r'))
  | .label _ => .ok .nrm t s
  | .goto l => .ok (.goto l) t s
  | .ret => .ok .ret t s
  | .stop => .no

/-- The executor. -/
def exec (E : Env) (k : Nat) : LC → Tm → St → R := Nat.rec (fun _ _ _ => .no) (fun _ ih => execS E ih) k
theorem exec_zero (E : Env) (c : LC) (t : Tm) (s : St) : exec E 0 c t s = .no := rfl
theorem exec_succ (E : Env) (k : Nat) (c : LC) (t : Tm) (s : St) : exec E (k + 1) c t s = execS E (exec E k) c t s := rfl

/-- A call of a function, by so many steps at most. -/
def runF (E : Env) (k : Nat) (f : FuncId) (as : List AV) (s : St) : Rv := callA E (exec E k) f as s

def St.nil : St := { hp := .lf, nx := 0, tk := .lf, nt := 1, ty := .lf }

def Rv.val : Rv → Option AV
  | .ok v _ => some v
  | .no => none

end
end Go.Proofs.YtmoihglcdmmmlaaGreatDoor
