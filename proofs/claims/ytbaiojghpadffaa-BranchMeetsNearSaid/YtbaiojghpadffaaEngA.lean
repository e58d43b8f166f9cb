/- The engine, part A: types, data, abstract values, abstract states, and the abstract step. -/
import Derived.Calls
import Derived.Orders
import Derived.Below
import Derived.KernelRfl
namespace Lc
open Go
set_option linter.unusedVariables false
set_option linter.unusedSimpArgs false

inductive Ty where
  | int (k : IntKind) | bool | str | unit
  | pair (a b : Ty)
  | arr (n : Nat) (t : Ty)
  | slc (t : Ty)
  /-- a map (nil as data; a map that was made is a block of its own) -/
  | map (k v : Ty)
  /-- a function value: the function, and what it has captured -/
  | fn (f : Nat) (c : Ty)
  /-- a pointer to data that stay -/
  | ref (t : Ty)
  deriving DecidableEq, Inhabited

@[reducible] def Ty.den : Ty → Type
  | .int _ => Int
  | .bool => Bool
  | .str => ByteArray
  | .unit => Unit
  | .pair a b => a.den × b.den
  | .arr _ t => List t.den
  | .slc t => List t.den
  | .map k v => List (k.den × v.den)
  | .fn _ c => c.den
  | .ref c => c.den

def Ty.size : Ty → Nat
  | .int _ | .bool | .str | .slc _ | .map _ _ | .fn _ _ | .ref _ => 1
  | .unit => 0
  | .pair a b => a.size + b.size
  | .arr n t => n * t.size

def Ty.isAgg : Ty → Bool
  | .unit | .pair _ _ | .arr _ _ => true
  | _ => false

/-- Is it the type of a map? -/
def isMapT : Ty → Bool
  | .map _ _ => true
  | _ => false

/-- No slice inside: its cells say all. -/
def Ty.flat : Ty → Bool
  | .pair a b => a.flat && b.flat
  | .arr _ t => t.flat
  | .slc _ | .map _ _ | .fn _ _ | .ref _ => false
  | _ => true

/-- How deep a type is nested. -/
def Ty.dep : Ty → Nat
  | .pair a b => max a.dep b.dep + 1
  | .arr _ t => t.dep + 1
  | .slc t => t.dep + 1
  | _ => 0

def Ty.dflt : (t : Ty) → t.den
  | .int _ => (0 : Int)
  | .bool => false
  | .str => ByteArray.empty
  | .unit => ()
  | .pair a b => (a.dflt, b.dflt)
  | .arr n t => List.replicate n t.dflt
  | .slc _ => []
  | .map _ _ => []
  | .fn _ c => c.dflt
  | .ref c => c.dflt

def listBeq {α : Type} (f : α → α → Bool) : List α → List α → Bool
  | [], [] => true
  | x :: xs, y :: ys => f x y && listBeq f xs ys
  | _, _ => false

def Ty.beq : (t : Ty) → t.den → t.den → Bool
  | .int _ => fun (x y : Int) => x == y
  | .bool => fun (x y : Bool) => x == y
  | .str => fun (x y : ByteArray) => x.toList == y.toList
  | .unit => fun _ _ => true
  | .pair a b => fun x y => a.beq x.1 y.1 && b.beq x.2 y.2
  | .arr _ t => listBeq t.beq
  | .slc t => listBeq t.beq
  | .map k v => listBeq (fun p q => k.beq p.1 q.1 && v.beq p.2 q.2)
  | .fn _ c => c.beq
  | .ref c => c.beq

structure TV where
  t : Ty
  x : t.den

def castT {t u : Ty} (h : t = u) (x : t.den) : u.den := h ▸ x

def TV.as (v : TV) (t : Ty) : Option t.den := if h : v.t = t then some (castT h v.x) else none

inductive Stp where
  | fld (i : Nat) | idx (i : Nat)

inductive AV where
  | val (t : Ty) (x : t.den)
  | vlk (t : Ty) (x : t.den) (l : List (List Stp × Nat))
  | cptr (t : Ty) (x : t.den)
  | ptr (key : Nat) (root : Ty) (path : List Stp)
  | whole (key : Nat) (root : Ty) (path : List Stp)
  | sub (key : Nat) (root : Ty) (path : List Stp) (off len : Nat)
  | nil
  | cut (t : Ty) (xs : List t.den)
  | raw (v : Value)
  | fn (f : FuncId)
  /-- a map that was made: its block -/
  | mref (key : Nat)
  | opt (p : Prop) (v : AV)
  | tnil
  | tcons (a b : AV)

def AV.keys : AV → List Nat
  | .ptr k _ _ | .whole k _ _ | .sub k _ _ _ _ | .mref k => [k]
  | .vlk _ _ l => l.map (·.2)
  | .opt _ v => v.keys
  | .tcons a b => a.keys ++ b.keys
  | _ => []

def AV.key : AV → Option Nat
  | .ptr k _ _ | .whole k _ _ | .sub k _ _ _ _ | .mref k => some k
  | .opt _ v => v.key
  | _ => none

def AV.isTup : AV → Bool
  | .tnil | .tcons _ _ => true
  | _ => false

structure Blk where
  row : Bool
  t : Ty
  x : t.den
  fz : Bool
  /-- links: the slice at this place is the one of that row -/
  lk : List (List Stp × Nat)

def look {α : Type} (n : Nat) : List (Nat × α) → Option α
  | [] => none
  | (m, v) :: l => if n.beq m then some v else look n l

structure St where
  tm : List (Nat × AV)
  hp : List (Nat × Option Blk)

/-- The types of the places in a block: (type, cells ahead of it). -/
def Ty.nav : Ty → List Stp → Option (Ty × Nat)
  | t, [] => some (t, 0)
  | .pair a _, .fld 0 :: p => a.nav p
  | .pair a b, .fld (i + 1) :: p => match b.nav (.fld i :: p) with | some (u, o) => some (u, a.size + o) | none => none
  | .arr _ u, .idx i :: p => match u.nav p with | some (v, o) => some (v, i * u.size + o) | none => none
  | _, _ => none

def getP : (t : Ty) → t.den → List Stp → Option TV
  | t, x, [] => some ⟨t, x⟩
  | .pair a _, x, .fld 0 :: p => getP a x.1 p
  | .pair _ b, x, .fld (i + 1) :: p => getP b x.2 (.fld i :: p)
  | .arr _ u, xs, .idx i :: p => getP u (xs.getD i u.dflt) p
  | _, _, _ => none

def setP : (t : Ty) → t.den → List Stp → TV → Option t.den
  | t, _, [], v => v.as t
  | .pair a _, x, .fld 0 :: p, v => match setP a x.1 p v with | some y => some (y, x.2) | none => none
  | .pair _ b, x, .fld (i + 1) :: p, v => match setP b x.2 (.fld i :: p) v with | some y => some (x.1, y) | none => none
  | .arr _ u, xs, .idx i :: p, v => match setP u (xs.getD i u.dflt) p v with | some y => some (xs.set i y) | none => none
  | _, _, _, _ => none

/-- A constant's cells as data. -/
def decode : (t : Ty) → List Value → Option (t.den × List Value)
  | .int k, .int k' n :: r => if k = k' then some (n, r) else none
  | .bool, .bool b :: r => some (b, r)
  | .str, .string s :: r => some (s, r)
  | .unit, r => some ((), r)
  | .pair a b, r => match decode a r with
    | some (x, r) => match decode b r with
      | some (y, r) => some ((x, y), r)
      | none => none
    | none => none
  | .arr n t, r => go (decode t) n r
  | .slc _, .slice none 0 0 :: r => some ([], r)
  | .map _ _, .map none :: r => some ([], r)
  | _, _ => none
  where
  go {α : Type} (f : List Value → Option (α × List Value)) : Nat → List Value → Option (List α × List Value)
    | 0, r => some ([], r)
    | n + 1, r => match f r with
      | some (x, r) => match go f n r with
        | some (xs, r) => some (x :: xs, r)
        | none => none
      | none => none

end Lc
