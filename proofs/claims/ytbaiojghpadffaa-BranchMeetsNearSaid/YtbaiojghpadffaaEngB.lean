/- The engine, part B: contracts, the abstract step, and the plain condition (wpA) of a function's code. -/
import Derived.Test.YtbaiojghpadffaaEngA
namespace Lc
open Go
set_option linter.unusedVariables false
set_option linter.unusedSimpArgs false

@[reducible] def Tup : List Ty → Type
  | [] => Unit
  | t :: ts => t.den × Tup ts

/-- A result: plain data; a slice in a row of its own, to be appended to (own) or also written (ownw); a struct whose slices at these places lie in rows of its own (vlk). -/
inductive RK where
  | deep (t : Ty) | own (t : Ty) | ownw (t : Ty) | vlk (t : Ty) (ps : List (List Stp × Ty × Nat))

@[reducible] def RK.ty : RK → Ty
  | .deep t => t
  | .own t => .slc t
  | .ownw t => .slc t
  | .vlk t _ => t

def RK.flatOk : RK → Bool
  | .deep t => t.flat
  | .own t => t.flat
  | .ownw t => t.flat
  | .vlk _ _ => false

@[reducible] def RTup : List RK → Type
  | [] => Unit
  | r :: rs => r.ty.den × RTup rs

structure Con where
  params : List Ty
  rets : List RK
  pre : Tup params → Prop
  fn : Tup params → RTup rets

/-- A call that turns the list in the row of its first argument (a slice of a whole row); its other arguments are functions. -/
structure Mut where
  t : Ty
  rest : List FuncId
  pre : List t.den → Prop
  fn : List t.den → List t.den
  /-- may it be called with a part of a row? -/
  part : Bool

/-- A method with a pointer to a struct: the struct's slices at the places ps lie in rows of its own; it may write all of them. -/
structure ConP where
  t : Ty
  ps : List (List Stp × Ty × Nat)
  params : List Ty
  rets : List RK
  pre : t.den → Tup params → Prop
  fn : t.den → Tup params → t.den × RTup rets

structure Env where
  P : Program
  ty : TypeId → Option Ty
  bytes : TypeId → Nat
  glob : Nat → Option TV
  con : FuncId → Option Con
  /-- rows that stay writable (by the slot of the operation that makes them) -/
  wr : List Nat
  /-- the number of slots of the function's frame -/
  ntm : Nat
  /-- slots that may not be written -/
  lock : List Nat
  turn : FuncId → Option Mut := fun _ => none
  /-- slots whose built struct keeps the rows of its slices; and the places (with their new names) that are nil -/
  lkd : List (Nat × List (List Stp × Nat)) := []
  /-- rows of 'make' that are frozen at once -/
  icy : List Nat := []
  ptr : FuncId → Option ConP := fun _ => none
  /-- slots whose slice 's[i:]' takes a frozen row over -/
  tails : List Nat := []
  /-- slots whose loaded struct keeps the rows of its slices -/
  lkl : List Nat := []

/-! ## Integers -/
def iand (k : IntKind) (a b : Int) : Int := k.wrap (BitVec.ofInt k.bits a &&& BitVec.ofInt k.bits b).toNat
def ior (k : IntKind) (a b : Int) : Int := k.wrap (BitVec.ofInt k.bits a ||| BitVec.ofInt k.bits b).toNat
def ixor (k : IntKind) (a b : Int) : Int := k.wrap (BitVec.ofInt k.bits a ^^^ BitVec.ofInt k.bits b).toNat
def iandNot (k : IntKind) (a b : Int) : Int := k.wrap (BitVec.ofInt k.bits a &&& ~~~ BitVec.ofInt k.bits b).toNat
def ishl (k : IntKind) (a b : Int) : Int := k.wrap (a * 2 ^ (min b.toNat k.bits))
def ishr (k : IntKind) (a b : Int) : Int := a.fdiv (2 ^ (min b.toNat k.bits))
def inot (k : IntKind) (a : Int) : Int := ixor k (if k.signed then -1 else k.max) a

def Room (n bytes : Nat) : Prop := n ≤ 2 ^ 46 ∧ n * bytes ≤ 2 ^ 46

structure Res where
  cs : List Prop
  v : AV
  new : List (Nat × Blk)
  set : List (Nat × Blk)
  kill : List Nat

def Res.pure (v : AV) : Option Res := some ⟨[], v, [], [], []⟩
def Res.cond (cs : List Prop) (v : AV) : Option Res := some ⟨cs, v, [], [], []⟩

def isAggV : Value → Bool
  | .agg _ => true
  | _ => false

/-- A constant as data. -/
def rawV (t : Ty) (v : Value) : Option t.den :=
  if t.isAgg == isAggV v then (match decode t v.cells.toList with | some (x, []) => some x | _ => none) else none

/-- The value of an argument as data of type t; 'need': its memory must be frozen. -/
def deepV (need : Bool) : (t : Ty) → AV → Option Blk → Option (t.den × List Prop)
  | t, .val u x, _ => match (TV.mk u x).as t with | some y => some (y, []) | none => none
  | t, .vlk u x _, _ => match (TV.mk u x).as t with | some y => some (y, []) | none => none
  | t, .raw v, _ => match rawV t v with | some x => some (x, []) | none => none
  | .ref u, .cptr w x, _ => match (TV.mk w x).as u with | some y => some (y, []) | none => none
  | .slc _, .nil, _ => some ([], [])
  | .slc u, .cut w xs, _ => match (TV.mk (.slc w) xs).as (.slc u) with | some y => some (y, []) | none => none
  | .slc u, .whole _ _ path, some b =>
    if need && !b.fz then none else
    match getP b.t b.x path with
    | some ⟨.arr _ w, xs⟩ => match (TV.mk (.slc w) xs).as (.slc u) with | some y => some (y, []) | none => none
    | _ => none
  | .slc u, .sub _ _ path off len, some b =>
    if need && !b.fz then none else
    match getP b.t b.x path with
    | some ⟨.arr _ w, xs⟩ => match (TV.mk (.slc w) ((xs.drop off).take len)).as (.slc u) with | some y => some (y, [off + len ≤ xs.length]) | none => none
    | _ => none
  | _, _, _ => none

/-- '==' and '!=' of data. -/
def evalEq (t : Ty) (op : BinOp) (x y : AV) : Option Res :=
  match deepV false t x none, deepV false t y none with
  | some (a, []), some (b, []) =>
    match op with
    | .eql => Res.pure (.val .bool (t.beq a b))
    | .neq => Res.pure (.val .bool !(t.beq a b))
    | _ => none
  | _, _ => none

def evalBin (E : Env) (op : BinOp) (xt : TypeId) (x y : AV) : Option Res :=
  match x, y with
  | .val (.int k) a, .val (.int k') b =>
    match op with
    | .shl => Res.cond [0 ≤ (b : Int)] (.val (.int k) (ishl k a b))
    | .shr => Res.cond [0 ≤ (b : Int)] (.val (.int k) (ishr k a b))
    | _ =>
      if k ≠ k' then none else
      match op with
      | .add => Res.pure (.val (.int k) (k.wrap ((a : Int) + (b : Int))))
      | .sub => Res.pure (.val (.int k) (k.wrap ((a : Int) - (b : Int))))
      | .mul => Res.pure (.val (.int k) (k.wrap ((a : Int) * (b : Int))))
      | .quo => Res.cond [(b : Int) ≠ 0] (.val (.int k) (k.wrap ((a : Int).tdiv b)))
      | .rem => Res.cond [(b : Int) ≠ 0] (.val (.int k) ((a : Int).tmod b))
      | .and => Res.pure (.val (.int k) (iand k a b))
      | .or => Res.pure (.val (.int k) (ior k a b))
      | .xor => Res.pure (.val (.int k) (ixor k a b))
      | .andNot => Res.pure (.val (.int k) (iandNot k a b))
      | .eql => Res.pure (.val .bool ((a : Int) == (b : Int)))
      | .neq => Res.pure (.val .bool ((a : Int) != (b : Int)))
      | .lss => Res.pure (.val .bool (decide ((a : Int) < (b : Int))))
      | .leq => Res.pure (.val .bool (decide ((a : Int) ≤ (b : Int))))
      | .gtr => Res.pure (.val .bool (decide ((a : Int) > (b : Int))))
      | .geq => Res.pure (.val .bool (decide ((a : Int) ≥ (b : Int))))
      | _ => none
  | .val .str a, .val .str b =>
    match op with
    | .eql => Res.pure (.val .bool (ByteArray.toList a == ByteArray.toList b))
    | .neq => Res.pure (.val .bool !(ByteArray.toList a == ByteArray.toList b))
    | _ => none
  | _, _ =>
    match E.ty xt with
    | some t =>
      if !t.flat || decide (5000 < t.dep) then none else
      match t with
      | .int _ | .str => none
      | t => evalEq t op x y
    | none => none

/-- The parts of a literal. -/
def fillParts (mk : Nat → List Stp) (t : Ty) : t.den → List (Nat × AV × Option Blk) → (sub : Nat → Option Ty) → Option (t.den × List Prop)
  | x, [], _ => some (x, [])
  | x, (i, a, b) :: r, sub =>
    match sub i with
    | none => none
    | some u =>
      match deepV true u a b with
      | none => none
      | some (y, cs) =>
        match setP t x (mk i) ⟨u, y⟩ with
        | none => none
        | some x' => match fillParts mk t x' r sub with
          | some (z, cs') => some (z, cs ++ cs')
          | none => none

/-- The list at a place of a struct. -/
def rowOf (t : Ty) (x : t.den) (p : List Stp) (u : Ty) : List u.den :=
  match getP t x p with
  | some tv => (match tv.as (.slc u) with | some y => y | none => [])
  | none => []

def linkB (t : Ty) (x : t.den) (q : List Stp × Ty × Nat) : Nat × Blk := (q.2.2, ⟨true, .arr 0 q.2.1, rowOf t x q.1 q.2.1, true, []⟩)

/-- The name of a row of a struct that a call returns. -/
def vkey (d i : Nat) (q : List Stp × Ty × Nat) : Nat := 200000 + 20000 * i + q.2.2 + d

def mkRets (fz : Nat → Bool) (dst : Nat) : Nat → (rs : List RK) → RTup rs → AV × List (Nat × Blk)
  | _, [], _ => (.tnil, [])
  | i, .deep t :: rs, x => (.tcons (.val t x.1) (mkRets fz dst (i + 1) rs x.2).1, (mkRets fz dst (i + 1) rs x.2).2)
  | i, .own t :: rs, x => (.tcons (.whole (dst + 1000 * i) (.arr 0 t) []) (mkRets fz dst (i + 1) rs x.2).1,
      (dst + 1000 * i, ⟨true, .arr 0 t, x.1, true, []⟩) :: (mkRets fz dst (i + 1) rs x.2).2)
  | i, .ownw t :: rs, x => (.tcons (.whole (dst + 1000 * i) (.arr 0 t) []) (mkRets fz dst (i + 1) rs x.2).1,
      (dst + 1000 * i, ⟨true, .arr 0 t, x.1, fz (dst + 1000 * i), []⟩) :: (mkRets fz dst (i + 1) rs x.2).2)
  | i, .vlk t ps :: rs, x => (.tcons (.vlk t x.1 (ps.map (fun q => (q.1, vkey dst i q)))) (mkRets fz dst (i + 1) rs x.2).1,
      ps.map (fun q => (vkey dst i q, (linkB t x.1 q).2)) ++ (mkRets fz dst (i + 1) rs x.2).2)

def mkArgs (need : Bool) : (ts : List Ty) → List (AV × Option Blk) → Option (Tup ts × List Prop)
  | [], [] => some ((), [])
  | t :: ts, (a, b) :: r =>
    match deepV need t a b with
    | some (x, cs) => match mkArgs need ts r with
      | some (y, cs') => some ((x, y), cs ++ cs')
      | none => none
    | none => none
  | _, _ => none

/-- The results of a call as one abstract value. -/
def oneAV (rs : List RK) (v : AV) : AV :=
  match rs, v with
  | [_], .tcons a .tnil => a
  | _, v => v

def Env.fz (E : Env) (dst : Nat) : Bool := !(E.wr.contains dst)

def fnsB : List FuncId → List (AV × Option Blk) → Bool
  | [], [] => true
  | f :: fs, (.fn g, _) :: r => Nat.beq f g && fnsB fs r
  | _, _ => false

def evalMut (m : Mut) (args : List (AV × Option Blk)) : Option Res :=
  match args with
  | (.whole k _ [], some b) :: r =>
    if b.fz || !b.row || !(fnsB m.rest r) then none else
    match getP b.t b.x [] with
    | some ⟨.arr n w, xs⟩ => match (TV.mk (.slc w) xs).as (.slc m.t) with
      | some xs => match setP b.t b.x [] ⟨.arr n m.t, m.fn xs⟩ with
        | some z => some ⟨[m.pre xs], .tnil, [], [(k, ⟨b.row, b.t, z, false, []⟩)], []⟩
        | none => none
      | none => none
    | _ => none
  | (.sub k _ [] off len, some b) :: r =>
    if b.fz || !b.row || !m.part || !(fnsB m.rest r) then none else
    match getP b.t b.x [] with
    | some ⟨.arr n w, xs⟩ => match (TV.mk (.slc w) xs).as (.slc m.t) with
      | some xs => match setP b.t b.x [] ⟨.arr n m.t, xs.take off ++ (m.fn ((xs.drop off).take len) ++ xs.drop (off + len))⟩ with
        | some z => some ⟨[off + len ≤ xs.length, m.pre ((xs.drop off).take len)], .tnil, [], [(k, ⟨b.row, b.t, z, false, []⟩)], []⟩
        | none => none
      | none => none
    | _ => none
  | _ => none

def evalCall (E : Env) (f : FuncId) (dst : Option Nat) (args : List (AV × Option Blk)) : Option Res :=
  match E.con f with
  | none => match E.turn f with
    | some m => evalMut m args
    | none => none
  | some c =>
    match mkArgs (!(c.rets.all RK.flatOk)) c.params args with
    | none => none
    | some (xs, cs) => some ⟨cs ++ [c.pre xs], oneAV c.rets (mkRets E.fz (dst.getD 999999) 0 c.rets (c.fn xs)).1, (mkRets E.fz (dst.getD 999999) 0 c.rets (c.fn xs)).2, [], []⟩

/-- The list that a slice stands for (no need that its memory be frozen), with its type. -/
def lstV (u : Ty) (a : AV) (b : Option Blk) : Option (List u.den × List Prop) := deepV false (.slc u) a b

/-- The elements to append: a slice's, a string's, or so many zeros. -/
def srcV (E : Env) (u : Ty) (xt : TypeId) (a : AV) (b : Option Blk) : Option (List u.den × List Prop) :=
  match E.ty xt with
  | some (.int _) => match a with
    | .val (.int _) n => some (List.replicate (Int.toNat n) u.dflt, [0 ≤ (n : Int)])
    | _ => none
  | some .str => match a with
    | .val .str s => if h : (Ty.int .u8) = u then some (castT (congrArg Ty.slc h) (((ByteArray.toList s).map fun (c : UInt8) => ((c.toNat : Nat) : Int)) : List Int), []) else none
    | _ => none
  | some (.slc _) => if u.flat then deepV false (.slc u) a b else deepV true (.slc u) a b
  | _ => none

def evalAppend (E : Env) (dst : Nat) (st xt : TypeId) (s x : AV × Option Blk) : Option Res :=
  match E.ty st with
  | some (.slc u) =>
    match srcV E u xt x.1 x.2 with
    | none => none
    | some (ys, cs) =>
      match s.1, s.2 with
      | .nil, _ => some ⟨cs ++ [Room ys.length (E.bytes st)], .whole dst (.arr 0 u) [], [(dst, ⟨true, .arr 0 u, ys, E.fz dst, []⟩)], [], []⟩
      | .whole k _ [], some ⟨true, .arr _ w, xs, fz, _⟩ =>
        match (TV.mk (.slc w) xs).as (.slc u) with
        | some xs =>
          some ⟨cs ++ [Room (xs.length + ys.length) (E.bytes st)], .whole dst (.arr 0 u) [],
            [(dst, ⟨true, .arr 0 u, xs ++ ys, fz || E.fz dst, []⟩)], [], [k]⟩
        | none => none
      | .cut w xs, _ =>
        match (TV.mk (.slc w) xs).as (.slc u) with
        | some xs => some ⟨cs ++ [0 < ys.length, Room (xs.length + ys.length) (E.bytes st)], .whole dst (.arr 0 u) [], [(dst, ⟨true, .arr 0 u, xs ++ ys, E.fz dst, []⟩)], [], []⟩
        | none => none
      | _, _ => none
  | _ => none

def evalLen (n : Option Ty) (a : AV) (b : Option Blk) : Option Res :=
  match n with
  | some (.arr n _) => Res.pure (.val (.int .i64) (n : Int))
  | some .str => match a with
    | .val .str s => Res.pure (.val (.int .i64) ((ByteArray.size s : Nat) : Int))
    | _ => none
  | some (.slc u) => match a, b with
    | .sub _ _ _ _ len, some _ => Res.pure (.val (.int .i64) (len : Int))
    | a, b => match deepV false (.slc u) a b with
      | some (xs, cs) => Res.cond cs (.val (.int .i64) ((List.length xs : Nat) : Int))
      | none => none
  | _ => none

def evalCopy (E : Env) (dt : TypeId) (xt : TypeId) (d x : AV × Option Blk) : Option Res :=
  match E.ty dt with
  | some (.slc u) =>
    match (match E.ty xt with | some (.int _) => none | _ => srcV E u xt x.1 x.2) with
    | none => none
    | some (ys, cs) =>
      match d.1, d.2 with
      | .whole k _ path, some b =>
        if b.fz then none else
        match getP b.t b.x path with
        | some ⟨.arr n w, xs⟩ =>
          match (TV.mk (.slc w) xs).as (.slc u) with
          | some xs' =>
            match setP b.t b.x path ⟨.arr n u, ys.take xs'.length ++ xs'.drop ys.length⟩ with
            | some z => some ⟨cs, .val (.int .i64) ((min ys.length xs'.length : Nat) : Int), [], [(k, ⟨b.row, b.t, z, false, []⟩)], []⟩
            | none => none
          | none => none
        | _ => none
      | .sub k _ path off len, some b =>
        if b.fz then none else
        match getP b.t b.x path with
        | some ⟨.arr n w, xs⟩ =>
          match (TV.mk (.slc w) xs).as (.slc u) with
          | some xs' =>
            match setP b.t b.x path ⟨.arr n u, xs'.take off ++ (ys.take len ++ xs'.drop (off + min ys.length len))⟩ with
            | some z => some ⟨cs ++ [off + len ≤ xs'.length], .val (.int .i64) ((min ys.length len : Nat) : Int), [], [(k, ⟨b.row, b.t, z, false, []⟩)], []⟩
            | none => none
          | none => none
        | _ => none
      | _, _ => none
  | _ => none

/-- An index or a bound of a slice. -/
def AV.num : AV → Option Int
  | .val (.int _) n => some n
  | _ => none

def evalIndexAddr (E : Env) (t : TypeId) (x : AV × Option Blk) (i : Int) : Option Res :=
  match E.ty t, x.1, x.2 with
  | some (.arr n u), .ptr k root path, some b =>
    if (root.nav path).map (·.1) = some (.arr n u) ∧ (b.row && path.isEmpty) = false then Res.cond [0 ≤ i ∧ i < (n : Int)] (.ptr k root (path ++ [.idx i.toNat])) else none
  | some (.arr n u), .cptr w xs, _ => match (TV.mk w xs).as (.arr n u) with
    | some (xs : List u.den) => Res.cond [0 ≤ i ∧ i < (n : Int)] (.cptr u (xs.getD i.toNat u.dflt))
    | none => none
  | some (.slc u), .val w xs, _ => match (TV.mk w xs).as (.slc u) with
    | some (xs : List u.den) => Res.cond [0 ≤ i ∧ i < ((xs.length : Nat) : Int)] (.cptr u (xs.getD i.toNat u.dflt))
    | none => none
  | some (.slc u), .cut w xs, _ => match (TV.mk (.slc w) xs).as (.slc u) with
    | some (xs : List u.den) => Res.cond [0 ≤ i ∧ i < ((xs.length : Nat) : Int)] (.cptr u (xs.getD i.toNat u.dflt))
    | none => none
  | some (.slc u), .whole k root path, some b => match getP b.t b.x path with
    | some ⟨.arr _ w, xs⟩ => if w = u then Res.cond [0 ≤ i ∧ i < ((List.length xs : Nat) : Int)] (.ptr k root (path ++ [.idx i.toNat])) else none
    | _ => none
  | some (.slc u), .sub k root path off len, some b => match getP b.t b.x path with
    | some ⟨.arr _ w, xs⟩ => if w = u then Res.cond [0 ≤ i ∧ i < (len : Int), off + len ≤ List.length xs] (.ptr k root (path ++ [.idx (off + i.toNat)])) else none
    | _ => none
  | _, _, _ => none

def AV.numOr (d : Int) : Option AV → Option Int
  | none => some d
  | some a => a.num

def evalSlice (E : Env) (t : TypeId) (x : AV × Option Blk) (lo hi mx : Option AV) : Option Res :=
  match E.ty t, x.1, x.2, mx with
  | some (.arr n u), .ptr k root path, some b, none =>
    if (root.nav path).map (·.1) ≠ some (.arr n u) ∨ (b.row && path.isEmpty) = true then none else
    match lo, hi with
    | none, none => Res.pure (.whole k root path)
    | _, _ => match AV.numOr 0 lo, AV.numOr n hi with
      | some l, some h => Res.cond [0 ≤ l ∧ l ≤ h ∧ h ≤ (n : Int)] (.sub k root path l.toNat (h.toNat - l.toNat))
      | _, _ => none
  | some (.arr n u), .cptr w xs, _, none =>
    match (TV.mk w xs).as (.arr n u) with
    | some (xs : List u.den) => match lo, hi with
      | none, none => Res.pure (.val (.slc u) xs)
      | _, _ => match AV.numOr 0 lo, AV.numOr n hi with
        | some l, some h => Res.cond [0 ≤ l ∧ l ≤ h ∧ h ≤ (n : Int)] (.val (.slc u) ((xs.drop l.toNat).take (h.toNat - l.toNat)))
        | _, _ => none
    | none => none
  | some (.slc u), .val w xs, _, none =>
    match (TV.mk w xs).as (.slc u) with
    | some (xs : List u.den) => match AV.numOr 0 lo, AV.numOr (xs.length : Nat) hi with
        | some l, some h => Res.cond [0 ≤ l ∧ l ≤ h ∧ h ≤ ((xs.length : Nat) : Int)] (.val (.slc u) ((xs.drop l.toNat).take (h.toNat - l.toNat)))
        | _, _ => none
    | none => none
  | some (.slc u), .val w xs, _, some m =>
    match (TV.mk w xs).as (.slc u) with
    | some (xs : List u.den) => match AV.numOr 0 lo, hi, m.num with
        | some l, some hv, some m => match hv.num with
          | some h => Res.cond [0 ≤ l ∧ l ≤ h ∧ h = m ∧ m ≤ ((xs.length : Nat) : Int)] (.cut u ((xs.drop l.toNat).take (h.toNat - l.toNat)))
          | none => none
        | _, _, _ => none
    | none => none
  | some (.slc u), .whole k root path, some b, none =>
    match getP b.t b.x path with
    | some ⟨.arr _ w, xs⟩ => if w ≠ u then none else match AV.numOr 0 lo, AV.numOr (List.length xs : Nat) hi with
      | some l, some h => Res.cond [0 ≤ l ∧ l ≤ h ∧ h ≤ ((List.length xs : Nat) : Int)] (.sub k root path l.toNat (h.toNat - l.toNat))
      | _, _ => none
    | _ => none
  | some (.slc u), .sub k root path off len, some b, none =>
    match getP b.t b.x path with
    | some ⟨.arr _ w, _⟩ => if w ≠ u then none else match AV.numOr 0 lo, AV.numOr (len : Nat) hi with
      | some l, some h => Res.cond [0 ≤ l ∧ l ≤ h ∧ h ≤ (len : Int)] (.sub k root path (off + l.toNat) (h.toNat - l.toNat))
      | _, _ => none
    | _ => none
  | _, _, _, _ => none

def samePath : List Stp → List Stp → Bool
  | [], [] => true
  | .fld i :: p, .fld j :: q => i == j && samePath p q
  | _, _ => false
def lkAt (path : List Stp) : List (List Stp × Nat) → Option Nat
  | [] => none
  | (p, k) :: r => if samePath p path then some k else lkAt path r
def isSlc : Ty → Option Ty
  | .slc w => some w
  | _ => none
/-- What a load yields: data, or the row that the place is linked to. -/
def loadAV (u : Ty) (x : u.den) (k : Option Nat) : AV :=
  match k, isSlc u with
  | some kk, some w => .whole kk (.arr 0 w) []
  | _, _ => .val u x

def evalLoad (t : Option Ty) (a : AV) (b : Option Blk) : Option Res :=
  match t, a, b with
  | some t, .cptr u x, _ => if u = t then Res.pure (.val u x) else none
  | some t, .ptr _ _ path, some b =>
    if b.row && path.isEmpty then none else
    match getP b.t b.x path with
    | some ⟨u, x⟩ => if u = t then Res.pure (loadAV u x (lkAt path b.lk)) else none
    | none => none
  | _, _, _ => none

def fldOnly : List Stp → Bool
  | [] => true
  | .fld _ :: p => fldOnly p
  | _ => false

/-- Do two places overlap, as far as one can see? -/
def clash : List Stp → List Stp → Bool
  | .fld i :: p, .fld j :: q => if i == j then clash p q else false
  | _, _ => true

/-- The links behind a store at a place. -/
def lkSet (path : List Stp) (v : AV × Option Blk) (lk : List (List Stp × Nat)) : List (List Stp × Nat) :=
  (match v.1, v.2 with
   | .whole k (.arr 0 _) [], some b => if b.row && b.fz && fldOnly path then [(path, k)] else []
   | .vlk _ _ l, _ => if fldOnly path then l.map (fun q => (path ++ q.1, q.2)) else []
   | _, _ => []) ++ lk.filter (fun q => !(clash q.1 path))

/-- Rows of nil slices. -/
def nilNew (t : Ty) : List (List Stp × Nat) → Option (List (Nat × Blk))
  | [] => some []
  | (p, k) :: r => match t.nav p, nilNew t r with
    | some (.slc u, _), some l => if fldOnly p then some ((k, ⟨true, .arr 0 u, [], true, []⟩) :: l) else none
    | _, _ => none

def headFree : List Stp → List Nat → Bool
  | .fld i :: _, is => !(is.contains i)
  | _, _ => false

def partLink (p : Nat × AV × Option Blk) : List (List Stp × Nat) :=
  match p.2.1, p.2.2 with
  | .whole k (.arr 0 _) [], some b => if b.row && b.fz then [([.fld p.1], k)] else []
  | .vlk _ _ l, _ => l.map (fun q => (.fld p.1 :: q.1, q.2))
  | _, _ => []

def nodupB' : List Nat → Bool
  | [] => true
  | a :: l => !(l.contains a) && nodupB' l

def buildRes (E : Env) (dst : Option Nat) (t : Ty) (x : t.den) (cs : List Prop) (ps : List (Nat × AV × Option Blk)) : Option Res :=
  match dst.bind (fun d => look d E.lkd) with
  | none => Res.cond cs (.val t x)
  | some nl => match nilNew t nl with
    | some new => if nodupB' (ps.map (·.1)) && nl.all (fun q => headFree q.1 (ps.map (·.1))) then some ⟨cs, .vlk t x (ps.flatMap partLink ++ nl), new, [], []⟩ else none
    | none => none

def evalStore (t : Option Ty) (a : AV) (b : Option Blk) (v : AV × Option Blk) : Option Res :=
  match t, a, b with
  | some t, .ptr k _ path, some b =>
    if b.fz || (b.row && path.isEmpty) then none else
    match deepV true t v.1 v.2 with
    | some (y, cs) => match setP b.t b.x path ⟨t, y⟩ with
      | some z => some ⟨cs, .tnil, [], [(k, ⟨b.row, b.t, z, false, if b.row then [] else lkSet path v b.lk⟩)], []⟩
      | none => none
    | none => none
  | _, _, _ => none

def pickGo (x : Bool) (cs : List Prop) (a b : AV) : Option Res :=
  match a, b with
  | .val t y, .val u z => match (TV.mk u z).as t with
    | some z => Res.cond cs (.val t (bif x then y else z))
    | none => none
  | _, _ => none

def pickB (x : Bool) (a b : AV) : Option Res :=
  match a, b with
  | .opt p a, .opt q b => pickGo x [(x : Bool) = true → p, (x : Bool) = false → q] a b
  | .opt p a, b => pickGo x [(x : Bool) = true → p] a b
  | a, .opt q b => pickGo x [(x : Bool) = false → q] a b
  | a, b => pickGo x [] a b

def evalPick (c a b : AV) : Option Res :=
  match c with
  | .val .bool x => pickB x a b
  | .opt p (.val .bool x) => match pickB x a b with
    | some r => some ⟨p :: r.cs, r.v, r.new, r.set, r.kill⟩
    | none => none
  | _ => none

def fieldTV (x : TV) (f : Nat) : Option TV := getP x.t x.x [.fld f]

def evalFieldAddr (t : Option Ty) (f : Nat) (x : AV) (b : Option Blk) : Option Res :=
  match t, x, b with
  | some t, .ptr k root path, some b =>
    if (root.nav path).map (·.1) = some t ∧ (t.nav [.fld f]).isSome ∧ (b.row && path.isEmpty) = false then Res.pure (.ptr k root (path ++ [.fld f])) else none
  | some t, .cptr u y, _ => if u = t then (match getP u y [.fld f] with | some ⟨v, z⟩ => Res.pure (.cptr v z) | none => none) else none
  | _, _, _ => none

def evalField (t : Option Ty) (f : Nat) (x : AV) : Option Res :=
  match t, x with
  | some t, .val u y => if u = t then (match getP u y [.fld f] with | some ⟨v, z⟩ => Res.pure (.val v z) | none => none) else none
  | _, _ => none

def pairUp {α : Type} : List Nat → List α → Option (List (Nat × α))
  | [], [] => some []
  | i :: is, a :: as => match pairUp is as with | some r => some ((i, a) :: r) | none => none
  | _, _ => none

def evalIndex (t : Option Ty) (x : AV) (i : Option Int) : Option Res :=
  match t, x, i with
  | some (.arr n u), .val w xs, some i => match (TV.mk w xs).as (.arr n u) with
    | some (xs : List u.den) => Res.cond [0 ≤ i ∧ i < (n : Int)] (.val u (xs.getD i.toNat u.dflt))
    | none => none
  | some .str, .val .str s, some i => Res.cond [0 ≤ i ∧ i < ((ByteArray.size s : Nat) : Int)] (.val (.int .u8) ((((ByteArray.toList s).getD i.toNat 0).toNat : Nat) : Int))
  | _, _, _ => none

def nthAV : Nat → AV → Option AV
  | 0, .tcons a _ => some a
  | i + 1, .tcons _ b => nthAV i b
  | _, _ => none

def evalExtract (i : Nat) (x : AV) : Option Res :=
  match nthAV i x with
  | some a => if a.isTup then none else Res.pure a
  | none => none

def evalConvert (same : Bool) (s d : Option Ty) (fz : Nat → Bool) (dst : Option Nat) (x : AV) (b : Option Blk) : Option Res :=
  match s, d with
  | some (.int _), some (.int k) => match x with
    | .val (.int _) n => Res.pure (.val (.int k) (k.wrap n))
    | _ => none
  | some .str, some (.slc (.int .u8)) => match x, dst with
    | .val .str s, some dk => some ⟨[], .whole dk (.arr 0 (.int .u8)) [], [(dk, ⟨true, .arr 0 (.int .u8), ((ByteArray.toList s).map fun (c : UInt8) => ((c.toNat : Nat) : Int) : List Int), fz dk, []⟩)], [], []⟩
    | _, _ => none
  | some (.slc (.int .u8)), some .str => match deepV false (.slc (.int .u8)) x b with
    | some (xs, cs) => Res.cond cs (.val .str ⟨(List.map (fun (n : Int) => UInt8.ofNat n.toNat) xs).toArray⟩)
    | none => none
  | some (.slc (.int .u8)), some (.slc (.int .u8)) => match same, x, deepV true (.slc (.int .u8)) x b with
    | true, .whole k _ [], some (xs, cs) => some ⟨cs ++ [0 < List.length xs], .val (.slc (.int .u8)) xs, [], [], [k]⟩
    | _, _, _ => none
  | _, _ => none

def evalToArr (t : Option Ty) (x : AV) (b : Option Blk) : Option Res :=
  match t with
  | some (.arr n u) => if n = 0 then none else match deepV true (.slc u) x b with
    | some (xs, cs) => Res.cond (cs ++ [n ≤ List.length xs]) (.cptr (.arr n u) (List.take n xs))
    | none => none
  | _ => none

def evalMM (mx : Bool) (x y : AV) : Option Res :=
  match x, y with
  | .val (.int k) a, .val (.int k') b => if k = k' then Res.pure (.val (.int k) (if mx then (if (b : Int) > a then b else a) else (if (b : Int) < a then b else a))) else none
  | _, _ => none

def avLinks : AV → List (List Stp × Nat)
  | .vlk _ _ l => l
  | _ => []

/-- What a function captures: data, or a pointer to memory that stays. -/
def capAV (a : AV) (b : Option Blk) : Option TV :=
  match a, b with
  | .val t x, _ => some ⟨t, x⟩
  | .cptr t x, _ => some ⟨.ref t, x⟩
  | .ptr _ _ path, some b => if b.fz && !(b.row && path.isEmpty) then (match getP b.t b.x path with | some ⟨t, x⟩ => some ⟨.ref t, x⟩ | none => none) else none
  | _, _ => none

/-- The call of a function value. -/
def evalCallF (E : Env) (f : FuncId) (dst : Option Nat) (args : List (AV × Option Blk)) : Option Res :=
  match E.con f with
  | none => none
  | some c =>
    match mkArgs (!(c.rets.all RK.flatOk)) c.params args with
    | none => none
    | some (xs, cs) => some ⟨cs ++ [c.pre xs], oneAV c.rets (mkRets E.fz (dst.getD 999999) 0 c.rets (c.fn xs)).1, (mkRets E.fz (dst.getD 999999) 0 c.rets (c.fn xs)).2, [], []⟩

def evalMakeFunc (fn : Fn) (first : Nat) (args : List (AV × Option Blk)) : Option Res :=
  match fn, first, args with
  | .func f, 0, [(a, b)] => match capAV a b with
    | some tv => Res.pure (.val (.fn f tv.t) tv.x)
    | none => none
  | _, _, _ => none

/-- s[l:] of a frozen row: the row's rest is a row. -/
def evalTail (t : Option Ty) (dst : Option Nat) (x : AV × Option Blk) (l : AV) : Option Res :=
  match t, x.1, x.2, dst, l.num with
  | some (.slc u), .whole k _ [], some ⟨true, .arr _ w, xs, true, _⟩, some d, some l =>
    match (TV.mk (.slc w) xs).as (.slc u) with
    | some xs => some ⟨[0 ≤ l ∧ l < (List.length xs : Int)], .whole d (.arr 0 u) [], [(d, ⟨true, .arr 0 u, List.drop l.toNat xs, true, []⟩)], [], [k]⟩
    | none => none
  | _, _, _, _, _ => none

/-- The links below a place. -/
def lkUnder : List Stp → List Stp → Option (List Stp)
  | [], q => some q
  | .fld i :: p, .fld j :: q => if i == j then lkUnder p q else none
  | _, _ => none

def evalLoadL (t : Option Ty) (a : AV) (b : Option Blk) : Option Res :=
  match t, a, b with
  | some t, .ptr _ _ path, some b =>
    if b.row then none else
    match getP b.t b.x path with
    | some ⟨u, x⟩ => if u = t then Res.pure (.vlk u x (b.lk.filterMap (fun q => (lkUnder path q.1).map (fun r => (r, q.2))))) else none
    | none => none
  | _, _, _ => none

/-! ## Maps -/
def mhas (K V : Ty) (k : K.den) : List (K.den × V.den) → Bool
  | [] => false
  | p :: r => if K.beq k p.1 then true else mhas K V k r
def mget (K V : Ty) (k : K.den) (d : V.den) : List (K.den × V.den) → V.den
  | [] => d
  | p :: r => if K.beq k p.1 then p.2 else mget K V k d r
def mput (K V : Ty) (k : K.den) (v : V.den) : List (K.den × V.den) → List (K.den × V.den)
  | [] => [(k, v)]
  | p :: r => if K.beq k p.1 then (k, v) :: r else p :: mput K V k v r

def evalMakeMap (t : Option Ty) (dst : Option Nat) (args : List (AV × Option Blk)) : Option Res :=
  match t, dst, args with
  | some (.map K V), some d, [] => some ⟨[], .mref d, [(d, ⟨true, .map K V, [], false, []⟩)], [], []⟩
  | some (.map K V), some d, [(a, _)] => match a.num with
    | some _ => some ⟨[], .mref d, [(d, ⟨true, .map K V, [], false, []⟩)], [], []⟩
    | none => none
  | _, _, _ => none

def evalLookup (t : Option Ty) (ok : Bool) (x : AV × Option Blk) (y : AV) : Option Res :=
  match t, x.1, x.2 with
  | some (.map (.arr n (.int q)) V), .mref _, some ⟨true, u, xs, false, _⟩ =>
    match (TV.mk u xs).as (.map (.arr n (.int q)) V), deepV false (.arr n (.int q)) y none with
    | some xs, some (k, []) =>
      if ok then Res.pure (.tcons (.val V (mget (.arr n (.int q)) V k V.dflt xs)) (.tcons (.val .bool (mhas (.arr n (.int q)) V k xs)) .tnil))
      else Res.pure (.val V (mget (.arr n (.int q)) V k V.dflt xs))
    | _, _ => none
  | _, _, _ => none

def evalMapUpdate (t : Option Ty) (x : AV × Option Blk) (y : AV) (z : AV × Option Blk) : Option Res :=
  match t, x.1, x.2 with
  | some (.map (.arr n (.int q)) V), .mref m, some ⟨true, u, xs, false, _⟩ =>
    match (TV.mk u xs).as (.map (.arr n (.int q)) V), deepV false (.arr n (.int q)) y none, deepV true V z.1 z.2 with
    | some xs, some (k, []), some (v, cs) => some ⟨cs, .tnil, [], [(m, ⟨true, .map (.arr n (.int q)) V, mput (.arr n (.int q)) V k v xs, false, []⟩)], []⟩
    | _, _, _ => none
  | _, _, _ => none

/-- The abstract step of one operation whose arguments are known. -/
def evalOp (E : Env) (op : Op) (type : TypeId) (dst : Option Nat) (args : List (AV × Option Blk)) : Option Res :=
  match op, args with
  | .move _, [(a, _)] => Res.pure a
  | .assign _, [(a, _)] => match a with
    | .raw v => match E.ty type with
      | some t => match rawV t v with | some x => Res.pure (.val t x) | none => none
      | none => none
    | a => Res.pure a
  | .nilCheck _, [(a, b)] => match a, b with
    | .ptr k root path, some _ => Res.pure (.ptr k root path)
    | .cptr t x, _ => Res.pure (.cptr t x)
    | .val (.fn f c) x, _ => Res.pure (.val (.fn f c) x)
    | _, _ => none
  | .pick _ _ _, [(c, _), (a, _), (b, _)] => evalPick c a b
  | .alloc e, [] => match E.ty e, dst with
    | some t, some d => some ⟨[], .ptr d t [], [(d, ⟨false, t, t.dflt, false, []⟩)], [], []⟩
    | _, _ => none
  | .box e _, [(a, b)] => match E.ty e, dst with
    | some t, some d => match deepV true t a b with
      | some (x, cs) => some ⟨cs, .ptr d t [], [(d, ⟨false, t, x, false, avLinks a⟩)], [], []⟩
      | none => none
    | _, _ => none
  | .build t parts, args => match E.ty t, pairUp (parts.toList.map (·.1)) args with
    | some (.arr n u), some ps => match fillParts (fun i => [.idx i]) (.arr n u) (Ty.dflt (.arr n u)) (ps.map fun p => (p.1, p.2.1, p.2.2)) (fun i => if i < n then some u else none) with
      | some (x, cs) => Res.cond cs (.val (.arr n u) x)
      | none => none
    | some t, some ps => if !t.isAgg then none else match fillParts (fun i => [.fld i]) t t.dflt (ps.map fun p => (p.1, p.2.1, p.2.2)) (fun i => (t.nav [.fld i]).map (·.1)) with
      | some (x, cs) => buildRes E dst t x cs ps
      | none => none
    | _, _ => none
  | .buildSlice t len parts, args => match E.ty t, pairUp (parts.toList.map (·.1)) args, dst with
    | some (.slc u), some ps, some d => match fillParts (fun i => [.idx i]) (.arr len u) (Ty.dflt (.arr len u)) (ps.map fun p => (p.1, p.2.1, p.2.2)) (fun i => if i < len then some u else none) with
      | some (x, cs) => if len * u.size > 2 ^ 24 then none else some ⟨cs, .whole d (.arr 0 u) [], [(d, ⟨true, .arr 0 u, x, E.fz d, []⟩)], [], []⟩
      | none => none
    | _, _, _ => none
  | .load t _, [(a, b)] => if E.lkl.contains (dst.getD 999999) then evalLoadL (E.ty t) a b else evalLoad (E.ty t) a b
  | .store t _ _, [(a, b), v] => evalStore (E.ty t) a b v
  | .binOp op xt _ _ _, [(x, _), (y, _)] => evalBin E op xt x y
  | .unOp op _ _, [(x, _)] => match op, x with
    | .neg, .val (.int k) n => Res.pure (.val (.int k) (k.wrap (0 - (n : Int))))
    | .xor, .val (.int k) n => Res.pure (.val (.int k) (inot k n))
    | .not, .val .bool b => Res.pure (.val .bool (!(b : Bool)))
    | _, _ => none
  | .convert src d _, [(x, b)] => evalConvert (src == d) (E.ty src) (E.ty d) E.fz dst x b
  | .sliceToArrayPointer arr _, [(x, b)] => evalToArr (E.ty arr) x b
  | .makeSlice t _ _, [(l, _), (c, _)] => match E.ty t, l.num, c.num, dst with
    | some (.slc u), some l, some c, some d =>
      some ⟨[0 ≤ l ∧ l ≤ c, Room c.toNat (E.bytes t)], .whole d (.arr 0 u) [], [(d, ⟨true, .arr 0 u, List.replicate l.toNat u.dflt, E.icy.contains d, []⟩)], [], []⟩
    | _, _, _, _ => none
  | .slice t _ lo hi mx, (x, b) :: r => match lo.isSome, hi.isSome, mx.isSome, r with
    | true, true, true, [(l, _), (h, _), (m, _)] => evalSlice E t (x, b) (some l) (some h) (some m)
    | false, true, true, [(h, _), (m, _)] => evalSlice E t (x, b) none (some h) (some m)
    | true, true, false, [(l, _), (h, _)] => evalSlice E t (x, b) (some l) (some h) none
    | true, false, false, [(l, _)] => if E.tails.contains (dst.getD 999999) then evalTail (E.ty t) dst (x, b) l else evalSlice E t (x, b) (some l) none none
    | false, true, false, [(h, _)] => evalSlice E t (x, b) none (some h) none
    | false, false, false, [] => evalSlice E t (x, b) none none none
    | _, _, _, _ => none
  | .fieldAddr s _ f, [(x, b)] => evalFieldAddr (E.ty s) f x b
  | .field s _ f, [(x, _)] => evalField (E.ty s) f x
  | .indexAddr t _ _, [x, (i, _)] => match i.num with
    | some n => evalIndexAddr E t x n
    | none => none
  | .index t _ _, [(x, _), (i, _)] => evalIndex (E.ty t) x i.num
  | .extract _ i, [(x, _)] => evalExtract i x
  | .makeFunc fn first _, args => evalMakeFunc fn first.size args
  | .makeMap t _, args => evalMakeMap (E.ty t) dst args
  | .lookup t _ _ ok, [x, (y, _)] => evalLookup (E.ty t) ok x y
  | .mapUpdate t _ _ _, [x, (y, _), z] => evalMapUpdate (E.ty t) x y z
  | .insert t _ _ _, [x, (y, _), z] => evalMapUpdate (E.ty t) x y z
  | .call c, args => match c.callee, args with
    | .value _, (.fn f, _) :: r => evalCall E f dst r
    | .value _, (.val (.fn f c) x, _) :: r => evalCallF E f dst (r ++ [(.val c x, none)])
    | .builtin .len, [(a, b)] => evalLen ((c.argTypes[0]?).bind E.ty) a b
    | .builtin .append, [s, x] => match c.argTypes.toList, dst with
      | [st, xt], some d => evalAppend E d st xt s x
      | _, _ => none
    | .builtin .copy, [d, x] => match c.argTypes.toList with
      | [dt, xt] => evalCopy E dt xt d x
      | _ => none
    | .builtin .min, [(x, _), (y, _)] => evalMM false x y
    | .builtin .max, [(x, _), (y, _)] => evalMM true x y
    | _, _ => none
  | _, _ => none

end Lc
