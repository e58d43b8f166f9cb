/- The engine, part C: the abstract step of an operation in a state, regions, loops and cuts, and a function's condition. -/
import Derived.Test.YtbaiojghpadffaaEngB
namespace Lc
open Go
set_option linter.unusedVariables false
set_option linter.unusedSimpArgs false

def constAV : Value → AV
  | .bool b => .val .bool b
  | .int k n => .val (.int k) n
  | .string s => .val .str s
  | .slice none 0 0 => .nil
  | v => .raw v

def evalO (E : Env) (tm : List (Nat × AV)) : Operand → Option AV
  | .tmp t => look t tm
  | .const v => some (constAV v)
  | .global g => match E.glob g with | some tv => some (.cptr tv.t tv.x) | none => none
  | .func f => some (.fn f)

def blkOf (hp : List (Nat × Option Blk)) (a : AV) : Option Blk :=
  match a.key with
  | none => none
  | some k => match look k hp with
    | some (some b) => some b
    | _ => none

def strip : AV → AV × List Prop
  | .opt p a => if a.isTup then (.opt p a, []) else ((strip a).1, p :: (strip a).2)
  | a => (a, [])

def isPick : Op → Bool
  | .pick _ _ _ => true
  | _ => false

def touches : Op → Bool
  | .move _ | .assign _ | .pick _ _ _ | .binOp _ _ _ _ _ | .unOp _ _ _ | .field _ _ _ | .index _ _ _ | .extract _ _ => false
  | _ => true

def writes : Op → Bool
  | .store _ _ _ => true
  | .mapUpdate _ _ _ _ => true
  | .insert _ _ _ _ => true
  | .slice _ _ _ _ _ => true
  | .call c => match c.callee with
    | .builtin .append | .builtin .copy | .value _ => true
    | _ => false
  | .convert s d _ => s == d
  | _ => false

def evalArgs (E : Env) (st : St) (pk tc : Bool) : List Operand → Option (List (AV × Option Blk) × List Prop)
  | [] => some ([], [])
  | o :: r => match evalO E st.tm o with
    | none => none
    | some a => match evalArgs E st pk tc r with
      | none => none
      | some (l, cs) => if pk then some ((a, none) :: l, cs) else some (((strip a).1, if tc then blkOf st.hp a else none) :: l, (strip a).2 ++ cs)

/-- none: no meaning; some none: no guard; some (some g): it is carried out where g holds. -/
def guardP (ops : Array Oper) (o : Oper) (tm : List (Nat × AV)) : Option (Option Prop) :=
  match o.guard with
  | none => some none
  | some (g, b) => match (ops[g]?).bind (·.dst) with
    | none => none
    | some d => match look d tm with
      | some (.val .bool x) => some (some ((x : Bool) = b))
      | some (.opt p (.val .bool x)) => some (some (p ∧ (x : Bool) = b))
      | _ => none

def nodupB : List Nat → Bool
  | [] => true
  | a :: l => !(l.contains a) && nodupB l

def Res.hp (r : Res) (hp : List (Nat × Option Blk)) : List (Nat × Option Blk) :=
  r.new.map (fun p => (p.1, some p.2)) ++ (r.set.map (fun p => (p.1, some p.2)) ++ (r.kill.map (fun k => (k, none)) ++ hp))

def blkKeys : Option Blk → List Nat
  | some b => b.lk.map (·.2)
  | none => []
def argKeys (p : AV × Option Blk) : List Nat := p.1.keys ++ blkKeys p.2
def keysOf (args : List (AV × Option Blk)) : List Nat := args.flatMap argKeys

/-- What an operation may do to memory, by its kind; and where its result's handles come from. -/
def resOk (op : Op) (args : List (AV × Option Blk)) (r : Res) : Bool :=
  (touches op || r.new.isEmpty) && (writes op || (r.set.isEmpty && r.kill.isEmpty)) &&
  (r.set.all (fun p => (keysOf args).contains p.1) && r.kill.all (fun k => (keysOf args).contains k)) &&
  (r.new.all (fun p => p.2.lk.all (fun q => (keysOf args).contains q.2)) && r.set.all (fun p => p.2.lk.all (fun q => (keysOf args).contains q.2 || (r.new.map (·.1)).contains q.2))) &&
  r.v.keys.all (fun k => (keysOf args).contains k || (r.new.map (·.1)).contains k)

def readL (st : St) (t : Ty) (lk : List (List Stp × Nat)) : List (List Stp × Ty × Nat) → Option (List (Nat × Nat))
  | [] => some []
  | (p, u, m) :: r =>
    if (t.nav p).map (·.1) = some (.slc u) then
      match lkAt p lk, readL st t lk r with
      | some kk, some l => match look kk st.hp with
        | some (some ⟨true, .arr _ u', _, true, _⟩) => if u' = u then some ((m, kk) :: l) else none
        | _ => none
      | _, _ => none
    else none

def pkey (d : Nat) (q : List Stp × Ty × Nat) : Nat := 20000 + 1000 * q.2.2 + d

def RK.plain : RK → Bool
  | .deep t => t.flat
  | .own _ => false
  | .ownw _ => false
  | .vlk _ _ => false

def isArrT : Ty → Bool
  | .arr _ _ => true
  | _ => false

/-- A call of a method with a pointer to a struct. -/
def evalPtr (c : ConP) (hp : List (Nat × Option Blk)) (d : Nat) (args : List (AV × Option Blk)) : Option Res :=
  match args with
  | (.ptr k _ [], some b) :: r =>
    if b.row || b.fz then none else
    match (TV.mk b.t b.x).as c.t with
    | none => none
    | some x =>
      match readL ⟨[], hp⟩ c.t b.lk c.ps, mkArgs true c.params r with
      | some l, some (ys, cs) =>
        if nodupB (k :: l.map (·.2)) && nodupB (0 :: c.ps.map (·.2.2)) && c.rets.all RK.plain && !(isArrT c.t) then
          some ⟨cs ++ [c.pre x ys], oneAV c.rets (mkRets (fun _ => true) d 0 c.rets (c.fn x ys).2).1,
            c.ps.map (fun q => (pkey d q, (linkB c.t (c.fn x ys).1 q).2)),
            [(k, ⟨false, c.t, (c.fn x ys).1, false, c.ps.map (fun q => (q.1, pkey d q))⟩)], l.map (·.2)⟩
        else none
      | _, _ => none
  | _ => none

def evalOpH (E : Env) (hp : List (Nat × Option Blk)) (op : Op) (type : TypeId) (dst : Option Nat) (args : List (AV × Option Blk)) : Option Res :=
  match op, args, dst with
  | .call c, (.fn f, _) :: r, some d => match c.callee, E.ptr f with
    | .value _, some pc => evalPtr pc hp d r
    | _, _ => evalOp E op type dst args
  | _, _, _ => evalOp E op type dst args

def stepA (E : Env) (ops : Array Oper) (o : Oper) (st : St) : Option (List Prop × St) :=
  match evalArgs E st (isPick o.op) (touches o.op) o.op.operands.toList with
  | none => none
  | some (args, cs0) =>
    match guardP ops o st.tm with
    | none => none
    | some g =>
      match evalOpH E st.hp o.op o.type o.dst args with
      | none => none
      | some r =>
        if !(r.new.all (fun p => (look p.1 st.hp).isNone) && nodupB (r.new.map (·.1)) && resOk o.op args r) then none else
        match g, o.dst with
        | none, some d => if d < E.ntm && !(E.lock.contains d) then some (cs0 ++ r.cs, ⟨(d, r.v) :: st.tm, r.hp st.hp⟩) else none
        | none, none => some (cs0 ++ r.cs, ⟨st.tm, r.hp st.hp⟩)
        | some g, some d =>
          if d < E.ntm && !(E.lock.contains d) && r.set.isEmpty && !r.v.isTup && r.new.all (fun p => p.2.lk.isEmpty) then
            some ((cs0 ++ r.cs).map (fun c => g → c), ⟨(d, .opt g r.v) :: st.tm, r.hp st.hp⟩) else none
        | some _, none => none

def runOps (E : Env) (ops : Array Oper) : List Oper → St → Option (List Prop × St)
  | [], st => some ([], st)
  | o :: r, st => match stepA E ops o st with
    | none => none
    | some (cs, st') => match runOps E ops r st' with
      | none => none
      | some (cs', st'') => some (cs ++ cs', st'')

/-! ## Which orders do not matter -/
def Oper.looks (ops : Array Oper) (o : Oper) : List Nat :=
  (o.op.operands.toList.filterMap fun | .tmp t => some t | _ => none) ++
  (match o.guard with
   | some (g, _) => ((ops[g]?).bind (·.dst)).toList
   | none => [])

def disj (a b : List Nat) : Bool := a.all (fun k => !(b.contains k))

/-- Two operations (with the keys of their arguments, and those that they write) whose order does not matter. -/
def indep (ops : Array Oper) (x : Oper) (fx : List Nat × List Nat) (y : Oper) (fy : List Nat × List Nat) : Bool :=
  (match x.dst with | some d => !((Oper.looks ops y).contains d) && y.dst != some d | none => true) &&
  (match y.dst with | some d => !((Oper.looks ops x).contains d) | none => true) &&
  (!(writes x.op && touches y.op) || disj fx.2 fy.1) && (!(touches x.op && writes y.op) || disj fx.1 fy.2)

def wrKeys (E : Env) (hp : List (Nat × Option Blk)) (o : Oper) (args : List (AV × Option Blk)) : List Nat :=
  match evalOpH E hp o.op o.type o.dst args with | some r => r.set.map (·.1) ++ r.kill | none => []

/-- The keys of the arguments of each operation, and those that it writes, along a run. -/
def foots (E : Env) (ops : Array Oper) : List Oper → St → List (List Nat × List Nat)
  | [], _ => []
  | o :: r, st => (match evalArgs E st (isPick o.op) (touches o.op) o.op.operands.toList with | some (args, _) => (keysOf args, wrKeys E st.hp o args) | none => ([], [])) ::
    (match stepA E ops o st with | some (_, st') => foots E ops r st' | none => [])

def union (a b : List Nat) : List Nat := a.foldl (fun acc x => if acc.contains x then acc else x :: acc) b

/-- Operations that must lie ahead of number n (its edges, and theirs). -/
def aheadRow (ops : Array Oper) (n : Nat) (l : List (Nat × List Nat)) : List Nat :=
  match ops[n]? with
  | none => []
  | some o => (o.after.toList.filter (fun e => Region.binds .any e)).foldl (fun acc e => union (e.on :: (look e.on l).getD []) acc) []

def aheadR (ops : Array Oper) : Nat → List (Nat × List Nat)
  | 0 => []
  | n + 1 => (n, aheadRow ops n (aheadR ops n)) :: aheadR ops n

def ahead (tab : List (Nat × List Nat)) (j : Nat) : List Nat := (look j tab).getD []

def drawGo (ops : Array Oper) (fs : List (List Nat × List Nat)) (tab : List (Nat × List Nat)) : Bool :=
  (List.range ops.size).all fun j =>
    (match ops[j]? with
     | none => false
     | some y => y.after.toList.all (fun e => !(Region.binds .any e) || decide (e.on < j)) &&
      (let al := ahead tab j
       (List.range j).all fun i => al.contains i || (match ops[i]? with | none => false | some x => indep ops x (fs.getD i ([], [])) y (fs.getD j ([], [])))))

def drawOk (ops : Array Oper) (fs : List (List Nat × List Nat)) : Bool := drawGo ops fs (aheadR ops ops.size)

def freeze (st : St) : List Nat → St
  | [] => st
  | n :: r =>
    let st := freeze st r
    match look n st.tm with
    | none => st
    | some a => match a.key with
      | none => st
      | some k => match look k st.hp with
        | some (some b) => if b.row && isMapT b.t then st else ⟨st.tm, (k, some ⟨b.row, b.t, b.x, true, []⟩) :: st.hp⟩
        | _ => st

/-! ## Loops and cuts -/
inductive Shape where
  | val (t : Ty) | own (t : Ty) (fz : Bool) | ptr (t : Ty)
  /-- a struct whose slices at these places lie in rows of its own (with the rows' names) -/
  | ptrL (t : Ty) (ps : List (List Stp × Ty × Nat))
  /-- a map that was made -/
  | map (k v : Ty)

@[reducible] def Shape.den : Shape → Type
  | .val t => t.den
  | .own t _ => List t.den
  | .ptr t => t.den
  | .ptrL t _ => t.den
  | .map k v => List (k.den × v.den)

@[reducible] def VDen : List (Nat × Shape) → Type
  | [] => Unit
  | p :: r => p.2.den × VDen r

@[reducible] def VFun (β : Type) : List (Nat × Shape) → Type
  | [] => β
  | p :: r => p.2.den → VFun β r

def vapp {β : Type} : (vs : List (Nat × Shape)) → VFun β vs → VDen vs → β
  | [], f, _ => f
  | _ :: r, f, x => vapp r (f x.1) x.2

def vall : (vs : List (Nat × Shape)) → (VDen vs → Prop) → Prop
  | [], f => f ()
  | p :: r, f => ∀ x : p.2.den, vall r (fun y => f (x, y))

structure Ann where
  frz : List Nat
  keep : List Nat
  vars : List (Nat × Shape)
  inv : VFun Prop vars
  mes : VFun Nat vars

/-- What a slot holds, at a cut: its data and the keys that it takes along, with their new names. -/
def readS (st : St) (n : Nat) : (s : Shape) → Option (s.den × List (Nat × Nat))
  | .val t => match look n st.tm with
    | none => none
    | some a => match deepV true t a (blkOf st.hp a) with
      | some (x, []) => some (x, [])
      | _ => none
  | .own t fz => match look n st.tm with
    | some .nil => some ([], [])
    | some (.whole k _ []) => match look k st.hp with
      | some (some ⟨true, .arr _ u, xs, fz', _⟩) =>
        if fz' != fz then none else
        match (TV.mk (.slc u) xs).as (.slc t) with
        | some y => some (y, [(n, k)])
        | none => none
      | _ => none
    | _ => none
  | .ptr t => match look n st.tm with
    | some (.ptr k _ []) => match look k st.hp with
      | some (some ⟨false, u, x, false, _⟩) => match (TV.mk u x).as t with
        | some y => some (y, [(n, k)])
        | none => none
      | _ => none
    | _ => none
  | .ptrL t ps => match look n st.tm with
    | some (.ptr k _ []) => match look k st.hp with
      | some (some ⟨false, u, x, false, lk⟩) => match (TV.mk u x).as t with
        | some y => match readL st t lk ps with
          | some l => some (y, (n, k) :: l)
          | none => none
        | none => none
      | _ => none
    | _ => none
  | .map K V => match look n st.tm with
    | some (.mref k) => match look k st.hp with
      | some (some ⟨true, u, x, false, _⟩) => match (TV.mk u x).as (.map K V) with
        | some y => some (y, [(n, k)])
        | none => none
      | _ => none
    | _ => none

def readV (st : St) : (vs : List (Nat × Shape)) → Option (VDen vs × List (Nat × Nat))
  | [] => some ((), [])
  | p :: r => match readS st p.1 p.2, readV st r with
    | some (x, ks), some (y, ks') => some ((x, y), ks ++ ks')
    | _, _ => none

def base : Nat := 5000

def avOf (n : Nat) : (s : Shape) → s.den → AV
  | .val t, x => .val t x
  | .own t _, _ => .whole (base + n) (.arr 0 t) []
  | .ptr t, _ => .ptr (base + n) t []
  | .ptrL t _, _ => .ptr (base + n) t []
  | .map _ _, _ => .mref (base + n)

def mkTm : (vs : List (Nat × Shape)) → VDen vs → List (Nat × AV)
  | [], _ => []
  | p :: r, x => (p.1, avOf p.1 p.2 x.1) :: mkTm r x.2

def blksOf (n : Nat) : (s : Shape) → s.den → List (Nat × Blk)
  | .val _, _ => []
  | .own t fz, xs => [(n, ⟨true, .arr 0 t, xs, fz, []⟩)]
  | .ptr t, x => [(n, ⟨false, t, x, false, []⟩)]
  | .ptrL t ps, x => (n, ⟨false, t, x, false, ps.map (fun q => (q.1, base + q.2.2))⟩) :: ps.map (linkB t x)
  | .map k v, x => [(n, ⟨true, .map k v, x, false, []⟩)]

def allBlks : (vs : List (Nat × Shape)) → VDen vs → List (Nat × Blk)
  | [], _ => []
  | p :: r, x => blksOf p.1 p.2 x.1 ++ allBlks r x.2

def mkHp (vs : List (Nat × Shape)) (x : VDen vs) : List (Nat × Option Blk) := (allBlks vs x).map (fun q => (base + q.1, some q.2))

def names (p : Nat × Shape) : List Nat := p.1 :: (match p.2 with | .ptrL _ ps => ps.map (·.2.2) | _ => [])

/-- A slot that is kept: its value must name no writable memory. -/
def fixAV (a : AV) (b : Option Blk) : Option AV :=
  match a, b with
  | .val t x, _ => some (.val t x)
  | .cptr t x, _ => some (.cptr t x)
  | .nil, _ => some .nil
  | .raw v, _ => some (.raw v)
  | .cut t x, _ => some (.cut t x)
  | .ptr _ _ path, some b => if b.fz && !(b.row && path.isEmpty) then (match getP b.t b.x path with | some ⟨t, x⟩ => some (.cptr t x) | none => none) else none
  | .whole _ _ path, some b => if b.fz then (match getP b.t b.x path with | some ⟨.arr _ t, xs⟩ => some (.val (.slc t) xs) | _ => none) else none
  | _, _ => none

def keepTm (st : St) : List Nat → Option (List (Nat × AV))
  | [] => some []
  | n :: r => match look n st.tm with
    | none => none
    | some a => match fixAV a (blkOf st.hp a), keepTm st r with
      | some a, some l => some ((n, a) :: l)
      | _, _ => none

def firstR : Code → Option Nat
  | .region id _ _ => some id
  | .seq a b => match firstR a with | some i => some i | none => firstR b
  | .cond _ a b => match firstR a with | some i => some i | none => firstR b
  | .block _ b => firstR b
  | .loop b => firstR b
  | .scope b => firstR b
  | _ => none

def Ann.at (A : Ann) (kept : List (Nat × AV)) (x : VDen A.vars) : St := ⟨mkTm A.vars x ++ kept, mkHp A.vars x⟩

def conjK : List Prop → Prop → Prop
  | [], k => k
  | c :: cs, k => c ∧ conjK cs k

def Exit.thenA (next : St → Prop) (Q : Exit → St → Prop) : Exit → St → Prop
  | .normal, s => next s
  | e, s => Q e s

def Exit.inBlockA (id : Nat) (Q : Exit → St → Prop) : Exit → St → Prop
  | .exit j, s => if j = id then Q .normal s else Q (.exit j) s
  | e, s => Q e s

def Exit.noGotoA (Q : Exit → St → Prop) : Exit → St → Prop
  | .goto _, _ => False
  | e, s => Q e s

/-- An annotation that may name what some slots hold as the loop, or the part ahead of the cut, begins. -/
structure AnnS where
  see : List (Nat × Shape)
  ann : VDen see → Ann

def AnnS.at? (o : Option AnnS) (st : St) : Option Ann :=
  match o with
  | some S => match readV st S.see with
    | some (y, _) => some (S.ann y)
    | none => none
  | none => none

structure Notes where
  /-- loops, by the number of the first region inside -/
  loops : Nat → Option AnnS
  /-- cuts between two statements, by the number of the second one's first region -/
  cuts : Nat → Option AnnS
  /-- slots whose memory is frozen ahead of a region -/
  frz : Nat → List Nat

def slotsOk (A : Ann) : Bool := nodupB (A.vars.flatMap names)

def Env.locked (E : Env) (l : List Nat) : Env := { E with lock := l ++ E.lock }

/-- What must hold at a cut. -/
def atCut (A : Ann) (k : VDen A.vars → Prop) (s : St) : Prop :=
  match readV s A.vars with
  | some (x, ks) => if nodupB (ks.map (·.2)) then k x else False
  | none => False

def wpA (N : Notes) : Env → Code → (Exit → St → Prop) → St → Prop
  | _, .skip, Q, st => Q .normal st
  | E, .region id ops draw, Q, st =>
    if draw && !(drawOk ops (foots E ops ops.toList (freeze st (N.frz id)))) then False else
    match runOps E ops ops.toList (freeze st (N.frz id)) with
    | some (cs, st') => conjK cs (Q .normal st')
    | none => False
  | E, .seq a b, Q, st =>
    match (match firstR b with | some i => AnnS.at? (N.cuts i) st | none => none) with
    | none => wpA N E a (Exit.thenA (wpA N E b Q) Q) st
    | some A =>
      match keepTm (freeze st A.frz) A.keep with
      | none => False
      | some kept =>
        if slotsOk A then
          wpA N (E.locked A.keep) a (Exit.thenA (atCut A (vapp A.vars A.inv)) Q) (freeze st A.frz) ∧
          vall A.vars (fun x => vapp A.vars A.inv x → wpA N E b Q (A.at kept x))
        else False
  | E, .cond c t e, Q, st =>
    match evalO E st.tm c with
    | some (.val .bool x) => ((x : Bool) = true → wpA N E t Q st) ∧ ((x : Bool) = false → wpA N E e Q st)
    | _ => False
  | E, .block id c, Q, st => wpA N E c (Exit.inBlockA id Q) st
  | E, .loop c, Q, st =>
    match (match firstR c with | some i => AnnS.at? (N.loops i) st | none => none) with
    | none => False
    | some A =>
      match keepTm (freeze st A.frz) A.keep with
      | none => False
      | some kept =>
        if slotsOk A then
          atCut A (vapp A.vars A.inv) (freeze st A.frz) ∧
          vall A.vars (fun x => vapp A.vars A.inv x → wpA N (E.locked A.keep) c (Exit.thenA (atCut A (fun y => vapp A.vars A.inv y ∧ vapp A.vars A.mes y < vapp A.vars A.mes x)) Q) (A.at kept x))
        else False
  | E, .scope c, Q, st => wpA N E c (Exit.noGotoA Q) st
  | _, .label _, Q, st => Q .normal st
  | _, .exit id, Q, st => Q (.exit id) st
  | _, .ret, Q, st => Q .ret st
  | _, _, _, _ => False

/-! ## A function -/
/-- What a result is read from. -/
def resAV (E : Env) (st : St) : ResultVar → Option AV
  | .tmp t => look t st.tm
  | .cell a tid => match look a st.tm with
    | some (.ptr k _ []) => match look k st.hp with
      | some (some b) => if b.row then none else if E.ty tid = some b.t then some (.val b.t b.x) else none
      | _ => none
    | _ => none

def readR (E : Env) (st : St) (need : Bool) : (rs : List RK) → List ResultVar → Option (RTup rs × List Prop × List Nat)
  | [], [] => some ((), [], [])
  | r :: rs, v :: vs =>
    match readR E st need rs vs with
    | none => none
    | some (y, cs, ks) =>
      match resAV E st v with
      | none => none
      | some a =>
        match r with
        | .deep t => match deepV need t a (blkOf st.hp a) with
          | some (x, cs') => some ((x, y), cs' ++ cs, ks)
          | none => none
        | .own t => match a with
          | .nil => some (([], y), cs, ks)
          | .whole k _ [] => match look k st.hp with
            | some (some ⟨true, .arr _ u, xs, _, _⟩) =>
              match (TV.mk (.slc u) xs).as (.slc t) with
              | some x => some ((x, y), cs, k :: ks)
              | none => none
            | _ => none
          | _ => none
        | .ownw t => match a with
          | .nil => some (([], y), cs, ks)
          | .whole k _ [] => match look k st.hp with
            | some (some ⟨true, .arr _ u, xs, false, _⟩) =>
              match (TV.mk (.slc u) xs).as (.slc t) with
              | some x => some ((x, y), cs, k :: ks)
              | none => none
            | _ => none
          | _ => none
        | .vlk t ps => match a with
          | .vlk t' x' l => match (TV.mk t' x').as t with
            | some x => match readL st t l ps with
              | some l2 => some ((x, y), cs, l2.map (·.2) ++ ks)
              | none => none
            | none => none
          | _ => none
  | _, _ => none

/-- What a parameter holds. -/
def argAV : (t : Ty) → t.den → AV
  | .ref c, x => .cptr c x
  | t, x => .val t x

def initTm : Nat → (ts : List Ty) → Tup ts → List (Nat × AV)
  | _, [], _ => []
  | i, t :: ts, x => (i, argAV t x.1) :: initTm (i + 1) ts x.2

def tall : (ts : List Ty) → (Tup ts → Prop) → Prop
  | [], f => f ()
  | t :: ts, f => ∀ x : t.den, tall ts (fun y => f (x, y))

def retQ (E : Env) (c : Con) (res : List ResultVar) (x : Tup c.params) (e : Exit) (s : St) : Prop :=
  match e with
  | .normal | .ret => match readR E s (!(c.rets.all RK.flatOk)) c.rets res with
    | some (r, cs, ks) => if nodupB ks then conjK cs (r = c.fn x) else False
    | none => False
  | _ => False

/-- THE CONDITION OF A FUNCTION. -/
def fnVC (E : Env) (c : Con) (N : Tup c.params → Notes) (body : Code) (res : List ResultVar) : Prop :=
  tall c.params (fun x => c.pre x → wpA (N x) E body (retQ E c res x) ⟨initTm 0 c.params x, []⟩)

end Lc
