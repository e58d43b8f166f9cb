/- The engine, part F: types of the program, loads and stores of data. -/
import Derived.Test.YtlhdieoemhjjiaaGreatDoorEngDE
import Derived.Laws.Sem
import Derived.Laws.Cells
import Derived.Laws.Entries
import Derived.Laws.StructEq
import Derived.ChangeKeysEq
set_option linter.unusedVariables false
set_option linter.unusedSimpArgs false
namespace Lc
open Go
theorem listBeq_eq {α:Type}{f:α→α→Bool}(h:∀x y,f x y=true↔x=y):∀xs ys:List α,listBeq f xs ys=true↔xs=ys:=by
 intro xs
 induction xs with
 |nil=>intro ys;cases ys<;>simp[listBeq]
 |cons x xs ih=>intro ys;cases ys<;>simp[listBeq,h,ih]
theorem toList_loop_acc (b:ByteArray):∀(n i:Nat) (r:List UInt8),n=b.size-i→ByteArray.toList.loop b i r=r.reverse++b.data.toList.drop i:=by
 intro n
 induction n with
 |zero=>
  intro i r h
  unfold ByteArray.toList.loop
  have hs:b.size=b.data.toList.length:=rfl
  have:b.data.toList.length≤i:=by omega
  rw[if_neg (by omega),List.drop_eq_nil_of_le this,List.append_nil]
 |succ n ih=>
  intro i r h
  unfold ByteArray.toList.loop
  rw[if_pos (by omega),ih _ _ (by omega)]
  have hs:b.size=b.data.toList.length:=rfl
  have hi:i<b.data.toList.length:=by omega
  rw[List.drop_eq_getElem_cons hi,List.reverse_cons,List.append_assoc]
  congr 1
  simp only[List.singleton_append,List.cons.injEq,and_true]
  simp only[ByteArray.get!,Array.getElem_toList]
  rw[getElem!_pos b.data i (by simpa using hi)]
theorem toList_eq (b:ByteArray):b.toList=b.data.toList:=by
 have:=toList_loop_acc b _ 0 [] rfl
 simpa[ByteArray.toList] using this
theorem Ty.beq_iff :∀(t:Ty) (x y:t.den),t.beq x y=true↔x=y:=by
 intro t
 induction t with
 |int k=>intro x y;exact beq_iff_eq
 |bool=>intro x y;exact beq_iff_eq
 |str=>
  intro x y
  show(ByteArray.toList x==ByteArray.toList y)=true↔x=y
  rw[beq_iff_eq,toList_eq,toList_eq]
  constructor
  ·intro h;cases x;cases y;simp at h;rw[h]
  ·intro h;rw[h]
 |unit=>intro x y;exact⟨fun _=>rfl,fun _=>rfl⟩
 |pair a b iha ihb=>
  intro x y
  obtain⟨x1,x2⟩:=x
  obtain⟨y1,y2⟩:=y
  simp[Ty.beq,iha,ihb]
 |arr n t ih=>intro x y;exact listBeq_eq ih x y
 |slc t ih=>intro x y;exact listBeq_eq ih x y
 |map k v ihk ihv=>intro x y;exact listBeq_eq (fun p q=>by obtain⟨p1,p2⟩:=p;obtain⟨q1,q2⟩:=q;simp[ihk,ihv]) x y
 |fn f c ih=>intro x y;exact ih x y
 |ref c ih=>intro x y;exact ih x y
theorem decode_go {α:Type}{f:List Value→Option (α×List Value)}{R:α→List Value→Prop}
 (h:∀cs x r,f cs=some (x,r)→∃ds,cs=ds++r∧R x ds):∀n cs xs r,decode.go f n cs=some (xs,r)→∃ds,cs=ds++r∧xs.length=n∧RepL R xs ds:=by
 intro n
 induction n with
 |zero=>intro cs xs r e;simp only[decode.go,Option.some.injEq,Prod.mk.injEq] at e;obtain⟨rfl,rfl⟩:=e;exact⟨[],rfl,rfl,rfl⟩
 |succ n ih=>
  intro cs xs r e
  simp only[decode.go] at e
  split at e
  ·rename_i x r1 e1
   split at e
   ·rename_i ys r2 e2
    cases e
    obtain⟨d1,rfl,h1⟩:=h _ _ _ e1
    obtain⟨d2,rfl,h2,h3⟩:=ih _ _ _ e2
    exact⟨d1++d2,by simp,by simp[h2],d1,d2,rfl,h1,h3⟩
   ·cases e
  ·cases e
theorem decode_rep {F:FH}:∀(t:Ty) (cs:List Value) (x:t.den) (r:List Value),decode t cs=some (x,r)→∃ds,cs=ds++r∧Rep F t x ds:=by
 intro t
 induction t with
 |int k=>
  intro cs x r e
  match cs,e with
  | .int k' n::r',e=>
    simp only[decode] at e
    split at e
    ·rename_i h;cases e;subst h;exact⟨_,rfl,rfl⟩
    ·cases e
 |bool=>
  intro cs x r e
  match cs,e with
  | .bool b::r',e=>cases e;exact⟨[_],rfl,rfl⟩
 |str=>
  intro cs x r e
  match cs,e with
  | .string b::r',e=>cases e;exact⟨[_],rfl,rfl⟩
 |unit=>intro cs x r e;simp only[decode,Option.some.injEq,Prod.mk.injEq] at e;obtain⟨_,rfl⟩:=e;exact⟨[],rfl,rfl⟩
 |pair a b iha ihb=>
  intro cs x r e
  simp only[decode] at e
  split at e
  ·rename_i x1 r1 e1
   split at e
   ·rename_i y r2 e2
    cases e
    obtain⟨d1,rfl,h1⟩:=iha _ _ _ e1
    obtain⟨d2,rfl,h2⟩:=ihb _ _ _ e2
    exact⟨d1++d2,by simp,d1,d2,rfl,h1,h2⟩
   ·cases e
  ·cases e
 |arr n t ih=>
  intro cs x r e
  obtain⟨ds,h1,h2,h3⟩:=decode_go (R:=Rep F t) ih n cs x r e
  exact⟨ds,h1,h2,h3⟩
 |slc t _=>
  intro cs x r e
  match cs,e with
  | .slice none 0 0::r',e=>cases e;exact⟨[_],rfl,_,rfl,.inl ⟨⟨_,rfl⟩,rfl,rfl⟩⟩
 |map k v _ _=>
  intro cs x r e
  match cs,e with
  | .map none::r',e=>cases e;exact⟨[_],rfl,rfl,rfl⟩
 |fn f c _=>intro cs x r e;simp[decode] at e
 |ref c _=>intro cs x r e;simp[decode] at e
def zeroB (t:Ty)(z:Value):Bool:=
 (match decode t z.cells.toList with|some (x,[])=>t.beq x t.dflt|_=>false)&&(t.isAgg==isAggV z)
def infoB (P:Program)(t:Ty)(id:TypeId):Bool:=
 match P.info? id with
 |some i=>i.size==t.size&&(match i.zero with|some z=>zeroB t z|none=>false)&&(!t.flat|| !P.eqGuardType P.depth id)
 |none=>false
def tOkB (P:Program):Ty→TypeId⊕(List Field×Nat)→Bool
 | .int k,.inl id=>(match P.underlying id with|some (.int k')=>decide (k=k')|_=>false)&&infoB P (.int k) id
 | .bool,.inl id=>(match P.underlying id with|some .bool=>true|_=>false)&&infoB P .bool id
 | .str,.inl id=>(match P.underlying id with|some .string=>true|_=>false)&&infoB P .str id
 | .unit,.inl id=>(match P.underlying id with|some (.struct fs)=>fs.toList.isEmpty&& !P.stoodInHeld id|_=>false)&&infoB P .unit id
 | .pair a b,.inl id=>(match P.underlying id with
     |some (.struct fs)=> !P.stoodInHeld id&&(match fs.toList with
      |f::r=>f.offset==0&&f.name != "_" &&a.size !=0&&tOkB P a (.inl f.type)&&tOkB P b (.inr (r,a.size))
      |[]=>false)
     |_=>false)&&infoB P (.pair a b) id
 | .arr n u,.inl id=>(match P.underlying id with|some (.array m e)=>n==m&&tOkB P u (.inl e)|_=>false)&&infoB P (.arr n u) id
 | .slc u,.inl id=>(match P.underlying id with|some (.slice e)=>tOkB P u (.inl e)|_=>false)&&infoB P (.slc u) id
 | .map k v,.inl id=>(match P.underlying id with|some (.map a b)=>tOkB P k (.inl a)&&tOkB P v (.inl b)|_=>false)&&infoB P (.map k v) id
 | .fn _ _,.inl _=>false
 | .ref _,.inl _=>false
 | .pair a b,.inr (f::r,off)=>f.offset==off&&f.name != "_" &&a.size !=0&&tOkB P a (.inl f.type)&&tOkB P b (.inr (r,off+a.size))
 | .unit,.inr ([],_)=>true
 |_,.inr _=>false
def TyOk (P:Program)(t:Ty)(id:TypeId):Prop:=tOkB P t (.inl id)=true
structure Info (P:Program)(t:Ty)(id:TypeId):Prop where
 out:∃i z,P.info? id=some i∧i.size=t.size∧i.zero=some z∧(∀F,RepV F t t.dflt z)∧z.cells.toList=zeroCs t∧(t.flat=true→P.eqGuardType P.depth id=false)
theorem decode_cells {t:Ty}{cs:List Value}{x:t.den}(e:decode t cs=some (x,[])):∀F,Rep F t x cs:=by
 intro F
 obtain⟨ds,h1,h2⟩:=decode_rep (F:=F) t cs x [] e
 rw[List.append_nil] at h1;subst h1;exact h2
theorem repV_of_cells {F:FH}{t:Ty}{x:t.den}{v:Value}(hs:t.isAgg=isAggV v)(h:Rep F t x v.cells.toList):RepV F t x v:=by
 unfold RepV
 split
 ·rename_i ha
  rw[ha] at hs
  cases v<;>simp[isAggV] at hs
  rename_i cs
  exact⟨cs.toList,by simp,by simpa[Value.cells] using h⟩
 ·rename_i ha
  have:t.isAgg=false:=by simpa using ha
  rw[this] at hs
  cases v<;>simp[isAggV] at hs<;>simpa[Value.cells] using h
theorem rawV_rep {F:FH}{t:Ty}{v:Value}{x:t.den}(h:rawV t v=some x):RepV F t x v:=by
 unfold rawV at h
 split at h
 ·rename_i hs
  split at h
  ·rename_i y e;cases h;exact repV_of_cells (by simpa using hs) (decode_cells e F)
  ·cases h
 ·cases h
def NS (v:Value):Prop:=(∀a n c,v= .slice a n c→a=none∧n=0∧c=0)∧(∀f x y,v≠ .func f x y)∧∀a,v≠ .pointer a
theorem rep_flat_or (F:FH):∀(t:Ty) (cs:List Value),Rep F t t.dflt cs→(∀v,v∈cs→NS v)→cs=zeroCs t:=by
 intro t
 have ll:∀(u:Ty) (hu:∀cs,Rep F u u.dflt cs→(∀v,v∈cs→NS v)→cs=zeroCs u) (n:Nat) (cs:List Value),
  RepL (Rep F u) (List.replicate n u.dflt) cs→(∀v,v∈cs→NS v)→cs=(List.replicate n (zeroCs u)).flatten:=by
  intro u hu n
  induction n with
  |zero=>intro cs h _;cases h;rfl
  |succ n ih=>
   intro cs h hs
   obtain⟨c1,c2,rfl,h1,h2⟩:=h
   rw[hu c1 h1 (fun v hv=>hs v (by simp[hv])),ih c2 h2 (fun v hv=>hs v (by simp[hv])),List.replicate_succ,List.flatten_cons]
 induction t with
 |int k=>intro cs h _;exact h
 |bool=>intro cs h _;exact h
 |str=>intro cs h _;exact h
 |unit=>intro cs h _;exact h
 |pair a b iha ihb=>
  rintro cs ⟨c1,c2,rfl,h1,h2⟩ hs
  rw[iha c1 h1 (fun v hv=>hs v (by simp[hv])),ihb c2 h2 (fun v hv=>hs v (by simp[hv]))];rfl
 |arr n t ih=>rintro cs ⟨_,h2⟩ hs;exact ll t ih n cs h2 hs
 |slc t _=>
  rintro cs ⟨v,rfl,h⟩ hs
  rcases h with⟨⟨o,rfl⟩,_⟩|⟨b,off,cap,cs,rfl,_,_,_⟩
  ·obtain rfl:=((hs _ (List.mem_cons_self)).1 _ _ _ rfl).1
   rfl
  ·have:=((hs _ (List.mem_cons_self)).1 _ _ _ rfl).1;cases this
 |map k v _ _=>rintro cs ⟨_,rfl⟩ _;rfl
 |fn f c ih=>
  rintro cs ⟨v,rfl,h⟩ hs
  exact absurd rfl ((hs _ List.mem_cons_self).2.1 _ _ _)
 |ref c _=>
  rintro cs ⟨b,off,ds,rfl,_⟩ hs
  exact absurd rfl ((hs _ List.mem_cons_self).2.2 _)
theorem decode_noslice :∀(t:Ty) (cs:List Value) (x:t.den) (r:List Value),decode t cs=some (x,r)→∃ds,cs=ds++r∧∀v,v∈ds→NS v:=by
 intro t
 induction t with
 |int k=>
  intro cs x r e
  match cs,e with
  | .int k' n::r',e=>
    simp only[decode] at e
    split at e
    ·cases e;exact⟨[_],rfl,by simp[NS]⟩
    ·cases e
 |bool=>intro cs x r e;match cs,e with| .bool b::r',e=>cases e;exact⟨[_],rfl,by simp[NS]⟩
 |str=>intro cs x r e;match cs,e with| .string b::r',e=>cases e;exact⟨[_],rfl,by simp[NS]⟩
 |unit=>intro cs x r e;simp only[decode,Option.some.injEq,Prod.mk.injEq] at e;obtain⟨_,rfl⟩:=e;exact⟨[],rfl,by simp⟩
 |pair a b iha ihb=>
  intro cs x r e
  simp only[decode] at e
  split at e
  ·rename_i x1 r1 e1
   split at e
   ·rename_i y r2 e2
    cases e
    obtain⟨d1,rfl,h1⟩:=iha _ _ _ e1
    obtain⟨d2,rfl,h2⟩:=ihb _ _ _ e2
    refine⟨d1++d2,by simp,fun v hv=> ?_⟩
    rcases List.mem_append.1 hv with h|h
    ·exact h1 v h
    ·exact h2 v h
   ·cases e
  ·cases e
 |arr n t ih=>
  intro cs x r e
  have:∀n cs xs r,decode.go (decode t) n cs=some (xs,r)→∃ds,cs=ds++r∧∀v,v∈ds→NS v:=by
   intro n
   induction n with
   |zero=>intro cs xs r e;simp only[decode.go,Option.some.injEq,Prod.mk.injEq] at e;obtain⟨_,rfl⟩:=e;exact⟨[],rfl,by simp⟩
   |succ n ihn=>
    intro cs xs r e
    simp only[decode.go] at e
    split at e
    ·rename_i x r1 e1
     split at e
     ·rename_i ys r2 e2
      cases e
      obtain⟨d1,rfl,h1⟩:=ih _ _ _ e1
      obtain⟨d2,rfl,h2⟩:=ihn _ _ _ e2
      refine⟨d1++d2,by simp,fun v hv=> ?_⟩
      rcases List.mem_append.1 hv with h|h
      ·exact h1 v h
      ·exact h2 v h
     ·cases e
    ·cases e
  exact this n cs x r e
 |slc t _=>
  intro cs x r e
  match cs,e with
  | .slice none 0 0::r',e=>cases e;exact⟨[_],rfl,fun v hv=>by simp at hv;subst hv;exact⟨fun a n c h=>(by cases h;simp),fun _ _ _ h=>(by cases h),fun _ h=>(by cases h)⟩⟩
 |map k v _ _=>
  intro cs x r e
  match cs,e with
  | .map none::r',e=>cases e;exact⟨[_],rfl,fun v hv=>by simp at hv;subst hv;exact⟨fun a n c h=>(by cases h),fun _ _ _ h=>(by cases h),fun _ h=>(by cases h)⟩⟩
 |fn f c _=>intro cs x r e;simp[decode] at e
 |ref c _=>intro cs x r e;simp[decode] at e
theorem infoB_out {P:Program}{t:Ty}{id:TypeId}(h:infoB P t id=true):Info P t id:=by
 unfold infoB at h
 split at h
 ·rename_i i hi
  simp only[Bool.and_eq_true,beq_iff_eq] at h
  obtain⟨⟨h1,h2⟩,h3⟩:=h
  split at h2
  ·rename_i z hz
   unfold zeroB at h2
   simp only[Bool.and_eq_true,beq_iff_eq] at h2
   obtain⟨h4,h5⟩:=h2
   split at h4
   ·rename_i x hx
    have hxe:=(Ty.beq_iff t _ _).1 h4
    subst hxe
    refine⟨i,z,hi,h1,hz, ?_, ?_,fun hf=>by simpa[hf] using h3⟩
    ·intro F
     have hr:=decode_cells hx F
     unfold RepV
     split
     ·rename_i ha
      rw[ha] at h5
      cases z<;>simp[isAggV] at h5
      rename_i cs
      exact⟨cs.toList,by simp,by simpa[Value.cells] using hr⟩
     ·rename_i ha
      have:t.isAgg=false:=by simpa using ha
      rw[this] at h5
      cases z<;>simp[isAggV] at h5<;>simpa[Value.cells] using hr
    ·obtain⟨ds,d1,d2⟩:=decode_noslice t _ _ _ hx
     rw[List.append_nil] at d1;subst d1
     exact rep_flat_or (fun _ _=>none) t _ (decode_cells hx _) d2
   ·cases h4
  ·cases h2
 ·cases h
theorem TyOk.info {P:Program}{t:Ty}{id:TypeId}(h:TyOk P t id):Info P t id:=by
 unfold TyOk at h
 cases t<;>simp only[tOkB,Bool.and_eq_true,Bool.false_eq_true] at h<;>exact infoB_out h.2
theorem TyOk.int {P:Program}{k:IntKind}{id:TypeId}(h:TyOk P (.int k) id):P.underlying id=some (.int k):=by
 simp only[TyOk,tOkB,Bool.and_eq_true] at h
 obtain⟨h,_⟩:=h
 split at h
 ·rename_i e;rw[e,of_decide_eq_true h]
 ·cases h
theorem TyOk.bool {P:Program}{id:TypeId}(h:TyOk P .bool id):P.underlying id=some .bool:=by
 simp only[TyOk,tOkB,Bool.and_eq_true] at h
 obtain⟨h,_⟩:=h
 split at h
 ·rename_i e;exact e
 ·cases h
theorem TyOk.str {P:Program}{id:TypeId}(h:TyOk P .str id):P.underlying id=some .string:=by
 simp only[TyOk,tOkB,Bool.and_eq_true] at h
 obtain⟨h,_⟩:=h
 split at h
 ·rename_i e;exact e
 ·cases h
theorem TyOk.unit {P:Program}{id:TypeId}(h:TyOk P .unit id):∃fs,P.underlying id=some (.struct fs)∧fs.toList=[]∧P.stoodInHeld id=false:=by
 simp only[TyOk,tOkB,Bool.and_eq_true] at h
 obtain⟨h,_⟩:=h
 split at h
 ·rename_i fs e;simp at h;exact⟨fs,e,by simp[h.1],h.2⟩
 ·cases h
theorem TyOk.arr {P:Program}{n:Nat}{u:Ty}{id:TypeId}(h:TyOk P (.arr n u) id):∃e,P.underlying id=some (.array n e)∧TyOk P u e:=by
 simp only[TyOk,tOkB,Bool.and_eq_true] at h
 obtain⟨h,_⟩:=h
 split at h
 ·rename_i m e he;simp at h;obtain⟨rfl,h⟩:=h;exact⟨e,he,h⟩
 ·cases h
theorem TyOk.slc {P:Program}{u:Ty}{id:TypeId}(h:TyOk P (.slc u) id):∃e,P.underlying id=some (.slice e)∧TyOk P u e:=by
 simp only[TyOk,tOkB,Bool.and_eq_true] at h
 obtain⟨h,_⟩:=h
 split at h
 ·rename_i e he;exact⟨e,he,h⟩
 ·cases h
theorem TyOk.map {P:Program}{k v:Ty}{id:TypeId}(h:TyOk P (.map k v) id):∃a b,P.underlying id=some (.map a b)∧TyOk P k a∧TyOk P v b:=by
 simp only[TyOk,tOkB,Bool.and_eq_true] at h
 obtain⟨h,_⟩:=h
 split at h
 ·rename_i a b he;simp only[Bool.and_eq_true] at h;exact⟨a,b,he,h.1,h.2⟩
 ·cases h
theorem TyOk.pair {P:Program}{a b:Ty}{id:TypeId}(h:TyOk P (.pair a b) id):∃fs f r,P.underlying id=some (.struct fs)∧P.stoodInHeld id=false∧fs.toList=f::r∧
 f.offset=0∧f.name≠ "_" ∧a.size≠0∧TyOk P a f.type∧tOkB P b (.inr (r,a.size))=true:=by
 simp only[TyOk,tOkB,Bool.and_eq_true] at h
 obtain⟨h,_⟩:=h
 split at h
 ·rename_i fs e
  simp only[Bool.and_eq_true] at h
  obtain⟨h0,h⟩:=h
  split at h
  ·rename_i f r hf
   simp only[Bool.and_eq_true,beq_iff_eq,bne_iff_ne,ne_eq] at h
   exact⟨fs,f,r,e,by simpa using h0,hf,h.1.1.1.1,h.1.1.1.2,h.1.1.2,h.1.2,h.2⟩
  ·cases h
 ·cases h
theorem run_isAgg {P:Program}{t:Ty}{id:TypeId}(h:TyOk P t id)(w:World):(isAgg id).run P w= .ok t.isAgg w:=by
 cases t with
 |int k=>simp[isAgg,run_underlying h.int,Ty.isAgg]
 |bool=>simp[isAgg,run_underlying h.bool,Ty.isAgg]
 |str=>simp[isAgg,run_underlying h.str,Ty.isAgg]
 |unit=>obtain⟨fs,h1,_⟩:=h.unit;simp[isAgg,run_underlying h1,Ty.isAgg]
 |pair a b=>obtain⟨fs,_,_,h1,_⟩:=h.pair;simp[isAgg,run_underlying h1,Ty.isAgg]
 |arr n u=>obtain⟨e,h1,_⟩:=h.arr;simp[isAgg,run_underlying h1,Ty.isAgg]
 |slc u=>obtain⟨e,h1,_⟩:=h.slc;simp[isAgg,run_underlying h1,Ty.isAgg]
 |map k v=>obtain⟨a,b,h1,_⟩:=h.map;simp[isAgg,run_underlying h1,Ty.isAgg]
 |fn f c=>exact absurd h (by simp[TyOk,tOkB])
 |ref c=>exact absurd h (by simp[TyOk,tOkB])
theorem run_typeInfo' {P:Program}{id:TypeId}{i:TypeInfo}(h:P.info? id=some i)(w:World):(typeInfo id).run P w= .ok i w:=by
 simp[typeInfo,h]
theorem run_sizeOf' {P:Program}{t:Ty}{id:TypeId}(h:TyOk P t id)(w:World):(Go.sizeOf id).run P w= .ok t.size w:=by
 obtain⟨i,z,h1,h2,_⟩:=h.info.out
 simp[Go.sizeOf,run_typeInfo' h1,h2]
theorem run_zeroValue' {P:Program}{t:Ty}{id:TypeId}(h:TyOk P t id):∃z,(∀w,(zeroValue id).run P w= .ok z w)∧(∀F,RepV F t t.dflt z)∧z.cells.toList=zeroCs t:=by
 obtain⟨i,z,h1,_,h3,h4,h5,_⟩:=h.info.out
 exact⟨z,fun w=>by simp[zeroValue,run_typeInfo' h1,h3],h4,h5⟩
theorem TyOk.dflt {P:Program}{t:Ty}{id:TypeId}(h:TyOk P t id)(F:FH):Rep F t t.dflt (zeroCs t):=by
 obtain⟨z,_,z2,z3⟩:=run_zeroValue' h
 rw[←z3];exact repV_cells (z2 F)
theorem addr_add (b o i:Nat):(⟨b,o,none⟩:Addr).add i=⟨b,o+i,none⟩:=by
 unfold Addr.add;split<;>simp_all
theorem run_loadVar' {P:Program}{t:Ty}{id:TypeId}(h:TyOk P t id)(w:World)(b o:Nat)(cs:List Value)(hl:cs.length=t.size)
 (hc:∀(i:Nat) c,cs[i]? =some c→cellAt w.heap b (o+i)=some c):(loadVar id ⟨b,o,none⟩).run P w= .ok (mkV t cs) w:=by
 have hld:∀(i:Nat) c,cs[i]? =some c→w.cell? ((⟨b,o,none⟩:Addr).add i)=some c:=fun i c e=>by rw[addr_add,cell?_eq];exact hc i c e
 have hra:=run_isAgg h w
 unfold loadVar mkV
 rw[Sem.run_bind,hra]
 simp only[Result.andThen_ok]
 cases ha:t.isAgg
 ·simp only[Bool.false_eq_true,↓reduceIte]
  have h1:t.size=1:=by cases t<;>simp_all [Ty.isAgg,Ty.size]
  have:=hld 0 (cs[0]'(by omega)) (List.getElem?_eq_getElem (by omega))
  rw[addr_add,Nat.add_zero] at this
  rw[run_load,this]
  simp[List.getElem?_eq_getElem (show 0<cs.length by omega)]
 ·simp only[↓reduceIte,Sem.run_bind,run_sizeOf' h,Result.andThen_ok]
  rw[←hl,run_loadCells_list w _ cs hld]
  simp
theorem rep_one {F:FH}:∀(t:Ty) (x:t.den) (cs:List Value),Rep F t x cs→∀v,v∈cs→v.oneCell'=true:=by
 intro t
 induction t with
 |int k=>intro x cs h;cases h;simp[Value.oneCell']
 |bool=>intro x cs h;cases h;simp[Value.oneCell']
 |str=>intro x cs h;cases h;simp[Value.oneCell']
 |unit=>intro x cs h;cases h;simp
 |pair a b iha ihb=>
  rintro x cs ⟨c1,c2,rfl,h1,h2⟩ v hv
  rcases List.mem_append.1 hv with h|h
  ·exact iha _ _ h1 v h
  ·exact ihb _ _ h2 v h
 |arr n t ih=>
  rintro x cs ⟨_,h2⟩
  have:∀(xs:List t.den) cs,RepL (Rep F t) xs cs→∀v,v∈cs→v.oneCell'=true:=by
   intro xs
   induction xs with
   |nil=>intro cs h;cases h;simp
   |cons y ys ih2=>
    rintro cs ⟨c1,c2,rfl,h1,h2⟩ v hv
    rcases List.mem_append.1 hv with h|h
    ·exact ih _ _ h1 v h
    ·exact ih2 _ h2 v h
  exact this _ _ h2
 |slc t _=>
  rintro x cs ⟨u,rfl,h⟩ v hv
  simp at hv;subst hv
  rcases h with⟨⟨o,rfl⟩,_⟩|⟨_,_,_,_,rfl,_⟩<;>rfl
 |map k v _ _=>rintro x cs ⟨_,rfl⟩ u hu;simp at hu;subst hu;rfl
 |fn f c _=>rintro x cs ⟨v,rfl,_⟩ u hu;simp at hu;subst hu;rfl
 |ref c _=>rintro x cs ⟨b,off,ds,rfl,_⟩ u hu;simp at hu;subst hu;rfl
theorem repL_one {F:FH}{t:Ty}:∀(xs:List t.den) cs,RepL (Rep F t) xs cs→∀v,v∈cs→v.oneCell'=true:=
 fun xs cs h=>rep_one (F:=F) (.arr xs.length t) xs cs ⟨rfl,h⟩
def putL (l:List Value)(o:Nat)(vs:List Value):List Value:=l.take o++vs++l.drop (o+vs.length)
theorem putL_len {l:List Value}{o:Nat}{vs:List Value}(h:o+vs.length≤l.length):(putL l o vs).length=l.length:=by
 simp[putL];omega
theorem run_storeCells' (P:Program)(b o:Nat)(e:TypeId)(fr:Nat×Nat):∀(vs:List Value) (i:Nat) (c:Array Value) (w:World),w.heap[b]? =some (.cells c e fr)→
 free fr c.size→o+i+vs.length≤c.size→(∀v,v∈vs→v.oneCell'=true)→
 (storeCells ⟨b,o,none⟩ vs i).run P w= .ok () {w with heap:=w.heap.setIfInBounds b (.cells (putL c.toList (o+i) vs).toArray e fr)}
 |[],i,c,w,hw,_,_,_=>by
  have:w.heap.setIfInBounds b (.cells (putL c.toList (o+i) []).toArray e fr)=w.heap:=by
   apply Array.ext_getElem?
   intro j
   rw[Array.getElem?_setIfInBounds]
   split
   ·rename_i hj;subst hj
    have hb:=(Array.getElem?_eq_some_iff.1 hw).1
    rw[if_pos hb,hw];simp[putL]
   ·rfl
  rw[this];rfl
 |v::r,i,c,w,hw,hfr,hl,h1=>by
  have hb:=(Array.getElem?_eq_some_iff.1 hw).1
  simp only[List.length_cons] at hl
  have hcell:w.cell? ⟨b,o+i,none⟩=some (c[o+i]'(by omega)):=by
   rw[cell?_eq];simp only[cellAt,hw];simp
  have hfz:w.frozen? ⟨b,o+i,none⟩=false:=by
   simp only[World.frozen?,hw]
   have:=hfr (o+i) (by omega)
   simpa[Bool.and_eq_true] using this
  have hst:(store ((⟨b,o,none⟩:Addr).add i) v).run P w= .ok () (w.setCell ⟨b,o+i,none⟩ v):=by
   rw[addr_add,run_store P w _ v _ (h1 v (by simp))];simp[hcell,hfz]
  have hw1:(w.setCell ⟨b,o+i,none⟩ v).heap[b]? =some (.cells (c.setIfInBounds (o+i) v) e fr):=by
   simp[World.setCell,Array.getElem?_modify,hw]
  have ih:=run_storeCells' P b o e fr r (i+1) (c.setIfInBounds (o+i) v) (w.setCell ⟨b,o+i,none⟩ v) hw1 (by simpa using hfr) (by simp;omega) (fun x hx=>h1 x (by simp[hx]))
  simp only[storeCells,Sem.run_bind,hst,Result.andThen_ok,ih]
  congr 2
  apply Array.ext_getElem?
  intro j
  rw[Array.getElem?_setIfInBounds,Array.getElem?_setIfInBounds]
  split
  ·rename_i hj;subst hj
   have hb1:b<(w.setCell ⟨b,o+i,none⟩ v).heap.size:=by simpa[World.setCell] using hb
   rw[if_pos hb1]
   congr 3
   simp only[putL,Array.toList_setIfInBounds]
   have e1:(c.toList.set (o+i) v).take (o+(i+1))=c.toList.take (o+i)++[v]:=by
    rw[List.set_eq_take_append_cons_drop,if_pos (by simp;omega),List.take_append]
    simp only[List.length_take,Array.length_toList]
    rw[show min (o+i) c.size=o+i by omega,List.take_of_length_le (by simp;omega),show o+(i+1)-(o+i)=1 by omega]
    simp
   have e2:(c.toList.set (o+i) v).drop (o+(i+1)+r.length)=c.toList.drop (o+i+(v::r).length):=by
    rw[List.set_eq_take_append_cons_drop,if_pos (by simp;omega),List.drop_append]
    simp only[List.length_take,Array.length_toList]
    rw[show min (o+i) c.size=o+i by omega,List.drop_eq_nil_of_le (by simp;omega),show o+(i+1)+r.length-(o+i)=r.length+1 by omega]
    simp;congr 1;omega
   rw[e1,e2];simp
  ·rename_i hj
   simp[World.setCell,Array.getElem?_modify,hj]
end Lc
namespace Lc
open Go Go.RowKit
def GlobOk (G:Nat→Option TV)(F:FH):Prop:=∀g tv,G g=some tv→∃cs,Rep F tv.t tv.x cs∧FAt F g 0 cs
theorem GlobOk.mono {G:Nat→Option TV}{F F':FH}(h:GlobOk G F)(hF:F.le F'):GlobOk G F':=by
 intro g tv e
 obtain⟨cs,h1,h2⟩:=h g tv e
 exact⟨cs,rep_mono hF _ _ _ h1,fun i c hc=>hF _ _ _ (h2 i c hc)⟩
def fnVals (l:List FuncId):List Value:=l.map (fun g=>Value.func (.func g) #[] #[])
structure SoundM (P:Program)(f:FuncId)(m:Mut):Prop where
 fn:∃fn,P.funcs[f]? =some fn∧(fn.name== "runtime.NumGoroutine")=false∧fn.body.isSome=true
 len:∀xs,(m.fn xs).length=xs.length
 nilC:∀(a:Option Addr) (cap:Nat) (w:World),m.pre []→Calls P f (Value.slice a 0 cap::fnVals m.rest).toArray w (fun e w'=>e= .returned (.tuple #[])∧Go.RowKit.Below w.heap.size w w')
 rowC:∀(F:FH) (w:World) (xs:List m.t.den) (b cap:Nat) (c:Array Value) (eid:TypeId) (fr:Nat×Nat) (cs rest:List Value),w.heap[b]? =some (.cells c eid fr)→free fr c.size→c.toList=cs++rest→
  RepL (Rep F m.t) xs cs→c.size=cap*m.t.size→xs.length≤cap→m.pre xs→
  Calls P f (Value.slice (some ⟨b,0,none⟩) xs.length cap::fnVals m.rest).toArray w (fun e w'=>e= .returned (.tuple #[])∧∃cs',RepL (Rep F m.t) (m.fn xs) cs'∧w'.os=w.os∧w'.tape=w.tape∧w'.output=w.output∧
   w.heap.size≤w'.heap.size∧w'.heap[b]? =some (.cells (cs'++rest).toArray eid fr)∧∀i,i<w.heap.size→i≠b→w'.heap[i]? =w.heap[i]?)
 partC:m.part=true→∀(F:FH) (w:World) (xs:List m.t.den) (b cap:Nat) (c:Array Value) (eid:TypeId) (fr:Nat×Nat) (hd cs rest:List Value),w.heap[b]? =some (.cells c eid fr)→free fr c.size→c.toList=hd++(cs++rest)→
  RepL (Rep F m.t) xs cs→0<xs.length→xs.length≤cap→m.pre xs→
  Calls P f (Value.slice (some ⟨b,hd.length,none⟩) xs.length cap::fnVals m.rest).toArray w (fun e w'=>e= .returned (.tuple #[])∧∃cs',RepL (Rep F m.t) (m.fn xs) cs'∧w'.os=w.os∧w'.tape=w.tape∧w'.output=w.output∧
   w.heap.size≤w'.heap.size∧w'.heap[b]? =some (.cells (hd++(cs'++rest)).toArray eid fr)∧∀i,i<w.heap.size→i≠b→w'.heap[i]? =w.heap[i]?)
structure SoundG (P:Program)(f:FuncId)(u:Ty):Prop where
 fn:∃fn,P.funcs[f]? =some fn∧(fn.name== "runtime.NumGoroutine")=false∧fn.body.isSome=true
 calls:∀(n:Int) (w:World),0≤n→n≤1000000→Calls P f #[.slice none 0 0,.int .i64 n] w (fun e w'=>∃v,e= .returned v∧Go.RowKit.Below w.heap.size w w'∧
  (v= .slice none 0 0∨∃(b cap:Nat) (c:Array Value) (eid:TypeId) (fr:Nat×Nat),v= .slice (some ⟨b,0,none⟩) 0 cap∧w.heap.size≤b∧w'.heap[b]? =some (.cells c eid fr)∧free fr c.size∧c.size=cap*u.size))
structure EnvOk (E:Env):Prop where
 ty:∀id t,E.ty id=some t→TyOk E.P t id
 bytes:∀id u e i,E.ty id=some (.slc u)→E.P.underlying id=some (.slice e)→E.P.info? e=some i→i.bytes≤E.bytes id
 turn:∀f m,E.turn f=some m→SoundM E.P f m
 grow:∀f u,E.grow f=some u→SoundG E.P f u
def Does (P:Program)(o:Oper)(ev:Operand→Value)(w:World)(post:Value→World→Prop):Prop:=
 ∀(a:Act) (next:Act→World→Prop) (Q:Exit→Act→World→Prop),a.eval=ev→(∀v w',post v w'→next (a.put o.dst v) w')→o.wp P a w next Q
theorem does_ok {P:Program}{o:Oper}{ev:Operand→Value}{w w':World}{post:Value→World→Prop}{v:Value}
 (h:(execOp ev o).run P w= .ok (.value v) w') (hp:post v w'):Does P o ev w post:=by
 intro a next Q he hn
 unfold Oper.wp
 rw[he,h]
 exact hn _ _ hp
theorem does_skip {P:Program}{o:Oper}{ev:Operand→Value}{w w':World}{post:Value→World→Prop}
 (h:(execOp ev o).run P w= .ok .skip w') (hp:post undef w'):Does P o ev w post:=by
 intro a next Q he hn
 unfold Oper.wp
 rw[he,h]
 exact hn _ _ hp
theorem does_enter {P:Program}{o:Oper}{ev:Operand→Value}{w w':World}{post:Value→World→Prop}{f:FuncId}{args:Array Value}
 (h:(execOp ev o).run P w= .ok (.enter f args) w') (hc:Calls P f args w' (fun e w'=>∃v,e= .returned v∧post v w')):Does P o ev w post:=by
 intro a next Q he hn
 unfold Oper.wp
 rw[he,h]
 refine Calls.mono hc ?_
 rintro e w'' ⟨v,rfl,hv⟩
 exact hn _ _ hv
def Post (B0:Nat→Prop)(F:FH)(ρ:RM)(L:HL)(w:World)(a:AV)(L':HL)(v:Value)(w':World):Prop:=
 ∃F' ρ',RepAV F' ρ' L' a v∧HRel F' ρ' L' w'.heap B0∧F.le F'∧(∀b,¬B0 b→F' b=F b)∧LLe L ρ L' ρ'∧Kept B0 w w'
theorem post_pure {B0:Nat→Prop}{F:FH}{ρ:RM}{L:HL}{w:World}{a:AV}{v:Value}(h:HRel F ρ L w.heap B0)(hr:RepAV F ρ L a v):Post B0 F ρ L w a L v w:=
 ⟨F,ρ,hr,h,FH.le.rfl,fun _ _=>rfl,LLe.same,Kept.refl _ _⟩
def blkF (L:HL)(a:AV):Option Blk:=
 match a.key with
 |none=>none
 |some k=>match L k with
  |some (some b)=>some b
  |_=>none
def blkL (L:HL)(a:AV):Option Blk:=mask (blkF L a)
theorem repAV_val {F:FH}{ρ:RM}{L:HL}{t:Ty}{x:t.den}{v:Value}:RepAV F ρ L (.val t x) v↔RepV F t x v:=by
 simp only[RepAV,AV.isTup,RepA]
 constructor
 ·rintro⟨u,h,r⟩;simp at h;subst h;exact r
 ·intro h;exact⟨v,rfl,h⟩
theorem repV_int {F:FH}{k:IntKind}{x:Int}{v:Value}:RepV F (.int k) x v↔v= .int k x:=by simp[RepV,Ty.isAgg,Rep]
theorem repV_bool {F:FH}{x:Bool}{v:Value}:RepV F .bool x v↔v= .bool x:=by simp[RepV,Ty.isAgg,Rep]
theorem repV_str {F:FH}{x:ByteArray}{v:Value}:RepV F .str x v↔v= .string x:=by simp[RepV,Ty.isAgg,Rep]
theorem repAV_int {F:FH}{ρ:RM}{L:HL}{k:IntKind}{x:Int}{v:Value}:RepAV F ρ L (.val (.int k) x) v↔v= .int k x:=repAV_val.trans repV_int
theorem repAV_bool {F:FH}{ρ:RM}{L:HL}{x:Bool}{v:Value}:RepAV F ρ L (.val .bool x) v↔v= .bool x:=repAV_val.trans repV_bool
theorem repAV_str {F:FH}{ρ:RM}{L:HL}{x:ByteArray}{v:Value}:RepAV F ρ L (.val .str x) v↔v= .string x:=repAV_val.trans repV_str
theorem TV.as_eq {v:TV}{t:Ty}{x:t.den}(h:v.as t=some x):v=⟨t,x⟩:=by
 obtain⟨u,y⟩:=v
 simp only[TV.as] at h
 split at h
 ·rename_i e;cases e;cases h;rfl
 ·cases h
section bin
variable {P : Program} {w : World}
theorem run_bin_int (op:BinOp)(xt:TypeId)(k:IntKind)(a b:Int)(v:Value)
 (h:(match op with
   | .add=>some (k.wrap (a+b))| .sub=>some (k.wrap (a-b))| .mul=>some (k.wrap (a*b))
   | .and=>some (iand k a b)| .or=>some (ior k a b)| .xor=>some (ixor k a b)| .andNot=>some (iandNot k a b)
   | .quo=>if b=0 then none else some (k.wrap (a.tdiv b))
   | .rem=>if b=0 then none else some (a.tmod b)
   |_=>none).map (Value.int k)=some v):(binOp op xt (.int k a) (.int k b)).run P w= .ok v w:=by
 cases op<;>simp at h<;>first
  |(subst h;simp[binOp,Op.intArith,iand,ior,ixor,iandNot,Op.intBits];done)
  |(obtain⟨_,⟨h0,rfl⟩,rfl⟩:=h;simp[binOp,Op.intDiv,h0])
theorem run_bin_cmp (op:BinOp)(xt:TypeId)(k:IntKind)(a b:Int)(c:Bool)
 (h:(match op with
   | .eql=>some (a==b)| .neq=>some (a !=b)| .lss=>some (decide (a<b))| .leq=>some (decide (a≤b))
   | .gtr=>some (decide (a>b))| .geq=>some (decide (a≥b))|_=>none)=some c):(binOp op xt (.int k a) (.int k b)).run P w= .ok (.bool c) w:=by
 cases op<;>simp at h<;>(subst h;simp[binOp,Op.intCmp])
theorem run_shift (op:BinOp)(xt:TypeId)(k k':IntKind)(a b:Int)(hb:0≤b)(v:Int)
 (h:(match op with| .shl=>some (ishl k a b)| .shr=>some (ishr k a b)|_=>none)=some v):(binOp op xt (.int k a) (.int k' b)).run P w= .ok (.int k v) w:=by
 have:¬b<0:=by omega
 cases op<;>simp at h<;>(subst h;simp[binOp,Op.shift,this,ishl,ishr])
theorem run_eqGuard_plain (op:BinOp)(t:TypeId)(x y:Operand)(a b:Value)(ha:(match a with| .nilIface=>true| .agg _=>true|_=>false)=false):
 (eqGuard op t x y a b).run P w= .ok () w:=by
 cases a<;>simp at ha<;>cases op<;>simp[eqGuard]
theorem run_eqGuard_any (op:BinOp)(t:TypeId)(x y:Operand)(a b:Value)(ht:P.eqGuardType P.depth t=false)(ha:(match a with| .nilIface=>true|_=>false)=false):
 (eqGuard op t x y a b).run P w= .ok () w:=by
 cases a<;>simp at ha<;>first|exact run_eqGuard_plain op t x y _ b rfl|(cases b<;>cases op<;>simp[eqGuard,ht])
end bin
theorem run_part' {P:Program}{t:Ty}{id:TypeId}(h:TyOk P t id)(w:World)(cs:Array Value)(off:Nat)(hl:off+t.size≤cs.size):
 (part id cs off).run P w= .ok (mkV t ((cs.toList.drop off).take t.size)) w:=by
 have hra:=run_isAgg h w
 unfold part mkV
 rw[Sem.run_bind,hra]
 simp only[Result.andThen_ok]
 cases ha:t.isAgg
 ·have h1:t.size=1:=by cases t<;>simp_all [Ty.isAgg,Ty.size]
  have hlt:off<cs.size:=by omega
  simp only[Bool.false_eq_true,↓reduceIte]
  have:cs[off]? =some cs[off]:=by simp
  rw[this]
  rw[h1]
  simp[List.getElem?_drop,hlt]
 ·simp only[↓reduceIte,Sem.run_bind,run_sizeOf' h,Result.andThen_ok,Sem.run_pure]
  congr 2
  apply Array.ext'
  simp[Array.toList_extract,List.extract_eq_take_drop]
theorem fieldsOf_eq {P:Program}{id:TypeId}{fs:Array Field}(h:P.underlying id=some (.struct fs)):P.fieldsOf id=fs:=by
 simp[Program.fieldsOf,h]
theorem equal_rep {P:Program}{F:FH}:∀(t:Ty),t.flat=true→
 (∀id d x y (a b:t.den) w,TyOk P t id→t.dep<d→RepV F t a x→RepV F t b y→(Op.equalIn d id x y).run P w= .ok (t.beq a b) w)∧
 (∀fs off d (xs ys:Array Value) (a b:t.den) w,tOkB P t (.inr (fs,off))=true→t.dep≤d→Rep F t a (xs.toList.drop off)→Rep F t b (ys.toList.drop off)→off≤xs.size→off≤ys.size→
   (Op.eqFields d xs ys fs).run P w= .ok (t.beq a b) w):=by
 intro t
 induction t with
 |int k=>
  intro _
  refine⟨fun id d x y a b w h hd hx hy=> ?_,fun fs off d xs ys a b w h=>by cases fs<;>simp[tOkB] at h⟩
  rw[repV_int] at hx hy;subst hx;subst hy
  obtain⟨d,rfl⟩:∃e,d=e+1:=⟨d-1,by simp[Ty.dep] at hd;omega⟩
  exact run_equalIn_int w d id k k a b h.int
 |bool=>
  intro _
  refine⟨fun id d x y a b w h hd hx hy=> ?_,fun fs off d xs ys a b w h=>by cases fs<;>simp[tOkB] at h⟩
  rw[repV_bool] at hx hy;subst hx;subst hy
  obtain⟨d,rfl⟩:∃e,d=e+1:=⟨d-1,by simp[Ty.dep] at hd;omega⟩
  exact run_equalIn_bool' w d id a b h.bool
 |str=>
  intro _
  refine⟨fun id d x y a b w h hd hx hy=> ?_,fun fs off d xs ys a b w h=>by cases fs<;>simp[tOkB] at h⟩
  rw[repV_str] at hx hy;subst hx;subst hy
  obtain⟨d,rfl⟩:∃e,d=e+1:=⟨d-1,by simp[Ty.dep] at hd;omega⟩
  exact run_equalIn_string w d id a b h.str
 |slc t _=>intro h;cases h
 |map k v _ _=>intro h;cases h
 |fn f c _=>intro h;cases h
 |ref c _=>intro h;cases h
 |unit=>
  intro _
  refine⟨fun id d x y a b w h hd hx hy=> ?_,fun fs off d xs ys a b w h=> ?_⟩
  ·obtain⟨d,rfl⟩:∃e,d=e+1:=⟨d-1,by simp[Ty.dep] at hd;omega⟩
   obtain⟨fs,h1,h2,h3⟩:=h.unit
   obtain⟨cx,rfl,_⟩:∃cs:List Value,x= .agg cs.toArray∧Rep F .unit a cs:=hx
   obtain⟨cy,rfl,_⟩:∃cs:List Value,y= .agg cs.toArray∧Rep F .unit b cs:=hy
   have hf:=fieldsOf_eq h1
   rw[run_equalIn_struct w d id _ _ (by rw[hf];exact h1) h3,hf,h2]
   rfl
  ·cases fs with
   |nil=>intros;rfl
   |cons f r=>simp[tOkB] at h
 |arr n t ih=>
  intro hf
  obtain⟨ih1,_⟩:=ih hf
  refine⟨fun id d x y a b w h hd hx hy=> ?_,fun fs off d xs ys a b w h=>by cases fs<;>simp[tOkB] at h⟩
  obtain⟨d,rfl⟩:∃e,d=e+1:=⟨d-1,by simp[Ty.dep] at hd;omega⟩
  obtain⟨e,h1,h2⟩:=h.arr
  obtain⟨cx,rfl,hx1,hx2⟩:∃cs:List Value,x= .agg cs.toArray∧Rep F (.arr n t) a cs:=hx
  obtain⟨cy,rfl,hy1,hy2⟩:∃cs:List Value,y= .agg cs.toArray∧Rep F (.arr n t) b cs:=hy
  obtain⟨i,z,i1,i2,_⟩:=h2.info.out
  have hc:P.cellsOf e=t.size:=by simp[Program.cellsOf,i1,i2]
  rw[run_equalIn_array w d _ _ h1 i1,hc]
  have lx:=repL_rep_len hx2
  have ly:=repL_rep_len hy2
  rw[hx1] at lx
  rw[hy1] at ly
  have key:∀m s,s+m=n→(Op.eqItems d e t.size cx.toArray cy.toArray (List.range' s m)).run P w= .ok (listBeq t.beq (List.drop s a) (List.drop s b)) w:=by
   intro m
   induction m with
   |zero=>
    intro s hs
    rw[List.drop_eq_nil_of_le (by omega),List.drop_eq_nil_of_le (by omega)];rfl
   |succ m ihm=>
    intro s hs
    have b1:(s+1)*t.size≤n*t.size:=Nat.mul_le_mul_right _ (by omega)
    have b2:(s+1)*t.size=s*t.size+t.size:=by rw[Nat.add_mul];omega
    have p1:=run_part' h2 w cx.toArray (s*t.size) (by simp;omega)
    have p2:=run_part' h2 w cy.toArray (s*t.size) (by simp;omega)
    simp only at p1 p2
    have g1:=repL_get (fun x cs=>rep_len t x cs) _ _ hx2 s t.dflt (by omega)
    have g2:=repL_get (fun x cs=>rep_len t x cs) _ _ hy2 s t.dflt (by omega)
    have p3:=ih1 e d _ _ _ _ w h2 (by simp[Ty.dep] at hd;omega) (repV_mk g1) (repV_mk g2)
    simp only[List.range'_succ,Op.eqItems,Sem.run_bind,p1,p2,p3,Result.andThen_ok]
    have d1:List.drop s a=List.getD a s t.dflt::List.drop (s+1) a:=by
     rw[List.drop_eq_getElem_cons (by omega)];simp[List.getD_eq_getElem?_getD,List.getElem?_eq_getElem (show s<List.length a by omega)]
    have d2:List.drop s b=List.getD b s t.dflt::List.drop (s+1) b:=by
     rw[List.drop_eq_getElem_cons (by omega)];simp[List.getD_eq_getElem?_getD,List.getElem?_eq_getElem (show s<List.length b by omega)]
    rw[d1,d2]
    simp only[listBeq]
    cases t.beq (List.getD a s t.dflt) (List.getD b s t.dflt)
    ·simp
    ·simp only[Bool.not_true,Bool.false_eq_true,if_false,Bool.true_and]
     exact ihm (s+1) (by omega)
  have:=key n 0 (by omega)
  rw[List.range_eq_range',this]
  rfl
 |pair t1 t2 ih1 ih2=>
  intro hf
  simp only[Ty.flat,Bool.and_eq_true] at hf
  have i1:=(ih1 hf.1).1
  have i2:=(ih2 hf.2).2
  have step:∀(f:Field) (r:List Field) off d (xs ys:Array Value) (a b:(Ty.pair t1 t2).den) w,f.offset=off→f.name≠ "_" →TyOk P t1 f.type→tOkB P t2 (.inr (r,off+t1.size))=true→
   max t1.dep t2.dep<d→Rep F (.pair t1 t2) a (xs.toList.drop off)→Rep F (.pair t1 t2) b (ys.toList.drop off)→off≤xs.size→off≤ys.size→(Op.eqFields d xs ys (f::r)).run P w= .ok ((Ty.pair t1 t2).beq a b) w:=by
   intro f r off d xs ys a b w e1 e2 e3 e4 hd hx hy ox oy
   obtain⟨c1,c2,ec,h1,h2⟩:=hx
   obtain⟨k1,k2,ek,g1,g2⟩:=hy
   have l1:=rep_len _ _ _ h1
   have m1:=rep_len _ _ _ g1
   have lx:xs.toList.length-off=c1.length+c2.length:=by rw[←List.length_drop,ec,List.length_append]
   have ly:ys.toList.length-off=k1.length+k2.length:=by rw[←List.length_drop,ek,List.length_append]
   simp only[Array.length_toList] at lx ly
   have p1:=run_part' e3 w xs off (by omega)
   have p2:=run_part' e3 w ys off (by omega)
   have q1:(xs.toList.drop off).take t1.size=c1:=by rw[ec,List.take_append,List.take_of_length_le (by omega),show t1.size-c1.length=0 by omega];simp
   have q2:(ys.toList.drop off).take t1.size=k1:=by rw[ek,List.take_append,List.take_of_length_le (by omega),show t1.size-k1.length=0 by omega];simp
   rw[q1] at p1
   rw[q2] at p2
   have p3:=i1 f.type d _ _ _ _ w e3 (by omega) (repV_mk h1) (repV_mk g1)
   have q3:xs.toList.drop (off+t1.size)=c2:=by rw[←List.drop_drop,ec,List.drop_append,List.drop_eq_nil_of_le (by omega),show t1.size-c1.length=0 by omega];simp
   have q4:ys.toList.drop (off+t1.size)=k2:=by rw[←List.drop_drop,ek,List.drop_append,List.drop_eq_nil_of_le (by omega),show t1.size-k1.length=0 by omega];simp
   have p4:=i2 r (off+t1.size) d xs ys a.2 b.2 w e4 (by omega) (by rw[q3];exact h2) (by rw[q4];exact g2) (by omega) (by omega)
   subst e1
   simp only[Op.eqFields,if_pos e2,Sem.run_bind,Sem.run_ite,p1,p2,p3,Result.andThen_ok]
   simp only[Ty.beq]
   cases t1.beq a.1 b.1
   ·simp
   ·simp only[Bool.not_true,Bool.false_eq_true,if_false,Bool.true_and];exact p4
  refine⟨fun id d x y a b w h hd hx hy=> ?_,fun fs off d xs ys a b w h hd hx hy ox oy=> ?_⟩
  ·obtain⟨d,rfl⟩:∃e,d=e+1:=⟨d-1,by simp[Ty.dep] at hd;omega⟩
   obtain⟨fs,f,r,h1,h2,h3,h4,h5,h6,h7,h8⟩:=h.pair
   obtain⟨cx,rfl,hx1⟩:∃cs:List Value,x= .agg cs.toArray∧Rep F (.pair t1 t2) a cs:=hx
   obtain⟨cy,rfl,hy1⟩:∃cs:List Value,y= .agg cs.toArray∧Rep F (.pair t1 t2) b cs:=hy
   have hff:=fieldsOf_eq h1
   rw[run_equalIn_struct w d id _ _ (by rw[hff];exact h1) h2,hff,h3]
   exact step f r 0 d _ _ a b w h4 h5 h7 (by simpa using h8) (by simp[Ty.dep] at hd;omega) (by simpa using hx1) (by simpa using hy1) (Nat.zero_le _) (Nat.zero_le _)
  ·cases fs with
   |nil=>simp[tOkB] at h
   |cons f r=>
    simp only[tOkB,Bool.and_eq_true,beq_iff_eq,bne_iff_ne,ne_eq] at h
    exact step f r off d xs ys a b w h.1.1.1.1 h.1.1.1.2 h.1.2 h.2 (by simp only[Ty.dep] at hd;omega) hx hy ox oy
end Lc
namespace Lc
open Go Go.RowKit
def full (H:Array Obj):FH:=fun b i=>cellAt H b i
theorem HRel.le_full {F:FH}{ρ:RM}{L:HL}{H:Array Obj}{B0:Nat→Prop}(h:HRel F ρ L H B0):F.le (full H):=h.cons
theorem take_drop_get {l:List Value}{o n i:Nat}{c:Value}(h:((l.drop o).take n)[i]? =some c):l[o+i]? =some c:=by
 rw[List.getElem?_take] at h
 split at h
 ·rw[List.getElem?_drop] at h;exact h
 ·cases h
theorem blk_get {F:FH}{row:Bool}{cap:Cap}{n:Nat}{t:Ty}{x:t.den}{cs:List Value}{p:List Stp}{tv:TV}(hc:RepC F row cap n t x cs)(ok:okB row (lenT t x) t p)
 (hp:(row&&p.isEmpty)=false) (hg:getP t x p=some tv):
 ∃o,t.nav p=some (tv.t,o)∧o+tv.t.size≤cs.length∧Rep F tv.t tv.x ((cs.drop o).take tv.t.size):=by
 cases row
 ·have hr:Rep F t x cs:=by cases t<;>simp only[RepC] at hc<;>first|exact hc.2.1|exact hc.1
  obtain⟨o,h1,h2,h3⟩:=getP_rep t x cs p hr ok tv hg
  exact⟨o,h1,by rw[rep_len _ _ _ hr];exact h2,h3⟩
 ·cases p with
  |nil=>simp at hp
  |cons s p=>
   cases t with
   |arr m u=>
    simp only[RepC] at hc
    obtain⟨h1,h2,h3⟩:=hc
    cases s with
    |fld i=>simp[okB] at ok
    |idx i=>
     simp only[okB] at ok
     obtain⟨k1,k2⟩:=ok
     have g:=repL_get (fun x cs=>rep_len u x cs) _ _ h1 i u.dflt k1
     obtain⟨o,n1,n2,n3⟩:=getP_rep u _ _ p g k2 tv hg
     have ll:=repL_rep_len h1
     have b1:(i+1)*u.size≤List.length x*u.size:=Nat.mul_le_mul_right _ k1
     have b2:(i+1)*u.size=i*u.size+u.size:=by rw[Nat.add_mul];omega
     refine⟨i*u.size+o,by simp only[Ty.nav,n1],by omega, ?_⟩
     rw[List.drop_take,List.drop_drop,List.take_take,show min tv.t.size (u.size-o)=tv.t.size by omega] at n3
     exact n3
   |_=>simp[okB] at ok
theorem lenT_setP {p:List Stp}{v:TV}:∀{t:Ty} {x y:t.den},setP t x p v=some y→p≠[]→lenT t y=lenT t x:=by
 intro t x y h hp
 cases p with
 |nil=>exact absurd rfl hp
 |cons s p=>
  cases t with
  |arr n u=>
   cases s with
   |fld i=>simp[setP] at h
   |idx i=>
    simp only[setP] at h
    split at h
    ·cases h;simp[lenT]
    ·cases h
  |_=>rfl
theorem blk_set {F:FH}{row:Bool}{cap:Cap}{n:Nat}{t:Ty}{x y:t.den}{cs:List Value}{p:List Stp}{tv:TV}{ds:List Value}(hc:RepC F row cap n t x cs)(ok:okB row (lenT t x) t p)
 (hp:(row&&p.isEmpty)=false) (hg:setP t x p tv=some y) (hd:Rep F tv.t tv.x ds):
 ∃o,t.nav p=some (tv.t,o)∧o+tv.t.size≤cs.length∧RepC F row cap n t y (putL cs o ds)∧(row=true→lenT t y=lenT t x):=by
 have ld:=rep_len _ _ _ hd
 cases row
 ·have hr:Rep F t x cs∧n=cs.length∧cap.2=0:=by cases t<;>simp only[RepC] at hc<;>first|exact hc.2|exact hc
  obtain⟨o,h1,h2,h3⟩:=setP_rep t x cs p hr.1 ok tv y hg ds hd
  have lc:=rep_len _ _ _ hr.1
  refine⟨o,h1,by omega, ?_,fun h=>by cases h⟩
  have e:putL cs o ds=cs.take o++ds++cs.drop (o+tv.t.size):=by rw[putL,ld]
  have hl:n=(putL cs o ds).length:=by rw[putL_len (by omega)];exact hr.2.1
  rw[←e] at h3
  cases t<;>simp only[RepC]<;>first|exact⟨trivial,h3,hl,hr.2.2⟩|exact⟨h3,hl,hr.2.2⟩
 ·cases p with
  |nil=>simp at hp
  |cons s p=>
   have hlen:=lenT_setP hg (by simp)
   cases t with
   |arr m u=>
    simp only[RepC] at hc
    obtain⟨h1,h2,h3⟩:=hc
    cases s with
    |fld i=>simp[okB] at ok
    |idx i=>
     simp only[okB] at ok
     obtain⟨k1,k2⟩:=ok
     simp only[setP] at hg
     cases e1:setP u (List.getD x i u.dflt) p tv with
     |none=>rw[e1] at hg;cases hg
     |some y1=>
      rw[e1] at hg
      simp only[Option.some.injEq] at hg
      subst hg
      have st:=setP_rep (.arr (List.length x) u) x cs (.idx i::p) ⟨rfl,h1⟩ ⟨k1,k2⟩ tv (List.set x i y1) (by simp only[setP,e1]) ds hd
      obtain⟨o,n1,n2,n3,n4⟩:=st
      have lc:=repL_rep_len h1
      simp only[Ty.size] at n2
      refine⟨o,n1,by omega, ?_,fun _=>hlen⟩
      have e:putL cs o ds=cs.take o++ds++cs.drop (o+tv.t.size):=by rw[putL,ld]
      rw[e]
      simp only[RepC,if_true]
      exact⟨n4,h2,by rw[n3];exact h3⟩
   |_=>simp[okB] at ok
theorem HRel.live {F:FH}{ρ:RM}{L:HL}{H:Array Obj}{B0:Nat→Prop}(h:HRel F ρ L H B0){k:Nat}{blk:Blk}(hk:L k=some (some blk)){b:Nat}{cap:Cap}(hr:ρ k=some (b,cap))(hm:(blk.row&&isMapT blk.t)=false)(ho:blk.isOpen=false):
 ∃c e fr hd cs rest,B0 b∧H[b]? =some (.cells c e fr)∧free fr c.size∧(List.length hd=cap.2∧(blk.fz=false→cap.2=0)∧c.toList=hd++(cs++rest))∧RepC F blk.row cap c.size blk.t blk.x cs∧∀i,F b (cap.2+i)=if blk.fz then cs[i]? else none:=by
 rcases h.blk _ _ hk with g|⟨b',cap',c,e,fr,hd,cs,rest,g1,g2,g3,g4,g5,g6,g7⟩|⟨K,V,xs,g⟩
 ·rw[g] at hr;cases hr
 ·rw[g1] at hr;cases hr;rw[holes_shut ho] at g6;rw[still_shut ho] at g7;exact⟨c,e,fr,hd,cs,rest,g2,g3,g4,g5,g6,g7⟩
 ·have:blk.t= .map K V:=congrArg TV.t g.eq
  rw[this,g.row] at hm;cases hm
theorem HRel.live0 {F:FH}{ρ:RM}{L:HL}{H:Array Obj}{B0:Nat→Prop}(h:HRel F ρ L H B0){k:Nat}{blk:Blk}(hk:L k=some (some blk)){b:Nat}{cap:Cap}(hr:ρ k=some (b,cap))(hm:(blk.row&&isMapT blk.t)=false):
 ∃(c:Array Value) (e:TypeId) (fr:Nat×Nat) (hd cs rest:List Value),B0 b∧H[b]? =some (.cells c e fr)∧free fr c.size∧List.length hd=cap.2∧c.toList=hd++(cs++rest):=by
 rcases h.blk _ _ hk with g|⟨b',cap',c,e,fr,hd,cs,rest,g1,g2,g3,g4,g5,g6,g7⟩|⟨K,V,xs,g⟩
 ·rw[g] at hr;cases hr
 ·rw[g1] at hr;cases hr;exact⟨c,e,fr,hd,cs,rest,g2,g3,g4,g5.1,g5.2.2⟩
 ·have:blk.t= .map K V:=congrArg TV.t g.eq
  rw[this,g.row] at hm;cases hm
theorem notMap_get {t:Ty}{x:t.den}{p:List Stp}{n:Nat}{u:Ty}{y:(Ty.arr n u).den}(h:getP t x p=some ⟨.arr n u,y⟩){row:Bool}:(row&&isMapT t)=false:=by
 cases t<;>try (simp[isMapT];done)
 cases p with
 |nil=>simp[getP] at h
 |cons s p=>simp[getP] at h
theorem notMap_path {t:Ty}{s:Stp}{p:List Stp}{r:Ty×Nat}(h:t.nav (s::p)=some r){row:Bool}:(row&&isMapT t)=false:=by
 cases t<;>try (simp[isMapT];done)
 simp[Ty.nav] at h
theorem notMap_nav {t:Ty}{p:List Stp}{n:Nat}{u:Ty}{o:Nat}(h:t.nav p=some (.arr n u,o)){row:Bool}:(row&&isMapT t)=false:=by
 cases t<;>try (simp[isMapT];done)
 cases p with
 |nil=>simp[Ty.nav] at h
 |cons s p=>simp[Ty.nav] at h
theorem notMap_row {t:Ty}{p:List Stp}{u:Ty}{o:Nat}{row:Bool}(h:t.nav p=some (u,o))(hr:(row&&p.isEmpty)=false):(row&&isMapT t)=false:=by
 cases p with
 |cons s p=>exact notMap_path h
 |nil=>
  have:row=false:=by simpa using hr
  rw[this];rfl
theorem at_of {c:Array Value}{hd cs rest:List Value}{n i:Nat}{v:Value}(h1:hd.length=n)(h2:c.toList=hd++(cs++rest))(h3:cs[i]? =some v):c[n+i]? =some v:=by
 have:c.toList[n+i]? =some v:=by
  rw[h2,List.getElem?_append_right (by omega),h1,Nat.add_sub_cancel_left,List.getElem?_append_left (List.getElem?_eq_some_iff.1 h3).1];exact h3
 simpa using this
theorem blkF_some {L:HL}{a:AV}{b:Blk}(h:some b=blkF L a):∃k,a.key=some k∧L k=some (some b):=by
 unfold blkF at h
 split at h
 ·cases h
 ·rename_i k hk
  split at h
  ·rename_i b' hb;cases h;exact⟨k,hk,hb⟩
  ·cases h
theorem mask_some {o:Option Blk}{b:Blk}(h:some b=mask o):o=some b∧b.isOpen=false:=by
 unfold mask at h
 split at h
 ·rename_i b'
  split at h
  ·cases h
  ·rename_i hb;cases h;exact⟨rfl,by simpa using hb⟩
 ·cases h
theorem blkL_some {L:HL}{a:AV}{b:Blk}(h:some b=blkL L a):∃k,a.key=some k∧L k=some (some b):=blkF_some (mask_some h).1.symm
theorem blkL_shut {L:HL}{a:AV}{b:Blk}(h:some b=blkL L a):b.isOpen=false:=(mask_some h).2
theorem deepV_sound {E:Bool}{F:FH}{ρ:RM}{L:HL}{H:Array Obj}{B0:Nat→Prop}(hR:HRel F ρ L H B0){t:Ty}{a:AV}{b:Option Blk}{v:Value}(ha:RepAV F ρ L a v)(hb:b=blkL L a)
 {x:t.den} {cs:List Prop} (h:deepV E t a b=some (x,cs)) (hc:∀c,c∈cs→c):RepV (if E then F else full H) t x v:=by
 have hle:F.le (if E then F else full H):=by
  cases E
  ·exact hR.le_full
  ·exact FH.le.rfl
 have hG:∀(blk:Blk) (k bb:Nat) (cap:Cap) (c:Array Value) (e:TypeId) (fr:Nat×Nat) (hd cl rest:List Value),(E&& !blk.fz)=false→H[bb]? =some (.cells c e fr)→(List.length hd=cap.2∧(blk.fz=false→cap.2=0)∧c.toList=hd++(cl++rest))→
  (∀i,F bb (cap.2+i)=if blk.fz then cl[i]? else none)→∀(i:Nat) u,cl[i]? =some u→(if E then F else full H) bb (cap.2+i)=some u:=by
  intro blk k bb cap c e fr hd cl rest hz hH hcl hF i u hu
  cases E
  ·simp only[Bool.false_eq_true,if_false,full,cellAt,hH]
   exact at_of hcl.1 hcl.2.2 hu
  ·simp only[if_true]
   have:blk.fz=true:=by simpa using hz
   rw[hF,if_pos this];exact hu
 cases a with
 |val u y=>
  simp only[deepV] at h
  split at h
  ·rename_i z e
   cases h
   have:=TV.as_eq e
   cases this
   exact repV_mono hle (repAV_val.1 ha)
  ·cases h
 |vlk u y lks=>
  simp only[deepV] at h
  split at h
  ·rename_i z e
   cases h
   have:=TV.as_eq e
   cases this
   have ha':RepA F ρ L (.vlk t x lks) [v]:=by simpa[RepAV,AV.isTup] using ha
   obtain⟨v',hv,h1,_⟩:=ha'
   cases hv
   exact repV_mono hle h1
  ·cases h
 |raw u=>
  simp only[deepV] at h
  split at h
  ·rename_i z e
   cases h
   have hv:v=u:=by simpa[RepAV,AV.isTup,RepA] using ha
   subst hv
   exact rawV_rep e
  ·cases h
 |nil=>
  have hv:v= .slice none 0 0:=by simpa[RepAV,AV.isTup,RepA] using ha
  subst hv
  cases t<;>simp only[deepV] at h<;>cases h
  simp only[RepV,Ty.isAgg]
  exact⟨_,rfl,.inl ⟨⟨_,rfl⟩,rfl,rfl⟩⟩
 |cut w xs=>
  cases t<;>simp only[deepV] at h<;>try (cases h;done)
  split at h
  ·rename_i z e
   cases h
   have:=TV.as_eq e
   cases this
   have ha':RepA F ρ L (.cut w xs) [v]:=by simpa[RepAV,AV.isTup] using ha
   simp only[RepV,Ty.isAgg]
   refine⟨v,rfl, ?_⟩
   rcases ha' with⟨h1,h2⟩|⟨bb,off,cl,h1,h2,h3⟩
   ·obtain⟨oo,h2⟩:=h2;simp at h2;subst h1;subst h2;exact .inl ⟨⟨_,rfl⟩,rfl,rfl⟩
   ·simp at h1;subst h1
    exact .inr ⟨bb,off,_,cl,rfl,Nat.le_refl _,repL_mono (fun x cs=>rep_mono hle w x cs) _ _ h2,fun i c hc=>hle _ _ _ (h3 i c hc)⟩
  ·cases h
 |whole k root path=>
  cases t<;>simp only[deepV] at h<;>try (cases h;done)
  rename_i u
  cases b with
  |none=>simp only at h;cases h
  |some blk=>
   simp only at h
   split at h
   ·cases h
   rename_i hz
   split at h
   ·rename_i n w xs hg
    split at h
    ·rename_i y e
     cases h
     have:=TV.as_eq e
     cases this
     obtain⟨k',hk',hL⟩:=blkL_some hb
     cases hk'
     have ha':RepA F ρ L (.whole k root path) [v]:=by simpa[RepAV,AV.isTup] using ha
     obtain⟨v',hv,hh⟩:=ha'
     simp at hv;subst hv
     obtain⟨ht,hok,hw⟩:=hh blk hL
     subst ht
     simp only[RepV,Ty.isAgg]
     refine⟨v,rfl, ?_⟩
     rcases hw with⟨h1,h2,h3,h4,h5⟩|⟨bb,cap,m,u',off,h1,h2,h3⟩
     ·subst h3
      simp only[getP,Option.some.injEq] at hg
      have hl:List.length x=0:=by
       have:blk.len=lenT (.arr n u) x:=by unfold Blk.len;cases blk;cases hg;rfl
       rw[h4] at this;exact this.symm
      have:x=[]:=List.eq_nil_of_length_eq_zero hl
      subst this
      exact .inl ⟨⟨_,h5⟩,rfl,rfl⟩
     ·obtain⟨c,e,fr,hd,cl,rest,g1,g2,g3,g4,g5,g6⟩:=hR.live hL h1 (notMap_get hg) (blkL_shut hb)
      have gG:=hG blk k bb cap c e fr hd cl rest (by simpa using hz) g2 g4 g6
      by_cases hrow:(blk.row&&path.isEmpty)=true
      ·simp only[Bool.and_eq_true,List.isEmpty_iff] at hrow
       obtain⟨r1,r2⟩:=hrow
       subst r2
       simp only[getP,Option.some.injEq] at hg
       cases blk with
       |mk row t x fz=>
        cases hg
        simp only at r1
        subst r1
        simp only[RepC] at g5
        simp only[Ty.nav,Option.some.injEq,Prod.mk.injEq] at h2
        obtain⟨_,rfl⟩:=h2
        simp only[lcap,List.isEmpty_nil,Bool.and_self,if_true] at h3
        subst h3
        refine .inr ⟨bb,cap.2,cap.1,cl,rfl,g5.2.2,repL_mono (fun x cs=>rep_mono hle u x cs) _ _ g5.1,fun i c hc=> ?_⟩
        exact gG i c hc
      ·have hrow':(blk.row&&path.isEmpty)=false:=by simpa using hrow
       obtain⟨o,n1,n2,n3,n4⟩:=blk_get g5 hok hrow' hg
       rw[h2] at n1
       cases n1
       simp only[lcap,hrow',Bool.false_eq_true,if_false] at h3
       subst h3
       have n3':List.length x=n:=n3
       refine .inr ⟨bb,cap.2+off,n,_,by rw[n3'],by rw[n3'];exact Nat.le_refl _,repL_mono (fun x cs=>rep_mono hle u x cs) _ _ n4,fun i c hc=> ?_⟩
       rw[Nat.add_assoc];exact gG _ c (take_drop_get hc)
    ·cases h
   ·cases h
 |sub k root path o l=>
  cases t<;>simp only[deepV] at h<;>try (cases h;done)
  rename_i u
  cases b with
  |none=>simp only at h;cases h
  |some blk=>
   simp only at h
   split at h
   ·cases h
   rename_i hz
   split at h
   ·rename_i n w xs hg
    split at h
    ·rename_i y e
     cases h
     have:=TV.as_eq e
     cases this
     have hlen:o+l≤List.length xs:=hc _ (by simp)
     obtain⟨k',hk',hL⟩:=blkL_some hb
     cases hk'
     have ha':RepA F ρ L (.sub k root path o l) [v]:=by simpa[RepAV,AV.isTup] using ha
     obtain⟨v',hv,hh⟩:=ha'
     simp at hv;subst hv
     obtain⟨ht,hok,hw⟩:=hh blk hL
     subst ht
     simp only[RepV,Ty.isAgg]
     refine⟨v,rfl, ?_⟩
     have hll:List.length (List.take l (List.drop o xs))=l:=by simp;omega
     rw[hll]
     rcases hw with⟨h1,h2,h3,h4,h5,h6,h7⟩|⟨bb,cap,m,u',off,off',h1,h2,h3,h4,h5⟩
     ·subst h6
      exact .inl ⟨⟨_,h7⟩,rfl,by simp[RepL]⟩
     ·obtain⟨c,e,fr,hd,cl,rest,g1,g2,g3,g4,g5,g6⟩:=hR.live hL h1 (notMap_get hg) (blkL_shut hb)
      have gG:=hG blk k bb cap c e fr hd cl rest (by simpa using hz) g2 g4 g6
      have fin:∀(cl':List Value) (d:Nat),RepL (Rep F u) xs cl'→(∀(i:Nat) c,cl'[i]? =some c→(if E then F else full H) bb (cap.2+off+i)=some c)→
       SlcV (if E then F else full H) l (RepL (Rep (if E then F else full H) u) (List.take l (List.drop o xs))) v:=by
       intro cl' _ hr hcl
       subst h3
       refine .inr ⟨bb,off',_,((cl'.drop (o*u.size)).take (l*u.size)),rfl,by omega, ?_, ?_⟩
       ·refine repL_mono (fun x cs=>rep_mono hle u x cs) _ _ ?_
        exact repL_take (fun x cs=>rep_len u x cs) l _ _ (repL_drop (fun x cs=>rep_len u x cs) o _ _ hr)
       ·intro i c hc
        have:=take_drop_get hc
        by_cases hcap:(lcap blk.row path blk.len cap m).2=o
        ·have:l=0:=by omega
         subst this
         simp at hc
        ·have e1:=h5 hcap
         have hu:u'=u:=by
          by_cases hrow:(blk.row&&path.isEmpty)=true
          ·simp only[Bool.and_eq_true,List.isEmpty_iff] at hrow
           obtain⟨r1,r2⟩:=hrow
           subst r2
           simp only[getP,Option.some.injEq] at hg
           cases blk with
           |mk row t x fz=>cases hg;simp only[Ty.nav,Option.some.injEq,Prod.mk.injEq,Ty.arr.injEq] at h2;exact h2.1.2.symm
          ·obtain⟨o2,n1,_⟩:=blk_get g5 hok (by simpa using hrow) hg
           rw[h2] at n1;cases n1;rfl
         subst hu
         rw[e1,Nat.add_assoc];exact hcl _ _ this
      by_cases hrow:(blk.row&&path.isEmpty)=true
      ·simp only[Bool.and_eq_true,List.isEmpty_iff] at hrow
       obtain⟨r1,r2⟩:=hrow
       subst r2
       simp only[getP,Option.some.injEq] at hg
       cases blk with
       |mk row t x fz=>
        cases hg
        simp only at r1
        subst r1
        simp only[RepC] at g5
        simp only[Ty.nav,Option.some.injEq,Prod.mk.injEq] at h2
        obtain⟨_,rfl⟩:=h2
        exact fin cl 0 g5.1 (fun i c hc=>by rw[Nat.add_zero];exact gG i c hc)
      ·obtain⟨o2,n1,n2,n3,n4⟩:=blk_get g5 hok (by simpa using hrow) hg
       rw[h2] at n1
       cases n1
       exact fin _ 0 n4 (fun i c hc=>by rw[Nat.add_assoc];exact gG _ c (take_drop_get hc))
    ·cases h
   ·cases h
 |cptr u y=>
  cases t<;>simp only[deepV] at h<;>try (cases h;done)
  split at h
  ·rename_i z e
   cases h
   have:=TV.as_eq e
   cases this
   have ha':RepA F ρ L (.cptr u y) [v]:=by simpa[RepAV,AV.isTup] using ha
   obtain⟨bb,off,cs',hv,h1,h2⟩:=ha'
   simp only[List.cons.injEq,and_true] at hv
   subst hv
   simp only[RepV,Ty.isAgg]
   exact⟨bb,off,cs',rfl,rep_mono hle _ _ _ h1,fun i c hc=>hle _ _ _ (h2 i c hc)⟩
  ·cases h
 |ptr k root path=>
  cases t<;>simp only[deepV] at h<;>try (cases h;done)
  rename_i u
  cases b with
  |none=>simp only at h;cases h
  |some blk=>
   simp only at h
   split at h
   ·cases h
   rename_i hz
   simp only[Bool.or_eq_true,not_or,Bool.not_eq_true] at hz
   obtain⟨hz,hrow⟩:=hz
   split at h
   ·rename_i w xs hg
    split at h
    ·rename_i y e
     cases h
     have:=TV.as_eq e
     cases this
     obtain⟨k',hk',hL⟩:=blkL_some hb
     cases hk'
     have ha':RepA F ρ L (.ptr k root path) [v]:=by simpa[RepAV,AV.isTup] using ha
     obtain⟨v',hv,hh⟩:=ha'
     simp at hv;subst hv
     obtain⟨ht,hok,bb,cap,u',off,h1,h2,h3⟩:=hh blk hL
     subst ht
     obtain⟨c,e,fr,hd,cl,rest,g1,g2,g3,g4,g5,g6⟩:=hR.live hL h1 (notMap_row h2 hrow) (blkL_shut hb)
     have gG:=hG blk k bb cap c e fr hd cl rest hz g2 g4 g6
     obtain⟨o,n1,n2,n3⟩:=blk_get g5 hok hrow hg
     rw[h2] at n1
     cases n1
     simp only[RepV,Ty.isAgg]
     subst h3
     exact⟨bb,cap.2+off,_,rfl,rep_mono hle _ _ _ n3,fun i c hc=>by rw[Nat.add_assoc];exact gG _ c (take_drop_get hc)⟩
    ·cases h
   ·cases h
 |fn f=>cases t<;>simp only[deepV] at h<;>cases h
 |mref k=>cases t<;>simp only[deepV] at h<;>cases h
 |opt p a=>cases t<;>simp only[deepV] at h<;>cases h
 |tnil=>cases t<;>simp only[deepV] at h<;>cases h
 |tcons a b=>cases t<;>simp only[deepV] at h<;>cases h
end Lc
namespace Lc
open Go Go.RowKit
def Res.L (r:Res)(L:HL):HL:=fun n=>
 match look n r.new with
 |some b=>some (some b)
 |none=>match look n r.set with
  |some b=>some (some b)
  |none=>if r.kill.contains n then some none else L n
theorem look_append {α:Type}(n:Nat)(l m:List (Nat×α)):look n (l++m)=match look n l with|some v=>some v|none=>look n m:=by
 induction l with
 |nil=>rfl
 |cons p l ih=>
  obtain⟨k,v⟩:=p
  rw[List.cons_append,look_cons,look_cons]
  split
  ·rfl
  ·exact ih
theorem look_map_some (n:Nat)(l:List (Nat×Blk)):look n (l.map (fun p=>(p.1,some p.2)))=(look n l).map some:=by
 induction l with
 |nil=>rfl
 |cons p l ih=>
  obtain⟨k,v⟩:=p
  simp only[List.map_cons,look_cons]
  split
  ·rfl
  ·exact ih
theorem look_map_none (n:Nat)(l:List Nat):look n (l.map (fun k=>(k,(none:Option Blk))))=if l.contains n then some none else none:=by
 induction l with
 |nil=>rfl
 |cons k l ih=>
  simp only[List.map_cons,look_cons,ih,List.contains_cons]
  by_cases h:n=k
  ·subst h;simp
  ·have:(n==k)=false:=by simpa using h
   rw[if_neg h,this,Bool.false_or]
theorem hl_hp (r:Res)(hp:List (Nat×Option Blk)):hl (r.hp hp)=r.L (hl hp):=by
 funext n
 simp only[hl,Res.hp,Res.L,look_append,look_map_some,look_map_none]
 cases look n r.new with
 |some b=>rfl
 |none=>
  simp only[Option.map_none]
  cases look n r.set with
  |some b=>rfl
  |none=>
   simp only[Option.map_none]
   split<;>simp_all
@[simp] theorem L_pure (cs : List Prop) (v : AV) (L : HL) : (⟨cs, v, [], [], []⟩ : Res).L L = L := by funext n; simp [Res.L, look]
theorem L_new (cs:List Prop)(v:AV)(L:HL)(k:Nat)(b:Blk):(⟨cs,v,[(k,b)],[],[]⟩:Res).L L=upd L k (some (some b)):=by
 funext n
 simp only[Res.L,look,upd]
 by_cases h:n=k<;>simp[h]
theorem L_set (cs:List Prop)(v:AV)(L:HL)(k:Nat)(b:Blk):(⟨cs,v,[],[(k,b)],[]⟩:Res).L L=upd (upd L k (some none)) k (some (some b)):=by
 funext n
 simp only[Res.L,look,upd]
 by_cases h:n=k<;>simp[h]
theorem L_move (cs:List Prop)(v:AV)(L:HL)(k d:Nat)(b:Blk):(⟨cs,v,[(d,b)],[],[k]⟩:Res).L L=upd (upd L k (some none)) d (some (some b)):=by
 funext n
 simp only[Res.L,look,upd]
 by_cases h:n=d
 ·simp[h]
 ·have h':(n.beq d)=false:=Bool.eq_false_iff.2 (fun e=>h (Nat.eq_of_beq_eq_true e))
  by_cases h2:n=k
  ·subst h2;simp[h,h']
  ·simp[h,h',h2]
structure In (E:Env)(B0:Nat→Prop)(F:FH)(ρ:RM)(L:HL)(w:World):Prop where
 env:EnvOk E
 rel:HRel F ρ L w.heap B0
 size:∀b,w.heap.size≤b→B0 b
abbrev Arg (F:FH)(ρ:RM)(L:HL)(a:AV×Option Blk)(v:Value):Prop:=RepAV F ρ L a.1 v∧a.2=blkL L a.1
def ArgsOk (F:FH)(ρ:RM)(L:HL):List (AV×Option Blk)→List Value→Prop
 |[],[]=>True
 |a::as,v::vs=>Arg F ρ L a v∧ArgsOk F ρ L as vs
 |_,_=>False
section
variable {E : Env} {B0 : Nat → Prop} {F : FH} {ρ : RM} {L : HL} {w : World} {o : Oper} {ev : Operand → Value} {r : Res}
theorem does_pure (hI:In E B0 F ρ L w){cs:List Prop}{a:AV}{v:Value}(h:(execOp ev o).run E.P w= .ok (.value v) w)(hr:RepAV F ρ L a v)(e:r=⟨cs,a,[],[],[]⟩):
 Does E.P o ev w (Post B0 F ρ L w r.v (r.L L)):=by
 subst e
 rw[L_pure]
 exact does_ok h (post_pure hI.rel hr)
theorem one_mem {φ:Prop}(h:∀c,c∈[φ]→c):φ:=h φ (List.mem_singleton.2 rfl)
theorem mem2 {cs ds:List Prop}(h:∀c,c∈cs++ds→c):(∀c,c∈cs→c)∧(∀c,c∈ds→c):=
 ⟨fun c hc=>h c (by simp[hc]),fun c hc=>h c (by simp[hc])⟩
theorem sound_move (hI:In E B0 F ρ L w){x:Operand}{a:AV}(hop:o.op= .move x∨o.op= .assign x)(ha:RepAV F ρ L a (ev x))(e:Res.pure a=some r):
 Does E.P o ev w (Post B0 F ρ L w r.v (r.L L)):=by
 cases e
 refine does_pure hI (v:=ev x) ?_ ha rfl
 rcases hop with h|h<;>simp[execOp,h]
theorem sound_bin (hI:In E B0 F ρ L w){op:BinOp}{xt yt:TypeId}{X Y:Operand}{x y:AV}(hop:o.op= .binOp op xt X Y yt)
 (hx:RepAV F ρ L x (ev X)) (hy:RepAV F ρ L y (ev Y)) (e:evalBin E op xt x y=some r) (hc:∀c,c∈r.cs→c):
 Does E.P o ev w (Post B0 F ρ L w r.v (r.L L)):=by
 have run:∀v,(eqGuard op xt X Y (ev X) (ev Y)).run E.P w= .ok () w→(binOp op xt (ev X) (ev Y)).run E.P w= .ok v w→(execOp ev o).run E.P w= .ok (.value v) w:=by
  intro v h1 h2;simp[execOp,hop,h1,h2]
 unfold evalBin at e
 split at e
 ·rename_i k a k' b
  rw[repAV_int] at hx hy
  have hg:(eqGuard op xt X Y (ev X) (ev Y)).run E.P w= .ok () w:=run_eqGuard_plain _ _ _ _ _ _ (by rw[hx])
  rw[hx,hy] at run hg
  split at e
  ·cases e
   refine does_pure hI (run _ hg (run_shift .shl xt k k' a b (hc _ (by simp)) _ rfl)) (repAV_int.2 rfl) rfl
  ·cases e
   refine does_pure hI (run _ hg (run_shift .shr xt k k' a b (hc _ (by simp)) _ rfl)) (repAV_int.2 rfl) rfl
  ·split at e
   ·cases e
   rename_i hk
   have hk:k=k':=by simpa using hk
   subst hk
   split at e<;>first
    |(cases e;done)
    |(cases e;refine does_pure hI (run _ hg (run_bin_int _ xt k a b _ rfl)) (repAV_int.2 rfl) rfl)
    |(cases e;refine does_pure hI (run _ hg (run_bin_cmp _ xt k a b _ rfl)) (repAV_bool.2 rfl) rfl)
    |(cases e
      have hb:b≠0:=hc _ (by simp)
      refine does_pure hI (run _ hg (run_bin_int _ xt k a b _ (by simp[hb]))) (repAV_int.2 rfl) rfl)
 ·rename_i a b
  rw[repAV_str] at hx hy
  have hg:(eqGuard op xt X Y (ev X) (ev Y)).run E.P w= .ok () w:=run_eqGuard_plain _ _ _ _ _ _ (by rw[hx])
  rw[hx,hy] at run hg
  split at e
  ·cases e
   exact does_pure hI (run _ hg (by simp[binOp,Op.stringOp])) (repAV_bool.2 rfl) rfl
  ·cases e
   exact does_pure hI (run _ hg (by simp[binOp,Op.stringOp])) (repAV_bool.2 rfl) rfl
  ·cases e
 ·split at e
  ·rename_i t ht
   split at e
   ·cases e
   rename_i hf
   simp only[Bool.or_eq_true,Bool.not_eq_true',decide_eq_true_eq,not_or,Bool.not_eq_false] at hf
   obtain⟨hf,hd⟩:=hf
   have hty:=hI.env.ty _ _ ht
   obtain⟨i,z,i1,i2,i3,i4,i5,i6⟩:=hty.info.out
   have fin:t≠ .str→(∀k,t≠ .int k)→evalEq t op x y=some r→Does E.P o ev w (Post B0 F ρ L w r.v (r.L L)):=by
    intro hs hi e
    unfold evalEq at e
    split at e
    ·rename_i a b e1 e2
     have deep:∀(x:AV) (v:Value) (a:t.den),RepAV F ρ L x v→deepV false t x none=some (a,[])→RepV (full w.heap) t a v:=by
      intro x v a hx e1
      by_cases hk:blkL L x=none
      ·exact deepV_sound (E:=false) hI.rel hx hk.symm e1 (fun c hc=>by cases hc)
      ·cases x<;>first
        |(exact absurd rfl hk)
        |(cases t<;>simp only[deepV] at e1<;>(try cases e1)<;>simp[Ty.flat] at hf)
     have r1:=deep x _ a hx e1
     have r2:=deep y _ b hy e2
     have heq:=(equal_rep (P:=E.P) (F:=full w.heap) t hf).1 xt Op.maxDepth _ _ a b w hty (by simp[Op.maxDepth];omega) r1 r2
     have nn:∀(v:Value) (a:t.den),RepV (full w.heap) t a v→(match v with| .nilIface=>true|_=>false)=false∧(∀k n,v≠ .int k n)∧(∀s,v≠ .string s)∧(∀k n,v≠ .float k n)∧(∀k n m,v≠ .complex k n m):=by
      intro v a hv
      cases t with
      |int k=>exact absurd rfl (hi k)
      |str=>exact absurd rfl hs
      |slc u=>simp[Ty.flat] at hf
      |map p q=>simp[Ty.flat] at hf
      |fn p q=>simp[Ty.flat] at hf
      |ref p=>simp[Ty.flat] at hf
      |bool=>rw[repV_bool] at hv;subst hv;simp
      |unit=>obtain⟨cs,rfl,_⟩:∃cs:List Value,v= .agg cs.toArray∧_:=hv;simp
      |pair p q=>obtain⟨cs,rfl,_⟩:∃cs:List Value,v= .agg cs.toArray∧_:=hv;simp
      |arr n u=>obtain⟨cs,rfl,_⟩:∃cs:List Value,v= .agg cs.toArray∧_:=hv;simp
     obtain⟨n1,n2,n3,n4,n5⟩:=nn _ _ r1
     have hg:(eqGuard op xt X Y (ev X) (ev Y)).run E.P w= .ok () w:=run_eqGuard_any _ _ _ _ _ _ (i6 hf) n1
     have bq:∀u,(∀k n,u≠ .int k n)→(∀s,u≠ .string s)→(∀k n,u≠ .float k n)→(∀k n m,u≠ .complex k n m)→(Op.equalIn Op.maxDepth xt u (ev Y)).run E.P w= .ok (t.beq a b) w→
      (binOp .eql xt u (ev Y)).run E.P w= .ok (.bool (t.beq a b)) w∧(binOp .neq xt u (ev Y)).run E.P w= .ok (.bool (!t.beq a b)) w:=by
      intro u m1 m2 m3 m4 heq
      cases u<;>first|exact absurd rfl (m1 _ _)|exact absurd rfl (m2 _)|exact absurd rfl (m3 _ _)|exact absurd rfl (m4 _ _ _)|(simp[binOp,Op.equal,heq])
     obtain⟨q1,q2⟩:=bq _ n2 n3 n4 n5 heq
     split at e
     ·cases e
      exact does_pure hI (run _ hg q1) (repAV_bool.2 rfl) rfl
     ·cases e
      exact does_pure hI (run _ hg q2) (repAV_bool.2 rfl) rfl
     ·cases e
    ·cases e
   cases t<;>first|(cases e;done)|exact fin (by simp) (by simp) e
  ·cases e
theorem sound_un (hI:In E B0 F ρ L w){op:UnOp}{t:TypeId}{X:Operand}{x:AV}{b:Option Blk}(hop:o.op= .unOp op t X)(hx:RepAV F ρ L x (ev X))
 (e:evalOp E (.unOp op t X) o.type o.dst [(x,b)]=some r):Does E.P o ev w (Post B0 F ρ L w r.v (r.L L)):=by
 simp only[evalOp] at e
 split at e
 ·cases e;rw[repAV_int] at hx
  refine does_pure hI ?_ (repAV_int.2 rfl) rfl
  simp[execOp,hop,hx,Op.unary,Op.intArith]
 ·cases e;rw[repAV_int] at hx
  refine does_pure hI ?_ (repAV_int.2 rfl) rfl
  simp[execOp,hop,hx,Op.unary,Op.intBits,inot,ixor]
 ·cases e;rw[repAV_bool] at hx
  refine does_pure hI ?_ (repAV_bool.2 rfl) rfl
  simp[execOp,hop,hx,Op.unary]
 ·cases e
theorem sound_pickB (hI:In E B0 F ρ L w){C A B:Operand}{x:Bool}{a b:AV}(hop:o.op= .pick C A B)(hcc:RepAV F ρ L (.val .bool x) (ev C))(ha:RepAV F ρ L a (ev A))(hb:RepAV F ρ L b (ev B))
 (e:pickB x a b=some r) (hcs:∀c,c∈r.cs→c):Does E.P o ev w (Post B0 F ρ L w r.v (r.L L)):=by
 unfold pickB at e
 ·rw[repAV_bool] at hcc
  have strip:∀(p:Prop) (a:AV) (v:Value),RepAV F ρ L (.opt p a) v→a.isTup=false→p→RepAV F ρ L a v:=by
   intro p a v h ht hp
   have h':p→RepA F ρ L a [v]:=h.1
   unfold RepAV
   rw[if_neg (by simp[ht])]
   exact h' hp
  have fin:∀(cs:List Prop) (a b:AV),((∀c,c∈cs→c)→(x=true→a.isTup=false→RepAV F ρ L a (ev A))∧(x=false→b.isTup=false→RepAV F ρ L b (ev B)))→
   pickGo x cs a b=some r→Does E.P o ev w (Post B0 F ρ L w r.v (r.L L)):=by
   intro cs a b hab e
   unfold pickGo at e
   split at e
   ·rename_i t y u z
    split at e
    ·rename_i z' e1
     cases e
     have:=TV.as_eq e1
     cases this
     obtain⟨h1,h2⟩:=hab hcs
     cases x
     ·refine does_pure hI (v:=ev B) ?_ (h2 rfl rfl) rfl
      simp[execOp,hop,hcc,asBool]
     ·refine does_pure hI (v:=ev A) ?_ (h1 rfl rfl) rfl
      simp[execOp,hop,hcc,asBool]
    ·cases e
   ·cases e
  split at e
  ·rename_i p a' q b'
   exact fin _ a' b' (fun h=>⟨fun hx ht=>strip _ _ _ ha ht (h ((x:Bool)=true→p) (by simp) hx),fun hx ht=>strip _ _ _ hb ht (h ((x:Bool)=false→q) (by simp) hx)⟩) e
  ·rename_i p a' _ _
   refine fin _ _ _ ?_ e
   intro h
   exact⟨fun hx ht=>strip _ _ _ ha ht (one_mem h hx),fun _ _=>hb⟩
  ·rename_i q b' _ _
   refine fin _ _ _ ?_ e
   intro h
   exact⟨fun _ _=>ha,fun hx ht=>strip _ _ _ hb ht (one_mem h hx)⟩
  ·exact fin _ _ _ (fun h=>⟨fun _ _=>ha,fun _ _=>hb⟩) e
theorem sound_pick (hI:In E B0 F ρ L w){C A B:Operand}{c a b:AV}(hop:o.op= .pick C A B)(hcc:RepAV F ρ L c (ev C))(ha:RepAV F ρ L a (ev A))(hb:RepAV F ρ L b (ev B))
 (e:evalPick c a b=some r) (hcs:∀c,c∈r.cs→c):Does E.P o ev w (Post B0 F ρ L w r.v (r.L L)):=by
 unfold evalPick at e
 split at e
 ·exact sound_pickB hI hop hcc ha hb e hcs
 ·rename_i p x
  split at e
  ·rename_i r' e'
   cases e
   have hp:p:=hcs p (by simp)
   have h':RepAV F ρ L (.val .bool x) (ev C):=by
    have h2:p→RepA F ρ L (.val .bool x) [ev C]:=hcc.1
    unfold RepAV
    rw[if_neg (by simp[AV.isTup])]
    exact h2 hp
   exact sound_pickB (r:=r') hI hop h' ha hb e' (fun c hc=>hcs c (by simp[hc]))
  ·cases e
 ·cases e
end
end Lc
