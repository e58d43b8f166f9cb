/- The engine, part D: how data lie in memory. -/
import Derived.Test.YtlhdieoemhjjiaaGreatDoorEngAC
set_option linter.unusedVariables false
set_option linter.unusedSimpArgs false
namespace Lc
open Go
abbrev FH :=Nat→Nat→Option Value
def FH.le (F G:FH):Prop:=∀b i v,F b i=some v→G b i=some v
theorem FH.le.rfl {F:FH}:F.le F:=fun _ _ _ h=>h
theorem FH.le.trans {F G H:FH}(h:F.le G)(k:G.le H):F.le H:=fun b i v e=>k b i v (h b i v e)
def RepL {α:Type}(R:α→List Value→Prop):List α→List Value→Prop
 |[],cs=>cs=[]
 |x::xs,cs=>∃c1 c2,cs=c1++c2∧R x c1∧RepL R xs c2
def FAt (F:FH)(b off:Nat)(cs:List Value):Prop:=∀i c,cs[i]? =some c→F b (off+i)=some c
def SlcV (F:FH)(n:Nat)(P:List Value→Prop)(v:Value):Prop:=
 ((∃o,v= .slice o 0 0)∧n=0∧P [])∨
 ∃b off cap cs,v= .slice (some ⟨b,off,none⟩) n cap∧n≤cap∧P cs∧FAt F b off cs
def Rep (F:FH):(t:Ty)→t.den→List Value→Prop
 | .int k,x,cs=>cs=[.int k x]
 | .bool,x,cs=>cs=[.bool x]
 | .str,x,cs=>cs=[.string x]
 | .unit,_,cs=>cs=[]
 | .pair a b,x,cs=>∃c1 c2,cs=c1++c2∧Rep F a x.1 c1∧Rep F b x.2 c2
 | .arr n t,xs,cs=>List.length xs=n∧RepL (Rep F t) xs cs
 | .slc t,xs,cs=>∃v,cs=[v]∧SlcV F (List.length xs) (RepL (Rep F t) xs) v
 | .map _ _,xs,cs=>xs=[]∧cs=[.map none]
 | .fn f c,x,cs=>∃v,cs=[.func (.func f) #[] #[v]]∧(if c.isAgg then∃ds:List Value,v= .agg ds.toArray∧Rep F c x ds else Rep F c x [v])
 | .ref c,x,cs=>∃b off ds,cs=[.pointer (some ⟨b,off,none⟩)]∧Rep F c x ds∧FAt F b off ds
def RepV (F:FH)(t:Ty)(x:t.den)(v:Value):Prop:=
 if t.isAgg then∃cs,v= .agg cs.toArray∧Rep F t x cs else Rep F t x [v]
theorem repL_len {α:Type}{R:α→List Value→Prop}{sz:Nat}(h:∀x cs,R x cs→cs.length=sz):
 ∀(xs:List α) (cs:List Value),RepL R xs cs→cs.length=xs.length*sz:=by
 intro xs
 induction xs with
 |nil=>intro cs e;cases e;simp
 |cons x xs ih=>
  rintro cs ⟨c1,c2,rfl,h1,h2⟩
  rw[List.length_append,h _ _ h1,ih _ h2,List.length_cons,Nat.add_mul];omega
theorem rep_len {F:FH}:∀(t:Ty) (x:t.den) (cs:List Value),Rep F t x cs→cs.length=t.size:=by
 intro t
 induction t with
 |int k=>intro x cs h;cases h;rfl
 |bool=>intro x cs h;cases h;rfl
 |str=>intro x cs h;cases h;rfl
 |unit=>intro x cs h;cases h;rfl
 |pair a b iha ihb=>
  rintro x cs ⟨c1,c2,rfl,h1,h2⟩
  rw[List.length_append,iha _ _ h1,ihb _ _ h2];rfl
 |arr n t ih=>
  rintro x cs ⟨h1,h2⟩
  rw[repL_len (fun x cs=>ih x cs) _ _ h2,h1];rfl
 |slc t _=>rintro x cs ⟨v,rfl,_⟩;rfl
 |map k v _ _=>rintro x cs ⟨_,rfl⟩;rfl
 |fn f c _=>rintro x cs ⟨v,rfl,_⟩;rfl
 |ref c _=>rintro x cs ⟨b,off,ds,rfl,_⟩;rfl
theorem repL_rep_len {F:FH}{t:Ty}{xs:List t.den}{cs:List Value}(h:RepL (Rep F t) xs cs):cs.length=xs.length*t.size:=
 repL_len (fun x cs=>rep_len t x cs) xs cs h
theorem repL_mono {α:Type}{R S:α→List Value→Prop}(h:∀x cs,R x cs→S x cs):∀(xs:List α) (cs:List Value),RepL R xs cs→RepL S xs cs:=by
 intro xs
 induction xs with
 |nil=>intro cs e;exact e
 |cons x xs ih=>rintro cs ⟨c1,c2,rfl,h1,h2⟩;exact⟨c1,c2,rfl,h _ _ h1,ih _ h2⟩
theorem rep_mono {F G:FH}(h:F.le G):∀(t:Ty) (x:t.den) (cs:List Value),Rep F t x cs→Rep G t x cs:=by
 intro t
 induction t with
 |int k=>intro x cs e;exact e
 |bool=>intro x cs e;exact e
 |str=>intro x cs e;exact e
 |unit=>intro x cs e;exact e
 |pair a b iha ihb=>rintro x cs ⟨c1,c2,rfl,h1,h2⟩;exact⟨c1,c2,rfl,iha _ _ h1,ihb _ _ h2⟩
 |arr n t ih=>rintro x cs ⟨h1,h2⟩;exact⟨h1,repL_mono ih _ _ h2⟩
 |slc t ih=>
  rintro x cs ⟨v,rfl,h2⟩
  refine⟨v,rfl, ?_⟩
  rcases h2 with⟨e,e2,e3⟩|⟨b,off,cap,cs,e,e1,e2,e3⟩
  ·exact .inl ⟨e,e2,repL_mono ih _ _ e3⟩
  ·exact .inr ⟨b,off,cap,cs,e,e1,repL_mono ih _ _ e2,fun i c hc=>h _ _ _ (e3 i c hc)⟩
 |map k v _ _=>intro x cs e;exact e
 |fn f c ih=>
  rintro x cs ⟨v,e,h2⟩
  refine⟨v,e, ?_⟩
  split
  ·rename_i hc;rw[if_pos hc] at h2;obtain⟨ds,e1,e2⟩:=h2;exact⟨ds,e1,ih _ _ e2⟩
  ·rename_i hc;rw[if_neg hc] at h2;exact ih _ _ h2
 |ref c ih=>rintro x cs ⟨b,off,ds,e,h1,h2⟩;exact⟨b,off,ds,e,ih _ _ h1,fun i c hc=>h _ _ _ (h2 i c hc)⟩
theorem rep_flat {F G:FH}:∀(t:Ty),t.flat=true→∀(x:t.den) (cs:List Value),Rep F t x cs→Rep G t x cs:=by
 intro t
 induction t with
 |int k=>intro _ x cs e;exact e
 |bool=>intro _ x cs e;exact e
 |str=>intro _ x cs e;exact e
 |unit=>intro _ x cs e;exact e
 |pair a b iha ihb=>
  intro hf
  simp only[Ty.flat,Bool.and_eq_true] at hf
  rintro x cs ⟨c1,c2,rfl,h1,h2⟩
  exact⟨c1,c2,rfl,iha hf.1 _ _ h1,ihb hf.2 _ _ h2⟩
 |arr n t ih=>intro hf;rintro x cs ⟨h1,h2⟩;exact⟨h1,repL_mono (ih hf) _ _ h2⟩
 |slc t _=>intro hf;cases hf
 |map k v _ _=>intro hf;cases hf
 |fn f c _=>intro hf;cases hf
 |ref c _=>intro hf;cases hf
theorem repV_mono {F G:FH}(h:F.le G){t:Ty}{x:t.den}{v:Value}(r:RepV F t x v):RepV G t x v:=by
 unfold RepV at*
 split
 ·rename_i e;rw[if_pos e] at r;obtain⟨cs,e1,e2⟩:=r;exact⟨cs,e1,rep_mono h _ _ _ e2⟩
 ·rename_i e;rw[if_neg e] at r;exact rep_mono h _ _ _ r
theorem repV_flat {F G:FH}{t:Ty}(hf:t.flat=true){x:t.den}{v:Value}(r:RepV F t x v):RepV G t x v:=by
 unfold RepV at*
 split
 ·rename_i e;rw[if_pos e] at r;obtain⟨cs,e1,e2⟩:=r;exact⟨cs,e1,rep_flat _ hf _ _ e2⟩
 ·rename_i e;rw[if_neg e] at r;exact rep_flat _ hf _ _ r
theorem repV_cells {F:FH}{t:Ty}{x:t.den}{v:Value}(r:RepV F t x v):Rep F t x v.cells.toList:=by
 unfold RepV at r
 split at r
 ·obtain⟨cs,rfl,h⟩:=r;simpa[Value.cells] using h
 ·rename_i e
  cases t<;>simp[Ty.isAgg] at e
  ·cases r;simp[Value.cells,Rep]
  ·cases r;simp[Value.cells,Rep]
  ·cases r;simp[Value.cells,Rep]
  ·obtain⟨u,hu,h⟩:=r
   cases hu
   have:v.cells= #[v]:=by
    rcases h with⟨⟨o,rfl⟩,_⟩|⟨_,_,_,_,rfl,_⟩<;>rfl
   rw[this];exact⟨v,rfl,h⟩
  ·obtain⟨rfl,hu⟩:=r;cases hu;exact⟨rfl,rfl⟩
  ·obtain⟨u,hu,h⟩:=r;cases hu;exact⟨u,rfl,h⟩
  ·obtain⟨b,off,ds,hu,h⟩:=r;cases hu;exact⟨b,off,ds,rfl,h⟩
def mkV (t:Ty)(cs:List Value):Value:=if t.isAgg then .agg cs.toArray else(cs[0]?).getD undef
theorem repV_mk {F:FH}{t:Ty}{x:t.den}{cs:List Value}(r:Rep F t x cs):RepV F t x (mkV t cs):=by
 unfold RepV mkV
 split
 ·exact⟨cs,rfl,r⟩
 ·rename_i e
  cases t<;>simp[Ty.isAgg] at e
  ·cases r;rfl
  ·cases r;rfl
  ·cases r;rfl
  ·obtain⟨v,rfl,h⟩:=r;exact⟨v,rfl,h⟩
  ·obtain⟨rfl,rfl⟩:=r;exact⟨rfl,rfl⟩
  ·obtain⟨v,rfl,h⟩:=r;exact⟨v,rfl,h⟩
  ·obtain⟨b,off,ds,rfl,h⟩:=r;exact⟨b,off,ds,rfl,h⟩
theorem repL_append {α:Type}{R:α→List Value→Prop}:∀(xs ys:List α) (cs ds:List Value),RepL R xs cs→RepL R ys ds→RepL R (xs++ys) (cs++ds):=by
 intro xs
 induction xs with
 |nil=>intro ys cs ds h1 h2;cases h1;simpa using h2
 |cons x xs ih=>
  rintro ys cs ds ⟨c1,c2,rfl,h1,h2⟩ h3
  exact⟨c1,c2++ds,by simp,h1,ih _ _ _ h2 h3⟩
section
variable {α : Type} {R : α → List Value → Prop} {sz : Nat} (hlen : ∀ x cs, R x cs → cs.length = sz)
include hlen
theorem repL_drop :∀(n:Nat) (xs:List α) (cs:List Value),RepL R xs cs→RepL R (xs.drop n) (cs.drop (n*sz)):=by
 intro n
 induction n with
 |zero=>intro xs cs h;simpa using h
 |succ n ih=>
  intro xs cs h
  cases xs with
  |nil=>cases h;simp[RepL]
  |cons x xs=>
   obtain⟨c1,c2,rfl,h1,h2⟩:=h
   have:=ih xs c2 h2
   have e:(c1++c2).drop ((n+1)*sz)=c2.drop (n*sz):=by
    rw[Nat.add_mul,List.drop_append]
    have:=hlen _ _ h1
    rw[List.drop_eq_nil_of_le (by omega)]
    simp only[List.nil_append]
    congr 1;omega
   rw[e];exact this
theorem repL_take :∀(n:Nat) (xs:List α) (cs:List Value),RepL R xs cs→RepL R (xs.take n) (cs.take (n*sz)):=by
 intro n
 induction n with
 |zero=>intro xs cs h;simp[RepL]
 |succ n ih=>
  intro xs cs h
  cases xs with
  |nil=>cases h;simp[RepL]
  |cons x xs=>
   obtain⟨c1,c2,rfl,h1,h2⟩:=h
   have l1:=hlen _ _ h1
   have e:(c1++c2).take ((n+1)*sz)=c1++c2.take (n*sz):=by
    rw[Nat.add_mul,List.take_append]
    rw[List.take_of_length_le (by omega)]
    congr 2;omega
   rw[e];exact⟨c1,_,rfl,h1,ih _ _ h2⟩
theorem repL_get (xs:List α)(cs:List Value)(h:RepL R xs cs)(i:Nat)(d:α)(hi:i<xs.length):
 R (xs.getD i d) ((cs.drop (i*sz)).take sz):=by
 have h1:=repL_drop hlen i xs cs h
 have e:xs.drop i=xs.getD i d::xs.drop (i+1):=by
  rw[List.drop_eq_getElem_cons hi];simp[List.getD_eq_getElem?_getD,List.getElem?_eq_getElem hi]
 rw[e] at h1
 obtain⟨c1,c2,e2,r1,_⟩:=h1
 rw[e2,List.take_append,List.take_of_length_le (by have:=hlen _ _ r1;omega)]
 have:=hlen _ _ r1
 rw[show sz-c1.length=0 by omega]
 simpa using r1
theorem repL_set (xs:List α)(cs:List Value)(h:RepL R xs cs)(i:Nat)(y:α)(ds:List Value)(hi:i<xs.length)(hy:R y ds):
 RepL R (xs.set i y) (cs.take (i*sz)++ds++cs.drop ((i+1)*sz)):=by
 have h1:=repL_take hlen i xs cs h
 have h2:=repL_drop hlen (i+1) xs cs h
 have e:xs.set i y=xs.take i++(y::xs.drop (i+1)):=by
  rw[List.set_eq_take_append_cons_drop,if_pos hi]
 rw[e,List.append_assoc]
 exact repL_append _ _ _ _ h1 ⟨ds,_,rfl,hy,h2⟩
end
theorem repL_replicate {α:Type}{R:α→List Value→Prop}{x:α}{c:List Value}(h:R x c):∀n,RepL R (List.replicate n x) (List.replicate n c).flatten:=by
 intro n
 induction n with
 |zero=>simp[RepL]
 |succ n ih=>exact⟨c,_,by simp[List.replicate_succ],h,ih⟩
def zeroCs :Ty→List Value
 | .int k=>[.int k 0]
 | .bool=>[.bool false]
 | .str=>[.string ByteArray.empty]
 | .unit=>[]
 | .pair a b=>zeroCs a++zeroCs b
 | .arr n t=>(List.replicate n (zeroCs t)).flatten
 | .slc _=>[.slice none 0 0]
 | .map _ _=>[.map none]
 | .fn _ _=>[.nilFunc]
 | .ref _=>[.pointer none]
theorem zeroCs_len (t:Ty):(zeroCs t).length=t.size:=by
 induction t with
 |pair a b iha ihb=>simp only[zeroCs,List.length_append,iha,ihb,Ty.size]
 |arr n t ih=>simp[zeroCs,Ty.size,ih]
 |_=>rfl
def okT :Ty→List Stp→Prop
 |_,[]=>True
 | .pair a _,.fld 0::p=>okT a p
 | .pair _ b,.fld (i+1)::p=>okT b (.fld i::p)
 | .arr n u,.idx i::p=>i<n∧okT u p
 |_,_=>False
theorem getP_rep {F:FH}:∀(t:Ty) (x:t.den) (cs:List Value) (p:List Stp),Rep F t x cs→okT t p→∀(v:TV),getP t x p=some v→
 ∃o,t.nav p=some (v.t,o)∧o+v.t.size≤t.size∧Rep F v.t v.x ((cs.drop o).take v.t.size):=by
 intro t
 induction t with
 |int k=>
  intro x cs p h ok v e
  cases p with
  |nil=>cases e;exact⟨0,rfl,by simp,by rw[List.drop_zero,List.take_of_length_le (Nat.le_of_eq (rep_len _ _ _ h))];exact h⟩
  |cons s p=>simp[getP] at e
 |bool=>
  intro x cs p h ok v e
  cases p with
  |nil=>cases e;exact⟨0,rfl,by simp,by rw[List.drop_zero,List.take_of_length_le (Nat.le_of_eq (rep_len _ _ _ h))];exact h⟩
  |cons s p=>simp[getP] at e
 |str=>
  intro x cs p h ok v e
  cases p with
  |nil=>cases e;exact⟨0,rfl,by simp,by rw[List.drop_zero,List.take_of_length_le (Nat.le_of_eq (rep_len _ _ _ h))];exact h⟩
  |cons s p=>simp[getP] at e
 |unit=>
  intro x cs p h ok v e
  cases p with
  |nil=>cases e;exact⟨0,rfl,by simp,by rw[List.drop_zero,List.take_of_length_le (Nat.le_of_eq (rep_len _ _ _ h))];exact h⟩
  |cons s p=>simp[getP] at e
 |slc t _=>
  intro x cs p h ok v e
  cases p with
  |nil=>cases e;exact⟨0,rfl,by simp,by rw[List.drop_zero,List.take_of_length_le (Nat.le_of_eq (rep_len _ _ _ h))];exact h⟩
  |cons s p=>simp[getP] at e
 |map k v _ _=>
  intro x cs p h ok v e
  cases p with
  |nil=>cases e;exact⟨0,rfl,by simp,by rw[List.drop_zero,List.take_of_length_le (Nat.le_of_eq (rep_len _ _ _ h))];exact h⟩
  |cons s p=>simp[getP] at e
 |fn f c _=>
  intro x cs p h ok v e
  cases p with
  |nil=>cases e;exact⟨0,rfl,by simp,by rw[List.drop_zero,List.take_of_length_le (Nat.le_of_eq (rep_len _ _ _ h))];exact h⟩
  |cons s p=>simp[getP] at e
 |ref c _=>
  intro x cs p h ok v e
  cases p with
  |nil=>cases e;exact⟨0,rfl,by simp,by rw[List.drop_zero,List.take_of_length_le (Nat.le_of_eq (rep_len _ _ _ h))];exact h⟩
  |cons s p=>simp[getP] at e
 |pair a b iha ihb=>
  intro x cs p h ok v e
  cases p with
  |nil=>cases e;exact⟨0,rfl,by simp,by rw[List.drop_zero,List.take_of_length_le (Nat.le_of_eq (rep_len _ _ _ h))];exact h⟩
  |cons s p=>
   obtain⟨c1,c2,rfl,h1,h2⟩:=h
   have l1:=rep_len _ _ _ h1
   cases s with
   |idx i=>cases e
   |fld i=>
    cases i with
    |zero=>
     obtain⟨o,n1,n2,n3⟩:=iha _ _ _ h1 ok v e
     refine⟨o,n1,by simp only[Ty.size];omega, ?_⟩
     have:((c1++c2).drop o).take v.t.size=(c1.drop o).take v.t.size:=by
      rw[List.drop_append,List.take_append]
      have:v.t.size-(c1.drop o).length=0:=by rw[List.length_drop];omega
      rw[this];simp
     rw[this];exact n3
    |succ i=>
     obtain⟨o,n1,n2,n3⟩:=ihb _ _ _ h2 ok v e
     refine⟨a.size+o,by simp only[Ty.nav,n1],by simp only[Ty.size];omega, ?_⟩
     have:(c1++c2).drop (a.size+o)=c2.drop o:=by
      rw[List.drop_append,List.drop_eq_nil_of_le (by omega)]
      simp only[List.nil_append];congr 1;omega
     rw[this];exact n3
 |arr n t ih=>
  intro x cs p h ok v e
  cases p with
  |nil=>cases e;exact⟨0,rfl,by simp,by rw[List.drop_zero,List.take_of_length_le (Nat.le_of_eq (rep_len _ _ _ h))];exact h⟩
  |cons s p=>
   cases s with
   |fld i=>simp[getP] at e
   |idx i=>
    obtain⟨h1,h2⟩:=h
    obtain⟨k1,k2⟩:=ok
    have g:=repL_get (fun x cs=>rep_len t x cs) _ _ h2 i t.dflt (by omega)
    obtain⟨o,n1,n2,n3⟩:=ih _ _ _ g k2 v e
    refine⟨i*t.size+o,by simp only[Ty.nav,n1], ?_, ?_⟩
    ·simp only[Ty.size]
     calc i*t.size+o+v.t.size≤i*t.size+t.size:=by omega
      _=(i+1)*t.size:=by rw[Nat.add_mul];omega
      _≤n*t.size:=Nat.mul_le_mul_right _ k1
    ·rw[List.drop_take,List.drop_drop,List.take_take] at n3
     rw[show min v.t.size (t.size-o)=v.t.size by omega] at n3
     exact n3
theorem setP_rep {F:FH}:∀(t:Ty) (x:t.den) (cs:List Value) (p:List Stp),Rep F t x cs→okT t p→∀(v:TV) (y:t.den),setP t x p v=some y→
 ∀ds,Rep F v.t v.x ds→
 ∃o,t.nav p=some (v.t,o)∧o+v.t.size≤t.size∧Rep F t y (cs.take o++ds++cs.drop (o+v.t.size)):=by
 intro t
 have top:∀(t:Ty) (x:t.den) (cs:List Value),Rep F t x cs→∀(v:TV) (y:t.den),v.as t=some y→∀ds,Rep F v.t v.x ds→
  ∃o,t.nav []=some (v.t,o)∧o+v.t.size≤t.size∧Rep F t y (cs.take o++ds++cs.drop (o+v.t.size)):=by
  intro t x cs h v y e ds hd
  obtain⟨u,z⟩:=v
  simp only[TV.as] at e
  split at e
  ·rename_i hu
   cases hu
   cases e
   refine⟨0,by cases t<;>rfl,by simp, ?_⟩
   rw[List.take_zero,List.nil_append,List.drop_eq_nil_of_le (by have:=rep_len _ _ _ h;simp;omega),List.append_nil]
   exact hd
  ·cases e
 induction t with
 |int k=>
  intro x cs p h ok v y e ds hd
  cases p with
  |nil=>exact top _ x cs h v y e ds hd
  |cons s p=>simp[setP] at e
 |bool=>
  intro x cs p h ok v y e ds hd
  cases p with
  |nil=>exact top _ x cs h v y e ds hd
  |cons s p=>simp[setP] at e
 |str=>
  intro x cs p h ok v y e ds hd
  cases p with
  |nil=>exact top _ x cs h v y e ds hd
  |cons s p=>simp[setP] at e
 |unit=>
  intro x cs p h ok v y e ds hd
  cases p with
  |nil=>exact top _ x cs h v y e ds hd
  |cons s p=>simp[setP] at e
 |slc t _=>
  intro x cs p h ok v y e ds hd
  cases p with
  |nil=>exact top _ x cs h v y e ds hd
  |cons s p=>simp[setP] at e
 |map k v _ _=>
  intro x cs p h ok v y e ds hd
  cases p with
  |nil=>exact top _ x cs h v y e ds hd
  |cons s p=>simp[setP] at e
 |fn f c _=>
  intro x cs p h ok v y e ds hd
  cases p with
  |nil=>exact top _ x cs h v y e ds hd
  |cons s p=>simp[setP] at e
 |ref c _=>
  intro x cs p h ok v y e ds hd
  cases p with
  |nil=>exact top _ x cs h v y e ds hd
  |cons s p=>simp[setP] at e
 |pair a b iha ihb=>
  intro x cs p h ok v y e ds hd
  cases p with
  |nil=>exact top _ x cs h v y e ds hd
  |cons s p=>
   obtain⟨c1,c2,rfl,h1,h2⟩:=h
   have l1:=rep_len _ _ _ h1
   have l2:=rep_len _ _ _ h2
   have ld:=rep_len _ _ _ hd
   cases s with
   |idx i=>simp[setP] at e
   |fld i=>
    cases i with
    |zero=>
     simp only[setP] at e
     cases e1:setP a x.1 p v with
     |none=>simp[e1] at e
     |some y1=>
      simp only[e1,Option.some.injEq] at e
      subst e
      obtain⟨o,n1,n2,n3⟩:=iha _ _ _ h1 ok v y1 e1 ds hd
      refine⟨o,n1,by simp only[Ty.size];omega,_,_, ?_,n3,h2⟩
      rw[List.take_append,List.drop_append]
      rw[show o-c1.length=0 by omega,show o+v.t.size-c1.length=0 by omega]
      simp
    |succ i=>
     simp only[setP] at e
     cases e1:setP b x.2 (.fld i::p) v with
     |none=>simp[e1] at e
     |some y1=>
      simp only[e1,Option.some.injEq] at e
      subst e
      obtain⟨o,n1,n2,n3⟩:=ihb _ _ _ h2 ok v y1 e1 ds hd
      refine⟨a.size+o,by simp only[Ty.nav,n1],by simp only[Ty.size];omega,c1,_, ?_,h1,n3⟩
      rw[List.take_append,List.drop_append,List.take_of_length_le (by omega:c1.length≤a.size+o),List.drop_eq_nil_of_le (by omega:c1.length≤a.size+o+v.t.size)]
      rw[show a.size+o-c1.length=o by omega,show a.size+o+v.t.size-c1.length=o+v.t.size by omega]
      simp
 |arr n t ih=>
  intro x cs p h ok v y e ds hd
  cases p with
  |nil=>exact top _ x cs h v y e ds hd
  |cons s p=>
   cases s with
   |fld i=>simp[setP] at e
   |idx i=>
    obtain⟨h1,h2⟩:=h
    obtain⟨k1,k2⟩:=ok
    simp only[setP] at e
    cases e1:setP t (List.getD x i t.dflt) p v with
    |none=>rw[e1] at e;cases e
    |some y1=>
     simp only[e1,Option.some.injEq] at e
     subst e
     have g:=repL_get (fun x cs=>rep_len t x cs) _ _ h2 i t.dflt (by omega)
     obtain⟨o,n1,n2,n3⟩:=ih _ _ _ g k2 v y1 e1 ds hd
     have lc:=repL_rep_len h2
     have hb:(i+1)*t.size≤n*t.size:=Nat.mul_le_mul_right _ k1
     have hb1:(i+1)*t.size=i*t.size+t.size:=by rw[Nat.add_mul];omega
     refine⟨i*t.size+o,by simp only[Ty.nav,n1],by simp only[Ty.size];omega,by simp[h1], ?_⟩
     have st:=repL_set (fun x cs=>rep_len t x cs) _ _ h2 i y1 _ (by omega) n3
     rw[h1] at lc
     have e2:cs.take (i*t.size)++(((cs.drop (i*t.size)).take t.size).take o++ds++((cs.drop (i*t.size)).take t.size).drop (o+v.t.size))++cs.drop ((i+1)*t.size)
      =cs.take (i*t.size+o)++ds++cs.drop (i*t.size+o+v.t.size):=by
      rw[List.take_take,show min o t.size=o by omega,List.take_add,List.drop_take,List.drop_drop]
      have:cs.drop (i*t.size+o+v.t.size)=(cs.drop (i*t.size+o+v.t.size)).take (t.size-(o+v.t.size))++cs.drop ((i+1)*t.size):=by
       have e3:cs.drop ((i+1)*t.size)=(cs.drop (i*t.size+o+v.t.size)).drop (t.size-(o+v.t.size)):=by
        rw[List.drop_drop];congr 1;omega
       rw[e3,List.take_append_drop]
      rw[this]
      simp only[List.append_assoc,Nat.add_assoc]
     rw[←e2]
     exact st
end Lc
namespace Lc
open Go
structure Kept (U:Nat→Prop)(w w':World):Prop where
 os:w'.os=w.os
 tape:w'.tape=w.tape
 output:w'.output=w.output
 size:w.heap.size≤w'.heap.size
 block:∀k,¬U k→w'.heap[k]? =w.heap[k]?
theorem Kept.refl (U:Nat→Prop)(w:World):Kept U w w:=⟨rfl,rfl,rfl,Nat.le_refl _,fun _ _=>rfl⟩
theorem Kept.trans {U:Nat→Prop}{a b c:World}(h:Kept U a b)(k:Kept U b c):Kept U a c:=
 ⟨k.os.trans h.os,k.tape.trans h.tape,k.output.trans h.output,Nat.le_trans h.size k.size,fun i hi=>(k.block i hi).trans (h.block i hi)⟩
theorem Kept.mono {U V:Nat→Prop}{w w':World}(h:Kept U w w')(hU:∀b,U b→V b):Kept V w w':=⟨h.os,h.tape,h.output,h.size,fun k hk=>h.block k (fun hu=>hk (hU k hu))⟩
theorem Kept.drew {U:Nat→Prop}{a w:World}(h:Kept U a w):Kept U a w.drew:=⟨h.os,h.tape,h.output,h.size,h.block⟩
theorem Kept.alloc {U:Nat→Prop}{a w:World}(h:Kept U a w)(hU:∀b,w.heap.size≤b→U b)(o:Obj):Kept U a (w.alloc o):=by
 have hb:=Go.RowKit.Below.alloc (Go.RowKit.Below.refl w.heap.size w) (Nat.le_refl _) o
 refine⟨h.os,h.tape,h.output,Nat.le_trans h.size hb.size,fun k hk=> ?_⟩
 rw[←h.block k hk]
 exact hb.block k (Nat.lt_of_not_le (fun hle=>hk (hU k hle)))
structure Ctx where
 w:World
 U:Nat→Prop
abbrev Cap :=Nat×Nat
abbrev RM :=Nat→Option (Nat×Cap)
abbrev HL :=Nat→Option (Option Blk)
def upd {α:Type}(f:Nat→α)(k:Nat)(v:α):Nat→α:=fun n=>if n=k then v else f n
@[simp] theorem upd_same {α : Type} (f : Nat → α) (k : Nat) (v : α) : upd f k v k = v := by simp [upd]
theorem upd_ne {α:Type}(f:Nat→α){k n:Nat}(v:α)(h:n≠k):upd f k v n=f n:=by simp[upd,h]
def hl (hp:List (Nat×Option Blk)):HL:=fun n=>look n hp
theorem look_cons {α:Type}(n k:Nat)(v:α)(l:List (Nat×α)):look n ((k,v)::l)=if n=k then some v else look n l:=by
 simp only[look]
 by_cases h:n=k
 ·subst h;simp[Nat.beq_refl]
 ·rw[if_neg h,if_neg (by simpa using h)]
theorem hl_cons (k:Nat)(v:Option Blk)(l:List (Nat×Option Blk)):hl ((k,v)::l)=upd (hl l) k (some v):=by
 funext n;simp only[hl,look_cons,upd]
def lenT :(t:Ty)→t.den→Nat
 | .arr _ _,xs=>List.length xs
 |_,_=>0
def Blk.len (b:Blk):Nat:=lenT b.t b.x
def okB (row:Bool)(n:Nat)(t:Ty)(p:List Stp):Prop:=
 if row then(match t,p with
  |_,[]=>True
  | .arr _ u,.idx i::p=>i<n∧okT u p
  |_,_=>False)
 else okT t p
def lcap (row:Bool)(p:List Stp)(len:Nat)(cap:Cap)(n:Nat):Nat×Nat:=if row&&p.isEmpty then(len,cap.1) else(n,n)
def HW (r:Option (Nat×Cap))(row:Bool)(len:Nat)(root:Ty)(p:List Stp)(v:Value):Prop:=
 (r=none∧row=true∧p=[]∧len=0∧v= .slice none 0 0)∨
 ∃b cap n u off,r=some (b,cap)∧root.nav p=some (.arr n u,off)∧
  v= .slice (some ⟨b,cap.2+off,none⟩) (lcap row p len cap n).1 (lcap row p len cap n).2
def HS (r:Option (Nat×Cap))(row:Bool)(len:Nat)(root:Ty)(p:List Stp)(o l:Nat)(v:Value):Prop:=
 (r=none∧row=true∧p=[]∧len=0∧o=0∧l=0∧v= .slice none 0 0)∨
 ∃b cap n u off off',r=some (b,cap)∧root.nav p=some (.arr n u,off)∧
  v= .slice (some ⟨b,off',none⟩) l ((lcap row p len cap n).2-o)∧o+l≤(lcap row p len cap n).2∧
  ((lcap row p len cap n).2≠o→off'=cap.2+off+o*u.size)
def RepA (F:FH)(ρ:RM)(L:HL):AV→List Value→Prop
 | .val t x,l=>∃v,l=[v]∧RepV F t x v
 | .vlk t x lks,l=>∃v,l=[v]∧RepV F t x v∧∀p k,(p,k)∈lks→fldOnly p=true∧∃u off hv,t.nav p=some (.slc u,off)∧v.cells.toList[off]? =some hv∧
     ∀blk,L k=some (some blk)→blk.t= .arr 0 u∧okB blk.row blk.len (.arr 0 u) []∧HW (ρ k) blk.row blk.len (.arr 0 u) [] hv
 | .cptr t x,l=>∃b off cs,l=[.pointer (some ⟨b,off,none⟩)]∧Rep F t x cs∧FAt F b off cs
 | .ptr k root p,l=>∃v,l=[v]∧∀blk,L k=some (some blk)→blk.t=root∧okB blk.row blk.len root p∧
     ∃b cap u off,ρ k=some (b,cap)∧root.nav p=some (u,off)∧v= .pointer (some ⟨b,cap.2+off,none⟩)
 | .whole k root p,l=>∃v,l=[v]∧∀blk,L k=some (some blk)→blk.t=root∧okB blk.row blk.len root p∧HW (ρ k) blk.row blk.len root p v
 | .sub k root p o n,l=>∃v,l=[v]∧∀blk,L k=some (some blk)→blk.t=root∧okB blk.row blk.len root p∧HS (ρ k) blk.row blk.len root p o n v
 | .nil,l=>l=[.slice none 0 0]
 | .cut t xs,l=>(xs=[]∧∃o,l=[.slice o 0 0])∨
     ∃b off cs,l=[.slice (some ⟨b,off,none⟩) (List.length xs) (List.length xs)]∧RepL (Rep F t) xs cs∧FAt F b off cs
 | .raw u,l=>l=[u]
 | .fn f,l=>l=[.func (.func f) #[] #[]]
 | .mref k,l=>∃v,l=[v]∧∀blk,L k=some (some blk)→∃b cap,ρ k=some (b,cap)∧v= .map (some b)
 | .opt p a,l=>(p→RepA F ρ L a l)∧(¬p→l=[undef])
 | .tnil,l=>l=[]
 | .tcons a b,l=>∃v r,l=v::r∧RepA F ρ L a [v]∧RepA F ρ L b r
def RepAV (F:FH)(ρ:RM)(L:HL)(a:AV)(v:Value):Prop:=
 if a.isTup then∃l,v= .tuple l.toArray∧RepA F ρ L a l else RepA F ρ L a [v]
def cellAt (H:Array Obj)(b i:Nat):Option Value:=
 match H[b]? with
 |some (.cells c _ _)=>c[i]?
 |_=>none
theorem cell?_eq (w:World)(b i:Nat):w.cell? ⟨b,i,none⟩=cellAt w.heap b i:=by
 simp only[World.cell?,cellAt]
 cases w.heap[b]? with
 |none=>rfl
 |some o=>cases o<;>simp
def RepC (F:FH)(row:Bool)(cap:Cap)(n:Nat):(t:Ty)→t.den→List Value→Prop
 | .arr m u,xs,cs=>if row then RepL (Rep F u) xs cs∧n=cap.2+cap.1*u.size∧List.length xs≤cap.1 else Rep F (.arr m u) xs cs∧n=cs.length∧cap.2=0
 |t,x,cs=>row=false∧Rep F t x cs∧n=cs.length∧cap.2=0
def RepM (F:FH)(K V:Ty):List (K.den×V.den)→List MapEntry→Prop
 |[],es=>es=[]
 |x::xs,es=>∃e r,es=e::r∧RepV F K x.1 e.key∧RepV F V x.2 e.val∧RepM F K V xs r
theorem repM_mono {F G:FH}(h:F.le G){K V:Ty}:∀(xs:List (K.den×V.den)) (es:List MapEntry),RepM F K V xs es→RepM G K V xs es
 |[],_,e=>e
 |_::xs,_,⟨e,r,h1,h2,h3,h4⟩=>⟨e,r,h1,repV_mono h h2,repV_mono h h3,repM_mono h xs r h4⟩
structure MapB (F:FH)(H:Array Obj)(B0:Nat→Prop)(r:Option (Nat×Cap))(blk:Blk)(K V:Ty)(xs:List (K.den×V.den)):Prop where
 row:blk.row=true
 fz:blk.fz=false
 eq:TV.mk blk.t blk.x=⟨.map K V,xs⟩
 out:∃b es clock,r=some (b,(0,0))∧B0 b∧H[b]? =some (.map es clock)∧RepM F K V xs es.toList
theorem MapB.mono {F G:FH}(h:F.le G){H H':Array Obj}{B0:Nat→Prop}{r:Option (Nat×Cap)}{blk:Blk}{K V:Ty}{xs:List (K.den×V.den)}(m:MapB F H B0 r blk K V xs)
 (hH:∀b (cap:Cap) es clock,r=some (b,cap)→H[b]? =some (.map es clock)→H'[b]? =some (.map es clock)):MapB G H' B0 r blk K V xs:=by
 obtain⟨e,e',e'',b,es,clock,h1,h2,h3,h4⟩:=m
 exact⟨e,e',e'',b,es,clock,h1,h2,hH _ _ _ _ h1 h3,repM_mono h _ _ h4⟩
def free (fr:Nat×Nat)(n:Nat):Prop:=∀i,i<n→¬(fr.1≤i∧i<fr.2)
def holes (b:Blk)(cs:List Value):List Value:=
 bif b.isOpen then(match b.lk with
  |(p,_)::_=>match b.t.nav p with
   |some (_,off)=>cs.set off (.slice none 0 0)
   |none=>cs
  |[]=>cs) else cs
theorem isOpen_row {b:Blk}(h:b.row=true):b.isOpen=false:=by simp[Blk.isOpen,h]
theorem isOpen_fz {b:Blk}(h:b.fz=false):b.isOpen=false:=by simp[Blk.isOpen,h]
theorem isOpen_lk {b:Blk}(h:b.lk=[]):b.isOpen=false:=by simp[Blk.isOpen,h]
theorem holes_shut {b:Blk}(h:b.isOpen=false)(cs:List Value):holes b cs=cs:=by simp[holes,h]
def Blk.still (b:Blk):Bool:=b.fz&& !b.isOpen
theorem still_shut {b:Blk}(h:b.isOpen=false):b.still=b.fz:=by simp[Blk.still,h]
def RepB (F:FH)(H:Array Obj)(B0:Nat→Prop)(r:Option (Nat×Cap))(blk:Blk):Prop:=
 r=none∨
 (∃b cap c e fr hd cs rest,r=some (b,cap)∧B0 b∧H[b]? =some (.cells c e fr)∧free fr c.size∧(List.length hd=cap.2∧(blk.fz=false→cap.2=0)∧c.toList=hd++(cs++rest))∧
   RepC F blk.row cap c.size blk.t blk.x (holes blk cs)∧∀i,F b (cap.2+i)=if blk.still then cs[i]? else none)∨
 ∃K V xs,MapB F H B0 r blk K V xs
def Lnk (F:FH)(ρ:RM)(L:HL)(H:Array Obj)(b o:Nat)(t:Ty)(p:List Stp)(k:Nat):Prop:=
 fldOnly p=true∧∃u off v,t.nav p=some (.slc u,off)∧cellAt H b (o+off)=some v∧RepAV F ρ L (.whole k (.arr 0 u) []) v
structure HRel (F:FH)(ρ:RM)(L:HL)(H:Array Obj)(B0:Nat→Prop):Prop where
 cons:∀b i v,F b i=some v→cellAt H b i=some v
 blk:∀k blk,L k=some (some blk)→RepB F H B0 (ρ k) blk
 inj:∀k k' x x' b c c',L k=some (some x)→L k'=some (some x')→ρ k=some (b,c)→ρ k'=some (b,c')→k=k'
 lnk:∀kb blk,L kb=some (some blk)→∀p k,(p,k)∈blk.lk→(L k).isSome∧∀b cap,ρ kb=some (b,cap)→Lnk F ρ L H b cap.2 blk.t p k
theorem repC_mono {F G:FH}(h:F.le G){row:Bool}{cap:Cap}{n:Nat}{t:Ty}{x:t.den}{cs:List Value}(r:RepC F row cap n t x cs):RepC G row cap n t x cs:=by
 cases t<;>simp only[RepC] at*
 case arr m u=>
  split
  ·rename_i hr;rw[if_pos hr] at r;exact⟨repL_mono (fun x cs=>rep_mono h u x cs) _ _ r.1,r.2⟩
  ·rename_i hr;rw[if_neg hr] at r;exact⟨rep_mono h _ _ _ r.1,r.2⟩
 all_goals exact⟨r.1,rep_mono h _ _ _ r.2.1,r.2.2⟩
theorem cellAt_lt {H:Array Obj}{b i:Nat}{v:Value}(h:cellAt H b i=some v):b<H.size:=by
 simp only[cellAt] at h
 split at h
 ·rename_i e;exact(Array.getElem?_eq_some_iff.1 e).1
 ·cases h
def LLe (L:HL)(ρ:RM)(L':HL)(ρ':RM):Prop:=
 ∀k,(L k).isSome→∀blk',L' k=some (some blk')→∃blk,L k=some (some blk)∧blk'.t=blk.t∧blk'.row=blk.row∧blk'.len=blk.len∧ρ' k=ρ k
theorem LLe.same {L:HL}{ρ:RM}:LLe L ρ L ρ:=fun _ _ blk h=>⟨blk,h,by simp⟩
theorem repA_ext {F F':FH}{ρ ρ':RM}{L L':HL}(hF:F.le F')(hL:LLe L ρ L' ρ'):
 ∀(a:AV) (l:List Value),(∀k,k∈a.keys→(L k).isSome)→RepA F ρ L a l→RepA F' ρ' L' a l:=by
 intro a
 induction a with
 |val t x=>rintro l _ ⟨v,rfl,h⟩;exact⟨v,rfl,repV_mono hF h⟩
 |vlk t x lks=>
  rintro l hk ⟨v,e,h1,h2⟩
  refine⟨v,e,repV_mono hF h1,fun p k hm=> ?_⟩
  obtain⟨g0,u,off,hv,g1,g2,g3⟩:=h2 p k hm
  refine⟨g0,u,off,hv,g1,g2,fun blk' hb=> ?_⟩
  obtain⟨blk,q1,q2,q3,q4,q5⟩:=hL k (hk k (by simp only[AV.keys,List.mem_map];exact⟨_,hm,rfl⟩)) blk' hb
  rw[q2,q3,q4,q5];exact g3 blk q1
 |cptr t x=>rintro l _ ⟨b,off,cs,e,h1,h2⟩;exact⟨b,off,cs,e,rep_mono hF _ _ _ h1,fun i c hc=>hF _ _ _ (h2 i c hc)⟩
 |ptr k root p=>
  rintro l hk ⟨v,e,h⟩
  refine⟨v,e,fun blk' hb=> ?_⟩
  obtain⟨blk,h1,h2,h3,h4,h5⟩:=hL k (hk k (by simp[AV.keys])) blk' hb
  rw[h2,h3,h4,h5];exact h blk h1
 |whole k root p=>
  rintro l hk ⟨v,e,h⟩
  refine⟨v,e,fun blk' hb=> ?_⟩
  obtain⟨blk,h1,h2,h3,h4,h5⟩:=hL k (hk k (by simp[AV.keys])) blk' hb
  rw[h2,h3,h4,h5];exact h blk h1
 |sub k root p o n=>
  rintro l hk ⟨v,e,h⟩
  refine⟨v,e,fun blk' hb=> ?_⟩
  obtain⟨blk,h1,h2,h3,h4,h5⟩:=hL k (hk k (by simp[AV.keys])) blk' hb
  rw[h2,h3,h4,h5];exact h blk h1
 |nil=>intro l _ h;exact h
 |cut t xs=>
  rintro l _ (h|⟨b,off,cs,e,h1,h2⟩)
  ·exact .inl h
  ·exact .inr ⟨b,off,cs,e,repL_mono (fun x cs=>rep_mono hF t x cs) _ _ h1,fun i c hc=>hF _ _ _ (h2 i c hc)⟩
 |raw u=>intro l _ h;exact h
 |fn f=>intro l _ h;exact h
 |mref k=>
  rintro l hk ⟨v,e,h⟩
  refine⟨v,e,fun blk' hb=> ?_⟩
  obtain⟨blk,h1,h2,h3,h4,h5⟩:=hL k (hk k (by simp[AV.keys])) blk' hb
  rw[h5];exact h blk h1
 |opt p a ih=>intro l hk h;exact⟨fun hp=>ih l hk (h.1 hp),h.2⟩
 |tnil=>intro l _ h;exact h
 |tcons a b iha ihb=>
  rintro l hk ⟨v,r,rfl,h1,h2⟩
  exact⟨v,r,rfl,iha _ (fun k h=>hk k (by simp[AV.keys,h])) h1,ihb _ (fun k h=>hk k (by simp[AV.keys,h])) h2⟩
theorem repAV_ext {F F':FH}{ρ ρ':RM}{L L':HL}(hF:F.le F')(hL:LLe L ρ L' ρ'){a:AV}{v:Value}(hk:∀k,k∈a.keys→(L k).isSome)
 (h:RepAV F ρ L a v):RepAV F' ρ' L' a v:=by
 unfold RepAV at*
 split
 ·rename_i e;rw[if_pos e] at h;obtain⟨l,e1,h1⟩:=h;exact⟨l,e1,repA_ext hF hL _ _ hk h1⟩
 ·rename_i e;rw[if_neg e] at h;exact repA_ext hF hL _ _ hk h
theorem Lnk.ext {F F':FH}{ρ ρ':RM}{L L':HL}{H H':Array Obj}{b o:Nat}{t:Ty}{p:List Stp}{k:Nat}(h:Lnk F ρ L H b o t p k)(hF:F.le F')(hL:LLe L ρ L' ρ')(hk:(L k).isSome)(hH:∀i,cellAt H' b i=cellAt H b i):Lnk F' ρ' L' H' b o t p k:=by
 obtain⟨h0,u,off,v,h1,h2,h3⟩:=h
 refine⟨h0,u,off,v,h1,by rw[hH];exact h2,repAV_ext hF hL (fun k' hk'=> ?_) h3⟩
 simp[AV.keys] at hk';subst hk';exact hk
theorem cellAt_of {H H':Array Obj}{b:Nat}(h:H'[b]? =H[b]?)(i:Nat):cellAt H' b i=cellAt H b i:=by simp only[cellAt,h]
theorem LLe.fresh {L:HL}{ρ:RM}{k:Nat}(hk:L k=none)(v:Option Blk)(r:Option (Nat×Cap)):LLe L ρ (upd L k (some v)) (upd ρ k r):=by
 intro k' hs blk' e
 by_cases h:k'=k
 ·subst h;rw[hk] at hs;cases hs
 ·rw[upd_ne _ _ h] at e⊢;exact⟨blk',e,rfl,rfl,rfl,rfl⟩
theorem LLe.kill {L:HL}{ρ:RM}(k:Nat):LLe L ρ (upd L k (some none)) ρ:=by
 intro k' hs blk' e
 by_cases h:k'=k
 ·subst h;rw[upd_same] at e;cases e
 ·rw[upd_ne _ _ h] at e;exact⟨blk',e,rfl,rfl,rfl,rfl⟩
theorem LLe.redo {L:HL}{ρ:RM}{k k':Nat}{blk blk':Blk}(hL:L k=some (some blk))(hk':(k'=k∧blk'.t=blk.t∧blk'.row=blk.row∧blk'.len=blk.len)∨L k'=none)
 {r:Option (Nat×Cap)} (hρ:ρ k=r):LLe L ρ (upd (upd L k (some none)) k' (some (some blk'))) (upd ρ k' r):=by
 intro k1 hs b1 e
 by_cases h:k1=k'
 ·subst h
  rw[upd_same] at e⊢
  cases e
  rcases hk' with⟨rfl,h1,h2,h3⟩|hk'
  ·exact⟨blk,hL,h1,h2,h3,hρ.symm⟩
  ·rw[hk'] at hs;cases hs
 ·rw[upd_ne _ _ h] at e⊢
  by_cases h2:k1=k
  ·subst h2;rw[upd_same] at e;cases e
  ·rw[upd_ne _ _ h2] at e;exact⟨b1,e,rfl,rfl,rfl,rfl⟩
theorem isSome_upd {L:HL}{k k':Nat}(v:Option Blk)(h:(L k').isSome):(upd L k (some v) k').isSome:=by
 by_cases e:k'=k
 ·subst e;rw[upd_same];rfl
 ·rw[upd_ne _ _ e];exact h
theorem HRel.at {F:FH}{ρ:RM}{L:HL}{H:Array Obj}{B0:Nat→Prop}(h:HRel F ρ L H B0){k:Nat}{blk:Blk}(hk:L k=some (some blk)){b:Nat}{cap:Cap}(hr:ρ k=some (b,cap)):b<H.size:=by
 rcases h.blk _ _ hk with g|⟨b',_,_,_,_,_,_,_,g1,_,g3,_⟩|⟨K,V,xs,_,_,_,b',_,_,g1,_,g3,_⟩
 ·rw[g] at hr;cases hr
 ·rw[g1] at hr;cases hr;exact(Array.getElem?_eq_some_iff.1 g3).1
 ·rw[g1] at hr;cases hr;exact(Array.getElem?_eq_some_iff.1 g3).1
theorem HRel.inU {F:FH}{ρ:RM}{L:HL}{H:Array Obj}{B0:Nat→Prop}(h:HRel F ρ L H B0){k:Nat}{blk:Blk}(hk:L k=some (some blk)){b:Nat}{cap:Cap}(hr:ρ k=some (b,cap)):B0 b:=by
 rcases h.blk _ _ hk with g|⟨b',_,_,_,_,_,_,_,g1,g2,g3,_⟩|⟨K,V,xs,_,_,_,b',_,_,g1,g2,g3,_⟩
 ·rw[g] at hr;cases hr
 ·rw[g1] at hr;cases hr;exact g2
 ·rw[g1] at hr;cases hr;exact g2
theorem HRel.base0 {F:FH}{ρ:RM}{L:HL}{H:Array Obj}{B0:Nat→Prop}(h:HRel F ρ L H B0){k:Nat}{blk:Blk}(hk:L k=some (some blk)){b:Nat}{cap:Cap}(hr:ρ k=some (b,cap))(hz:blk.fz=false):cap.2=0:=by
 rcases h.blk _ _ hk with g|⟨b',_,_,_,_,_,_,_,g1,g2,g3,_,g4,_⟩|⟨K,V,xs,_,_,_,b',_,_,g1,g2,g3,_⟩
 ·rw[g] at hr;cases hr
 ·rw[g1] at hr;cases hr;exact g4.2.1 hz
 ·rw[g1] at hr;cases hr;rfl
theorem HRel.fresh {F:FH}{ρ:RM}{L:HL}{H:Array Obj}{B0:Nat→Prop}(h:HRel F ρ L H B0){k:Nat}(hk:L k=none){blk:Blk}{c:Array Value}{e:TypeId}
 {fr:Nat×Nat} {cap:Nat} {cs rest:List Value} (hfr:free fr c.size) (hc:c.toList=cs++rest) (hr:RepC F blk.row (cap,0) c.size blk.t blk.x cs) (hB:∀b,H.size≤b→B0 b) (hlk:blk.lk=[]):
 ∃F':FH,F.le F'∧(∀b,b<H.size→F' b=F b)∧HRel F' (upd ρ k (some (H.size,(cap,0)))) (upd L k (some (some blk))) (H.push (.cells c e fr)) B0:=by
 have hnone:∀i,F H.size i=none:=by
  intro i
  cases e1:F H.size i with
  |none=>rfl
  |some v=>exact absurd (cellAt_lt (h.cons _ _ _ e1)) (Nat.lt_irrefl _)
 have hold:∀b i v,cellAt H b i=some v→cellAt (H.push (.cells c e fr)) b i=some v:=by
  intro b i v hb
  have:=cellAt_lt hb
  simp only[cellAt,Array.getElem?_push] at*
  rw[if_neg (by omega)];exact hb
 have hle:F.le (upd F H.size (fun i=>if blk.fz then cs[i]? else none)):=by
  intro b i v e1
  by_cases hb:b=H.size
  ·subst hb;rw[hnone] at e1;cases e1
  ·rw[upd_ne _ _ hb];exact e1
 have hinj:∀k2 x' c2,k2≠k→L k2=some (some x')→ρ k2=some (H.size,c2)→False:=by
  intro k2 x' c2 _ e2 e4
  exact Nat.lt_irrefl _ (h.at e2 e4)
 refine⟨upd F H.size (fun i=>if blk.fz then cs[i]? else none),hle,fun b hb=>upd_ne _ _ (by omega), ?_, ?_, ?_, ?_⟩
 ·intro b i v e1
  by_cases hb:b=H.size
  ·subst hb
   rw[upd_same] at e1
   split at e1
   ·simp only[cellAt,Array.getElem?_push_size]
    have hi:i<cs.length:=(List.getElem?_eq_some_iff.1 e1).1
    have:c.toList[i]? =some v:=by rw[hc,List.getElem?_append_left hi];exact e1
    simpa using this
   ·cases e1
  ·rw[upd_ne _ _ hb] at e1;exact hold _ _ _ (h.cons _ _ _ e1)
 ·intro k' blk' e1
  by_cases hkk:k'=k
  ·subst hkk
   rw[upd_same] at e1
   cases e1
   refine .inr (.inl ⟨H.size,(cap,0),c,e,fr,[],cs,rest,by simp,hB _ (Nat.le_refl _),by simp,hfr,⟨rfl,fun _=>rfl,by simpa using hc⟩,by rw[holes_shut (isOpen_lk hlk)];exact repC_mono hle hr,fun i=>by simp[still_shut (isOpen_lk hlk)]⟩)
  ·rw[upd_ne _ _ hkk] at e1⊢
   rcases h.blk _ _ e1 with h1|⟨b,cap',c',e',fr',hd',cs',rest',h1,h2,h3,h4,h5,h6,h7⟩|⟨K,V,xs,hm⟩
   ·exact .inl h1
   ·have hb:b<H.size:=(Array.getElem?_eq_some_iff.1 h3).1
    exact .inr (.inl ⟨b,cap',c',e',fr',hd',cs',rest',h1,h2,by rw[Array.getElem?_push,if_neg (by omega)];exact h3,h4,h5,repC_mono hle h6,
     fun i=>by rw[upd_ne _ _ (by omega)];exact h7 i⟩)
   ·refine .inr (.inr ⟨K,V,xs,hm.mono hle (fun b cap es clock _ h3=> ?_)⟩)
    have hb:b<H.size:=(Array.getElem?_eq_some_iff.1 h3).1
    rw[Array.getElem?_push,if_neg (by omega)];exact h3
 ·intro k1 k2 x x' b c1 c2 e1 e2 e3 e4
  by_cases h1:k1=k<;>by_cases h2:k2=k
  ·rw[h1,h2]
  ·subst h1
   rw[upd_ne _ _ h2] at e2 e4
   rw[upd_same] at e3
   cases e3
   exact(hinj _ _ _ h2 e2 e4).elim
  ·subst h2
   rw[upd_ne _ _ h1] at e1 e3
   rw[upd_same] at e4
   cases e4
   exact(hinj _ _ _ h1 e1 e3).elim
  ·rw[upd_ne _ _ h1] at e1 e3
   rw[upd_ne _ _ h2] at e2 e4
   exact h.inj _ _ _ _ _ _ _ e1 e2 e3 e4
 ·intro kb blk' e1 p kk hm
  by_cases hkk:kb=k
  ·subst hkk;rw[upd_same] at e1;cases e1;rw[hlk] at hm;cases hm
  ·rw[upd_ne _ _ hkk] at e1
   rw[upd_ne _ _ hkk]
   obtain⟨g1,g2⟩:=h.lnk kb blk' e1 p kk hm
   refine⟨isSome_upd _ g1,fun b cap' e2=>(g2 b cap' e2).ext hle (LLe.fresh hk _ _) g1 (cellAt_of ?_)⟩
   have:=h.at e1 e2
   rw[Array.getElem?_push,if_neg (by omega)]
theorem HRel.freshMap {F:FH}{ρ:RM}{L:HL}{H:Array Obj}{B0:Nat→Prop}(h:HRel F ρ L H B0){k:Nat}(hk:L k=none)(K V:Ty)(hB:∀b,H.size≤b→B0 b):
 HRel F (upd ρ k (some (H.size,(0,0)))) (upd L k (some (some ⟨true,.map K V,[],false,[]⟩))) (H.push (.map #[] 0)) B0:=by
 have hold:∀b,b<H.size→(H.push (.map #[] 0))[b]? =H[b]? :=fun b hb=>by rw[Array.getElem?_push,if_neg (by omega)]
 have hinj:∀k2 x' c2,k2≠k→L k2=some (some x')→ρ k2=some (H.size,c2)→False:=by
  intro k2 x' c2 _ e2 e4
  exact Nat.lt_irrefl _ (h.at e2 e4)
 refine⟨?_, ?_, ?_, ?_⟩
 ·intro b i v e1
  have:=h.cons _ _ _ e1
  rw[cellAt_of (hold b (cellAt_lt this))];exact this
 ·intro k' blk' e1
  by_cases hkk:k'=k
  ·subst hkk
   rw[upd_same] at e1
   cases e1
   exact .inr (.inr ⟨K,V,[],rfl,rfl,rfl,H.size,#[],0,by simp,hB _ (Nat.le_refl _),by simp,rfl⟩)
  ·rw[upd_ne _ _ hkk] at e1⊢
   rcases h.blk _ _ e1 with h1|⟨b,cap',c',e',fr',hd',cs',rest',h1,h2,h3,h4,h5,h6,h7⟩|⟨K,V,xs,hm⟩
   ·exact .inl h1
   ·have hb:b<H.size:=(Array.getElem?_eq_some_iff.1 h3).1
    exact .inr (.inl ⟨b,cap',c',e',fr',hd',cs',rest',h1,h2,by rw[hold b hb];exact h3,h4,h5,h6,h7⟩)
   ·refine .inr (.inr ⟨K,V,xs,hm.mono FH.le.rfl (fun b cap es clock _ h3=> ?_)⟩)
    have hb:b<H.size:=(Array.getElem?_eq_some_iff.1 h3).1
    rw[hold b hb];exact h3
 ·intro k1 k2 x x' b c1 c2 e1 e2 e3 e4
  by_cases h1:k1=k<;>by_cases h2:k2=k
  ·rw[h1,h2]
  ·subst h1
   rw[upd_ne _ _ h2] at e2 e4
   rw[upd_same] at e3
   cases e3
   exact(hinj _ _ _ h2 e2 e4).elim
  ·subst h2
   rw[upd_ne _ _ h1] at e1 e3
   rw[upd_same] at e4
   cases e4
   exact(hinj _ _ _ h1 e1 e3).elim
  ·rw[upd_ne _ _ h1] at e1 e3
   rw[upd_ne _ _ h2] at e2 e4
   exact h.inj _ _ _ _ _ _ _ e1 e2 e3 e4
 ·intro kb blk' e1 p kk hm
  by_cases hkk:kb=k
  ·subst hkk;rw[upd_same] at e1;cases e1;cases hm
  ·rw[upd_ne _ _ hkk] at e1
   rw[upd_ne _ _ hkk]
   obtain⟨g1,g2⟩:=h.lnk kb blk' e1 p kk hm
   exact⟨isSome_upd _ g1,fun b cap' e2=>(g2 b cap' e2).ext FH.le.rfl (LLe.fresh hk _ _) g1 (cellAt_of (hold b (h.at e1 e2)))⟩
theorem HRel.setMap {F:FH}{ρ:RM}{L:HL}{H:Array Obj}{B0:Nat→Prop}(h:HRel F ρ L H B0){k:Nat}{K V:Ty}{xs ys:List (K.den×V.den)}{lk:List (List Stp×Nat)}(hk:L k=some (some ⟨true,.map K V,xs,false,lk⟩))
 {b:Nat} {es es':Array MapEntry} {clock clock':Nat} (hr:ρ k=some (b,(0,0))) (hH:H[b]? =some (.map es clock)) (hy:RepM F K V ys es'.toList):
 HRel F ρ (upd L k (some (some ⟨true,.map K V,ys,false,[]⟩))) (H.setIfInBounds b (.map es' clock')) B0:=by
 have hbl:b<H.size:=(Array.getElem?_eq_some_iff.1 hH).1
 have hother:∀b',b'≠b→(H.setIfInBounds b (.map es' clock'))[b']? =H[b']? :=fun b' hb=>by rw[Array.getElem?_setIfInBounds_ne (by omega)]
 have hLL:LLe L ρ (upd L k (some (some ⟨true,.map K V,ys,false,[]⟩))) ρ:=by
  intro n hn b e
  by_cases hnk:n=k
  ·subst hnk
   rw[upd_same] at e
   cases e
   exact⟨_,hk,rfl,rfl,rfl,rfl⟩
  ·rw[upd_ne _ _ hnk] at e
   exact⟨b,e,rfl,rfl,rfl,rfl⟩
 have hcell:∀b' i,cellAt (H.setIfInBounds b (.map es' clock')) b' i=cellAt H b' i:=by
  intro b' i
  by_cases hb:b'=b
  ·subst hb
   simp only[cellAt,Array.getElem?_setIfInBounds_self_of_lt hbl,hH]
  ·exact cellAt_of (hother b' hb) i
 have get:∀n x,upd L k (some (some (⟨true,.map K V,ys,false,[]⟩:Blk))) n=some (some x)→∃y,L n=some (some y)∧(n≠k→y=x):=by
  intro n x e
  by_cases hnk:n=k
  ·subst hnk;exact⟨_,hk,fun h=>absurd rfl h⟩
  ·rw[upd_ne _ _ hnk] at e;exact⟨_,e,fun _=>rfl⟩
 refine⟨fun b' i v e1=>by rw[hcell];exact h.cons _ _ _ e1, ?_, ?_, ?_⟩
 ·intro n blk' e1
  by_cases hnk:n=k
  ·subst hnk
   rw[upd_same] at e1
   cases e1
   exact .inr (.inr ⟨K,V,ys,rfl,rfl,rfl,b,es',clock',hr,h.inU hk hr,by rw[Array.getElem?_setIfInBounds_self_of_lt hbl],hy⟩)
  ·rw[upd_ne _ _ hnk] at e1
   have hne:∀b1 c1,ρ n=some (b1,c1)→b1≠b:=fun b1 c1 e hb=>by subst hb;exact hnk (h.inj _ _ _ _ _ _ _ e1 hk e hr)
   rcases h.blk _ _ e1 with h1|⟨b1,cap',c',e',fr',hd',cs',rest',h1,h2,h3,h4,h5,h6,h7⟩|⟨K',V',xs',hm⟩
   ·exact .inl h1
   ·exact .inr (.inl ⟨b1,cap',c',e',fr',hd',cs',rest',h1,h2,by rw[hother b1 (hne _ _ h1)];exact h3,h4,h5,h6,h7⟩)
   ·exact .inr (.inr ⟨K',V',xs',hm.mono FH.le.rfl (fun b1 cap es clock e h3=>by rw[hother b1 (hne _ _ e)];exact h3)⟩)
 ·intro k1 k2 x x' b1 c1 c2 e1 e2 e3 e4
  obtain⟨y1,f1,_⟩:=get _ _ e1
  obtain⟨y2,f2,_⟩:=get _ _ e2
  exact h.inj _ _ _ _ _ _ _ f1 f2 e3 e4
 ·intro n blk' e1 p kk hm
  by_cases hnk:n=k
  ·subst hnk;rw[upd_same] at e1;cases e1;cases hm
  ·rw[upd_ne _ _ hnk] at e1
   obtain⟨g1,g2⟩:=h.lnk n blk' e1 p kk hm
   exact⟨isSome_upd _ g1,fun b' cap' e2=>(g2 b' cap' e2).ext FH.le.rfl hLL g1 (fun i=>hcell b' i)⟩
theorem HRel.freshNil {F:FH}{ρ:RM}{L:HL}{H:Array Obj}{B0:Nat→Prop}(h:HRel F ρ L H B0){k:Nat}{blk:Blk}(hLL:LLe L ρ (upd L k (some (some blk))) (upd ρ k none))(hlk:blk.lk=[]):
 HRel F (upd ρ k none) (upd L k (some (some blk))) H B0:=by
 refine⟨h.cons, ?_, ?_,fun kb blk' e1 p kk hm=> ?_⟩
 rotate_left 2
 ·by_cases hkk:kb=k
  ·subst hkk;rw[upd_same] at e1;cases e1;rw[hlk] at hm;cases hm
  ·rw[upd_ne _ _ hkk] at e1
   rw[upd_ne _ _ hkk]
   obtain⟨g1,g2⟩:=h.lnk kb blk' e1 p kk hm
   exact⟨isSome_upd _ g1,fun b cap' e2=>(g2 b cap' e2).ext FH.le.rfl hLL g1 (fun _=>rfl)⟩
 ·intro k' blk' e1
  by_cases hkk:k'=k
  ·subst hkk;rw[upd_same] at e1⊢;cases e1;exact .inl rfl
  ·rw[upd_ne _ _ hkk] at e1⊢;exact h.blk _ _ e1
 ·intro k1 k2 x x' b c1 c2 e1 e2 e3 e4
  by_cases h1:k1=k
  ·subst h1;rw[upd_same] at e3;cases e3
  ·by_cases h2:k2=k
   ·subst h2;rw[upd_same] at e4;cases e4
   ·rw[upd_ne _ _ h1] at e1 e3;rw[upd_ne _ _ h2] at e2 e4;exact h.inj _ _ _ _ _ _ _ e1 e2 e3 e4
theorem HRel.kill {F:FH}{ρ:RM}{L:HL}{H:Array Obj}{B0:Nat→Prop}(h:HRel F ρ L H B0)(k:Nat):HRel F ρ (upd L k (some none)) H B0:=by
 refine⟨h.cons, ?_, ?_,fun kb blk' e1 p kk hm=> ?_⟩
 rotate_left 2
 ·by_cases hkk:kb=k
  ·subst hkk;rw[upd_same] at e1;cases e1
  ·rw[upd_ne _ _ hkk] at e1
   obtain⟨g1,g2⟩:=h.lnk kb blk' e1 p kk hm
   exact⟨isSome_upd _ g1,fun b cap' e2=>(g2 b cap' e2).ext FH.le.rfl (LLe.kill k) g1 (fun _=>rfl)⟩
 ·intro k' blk' e1
  by_cases hkk:k'=k
  ·subst hkk;rw[upd_same] at e1;cases e1
  ·rw[upd_ne _ _ hkk] at e1;exact h.blk _ _ e1
 ·intro k1 k2 x x' b c1 c2 e1 e2 e3 e4
  by_cases h1:k1=k
  ·subst h1;rw[upd_same] at e1;cases e1
  ·by_cases h2:k2=k
   ·subst h2;rw[upd_same] at e2;cases e2
   ·rw[upd_ne _ _ h1] at e1;rw[upd_ne _ _ h2] at e2;exact h.inj _ _ _ _ _ _ _ e1 e2 e3 e4
theorem LLe.trans {L L' L'':HL}{ρ ρ' ρ'':RM}(h:LLe L ρ L' ρ')(hs:∀k,(L k).isSome→(L' k).isSome)(h':LLe L' ρ' L'' ρ''):LLe L ρ L'' ρ'':=by
 intro k hk blk'' e
 obtain⟨b',g1,g2,g3,g4,g5⟩:=h' k (hs k hk) blk'' e
 obtain⟨b,f1,f2,f3,f4,f5⟩:=h k hk b' g1
 exact⟨b,f1,g2.trans f2,g3.trans f3,g4.trans f4,g5.trans f5⟩
theorem HRel.redoG {F:FH}{ρ:RM}{L:HL}{H:Array Obj}{B0:Nat→Prop}(h:HRel F ρ L H B0){k k':Nat}{s:Bool}{blk blk':Blk}(hL:L k=some (some blk))(hk0:(k'=k∧blk'.t=blk.t∧blk'.row=blk.row∧blk'.len=blk.len)∨L k'=none)
 {b:Nat} {cap:Cap} {c c':Array Value} {e:TypeId} {fr:Nat×Nat} {hd cs cs' rest rest':List Value} (hρ:ρ k=some (b,cap)) (hH:H[b]? =some (.cells c e fr)) (hB:B0 b)
 (hfree:free fr c.size) (hhd:hd.length=cap.2∧(blk'.fz=false→cap.2=0)∧c.toList=hd++(cs++rest)) (hFb:∀i,F b (cap.2+i)=if s then cs[i]? else none) (hs:c'.size=c.size) (hc':c'.toList=hd++(cs'++rest'))
 (hr:RepC F blk'.row cap c'.size blk'.t blk'.x (holes blk' cs')) (hfz:s=true→blk'.still=true∧∀(i:Nat) v,cs[i]? =some v→cs'[i]? =some v)
 (hlk:∀p kk,(p,kk)∈blk'.lk→(L kk).isSome∧fldOnly p=true∧∃u off v,blk'.t.nav p=some (.slc u,off)∧c'[cap.2+off]? =some v∧RepAV F ρ L (.whole kk (.arr 0 u) []) v):
 ∃F':FH,F.le F'∧(∀b',b'≠b→F' b'=F b')∧
  HRel F' (upd ρ k' (some (b,cap))) (upd (upd L k (some none)) k' (some (some blk'))) (H.setIfInBounds b (.cells c' e fr)) B0:=by
 have hbl:b<H.size:=(Array.getElem?_eq_some_iff.1 hH).1
 obtain⟨G,hG⟩:∃G:Nat→Option Value,G=fun i=>if i<cap.2 then F b i else if blk'.still then cs'[i-cap.2]? else none:=⟨_,rfl⟩
 have hG1:∀i,i<cap.2→G i=F b i:=fun i hi=>by rw[hG];exact if_pos hi
 have hG2:∀i,G (cap.2+i)=if blk'.still then cs'[i]? else none:=fun i=>by rw[hG];simp only;rw[if_neg (by omega),Nat.add_sub_cancel_left]
 clear hG
 have hcut:∀i,i<cap.2∨∃j,i=cap.2+j:=fun i=>by
  by_cases hi:i<cap.2
  ·exact .inl hi
  ·exact .inr ⟨i-cap.2,by omega⟩
 have hat:∀(i:Nat) (v:Value),cs'[i]? =some v→c'.toList[cap.2+i]? =some v:=by
  intro i v e1
  rw[hc',List.getElem?_append_right (by omega),hhd.1,Nat.add_sub_cancel_left,List.getElem?_append_left (List.getElem?_eq_some_iff.1 e1).1];exact e1
 have hle:F.le (upd F b G):=by
  intro b' i v e1
  by_cases hb:b'=b
  ·subst hb
   rw[upd_same]
   rcases hcut i with hi|⟨j,rfl⟩
   ·rw[hG1 i hi];exact e1
   ·rw[hFb] at e1
    split at e1
    ·rename_i hz
     obtain⟨z1,z2⟩:=hfz hz
     rw[hG2,if_pos z1];exact z2 _ _ e1
    ·cases e1
  ·rw[upd_ne _ _ hb];exact e1
 have hLL:=LLe.redo (ρ:=ρ) (blk':=blk') hL hk0 hρ
 refine⟨upd F b G,hle,fun b' hb=>upd_ne _ _ hb, ?_, ?_, ?_, ?_⟩
 ·intro b' i v e1
  by_cases hb:b'=b
  ·subst hb
   rw[upd_same] at e1
   simp only[cellAt,Array.getElem?_setIfInBounds_self_of_lt hbl]
   rcases hcut i with hi|⟨j,rfl⟩
   ·rw[hG1 i hi] at e1
    have h1:=h.cons _ _ _ e1
    simp only[cellAt,hH] at h1
    have h2:c.toList[i]? =some v:=by simpa using h1
    rw[hhd.2.2,List.getElem?_append_left (by omega)] at h2
    have:c'.toList[i]? =some v:=by rw[hc',List.getElem?_append_left (by omega)];exact h2
    simpa using this
   ·rw[hG2] at e1
    split at e1
    ·have:=hat j v e1
     simpa using this
    ·cases e1
  ·rw[upd_ne _ _ hb] at e1
   have:=h.cons _ _ _ e1
   simp only[cellAt] at*
   rw[Array.getElem?_setIfInBounds_ne (by omega)];exact this
 ·intro k1 blk1 e1
  by_cases hkk:k1=k'
  ·subst hkk
   rw[upd_same] at e1
   cases e1
   refine .inr (.inl ⟨b,cap,c',e,fr,hd,cs',rest',by simp,hB,by rw[Array.getElem?_setIfInBounds_self_of_lt hbl],by rw[hs];exact hfree,⟨hhd.1,hhd.2.1,hc'⟩,repC_mono hle hr,fun i=>by rw[upd_same,hG2]⟩)
  ·rw[upd_ne _ _ hkk] at e1⊢
   by_cases hk1:k1=k
   ·subst hk1;rw[upd_same] at e1;cases e1
   ·rw[upd_ne _ _ hk1] at e1
    have hne:∀b1 c1,ρ k1=some (b1,c1)→b1≠b:=fun b1 c1 e hb=>by subst hb;exact hk1 (h.inj _ _ _ _ _ _ _ e1 hL e hρ)
    rcases h.blk _ _ e1 with h1|⟨b1,cap1,c1,e',fr1,hd1,cs1,rest1,h1,h2,h3,h4,h5,h6,h7⟩|⟨K,V,xs,hm⟩
    ·exact .inl h1
    ·have hb:=hne _ _ h1
     exact .inr (.inl ⟨b1,cap1,c1,e',fr1,hd1,cs1,rest1,h1,h2,by rw[Array.getElem?_setIfInBounds_ne (by omega)];exact h3,h4,h5,repC_mono hle h6,
      fun i=>by rw[upd_ne _ _ hb];exact h7 i⟩)
    ·exact .inr (.inr ⟨K,V,xs,hm.mono hle (fun b1 cap es clock e h3=>by have:=hne _ _ e;rw[Array.getElem?_setIfInBounds_ne (by omega)];exact h3)⟩)
 ·have other:∀k1 x c1,L k1=some (some x)→k1≠k→ρ k1=some (b,c1)→False:=
   fun k1 x c1 e1 hk1 e3=>hk1 (h.inj _ _ _ _ _ _ _ e1 hL e3 hρ)
  have get:∀k1 x c1 b1,k1≠k'→upd (upd L k (some none)) k' (some (some blk')) k1=some (some x)→upd ρ k' (some (b,cap)) k1=some (b1,c1)→
   L k1=some (some x)∧k1≠k∧ρ k1=some (b1,c1):=by
   intro k1 x c1 b1 hne e1 e3
   rw[upd_ne _ _ hne] at e1 e3
   by_cases hk1:k1=k
   ·subst hk1;rw[upd_same] at e1;cases e1
   ·rw[upd_ne _ _ hk1] at e1;exact⟨e1,hk1,e3⟩
  intro k1 k2 x x' b1 c1 c2 e1 e2 e3 e4
  by_cases h1:k1=k'<;>by_cases h2:k2=k'
  ·rw[h1,h2]
  ·obtain⟨g1,g2,g3⟩:=get _ _ _ _ h2 e2 e4
   subst h1;rw[upd_same] at e3;cases e3
   exact(other _ _ _ g1 g2 g3).elim
  ·obtain⟨g1,g2,g3⟩:=get _ _ _ _ h1 e1 e3
   subst h2;rw[upd_same] at e4;cases e4
   exact(other _ _ _ g1 g2 g3).elim
  ·obtain⟨g1,g2,g3⟩:=get _ _ _ _ h1 e1 e3
   obtain⟨f1,f2,f3⟩:=get _ _ _ _ h2 e2 e4
   exact h.inj _ _ _ _ _ _ _ g1 f1 g3 f3
 ·intro kb blk1 e1 p kk hm
  by_cases hkk:kb=k'
  ·subst hkk
   rw[upd_same] at e1
   cases e1
   obtain⟨g1,g0,u,off,v,g2,g3,g4⟩:=hlk p kk hm
   refine⟨isSome_upd _ (isSome_upd _ g1),fun b' cap' e2=> ?_⟩
   rw[upd_same] at e2
   cases e2
   refine⟨g0,u,off,v,g2, ?_,repAV_ext hle hLL (fun q hq=> ?_) g4⟩
   ·simp only[cellAt,Array.getElem?_setIfInBounds_self_of_lt hbl];exact g3
   ·simp[AV.keys] at hq;subst hq;exact g1
  ·rw[upd_ne _ _ hkk] at e1
   rw[upd_ne _ _ hkk]
   by_cases hk1:kb=k
   ·subst hk1;rw[upd_same] at e1;cases e1
   ·rw[upd_ne _ _ hk1] at e1
    obtain⟨g1,g2⟩:=h.lnk kb blk1 e1 p kk hm
    refine⟨isSome_upd _ (isSome_upd _ g1),fun b' cap' e2=>(g2 b' cap' e2).ext hle hLL g1 (cellAt_of ?_)⟩
    have hb:b'≠b:=fun hb=>by subst hb;exact hk1 (h.inj _ _ _ _ _ _ _ e1 hL e2 hρ)
    rw[Array.getElem?_setIfInBounds_ne (by omega)]
theorem HRel.redo {F:FH}{ρ:RM}{L:HL}{H:Array Obj}{B0:Nat→Prop}(h:HRel F ρ L H B0){k k':Nat}{blk blk':Blk}(hL:L k=some (some blk))(hk0:(k'=k∧blk'.t=blk.t∧blk'.row=blk.row∧blk'.len=blk.len)∨L k'=none)
 {b:Nat} {cap:Cap} {c c':Array Value} {e:TypeId} {fr:Nat×Nat} {hd cs cs' rest rest':List Value} (hρ:ρ k=some (b,cap)) (hH:H[b]? =some (.cells c e fr)) (hB:B0 b)
 (hfree:free fr c.size) (hhd:hd.length=cap.2∧(blk.fz=false→cap.2=0)∧c.toList=hd++(cs++rest)) (hFb:∀i,F b (cap.2+i)=if blk.fz then cs[i]? else none) (hs:c'.size=c.size) (hc':c'.toList=hd++(cs'++rest'))
 (hr:RepC F blk'.row cap c'.size blk'.t blk'.x cs') (hfz:blk.fz=true→blk'.fz=true∧∀(i:Nat) v,cs[i]? =some v→cs'[i]? =some v)
 (hlk:∀p kk,(p,kk)∈blk'.lk→(L kk).isSome∧fldOnly p=true∧∃u off v,blk'.t.nav p=some (.slc u,off)∧c'[cap.2+off]? =some v∧RepAV F ρ L (.whole kk (.arr 0 u) []) v)
 (ho':blk'.isOpen=false:=by first|rfl|exact isOpen_fz rfl|exact isOpen_row rfl|exact isOpen_lk rfl):
 ∃F':FH,F.le F'∧(∀b',b'≠b→F' b'=F b')∧
  HRel F' (upd ρ k' (some (b,cap))) (upd (upd L k (some none)) k' (some (some blk'))) (H.setIfInBounds b (.cells c' e fr)) B0:=by
 refine h.redoG (s:=blk.fz) hL hk0 hρ hH hB hfree ⟨hhd.1,fun hz=>hhd.2.1 ?_,hhd.2.2⟩ hFb hs hc' (by rw[holes_shut ho'];exact hr) (fun hz=>by rw[still_shut ho'];exact hfz hz) hlk
 cases hz2:blk.fz with
 |false=>rfl
 |true=>have:=(hfz hz2).1;rw[this] at hz;cases hz
theorem HRel.redo0 {F:FH}{ρ:RM}{L:HL}{H:Array Obj}{B0:Nat→Prop}(h:HRel F ρ L H B0){k k':Nat}{blk blk':Blk}(hL:L k=some (some blk))(hk0:(k'=k∧blk'.t=blk.t∧blk'.row=blk.row∧blk'.len=blk.len)∨L k'=none)
 {b cap:Nat} {c c':Array Value} {e:TypeId} {fr:Nat×Nat} {cs cs' rest rest':List Value} (hρ:ρ k=some (b,(cap,0))) (hH:H[b]? =some (.cells c e fr)) (hB:B0 b)
 (hfree:free fr c.size) (hc:c.toList=cs++rest) (hFb:∀i,F b i=if blk.fz then cs[i]? else none) (hs:c'.size=c.size) (hc':c'.toList=cs'++rest')
 (hr:RepC F blk'.row (cap,0) c'.size blk'.t blk'.x cs') (hfz:blk.fz=true→blk'.fz=true∧∀(i:Nat) v,cs[i]? =some v→cs'[i]? =some v)
 (hlk:∀p kk,(p,kk)∈blk'.lk→(L kk).isSome∧fldOnly p=true∧∃u off v,blk'.t.nav p=some (.slc u,off)∧c'[off]? =some v∧RepAV F ρ L (.whole kk (.arr 0 u) []) v)
 (ho':blk'.isOpen=false:=by first|rfl|exact isOpen_fz rfl|exact isOpen_row rfl|exact isOpen_lk rfl):
 ∃F':FH,F.le F'∧(∀b',b'≠b→F' b'=F b')∧
  HRel F' (upd ρ k' (some (b,(cap,0)))) (upd (upd L k (some none)) k' (some (some blk'))) (H.setIfInBounds b (.cells c' e fr)) B0:=
 h.redo (hd:=[]) (cs:=cs) (rest:=rest) (cs':=cs') (rest':=rest') hL hk0 hρ hH hB hfree ⟨rfl,fun _=>rfl,by simpa using hc⟩ (fun i=>by simpa using hFb i) hs (by simpa using hc') hr hfz
   (fun p kk hm=>by obtain⟨g1,g2,u,off,v,g3,g4,g5⟩:=hlk p kk hm;exact⟨g1,g2,u,off,v,g3,by simpa using g4,g5⟩) ho'
theorem HRel.tail {F:FH}{ρ:RM}{L:HL}{H:Array Obj}{B0:Nat→Prop}(h:HRel F ρ L H B0){k k':Nat}{u:Ty}{m:Nat}{xs:List u.den}{lk:List (List Stp×Nat)}(hL:L k=some (some ⟨true,.arr m u,xs,true,lk⟩))(hk':L k'=none)
 {b:Nat} {cap:Cap} (hρ:ρ k=some (b,cap)) {n:Nat} (hn:n≤xs.length):
 HRel F (upd ρ k' (some (b,(cap.1-n,cap.2+n*u.size)))) (upd (upd L k (some none)) k' (some (some ⟨true,.arr 0 u,xs.drop n,true,[]⟩))) H B0:=by
 have hLL:LLe L ρ (upd (upd L k (some none)) k' (some (some ⟨true,.arr 0 u,xs.drop n,true,[]⟩))) (upd ρ k' (some (b,(cap.1-n,cap.2+n*u.size)))):=by
  intro k1 hs b1 e
  by_cases h1:k1=k'
  ·subst h1;rw[hk'] at hs;cases hs
  ·rw[upd_ne _ _ h1] at e⊢
   by_cases h2:k1=k
   ·subst h2;rw[upd_same] at e;cases e
   ·rw[upd_ne _ _ h2] at e;exact⟨b1,e,rfl,rfl,rfl,rfl⟩
 have get:∀k1 x c1 b1,k1≠k'→upd (upd L k (some none)) k' (some (some (⟨true,.arr 0 u,xs.drop n,true,[]⟩:Blk))) k1=some (some x)→upd ρ k' (some (b,(cap.1-n,cap.2+n*u.size))) k1=some (b1,c1)→
  L k1=some (some x)∧k1≠k∧ρ k1=some (b1,c1):=by
  intro k1 x c1 b1 hne e1 e3
  rw[upd_ne _ _ hne] at e1 e3
  by_cases hk1:k1=k
  ·subst hk1;rw[upd_same] at e1;cases e1
  ·rw[upd_ne _ _ hk1] at e1;exact⟨e1,hk1,e3⟩
 have other:∀k1 x c1,L k1=some (some x)→k1≠k→ρ k1=some (b,c1)→False:=
  fun k1 x c1 e1 hk1 e3=>hk1 (h.inj _ _ _ _ _ _ _ e1 hL e3 hρ)
 refine⟨h.cons, ?_, ?_, ?_⟩
 ·intro k1 blk1 e1
  by_cases hkk:k1=k'
  ·subst hkk
   rw[upd_same] at e1⊢
   cases e1
   rcases h.blk _ _ hL with h1|⟨b1,cap1,c1,e',fr1,hd1,cs1,rest1,h1,h2,h3,h4,h5,h6,h7⟩|⟨K,V,xs,_,hm,_,_⟩
   ·rw[h1] at hρ;cases hρ
   ·rw[h1] at hρ
    cases hρ
    rw[holes_shut (isOpen_row rfl)] at h6
    have es:(⟨true,.arr m u,xs,true,lk⟩:Blk).still=true:=rfl
    simp only[es] at h7
    simp only[RepC,if_true] at h6
    obtain⟨q1,q2,q3⟩:=h6
    have hl:=repL_rep_len q1
    have hnn:n*u.size≤xs.length*u.size:=Nat.mul_le_mul_right _ hn
    have hsplit:cap.1*u.size=(cap.1-n)*u.size+n*u.size:=by rw[←Nat.add_mul,Nat.sub_add_cancel (by omega)]
    refine .inr (.inl ⟨b,_,c1,e',fr1,hd1++cs1.take (n*u.size),cs1.drop (n*u.size),rest1,rfl,h2,h3,h4,⟨?_,fun hz=>(by cases hz), ?_⟩, ?_, ?_⟩)
    ·simp only[List.length_append,List.length_take,h5.1];omega
    ·rw[h5.2.2,List.append_assoc,←List.append_assoc (cs1.take _),List.take_append_drop]
    ·rw[holes_shut (isOpen_row rfl)]
     simp only[RepC,if_true]
     refine⟨repL_drop (fun x cs=>rep_len u x cs) n _ _ q1,by omega,by rw[List.length_drop];omega⟩
    ·intro i
     have:=h7 (n*u.size+i)
     rw[still_shut (isOpen_row rfl)]
     simp only[if_true] at this⊢
     rw[Nat.add_assoc,this,List.getElem?_drop]
   ·cases hm
  ·rw[upd_ne _ _ hkk] at e1⊢
   by_cases hk1:k1=k
   ·subst hk1;rw[upd_same] at e1;cases e1
   ·rw[upd_ne _ _ hk1] at e1;exact h.blk _ _ e1
 ·intro k1 k2 x x' b1 c1 c2 e1 e2 e3 e4
  by_cases h1:k1=k'<;>by_cases h2:k2=k'
  ·rw[h1,h2]
  ·obtain⟨g1,g2,g3⟩:=get _ _ _ _ h2 e2 e4
   subst h1;rw[upd_same] at e3;cases e3
   exact(other _ _ _ g1 g2 g3).elim
  ·obtain⟨g1,g2,g3⟩:=get _ _ _ _ h1 e1 e3
   subst h2;rw[upd_same] at e4;cases e4
   exact(other _ _ _ g1 g2 g3).elim
  ·obtain⟨g1,g2,g3⟩:=get _ _ _ _ h1 e1 e3
   obtain⟨f1,f2,f3⟩:=get _ _ _ _ h2 e2 e4
   exact h.inj _ _ _ _ _ _ _ g1 f1 g3 f3
 ·intro kb blk1 e1 p kk hm
  by_cases hkk:kb=k'
  ·subst hkk;rw[upd_same] at e1;cases e1;cases hm
  ·rw[upd_ne _ _ hkk] at e1
   rw[upd_ne _ _ hkk]
   by_cases hk1:kb=k
   ·subst hk1;rw[upd_same] at e1;cases e1
   ·rw[upd_ne _ _ hk1] at e1
    obtain⟨g1,g2⟩:=h.lnk kb blk1 e1 p kk hm
    exact⟨isSome_upd _ (isSome_upd _ g1),fun b' cap' e2=>(g2 b' cap' e2).ext FH.le.rfl hLL g1 (fun _=>rfl)⟩
theorem HRel.relink {F:FH}{ρ:RM}{L:HL}{H:Array Obj}{B0:Nat→Prop}(h:HRel F ρ L H B0){k:Nat}{blk:Blk}(hk:L k=some (some blk))(lk':List (List Stp×Nat))
 (hl:∀p kk,(p,kk)∈lk'→(L kk).isSome∧∀b cap,ρ k=some (b,cap)→Lnk F ρ L H b cap.2 blk.t p kk) (hz:blk.row=true∨blk.fz=false:=by first|exact .inl rfl|exact .inr rfl):HRel F ρ (upd L k (some (some ⟨blk.row,blk.t,blk.x,blk.fz,lk'⟩))) H B0:=by
 have hLL:LLe L ρ (upd L k (some (some ⟨blk.row,blk.t,blk.x,blk.fz,lk'⟩))) ρ:=by
  intro n hn b e
  by_cases hnk:n=k
  ·subst hnk
   rw[upd_same] at e
   cases e
   exact⟨blk,hk,rfl,rfl,rfl,rfl⟩
  ·rw[upd_ne _ _ hnk] at e
   exact⟨b,e,rfl,rfl,rfl,rfl⟩
 refine⟨h.cons,fun n b e=> ?_,fun n n' x x' b c c' e1 e2 e3 e4=> ?_,fun n b e p kk hm=> ?_⟩
 ·by_cases hnk:n=k
  ·subst hnk
   rw[upd_same] at e
   cases e
   rcases h.blk n blk hk with g|g|⟨K,V,xs,g⟩
   ·exact .inl g
   ·have o1:blk.isOpen=false:=hz.elim isOpen_row isOpen_fz
    have o2:(⟨blk.row,blk.t,blk.x,blk.fz,lk'⟩:Blk).isOpen=false:=hz.elim (fun e=>isOpen_row e) (fun e=>isOpen_fz e)
    refine .inr (.inl ?_)
    simp only[holes_shut o1,still_shut o1] at g
    simp only[holes_shut o2,still_shut o2]
    exact g
   ·exact .inr (.inr ⟨K,V,xs,g.row,g.fz,g.eq,g.out⟩)
  ·rw[upd_ne _ _ hnk] at e
   exact h.blk n b e
 ·have get:∀n x,upd L k (some (some (⟨blk.row,blk.t,blk.x,blk.fz,lk'⟩:Blk))) n=some (some x)→∃y,L n=some (some y):=by
   intro n x e
   by_cases hnk:n=k
   ·subst hnk;exact⟨_,hk⟩
   ·rw[upd_ne _ _ hnk] at e;exact⟨_,e⟩
  obtain⟨y,hy⟩:=get _ _ e1
  obtain⟨y',hy'⟩:=get _ _ e2
  exact h.inj n n' y y' b c c' hy hy' e3 e4
 ·by_cases hnk:n=k
  ·subst hnk
   rw[upd_same] at e
   cases e
   obtain⟨g1,g2⟩:=hl p kk hm
   exact⟨isSome_upd _ g1,fun b cap e2=>(g2 b cap e2).ext FH.le.rfl hLL g1 (fun _=>rfl)⟩
  ·rw[upd_ne _ _ hnk] at e
   obtain⟨g1,g2⟩:=h.lnk n b e p kk hm
   exact⟨isSome_upd _ g1,fun b cap e2=>(g2 b cap e2).ext FH.le.rfl hLL g1 (fun _=>rfl)⟩
end Lc
