/- Merkle trees: the functions of the program and of the reference as plain functions, and the proofs of their conditions. -/
import Derived.Test.YtkbnmdjmjjfdmaaDoorShaB
set_option linter.unusedVariables false
set_option linter.unusedSimpArgs false
namespace Lc
open Go
abbrev H32 :=List Int
def zeroH :H32:=List.replicate 32 0
def HashOk (h:H32):Prop:=h.length=32∧Bytes h
def HashesOk (l:List H32):Prop:=∀h,h∈l→HashOk h
theorem zeroH_ok :HashOk zeroH:=⟨by simp[zeroH],Bytes.zeros 32⟩
theorem HashesOk.getD {l:List H32}(h:HashesOk l)(i:Nat):HashOk (l.getD i (List.replicate 32 0)):=by
 rw[List.getD_eq_getElem?_getD]
 cases hq:l[i]? with
 |none=>exact zeroH_ok
 |some x=>exact h x (List.mem_of_getElem? hq)
theorem HashesOk.append {l m:List H32}(h:HashesOk l)(k:HashesOk m):HashesOk (l++m):=by
 intro x hx;rcases List.mem_append.1 hx with hx|hx
 ·exact h x hx
 ·exact k x hx
theorem HashesOk.one {x:H32}(h:HashOk x):HashesOk [x]:=by intro y hy;rw[List.mem_singleton.1 hy];exact h
theorem HashesOk.take {l:List H32}(h:HashesOk l)(n:Nat):HashesOk (l.take n):=fun x hx=>h x (List.mem_of_mem_take hx)
theorem HashesOk.drop {l:List H32}(h:HashesOk l)(n:Nat):HashesOk (l.drop n):=fun x hx=>h x (List.mem_of_mem_drop hx)
noncomputable def node (l r:H32):H32:=sum ([1]++l++r)
theorem node_ok (l r:H32):HashOk (node l r):=⟨sum_len _,sum_bytes _⟩
theorem nodeMsg {l r:H32}(hl:HashOk l)(hr:HashOk r):SumOk ([1]++l++r):=by
 refine SumOk.append ((?_:Bytes [1]).append hl.2) hr.2 (by simp only[List.length_append,List.length_singleton,hl.1,hr.1];omega)
 intro x hx;rw[List.mem_singleton.1 hx];omega
def MNode.pre (l r:H32):Prop:=HashOk l∧HashOk r
noncomputable def MNode.fn (l r:H32):H32:=node l r
def MNode.VC :Prop:=∀(x0:(List Int)) (x1:(List Int)),MNode.pre x0 x1→Room ([(1:Int)].length+x0.length) 1∧Room (([(1:Int)]++x0).length+x1.length) 1∧ShaSum.pre (([(1:Int)]++x0)++x1)∧(Ret1 (ShaSum.fn (([(1:Int)]++x0)++x1)) (MNode.fn x0 x1))
theorem MNode.vc :MNode.VC:=fun l r ⟨hl,hr⟩=>⟨room_of (by simp[hl.1]) (by omega),room_of (by simp[hl.1,hr.1]) (by omega),nodeMsg hl hr,rfl⟩
def Joined.pre (a b:List Int):Prop:=a.length+b.length≤500000000
def Joined.fn (a b:List Int):List Int:=a++b
def Joined.VC :Prop:=∀(x0:(List Int)) (x1:(List Int)),Joined.pre x0 x1→(0≤(0:Int)∧(0:Int)≤(IntKind.i64.wrap ((x0.length:Int)+(x1.length:Int))))∧Room ((IntKind.i64.wrap ((x0.length:Int)+(x1.length:Int)))).toNat 1∧Room ((List.replicate ((0:Int)).toNat (0:Int)).length+x0.length) 1∧Room (((List.replicate ((0:Int)).toNat (0:Int))++x0).length+x1.length) 1∧(Ret1 (((List.replicate ((0:Int)).toNat (0:Int))++x0)++x1) (Joined.fn x0 x1))
theorem Joined.vc :Joined.VC:=by
 intro a b h
 have h:a.length+b.length≤500000000:=h
 rw[i64w (by omega) (by omega)]
 refine⟨by omega,room_of (by omega) (by omega),room_of (by simp;omega) (by omega),room_of (by simp;omega) (by omega), ?_⟩
 simp[Ret1,Joined.fn]
def Join.pre (x:List (List Int)):Prop:=x.length≤1000∧x.flatten.length≤500000000
def Join.fn (x:List (List Int)):List Int:=x.flatten
def Join.inv3 (x:List (List Int))(v3:List Int)(v8:Int):Prop:=0≤v8∧v8≤x.length∧v3=(x.take v8.toNat).flatten
def Join.mes3 (x:List (List Int))(v3:List Int)(v8:Int):Nat:=(x.length-v8).toNat
def Join.VC :Prop:=∀(x0:(List (List Int))),Join.pre x0→(Join.inv3 x0 [] (0:Int)∧∀(v3:(List Int)) (v8:Int),Join.inv3 x0 v3 v8→(((decide (v8<(x0.length:Int)))=true→(0≤v8∧v8<(x0.length:Int))∧Joined.pre v3 (x0.getD (Int.toNat v8) [])∧(Join.inv3 x0 (Joined.fn v3 (x0.getD (Int.toNat v8) [])) (IntKind.i64.wrap (v8+(1:Int)))∧Join.mes3 x0 (Joined.fn v3 (x0.getD (Int.toNat v8) [])) (IntKind.i64.wrap (v8+(1:Int)))<Join.mes3 x0 v3 v8))∧((decide (v8<(x0.length:Int)))=false→(Ret1 v3 (Join.fn x0)))))
theorem Join.vc :Join.VC:=by
 intro x ⟨h1,h2⟩
 refine⟨⟨by omega,by omega,by simp⟩, ?_⟩
 rintro v3 v8 ⟨k1,k2,rfl⟩
 refine⟨fun hc=> ?_,fun hc=> ?_⟩
 ·have hc:v8<x.length:=of_decide_eq_true hc
  have hs:=take_step x k1 hc
  have hl:((x.take v8.toNat).flatten++x.getD v8.toNat []).length≤x.flatten.length:=by rw[←hs];exact flatten_le _ _
  rw[i64w (by omega) (by omega)]
  refine⟨by omega,Nat.le_trans (by rw[List.length_append] at hl;exact hl) h2,⟨by omega,by omega,hs.symm⟩,by simp only[Join.mes3];omega⟩
 ·have hc:¬(v8<x.length):=of_decide_eq_false hc
  rw[List.take_of_length_le (by omega)]
  rfl
def RNode.pre (l r:H32):Prop:=HashOk l∧HashOk r
noncomputable def RNode.fn (l r:H32):H32:=node l r
def RNode.VC :Prop:=∀(x0:(List Int)) (x1:(List Int)),RNode.pre x0 x1→Join.pre [[(1:Int)],x0,x1]∧RefSum.pre (Join.fn [[(1:Int)],x0,x1])∧(Ret1 (RefSum.fn (Join.fn [[(1:Int)],x0,x1])) (RNode.fn x0 x1))
theorem RNode.vc :RNode.VC:=by
 intro l r ⟨hl,hr⟩
 have e:Join.fn [[1],l,r]=[1]++l++r:=by simp[Join.fn]
 rw[e]
 refine⟨⟨by simp, ?_⟩,nodeMsg hl hr,rfl⟩
 have:[[1],l,r].flatten=[1]++l++r:=e
 rw[this];simp only[List.length_append,List.length_singleton,hl.1,hr.1];omega
noncomputable def mlevel :List H32→List H32
 |a::b::r=>node a b::mlevel r
 |l=>l
theorem mlevel_len :∀(l:List H32),(mlevel l).length=(l.length+1)/2
 |[]=>rfl
 |[_]=>by simp[mlevel]
 |a::b::r=>by simp only[mlevel,List.length_cons,mlevel_len r];omega
theorem mlevel_ok :∀(l:List H32),HashesOk l→HashesOk (mlevel l)
 |[],h=>h
 |[_],h=>h
 |a::b::r,h=>by
  intro x hx
  simp only[mlevel,List.mem_cons] at hx
  rcases hx with rfl|hx
  ·exact node_ok a b
  ·exact mlevel_ok r (fun y hy=>h y (by simp[hy])) x hx
theorem mlevel_append :∀(l m:List H32),l.length%2=0→mlevel (l++m)=mlevel l++mlevel m
 |[],m,_=>rfl
 |[_],m,h=>by simp at h
 |a::b::r,m,h=>by
  simp only[List.cons_append,mlevel]
  rw[mlevel_append r m (by simp only[List.length_cons] at h;omega)]
noncomputable def levels (l:List H32):List (List H32):=if h:l.length≤1 then[l] else l::levels (mlevel l)
termination_by l.length
decreasing_by rw[mlevel_len];omega
noncomputable def root (l:List H32):H32:=if h:l.length≤1 then l.getD 0 zeroH else root (mlevel l)
termination_by l.length
decreasing_by rw[mlevel_len];omega
theorem levels_small {l:List H32}(h:l.length≤1):levels l=[l]:=by rw[levels,dif_pos h]
theorem levels_big {l:List H32}(h:¬l.length≤1):levels l=l::levels (mlevel l):=by rw[levels,dif_neg h]
theorem root_small {l:List H32}(h:l.length≤1):root l=l.getD 0 zeroH:=by rw[root,dif_pos h]
theorem root_big {l:List H32}(h:¬l.length≤1):root l=root (mlevel l):=by rw[root,dif_neg h]
theorem levels_root :∀(n:Nat) (l:List H32),l.length≤n→1≤l.length→HashesOk l→1≤(levels l).length∧((levels l).getD ((levels l).length-1) []).length=1∧
 ((levels l).getD ((levels l).length-1) []).getD 0 zeroH=root l∧HashOk (root l):=by
 intro n
 induction n with
 |zero=>intro l h1 h2;omega
 |succ n ih=>
  intro l h1 h2 hok
  by_cases h:l.length≤1
  ·rw[levels_small h,root_small h]
   exact⟨by simp,by simp;omega,by simp,hok.getD 0⟩
  ·have hm:=mlevel_len l
   obtain⟨i1,i2,i3,i4⟩:=ih (mlevel l) (by omega) (by omega) (mlevel_ok l hok)
   rw[levels_big h,root_big h]
   have e:(l::levels (mlevel l)).getD ((l::levels (mlevel l)).length-1) []=(levels (mlevel l)).getD ((levels (mlevel l)).length-1) []:=by
    rw[List.length_cons,show(levels (mlevel l)).length+1-1=((levels (mlevel l)).length-1)+1 by omega,List.getD_cons_succ]
   rw[e]
   exact⟨by simp,i2,i3,i4⟩
def MLevels.pre (l:List H32):Prop:=HashesOk l∧l.length≤1024
noncomputable def MLevels.fn (l:List H32):List (List H32):=levels l
def LevInv (x v0:List H32)(v3:List (List H32)):Prop:=HashesOk v0∧∃pre,v3=pre++[v0]∧levels x=pre++levels v0∧pre.length+v0.length≤1024
def LevStep (s0 v4:List H32)(v5:Int):Prop:=0≤v5∧v5%2=0∧v5≤s0.length+1∧v4=mlevel (s0.take v5.toNat)
def MLevels.inv2 (x v0:List H32)(v3:List (List H32)):Prop:=LevInv x v0 v3
def MLevels.mes2 (x v0:List H32)(v3:List (List H32)):Nat:=v0.length
def MLevels.inv5 (x s0:List H32)(v3:List (List H32))(v4:List H32)(v5:Int):Prop:=LevInv x s0 v3∧LevStep s0 v4 v5
def MLevels.mes5 (x s0:List H32)(v3:List (List H32))(v4:List H32)(v5:Int):Nat:=(s0.length+1-v5).toNat
def MLevels.VC :Prop:=∀(x0:(List (List Int))),MLevels.pre x0→(MLevels.inv2 x0 x0 [x0]∧∀(v0:(List (List Int))) (v3:(List (List (List Int)))),MLevels.inv2 x0 v0 v3→(((decide ((v0.length:Int)>(1:Int)))=true→(MLevels.inv5 x0 v0 v3 [] (0:Int)∧∀(v3_1:(List (List (List Int)))) (v4:(List (List Int))) (v5:Int),MLevels.inv5 x0 v0 v3_1 v4 v5→(((decide (v5<(v0.length:Int)))=true→(let v21:Bool:=(decide ((IntKind.i64.wrap (v5+(1:Int)))<(v0.length:Int)))
 ((v21=true→(0≤v5∧v5<(v0.length:Int))∧(0≤(IntKind.i64.wrap (v5+(1:Int)))∧(IntKind.i64.wrap (v5+(1:Int)))<(v0.length:Int))∧(let v31:(List Int):=(v0.getD (Int.toNat (IntKind.i64.wrap (v5+(1:Int)))) (List.replicate 32 (0:Int)))
 MNode.pre (v0.getD (Int.toNat v5) (List.replicate 32 (0:Int))) v31∧(let v32:(List Int):=(MNode.fn (v0.getD (Int.toNat v5) (List.replicate 32 (0:Int))) v31)
 Room (v4.length+[v32].length) 32∧(MLevels.inv5 x0 v0 v3_1 (v4++[v32]) (IntKind.i64.wrap (v5+(2:Int)))∧MLevels.mes5 x0 v0 v3_1 (v4++[v32]) (IntKind.i64.wrap (v5+(2:Int)))<MLevels.mes5 x0 v0 v3_1 v4 v5))))∧(v21=false→(0≤v5∧v5<(v0.length:Int))∧Room (v4.length+[(v0.getD (Int.toNat v5) (List.replicate 32 (0:Int)))].length) 32∧(let v41h:(List (List Int)):=(v4++[(v0.getD (Int.toNat v5) (List.replicate 32 (0:Int)))])
 (MLevels.inv5 x0 v0 v3_1 v41h (IntKind.i64.wrap (v5+(2:Int)))∧MLevels.mes5 x0 v0 v3_1 v41h (IntKind.i64.wrap (v5+(2:Int)))<MLevels.mes5 x0 v0 v3_1 v4 v5))))))∧((decide (v5<(v0.length:Int)))=false→Room (v3_1.length+[v4].length) 24∧(MLevels.inv2 x0 v4 (v3_1++[v4])∧MLevels.mes2 x0 v4 (v3_1++[v4])<MLevels.mes2 x0 v0 v3)))))∧((decide ((v0.length:Int)>(1:Int)))=false→(Ret1 v3 (MLevels.fn x0)))))
theorem take_get {l:List H32}{i:Nat}(h:i<l.length):l.take (i+1)=l.take i++[l.getD i (List.replicate 32 0)]:=by
 rw[List.take_succ_eq_append_getElem h]
 simp[List.getD_eq_getElem?_getD,h]
theorem lev_two {s0:List H32}{v5:Int}(h0:0≤v5)(h1:v5%2=0)(h2:v5+1<s0.length):
 mlevel (s0.take v5.toNat)++[node (s0.getD v5.toNat (List.replicate 32 0)) (s0.getD (v5+1).toNat (List.replicate 32 0))]=mlevel (s0.take (v5+2).toNat):=by
 rw[show(v5+2).toNat=v5.toNat+1+1 by omega,take_get (by omega),take_get (by omega),List.append_assoc,mlevel_append _ _ (by rw[List.length_take];omega),show(v5+1).toNat=v5.toNat+1 by omega]
 rfl
theorem lev_one {s0:List H32}{v5:Int}(h0:0≤v5)(h1:v5%2=0)(h2:v5<s0.length)(h3:¬(v5+1<s0.length)):
 mlevel (s0.take v5.toNat)++[s0.getD v5.toNat (List.replicate 32 0)]=mlevel (s0.take (v5+2).toNat):=by
 have e:s0.take (v5+2).toNat=s0.take (v5.toNat+1):=by rw[List.take_of_length_le (by omega),List.take_of_length_le (by omega)]
 rw[e,take_get (by omega),mlevel_append _ _ (by rw[List.length_take];omega)]
 rfl
theorem lev_next {x v0 v4:List H32}{v3:List (List H32)}{v5:Int}(h:LevInv x v0 v3)(hs:LevStep v0 v4 v5)(h1:¬(v5<v0.length))(h2:1<v0.length):
 Room (v3.length+1) 24∧LevInv x v4 (v3++[v4])∧v4.length<v0.length:=by
 obtain⟨q1,pre,rfl,q3,q4⟩:=h
 obtain⟨s1,s2,s3,rfl⟩:=hs
 rw[List.take_of_length_le (by omega)]
 have hm:=mlevel_len v0
 refine⟨room_of (by rw[List.length_append];simp only[List.length_singleton];omega) (by omega),⟨mlevel_ok _ q1,pre++[v0],rfl, ?_, ?_⟩,by omega⟩
 ·rw[q3,levels_big (by omega)];simp
 ·rw[List.length_append,List.length_singleton];omega
theorem MLevels.vc :MLevels.VC:=by
 intro x ⟨h1,h2⟩
 refine⟨⟨h1,[],rfl,rfl,by simp;omega⟩, ?_⟩
 intro v0 v3 hi
 refine⟨fun hc=> ?_,fun hc=> ?_⟩
 ·have hc:(v0.length:Int)>1:=of_decide_eq_true hc
  refine⟨⟨hi,by omega,by omega,by omega,by simp[mlevel]⟩, ?_⟩
  rintro w3 v4 v5 ⟨hj,k1,k2,k3,rfl⟩
  have hlen:v0.length≤1024:=by obtain⟨_,pre,_,_,q⟩:=hi;omega
  have hok:HashesOk v0:=hi.1
  refine⟨fun hd=> ?_,fun hd=> ?_⟩
  ·have hd:v5<v0.length:=of_decide_eq_true hd
   have hl:(mlevel (v0.take v5.toNat)).length≤1024:=by rw[mlevel_len,List.length_take];omega
   simp(disch:=omega) only[i64w]
   refine⟨fun he=> ?_,fun he=> ?_⟩
   ·have he:v5+1<v0.length:=of_decide_eq_true he
    refine⟨by omega,by omega,⟨hok.getD _,hok.getD _⟩,room_of (by simp only[List.length_singleton];omega) (by omega),⟨hj,by omega,by omega,by omega,lev_two k1 k2 he⟩,by simp only[MLevels.mes5];omega⟩
   ·have he:¬(v5+1<v0.length):=of_decide_eq_false he
    refine⟨by omega,room_of (by simp only[List.length_singleton];omega) (by omega),⟨hj,by omega,by omega,by omega,lev_one k1 k2 hd he⟩,by simp only[MLevels.mes5];omega⟩
  ·have hd:¬(v5<v0.length):=of_decide_eq_false hd
   obtain⟨a,b,c⟩:=lev_next hj ⟨k1,k2,k3,rfl⟩ hd (by omega)
   exact⟨a,b,c⟩
 ·have hc:¬((v0.length:Int)>1):=of_decide_eq_false hc
  obtain⟨_,pre,rfl,q3,_⟩:=hi
  refine ret1.2 ?_
  show _=levels x
  rw[q3,levels_small (by omega)]
def RLevels.pre (l:List H32):Prop:=HashesOk l∧l.length≤1024
noncomputable def RLevels.fn (l:List H32):List (List H32):=levels l
def RLevels.inv2 (x v0:List H32)(v3:List (List H32)):Prop:=LevInv x v0 v3
def RLevels.mes2 (x v0:List H32)(v3:List (List H32)):Nat:=v0.length
def RLevels.inv5 (x s0:List H32)(v3:List (List H32))(v4:List H32)(v5:Int):Prop:=LevInv x s0 v3∧LevStep s0 v4 v5
def RLevels.mes5 (x s0:List H32)(v3:List (List H32))(v4:List H32)(v5:Int):Nat:=(s0.length+1-v5).toNat
def RLevels.VC :Prop:=∀(x0:(List (List Int))),RLevels.pre x0→(RLevels.inv2 x0 x0 [x0]∧∀(v0:(List (List Int))) (v3:(List (List (List Int)))),RLevels.inv2 x0 v0 v3→(((decide ((v0.length:Int)>(1:Int)))=true→(RLevels.inv5 x0 v0 v3 [] (0:Int)∧∀(v3_1:(List (List (List Int)))) (v4:(List (List Int))) (v5:Int),RLevels.inv5 x0 v0 v3_1 v4 v5→(((decide (v5<(v0.length:Int)))=true→(let v21:Bool:=(decide ((IntKind.i64.wrap (v5+(1:Int)))<(v0.length:Int)))
 ((v21=true→(0≤v5∧v5<(v0.length:Int))∧(0≤(IntKind.i64.wrap (v5+(1:Int)))∧(IntKind.i64.wrap (v5+(1:Int)))<(v0.length:Int))∧(let v31:(List Int):=(v0.getD (Int.toNat (IntKind.i64.wrap (v5+(1:Int)))) (List.replicate 32 (0:Int)))
 RNode.pre (v0.getD (Int.toNat v5) (List.replicate 32 (0:Int))) v31∧(let v32:(List Int):=(RNode.fn (v0.getD (Int.toNat v5) (List.replicate 32 (0:Int))) v31)
 Room (v4.length+[v32].length) 32∧(RLevels.inv5 x0 v0 v3_1 (v4++[v32]) (IntKind.i64.wrap (v5+(2:Int)))∧RLevels.mes5 x0 v0 v3_1 (v4++[v32]) (IntKind.i64.wrap (v5+(2:Int)))<RLevels.mes5 x0 v0 v3_1 v4 v5))))∧(v21=false→(0≤v5∧v5<(v0.length:Int))∧Room (v4.length+[(v0.getD (Int.toNat v5) (List.replicate 32 (0:Int)))].length) 32∧(let v41h:(List (List Int)):=(v4++[(v0.getD (Int.toNat v5) (List.replicate 32 (0:Int)))])
 (RLevels.inv5 x0 v0 v3_1 v41h (IntKind.i64.wrap (v5+(2:Int)))∧RLevels.mes5 x0 v0 v3_1 v41h (IntKind.i64.wrap (v5+(2:Int)))<RLevels.mes5 x0 v0 v3_1 v4 v5))))))∧((decide (v5<(v0.length:Int)))=false→Room (v3_1.length+[v4].length) 24∧(RLevels.inv2 x0 v4 (v3_1++[v4])∧RLevels.mes2 x0 v4 (v3_1++[v4])<RLevels.mes2 x0 v0 v3)))))∧((decide ((v0.length:Int)>(1:Int)))=false→(Ret1 v3 (RLevels.fn x0)))))
theorem RLevels.vc :RLevels.VC:=by
 intro x ⟨h1,h2⟩
 refine⟨⟨h1,[],rfl,rfl,by simp;omega⟩, ?_⟩
 intro v0 v3 hi
 refine⟨fun hc=> ?_,fun hc=> ?_⟩
 ·have hc:(v0.length:Int)>1:=of_decide_eq_true hc
  refine⟨⟨hi,by omega,by omega,by omega,by simp[mlevel]⟩, ?_⟩
  rintro w3 v4 v5 ⟨hj,k1,k2,k3,rfl⟩
  have hlen:v0.length≤1024:=by obtain⟨_,pre,_,_,q⟩:=hi;omega
  have hok:HashesOk v0:=hi.1
  refine⟨fun hd=> ?_,fun hd=> ?_⟩
  ·have hd:v5<v0.length:=of_decide_eq_true hd
   have hl:(mlevel (v0.take v5.toNat)).length≤1024:=by rw[mlevel_len,List.length_take];omega
   simp(disch:=omega) only[i64w]
   refine⟨fun he=> ?_,fun he=> ?_⟩
   ·have he:v5+1<v0.length:=of_decide_eq_true he
    refine⟨by omega,by omega,⟨hok.getD _,hok.getD _⟩,room_of (by simp only[List.length_singleton];omega) (by omega),⟨hj,by omega,by omega,by omega,lev_two k1 k2 he⟩,by simp only[RLevels.mes5];omega⟩
   ·have he:¬(v5+1<v0.length):=of_decide_eq_false he
    refine⟨by omega,room_of (by simp only[List.length_singleton];omega) (by omega),⟨hj,by omega,by omega,by omega,lev_one k1 k2 hd he⟩,by simp only[RLevels.mes5];omega⟩
  ·have hd:¬(v5<v0.length):=of_decide_eq_false hd
   obtain⟨a,b,c⟩:=lev_next hj ⟨k1,k2,k3,rfl⟩ hd (by omega)
   exact⟨a,b,c⟩
 ·have hc:¬((v0.length:Int)>1):=of_decide_eq_false hc
  obtain⟨_,pre,rfl,q3,_⟩:=hi
  refine ret1.2 ?_
  show _=levels x
  rw[q3,levels_small (by omega)]
noncomputable def rootOf (l:List H32):H32:=if l.length=0∨l.length>1024 then zeroH else root l
def MRoot.pre (l:List H32):Prop:=HashesOk l∧l.length≤1000000000
noncomputable def MRoot.fn (l:List H32):H32:=rootOf l
def MRoot.VC :Prop:=∀(x0:(List (List Int))),MRoot.pre x0→(((x0.length:Int)==(0:Int))=false→((x0.length:Int)==(0:Int))=false)∧(((x0.length:Int)==(0:Int))=false→((x0.length:Int)==(0:Int))=false)∧(((x0.length:Int)==(0:Int))=false→((x0.length:Int)==(0:Int))=false)∧(let v11:Bool:=(bif ((x0.length:Int)==(0:Int)) then true else(decide ((x0.length:Int)>(1024:Int))))
 ((v11=true→(Ret1 (List.replicate 32 (0:Int)) (MRoot.fn x0)))∧(v11=false→MLevels.pre x0∧(let v18:Int:=(IntKind.i64.wrap (((MLevels.fn x0).length:Int)-(1:Int)))
 (0≤v18∧v18<((MLevels.fn x0).length:Int))∧(0≤(0:Int)∧(0:Int)<(((MLevels.fn x0).getD (Int.toNat v18) []).length:Int))∧(let v22:(List Int):=(((MLevels.fn x0).getD (Int.toNat v18) []).getD (Int.toNat (0:Int)) (List.replicate 32 (0:Int)))
 (Ret1 v22 (MRoot.fn x0)))))))
theorem root_guard (l:List H32):(bif ((l.length:Int)==0) then true else decide ((l.length:Int)>1024))=decide (l.length=0∨l.length>1024):=by
 by_cases h0:l.length=0
 ·simp[h0]
 ·have e:((l.length:Int)==0)=false:=by simpa using h0
  rw[e,cond_false,Bool.eq_iff_iff,decide_eq_true_iff,decide_eq_true_iff];omega
theorem MRoot.vc :MRoot.VC:=by
 intro l ⟨hok,_⟩
 refine⟨id,id,id, ?_⟩
 rw[root_guard]
 refine⟨fun hc=> ?_,fun hc=> ?_⟩
 ·have hc:=of_decide_eq_true hc
  refine ret1.2 ?_
  show _=rootOf l
  rw[rootOf,if_pos hc];rfl
 ·have hc:=of_decide_eq_false hc
  obtain⟨q1,q2,q3,q4⟩:=levels_root _ l (Nat.le_refl _) (by omega) hok
  have hb:(levels l).length≤1025:=by
   have:∀(n:Nat) (l:List H32),l.length≤n→(levels l).length≤n+1:=by
    intro n
    induction n with
    |zero=>intro l h;rw[levels_small (by omega)];simp
    |succ n ih=>
     intro l h
     by_cases h1:l.length≤1
     ·rw[levels_small h1];simp
     ·rw[levels_big h1,List.length_cons]
      have:=ih (mlevel l) (by rw[mlevel_len];omega)
      omega
   have:=this 1024 l (by omega)
   omega
  simp only[MLevels.fn]
  rw[i64w (by omega) (by omega),show(((levels l).length:Int)-1).toNat=(levels l).length-1 by omega]
  refine⟨⟨hok,by omega⟩,by omega,by omega,ret1.2 ?_⟩
  show _=rootOf l
  rw[rootOf,if_neg hc]
  exact q3
def RRoot.pre (l:List H32):Prop:=HashesOk l∧l.length≤1000000000
noncomputable def RRoot.fn (l:List H32):H32:=rootOf l
def others (c i:Int):Int:=if h:c≤1 then 0 else(if i%2=1∨i+1<c then 1 else 0)+others ((c+1)/2) (i/2)
termination_by c.toNat
decreasing_by omega
noncomputable def climb (c i:Int)(d:H32)(hs:List H32):H32:=
 if h:c≤1 then d
 else if i%2=1 then climb ((c+1)/2) (i/2) (node (hs.getD 0 zeroH) d) (hs.drop 1)
 else if i+1<c then climb ((c+1)/2) (i/2) (node d (hs.getD 0 zeroH)) (hs.drop 1)
 else climb ((c+1)/2) (i/2) d hs
termination_by c.toNat
decreasing_by all_goals omega
noncomputable def ways (c i:Int)(d:H32)(hs:List H32):List (List H32):=
 if h:c≤1 then[]
 else if i%2=1 then[hs.getD 0 zeroH,d]::ways ((c+1)/2) (i/2) (node (hs.getD 0 zeroH) d) (hs.drop 1)
 else if i+1<c then[d,hs.getD 0 zeroH]::ways ((c+1)/2) (i/2) (node d (hs.getD 0 zeroH)) (hs.drop 1)
 else ways ((c+1)/2) (i/2) d hs
termination_by c.toNat
decreasing_by all_goals omega
def PathOk (c i:Int):Prop:=1≤c∧c≤1024∧0≤i∧i<c
theorem PathOk.up {c i:Int}(h:PathOk c i)(h2:c>1):PathOk ((c+1)/2) (i/2):=by
 obtain⟨h1,h2,h3,h4⟩:=h
 exact⟨by omega,by omega,by omega,by omega⟩
def MOthers.pre (c i:Int):Prop:=PathOk c i
def MOthers.fn (c i:Int):Int:=others c i
def MOthers.inv2 (c i v0 v1 v5:Int):Prop:=PathOk v0 v1∧0≤v5∧v5+others v0 v1=others c i∧v5≤2000-v0
def MOthers.mes2 (c i v0 v1 v5:Int):Nat:=v0.toNat
abbrev PathT :=Int×Int×List H32×Unit
def badPath (p:PathT):Bool:=decide (¬(1≤p.1∧p.1≤1024∧0≤p.2.1∧p.2.1<p.1))
noncomputable def follow (p:PathT)(leaf:H32):H32×Int:=
 if badPath p then(zeroH,5) else if(p.2.2.1.length:Int)≠others p.1 p.2.1 then(zeroH,8) else(climb p.1 p.2.1 leaf p.2.2.1,0)
def FollowOk (p:PathT)(leaf:H32):Prop:=HashesOk p.2.2.1∧p.2.2.1.length≤1000000000∧HashOk leaf
def MFollow.pre (p:PathT)(leaf:H32):Prop:=FollowOk p leaf
noncomputable def MFollow.fn (p:PathT)(leaf:H32):H32×Int:=follow p leaf
def MFollow.inv7 (p:PathT)(leaf v4 v6:H32)(v7:Int)(v8:List H32)(v9:Int):Prop:=PathOk v9 v7∧HashOk v6∧HashesOk v8∧(v8.length:Int)=others v9 v7∧climb v9 v7 v6 v8=climb p.1 p.2.1 leaf p.2.2.1
def MFollow.mes7 (p:PathT)(leaf v4 v6:H32)(v7:Int)(v8:List H32)(v9:Int):Nat:=v9.toNat
theorem climb_odd {c i:Int}{d:H32}{hs:List H32}(h:c>1)(h2:i%2=1):climb c i d hs=climb ((c+1)/2) (i/2) (node (hs.getD 0 zeroH) d) (hs.drop 1):=by rw[climb,dif_neg (by omega),if_pos h2]
theorem climb_even {c i:Int}{d:H32}{hs:List H32}(h:c>1)(h2:¬i%2=1)(h3:i+1<c):climb c i d hs=climb ((c+1)/2) (i/2) (node d (hs.getD 0 zeroH)) (hs.drop 1):=by rw[climb,dif_neg (by omega),if_neg h2,if_pos h3]
theorem climb_none {c i:Int}{d:H32}{hs:List H32}(h:c>1)(h2:¬i%2=1)(h3:¬i+1<c):climb c i d hs=climb ((c+1)/2) (i/2) d hs:=by rw[climb,dif_neg (by omega),if_neg h2,if_neg h3]
theorem climb_end {c i:Int}{d:H32}{hs:List H32}(h:c≤1):climb c i d hs=d:=by rw[climb,dif_pos h]
def RFollow.pre (p:PathT)(leaf:H32):Prop:=FollowOk p leaf
noncomputable def RFollow.fn (p:PathT)(leaf:H32):H32×Int:=follow p leaf
def RFollow.inv5 (p:PathT)(leaf v4 v6:H32)(v7 v8 v9:Int):Prop:=PathOk v9 v7∧HashOk v6∧0≤v8∧v8≤p.2.2.1.length∧v8+others v9 v7=others p.1 p.2.1∧climb v9 v7 v6 (p.2.2.1.drop v8.toNat)=climb p.1 p.2.1 leaf p.2.2.1
def RFollow.mes5 (p:PathT)(leaf v4 v6:H32)(v7 v8 v9:Int):Nat:=v9.toNat
def Kept.pre (l:List H32):Prop:=True
def Kept.fn (l:List H32):Bool:=decide ((l.length:Int)≤40)
def Kept.VC :Prop:=∀(x0:(List (List Int))),Kept.pre x0→(Ret1 (decide ((x0.length:Int)≤(40:Int))) (Kept.fn x0))
theorem Kept.vc :Kept.VC:=fun _ _=>rfl
end Lc
