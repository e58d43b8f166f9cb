/- The headers above a meeting place, and the way along the best line of a valid tree. -/
import Derived.Test.YtkbnmdjmjjfdmaaBrC
import Derived.Test.YtkbnmdjmjjfdmaaTreeK
import Derived.Test.YtkbnmdjmjjfdmaaTreeL
set_option linter.unusedVariables false
set_option linter.unusedSimpArgs false
namespace Lc
open Go
set_option maxRecDepth 10000
theorem par_lineC {t:Tr}{n:Int}{h:Nat}(hh:(h:Int)+1≤hgt t n):par t ((lineOf t n).getD (h+1) 0)=(lineOf t n).getD h 0:=by
 rw[lineOf_get (h:=h+1) (by omega),lineOf_get (h:=h) (by omega)]
 rw[show(hgt t n).toNat-h=((hgt t n).toNat-(h+1))+1 by omega];rfl
def hdrAt (t:Tr)(n:Int):Hdr:=(t.1.getD n.toNat zn).1
def restOf (t:Tr)(l:List (List Int)):List Int:=(lineOf t t.2.1).drop (meetOf t (lineOf t t.2.1) l+1).toNat
noncomputable def afterOf (t:Tr)(l:List (List Int))(most:Int):List Hdr:=if Snd t then((restOf t l).take most.toNat).map (hdrAt t) else[]
def BAfter.pre (t:Tr)(l:List (List Int))(most:Int):Prop:=l.length≤1000000000∧0≤most
noncomputable def BAfter.fn (t:Tr)(l:List (List Int))(most:Int):List Hdr:=afterOf t l most
def BAfter.inv6 (t:Tr)(l:List (List Int))(most:Int)(hs:List Hdr)(i:Int):Prop:=0≤i∧i≤(restOf t l).length∧i≤most∧hs=((restOf t l).take i.toNat).map (hdrAt t)
def BAfter.mes6 (t:Tr)(l:List (List Int))(most:Int)(hs:List Hdr)(i:Int):Nat:=((restOf t l).length-i).toNat
def BAfter.VC :Prop:=∀(x0:Tre) (x1:(List (List Int))) (x2:Int),BAfter.pre x0 x1 x2→BSound.pre x0∧(((!(BSound.fn x0))=true→(Ret1 [] (BAfter.fn x0 x1 x2)))∧((!(BSound.fn x0))=false→BLine.pre x0 x0.2.1∧BMeetH.pre x0 (BLine.fn x0 x0.2.1) x1∧(let v23:Int:=(IntKind.i64.wrap ((BMeetH.fn x0 (BLine.fn x0 x0.2.1) x1)+(1:Int)))
 (0≤v23∧v23≤((BLine.fn x0 x0.2.1).length:Int)∧((BLine.fn x0 x0.2.1).length:Int)≤((BLine.fn x0 x0.2.1).length:Int))∧(let v24:(List Int):=(((BLine.fn x0 x0.2.1).drop (Int.toNat v23)).take ((Int.toNat ((BLine.fn x0 x0.2.1).length:Int))-(Int.toNat v23)))
 (BAfter.inv6 x0 x1 x2 [] (0:Int)∧∀(v7:(List Hdr)) (v26:Int),BAfter.inv6 x0 x1 x2 v7 v26→(((decide (v26<(v24.length:Int)))=true→(0≤v26∧v26<(v24.length:Int))∧(((decide ((v7.length:Int)≥x2))=true→(Ret1 v7 (BAfter.fn x0 x1 x2)))∧((decide ((v7.length:Int)≥x2))=false→(0≤(v24.getD (Int.toNat v26) (0:Int))∧(v24.getD (Int.toNat v26) (0:Int))<(x0.1.length:Int))∧(let v40:Hdr:=(x0.1.getD (Int.toNat (v24.getD (Int.toNat v26) (0:Int))) zn).1
 Room (v7.length+[v40].length) 80∧(BAfter.inv6 x0 x1 x2 (v7++[v40]) (IntKind.i64.wrap (v26+(1:Int)))∧BAfter.mes6 x0 x1 x2 (v7++[v40]) (IntKind.i64.wrap (v26+(1:Int)))<BAfter.mes6 x0 x1 x2 v7 v26)))))∧((decide (v26<(v24.length:Int)))=false→(Ret1 v7 (BAfter.fn x0 x1 x2)))))))))
theorem rest_get (t:Tr)(l:List (List Int))(i:Nat):(restOf t l).getD i 0=(lineOf t t.2.1).getD ((meetOf t (lineOf t t.2.1) l+1).toNat+i) 0:=by
 rw[List.getD_eq_getElem?_getD,restOf,List.getElem?_drop,←List.getD_eq_getElem?_getD]
theorem BAfter.vc :BAfter.VC:=by
 rintro t l most ⟨hl,hm⟩
 simp only[imp_self,true_and,BSound.fn,BLine.fn,BMeetH.fn,BAfter.fn,ret1]
 refine⟨trivial,fun h=> ?_,fun h=> ?_⟩
 ·rw[afterOf,if_neg (by simpa using h)]
 have hs:Snd t:=by simpa using h
 have hb:Nod t t.2.1:=hs.2.1
 have hg:=hgt_nn hs hb
 have hll:=lineOf_len t t.2.1
 have h3:=hs.1.2
 have hb2:=hb.2
 have hmr:=meetOf_rng t (lineOf t t.2.1) (by omega) l
 have hrl:(restOf t l).length=(lineOf t t.2.1).length-(meetOf t (lineOf t t.2.1) l+1).toNat:=by rw[restOf,List.length_drop]
 have hw:IntKind.i64.wrap (meetOf t (lineOf t t.2.1) l+1)=meetOf t (lineOf t t.2.1) l+1:=i64w (by omega) (by omega)
 have hv:((lineOf t t.2.1).drop (Int.toNat (meetOf t (lineOf t t.2.1) l+1))).take ((Int.toNat ((lineOf t t.2.1).length:Int))-(Int.toNat (meetOf t (lineOf t t.2.1) l+1)))=restOf t l:=
  List.take_of_length_le (by rw[List.length_drop,Int.toNat_natCast];exact Nat.le_refl _)
 simp only[hw,hv]
 refine⟨⟨hs,hb⟩,⟨fun j hj=>(lineOf_nod hs hb (h:=j) (by omega)).1,by omega,hl⟩,⟨by omega,by omega,by omega⟩,⟨by omega,by omega,hm,rfl⟩, ?_⟩
 rintro hs2 i ⟨k1,k2,k3,rfl⟩
 have hlen:(((restOf t l).take i.toNat).map (hdrAt t)).length=i.toNat:=by rw[List.length_map,List.length_take];omega
 refine⟨fun hc=> ?_,fun hc=> ?_⟩
 ·have hc:i<(restOf t l).length:=of_decide_eq_true hc
  rw[i64w (n:=i+1) (by omega) (by omega)]
  refine⟨⟨k1,hc⟩,fun hq=> ?_,fun hq=> ?_⟩
  ·have hq:=of_decide_eq_true hq
   rw[afterOf,if_pos hs,show most.toNat=i.toNat by omega]
  ·have hq:=of_decide_eq_false hq
   have hnod:Nod t ((restOf t l).getD i.toNat 0):=by
    rw[rest_get]
    exact(lineOf_nod hs hb (by omega)).1
   refine⟨⟨hnod.1,hnod.2⟩,room_of (by rw[hlen,List.length_singleton];omega) (by omega),⟨by omega,by omega,by omega, ?_⟩,by simp only[BAfter.mes6];omega⟩
   rw[show(i+1).toNat=i.toNat+1 by omega,take_at 0 (show i.toNat<(restOf t l).length by omega),List.map_append];rfl
 ·have hc:¬i<(restOf t l).length:=of_decide_eq_false hc
  rw[afterOf,if_pos hs,List.take_of_length_le (show(restOf t l).length≤i.toNat by omega),List.take_of_length_le (show(restOf t l).length≤most.toNat by omega)]
theorem snd_of {p:Par}{t:Tre}(hv:validT p t=true):Snd t:=by
 obtain⟨cs,_,h2,h3⟩:=valid_of hv
 refine⟨⟨h2.fit.2.1,h2.fit.2.2.1⟩,valid_ordered' hv,⟨?_, ?_⟩,fun i a b=> ?_⟩
 ·show(t.1.getD 0 zn).2.2.1= -1
  rw[h2.fit.2.2.2];rfl
 ·show(t.1.getD 0 zn).2.2.2.1=0
  rw[h2.fit.2.2.2];rfl
 ·obtain⟨m,rfl⟩:∃m:Nat,i=m:=⟨i.toNat,by omega⟩
  obtain⟨s,_⟩:=h2.step m (by omega) (by omega)
  exact⟨s.1,s.2.1,congrArg (fun n:Nd=>n.2.2.2.1) s.2.2.2.2⟩
theorem at_height {p:Par}{t:Tre}{cs:List Cx}(h:Valid15 p t cs)(hs:Snd t):∀n:Nat,n<t.1.length→(atFn p t.1 n).1=hgt t n:=by
 intro n
 induction n using Nat.strongRecOn with
 |_ n ih=>
  intro hn
  by_cases h0:n=0
  ·subst h0
   rw[at_zero,startFn,if_neg (by simp[h.fit.1])]
   exact hs.2.2.1.2.symm
  ·obtain⟨s,_⟩:=h.step n (by omega) hn
   have s1:=s.1
   have s2:=s.2.1
   have hr:=step_room s
   rw[h.at _ (by omega)] at hr
   rw[at_step h.linked (by omega) hn,adv_ok hr]
   show(atFn p t.1 (t.1.getD n zn).2.2.1.toNat).1+1=_
   rw[ih _ (by omega) (by omega),(hgt_par hs (n:=n) ⟨by omega,by omega⟩ (by omega)).2.2,Int.toNat_of_nonneg s1];rfl
theorem line_node {p:Par}{t:Tre}{cs:List Cx}(h:Valid15 p t cs)(hs:Snd t){j:Nat}(hj:(j:Int)+1≤hgt t t.2.1):
 0<((lineOf t t.2.1).getD (j+1) 0).toNat∧((lineOf t t.2.1).getD (j+1) 0).toNat<t.1.length∧
 (t.1.getD ((lineOf t t.2.1).getD (j+1) 0).toNat zn).2.2.1.toNat=((lineOf t t.2.1).getD j 0).toNat∧
 atFn p t.1 ((lineOf t t.2.1).getD (j+1) 0).toNat=(advFn p (atFn p t.1 ((lineOf t t.2.1).getD j 0).toNat) (hdrAt t ((lineOf t t.2.1).getD (j+1) 0))).1:=by
 obtain⟨n1,n2⟩:=lineOf_nod hs hs.2.1 (h:=j+1) (by omega)
 have hp:=par_lineC hj
 generalize (lineOf t t.2.1).getD (j+1) 0=n at*
 have hz:n≠0:=fun e=>by rw[e,hs.2.2.1.2] at n2;omega
 have h1:=n1.1
 have h2:=n1.2
 have hpar:(t.1.getD n.toNat zn).2.2.1.toNat=((lineOf t t.2.1).getD j 0).toNat:=congrArg Int.toNat hp
 refine⟨by omega,by omega,hpar, ?_⟩
 rw[at_step h.linked (by omega) (by omega),hpar];rfl
theorem run_line {p:Par}{t:Tre}{cs:List Cx}(h:Valid15 p t cs)(hs:Snd t)(hl:LateT p t):∀(k j:Nat),((j+k:Nat):Int)=hgt t t.2.1→∀i:Int,
 runGo p 1073741824 (atFn p t.1 ((lineOf t t.2.1).getD j 0).toNat) (((lineOf t t.2.1).drop (j+1)).map (hdrAt t)) i=(atFn p t.1 ((lineOf t t.2.1).getD (j+k) 0).toNat,i+k,0)
 |0,j,hj,i=>by
  have hll:=lineOf_len t t.2.1
  rw[List.drop_eq_nil_of_le (by omega),List.map_nil,runGo]
  simp
 |k+1,j,hj,i=>by
  have hll:=lineOf_len t t.2.1
  obtain⟨l1,l2,l3,l4⟩:=line_node h hs (j:=j) (by omega)
  have hd:=drop_at (0:Int) (l:=lineOf t t.2.1) (i:=((j+1:Nat):Int)) (by omega) (by omega)
  rw[Int.toNat_natCast,show(((j+1:Nat):Int)+1).toNat=j+1+1 by omega] at hd
  have hc:=hl _ l1 l2
  rw[l3] at hc
  have hc:checkFn p (atFn p t.1 ((lineOf t t.2.1).getD j 0).toNat) (hdrAt t ((lineOf t t.2.1).getD (j+1) 0)) 1073741824=0:=hc
  rw[hd,List.map_cons,runGo,if_neg (by rw[hc];decide),←l4,run_line h hs hl k (j+1) (by omega) (i+1),show j+1+k=j+(k+1) by omega]
  congr 2
  omega
end Lc
