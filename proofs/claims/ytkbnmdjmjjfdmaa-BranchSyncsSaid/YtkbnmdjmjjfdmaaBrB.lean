/- Chapter 16: the laws. -/
import Derived.Test.YtkbnmdjmjjfdmaaBrA
set_option linter.unusedVariables false
set_option linter.unusedSimpArgs false
namespace Lc
open Go
set_option maxRecDepth 10000
def locGo :Nat→Int→Int→Nat→List Int
 |0,_,_,_=>[]
 |f+1,h,s,c=>if h<0 then[] else h::locGo f (h-(if 10≤c+1 then s*2 else s)) (if 10≤c+1 then s*2 else s) (c+1)
def locHs (h:Int):List Int:=locGo 200 h 1 0++(if(locGo 200 h 1 0).getLastD h≠0 then[0] else[])
def hashAt (t:Tr)(n h:Int):List Int:=hsh t ((lineOf t n).getD h.toNat 0)
def BLocator.pre (t:Tr)(_:Int):Prop:=t.1.length≤100
noncomputable def BLocator.fn (t:Tr)(n:Int):List (List Int):=if Snd t∧Nod t n then(locHs (hgt t n)).map (hashAt t n) else[]
def BLocator.inv7 (t:Tr)(n:Int)(v5:List (List Int))(v7 v8 v9:Int):Prop:=
 ∃hs:List Int,v5=hs.map (hashAt t n)∧locGo 200 (hgt t n) 1 0=hs++locGo (200-hs.length) v7 v8 hs.length∧v9=hs.getLastD (hgt t n)∧1≤v8∧(v8=1∨v7+v8≤hgt t n)∧v7≤hgt t n∧-v8≤v7∧(hs.length:Int)≤hgt t n-v7
def BLocator.mes7 (t:Tr)(n:Int)(v5:List (List Int))(v7 v8 v9:Int):Nat:=(v7+1).toNat
def BLocator.VC :Prop:=∀(x0:Tre) (x1:Int),BLocator.pre x0 x1→BSound.pre x0∧((!(BSound.fn x0))=false→(!(BSound.fn x0))=false)∧((!(BSound.fn x0))=false→(!(BSound.fn x0))=false)∧((!(BSound.fn x0))=false→BNode.pre x0 x1)∧((!(BSound.fn x0))=false→(!(BSound.fn x0))=false)∧((!(BSound.fn x0))=false→(!(BSound.fn x0))=false)∧(((bif (!(BSound.fn x0)) then true else(!(BNode.fn x0 x1)))=true→(Ret1 [] (BLocator.fn x0 x1)))∧((bif (!(BSound.fn x0)) then true else(!(BNode.fn x0 x1)))=false→BLine.pre x0 x1∧(let v24:Int:=(IntKind.i64.wrap (((BLine.fn x0 x1).length:Int)-(1:Int)))
 (BLocator.inv7 x0 x1 [] v24 (1:Int) v24∧∀(v5:(List (List Int))) (v7:Int) (v8:Int) (v9:Int),BLocator.inv7 x0 x1 v5 v7 v8 v9→(((decide (v7≥(0:Int)))=true→(0≤v7∧v7<((BLine.fn x0 x1).length:Int))∧(0≤((BLine.fn x0 x1).getD (Int.toNat v7) (0:Int))∧((BLine.fn x0 x1).getD (Int.toNat v7) (0:Int))<(x0.1.length:Int))∧(let v37:(List Int):=(x0.1.getD (Int.toNat ((BLine.fn x0 x1).getD (Int.toNat v7) (0:Int))) (((0:Int),((List.replicate 32 (0:Int)),((List.replicate 32 (0:Int)),((0:Int),((0:Int),((0:Int),())))))),((List.replicate 32 (0:Int)),((0:Int),((0:Int),((List.replicate 4 (0:Int)),())))))).2.1
 Room (v5.length+[v37].length) 32∧(((decide (((v5++[v37]).length:Int)≥(10:Int)))=true→(let v48:Int:=(IntKind.i64.wrap (v7-(IntKind.i64.wrap (v8*(2:Int)))))
 (BLocator.inv7 x0 x1 (v5++[v37]) v48 (IntKind.i64.wrap (v8*(2:Int))) v7∧BLocator.mes7 x0 x1 (v5++[v37]) v48 (IntKind.i64.wrap (v8*(2:Int))) v7<BLocator.mes7 x0 x1 v5 v7 v8 v9)))∧((decide (((v5++[v37]).length:Int)≥(10:Int)))=false→(BLocator.inv7 x0 x1 (v5++[v37]) (IntKind.i64.wrap (v7-v8)) v8 v7∧BLocator.mes7 x0 x1 (v5++[v37]) (IntKind.i64.wrap (v7-v8)) v8 v7<BLocator.mes7 x0 x1 v5 v7 v8 v9)))))∧((decide (v7≥(0:Int)))=false→(((v9 !=(0:Int))=true→(0≤(0:Int)∧(0:Int)<(x0.1.length:Int))∧(let v56:(List Int):=(x0.1.getD (Int.toNat (0:Int)) (((0:Int),((List.replicate 32 (0:Int)),((List.replicate 32 (0:Int)),((0:Int),((0:Int),((0:Int),())))))),((List.replicate 32 (0:Int)),((0:Int),((0:Int),((List.replicate 4 (0:Int)),())))))).2.1
 Room (v5.length+[v56].length) 32∧(Ret1 (v5++[v56]) (BLocator.fn x0 x1))))∧((v9 !=(0:Int))=false→(Ret1 v5 (BLocator.fn x0 x1))))))))))
theorem BLocator.vc :BLocator.VC:=by
 intro t n hp
 have hp:t.1.length≤100:=hp
 simp only[imp_self,true_and,and_true,Bool.cond_true_left,Bool.cond_false_right,Bool.or_eq_true,Bool.or_eq_false_iff,Bool.and_eq_true,Bool.and_eq_false_iff,decide_eq_true_eq,decide_eq_false_iff_not,Bool.not_eq_true',Bool.not_eq_false',beq_iff_eq,bne_iff_ne,ne_eq,beq_eq_false_iff_ne,bne_eq_false_iff_eq,Int.not_lt,Int.not_le,gt_iff_lt,ge_iff_le,Decidable.not_not,Bool.not_eq_true,Bool.not_eq_false]
 try simp only[par_fold,hgt_fold,hsh_fold]
 simp only[BSound.fn,BNode.fn,decide_eq_false_iff_not,decide_eq_true_eq]
 refine⟨trivial,fun _=>trivial, ?_, ?_⟩
 ·intro h
  refine ret1.2 ?_
  rw[BLocator.fn,if_neg]
  rintro⟨a,b⟩
  rcases h with h|h
  ·exact h a
  ·exact h b
 ·rintro⟨hs,hn⟩
  have h1:=hgt_nn hs hn
  have h2:=hn.2
  have hl:=lineOf_len t n
  have hln:(lineOf t n).length≤101:=by omega
  have hr:=line_root hs hn
  simp only[BLine.fn]
  rw[i64w (n:=((lineOf t n).length:Int)-1) (by omega) (by omega)]
  have e0:((lineOf t n).length:Int)-1=hgt t n:=by omega
  rw[e0]
  refine⟨⟨hs,hn⟩,⟨[],rfl,rfl,rfl,by omega,.inl rfl,by omega,by omega,by simp⟩, ?_⟩
  rintro v5 v7 v8 v9 ⟨l,rfl,k1,k2,k3,k4,k5,k6,k7⟩
  refine⟨fun hc=> ?_,fun hc=> ?_⟩
  ·obtain⟨m1,m2⟩:=lineOf_nod hs hn (h:=v7.toNat) (by omega)
   have hll:l.length≤100:=by omega
   have go:locGo (200-l.length) v7 v8 l.length=v7::locGo (200-(l.length+1)) (v7-(if 10≤l.length+1 then v8*2 else v8)) (if 10≤l.length+1 then v8*2 else v8) (l.length+1):=by
    rw[show 200-l.length=(200-(l.length+1))+1 by omega,locGo,if_neg (by omega)]
   refine⟨⟨hc,by omega⟩,m1,room_of (by simp;omega) (by omega),fun hd=> ?_,fun hd=> ?_⟩
   ·simp only[List.length_append,List.length_map,List.length_singleton] at hd
    simp(disch:=omega) only[i64w]
    refine⟨⟨l++[v7],by simp[hashAt], ?_,by simp,by omega,.inr (by omega),by omega,by omega,by simp;omega⟩,by simp only[BLocator.mes7];omega⟩
    rw[k1,go,if_pos (by omega)];simp
   ·simp only[List.length_append,List.length_map,List.length_singleton] at hd
    simp(disch:=omega) only[i64w]
    refine⟨⟨l++[v7],by simp[hashAt], ?_,by simp,by omega,by omega,by omega,by omega,by simp;omega⟩,by simp only[BLocator.mes7];omega⟩
    rw[k1,go,if_neg (by omega)];simp
  ·have hnil:locGo (200-l.length) v7 v8 l.length=[]:=by
    cases 200-l.length with
    |zero=>rfl
    |succ f=>rw[locGo,if_pos (by omega)]
   rw[hnil,List.append_nil] at k1
   have hb:BLocator.fn t n=(l++(if l.getLastD (hgt t n)≠0 then[0] else[])).map (hashAt t n):=by
    rw[BLocator.fn,if_pos ⟨hs,hn⟩,locHs,k1]
   have hlen:l.length≤200:=by
    have:∀(f:Nat) (h s:Int) (c:Nat),(locGo f h s c).length≤f:=by
     intro f
     induction f with
     |zero=>intro h s c;simp[locGo]
     |succ f ih=>
      intro h s c
      rw[locGo]
      split
      ·simp
      ·simp only[List.length_cons];have:=ih (h-(if 10≤c+1 then s*2 else s)) (if 10≤c+1 then s*2 else s) (c+1);omega
    rw[←k1];exact this _ _ _ _
   refine⟨fun hd=>⟨by have:=hs.1.1;omega,room_of (by simp;omega) (by omega),ret1.2 ?_⟩,fun hd=>ret1.2 ?_⟩
   ·rw[hb,if_pos (by rw[←k2];exact hd)]
    simp only[List.map_append,List.map_cons,List.map_nil,hashAt,Int.toNat_zero,hr]
   ·rw[hb,if_neg (by rw[←k2];simpa using hd)]
    simp
def rootN :Nd:=(((0:Int),((List.replicate 32 (0:Int)),((List.replicate 32 (0:Int)),((0:Int),((0:Int),((0:Int),())))))),(((List.replicate 32 (0:Int)).set 0 (255:Int)),((-1:Int),((0:Int),((List.replicate 4 (0:Int)),())))))
def kOf (i s:Int):Int:=if(IntKind.i64.wrap (i-IntKind.i64.wrap ((IntKind.i64.wrap (Int.tmod s 4))*(IntKind.i64.wrap (IntKind.u8.wrap (Int.tdiv s 64))))))>(0:Int) then(IntKind.i64.wrap (i-IntKind.i64.wrap ((IntKind.i64.wrap (Int.tmod s 4))*(IntKind.i64.wrap (IntKind.u8.wrap (Int.tdiv s 64)))))) else(0:Int)
def nodeN (i k h:Int):Nd:=(((0:Int),((List.replicate 32 (0:Int)),((List.replicate 32 (0:Int)),((0:Int),((0:Int),((IntKind.u32.wrap i),())))))),((((List.replicate 32 (0:Int)).set 0 (IntKind.u8.wrap i)).set 1 (1:Int)),(k,(h,((List.replicate 4 (0:Int)),())))))
def lnodes (l:List Int):Nat→List Nd
 |0=>[rootN]
 |i+1=>lnodes l i++[nodeN i (kOf i (l.getD i 0)) (IntKind.i64.wrap (((lnodes l i).getD (kOf i (l.getD i 0)).toNat nd0).2.2.2.1+1))]
theorem lnodes_len (l:List Int):∀i,(lnodes l i).length=i+1
 |0=>rfl
 |i+1=>by simp[lnodes,lnodes_len l i]
theorem kOf_rng {i s:Int}(hi:0≤i)(hi2:i≤100)(hs:0≤s)(hs2:s≤255):0≤kOf i s∧kOf i s≤i:=by
 have e1:Int.tmod s 4=s%4:=Int.tmod_eq_emod_of_nonneg hs
 have e2:Int.tdiv s 64=s/64:=Int.tdiv_eq_ediv_of_nonneg hs
 unfold kOf
 rw[e1,e2,u8w (by omega) (by omega),i64w (n:=s%4) (by omega) (by omega),i64w (n:=s/64) (by omega) (by omega)]
 have b1:0≤s%4∧s%4≤3:=by omega
 have b2:0≤s/64∧s/64≤3:=by omega
 have p1:0≤s%4*(s/64):=Int.mul_nonneg b1.1 b2.1
 have p2:s%4*(s/64)≤3*3:=Int.mul_le_mul b1.2 b2.2 b2.1 (by omega)
 generalize s%4*(s/64)=m at*
 rw[i64w (n:=m) (by omega) (by omega),i64w (by omega) (by omega)]
 split<;>omega
def bestN (t:List Nd):Nat→Int
 |0=>0
 |i+1=>if hgt (t,(0,())) i>hgt (t,(0,())) (bestN t i) then i else bestN t i
theorem bestN_rng (t:List Nd)(h:1≤t.length):∀i:Nat,i≤t.length→0≤bestN t i∧bestN t i<t.length
 |0,_=>by simp[bestN];omega
 |i+1,hi=>by
  have:=bestN_rng t h i (by omega)
  simp only[bestN]
  split<;>omega
def U8s (l:List Int):Prop:=∀s,s∈l→0≤s∧s≤255
theorem U8s.get {l:List Int}(h:U8s l)(i:Nat):0≤l.getD i 0∧l.getD i 0≤255:=by
 rw[List.getD_eq_getElem?_getD]
 cases e:l[i]? with
 |none=>simp
 |some v=>simpa using h v (List.mem_of_getElem? e)
def LLine.pre (l:List Int):Prop:=U8s l
def lineN (l:List Int):List Nd:=lnodes (l.take 60) (l.take 60).length
def LLine.fn (l:List Int):Tr:=(lineN l,(bestN (lineN l) (lineN l).length,()))
def LLine.inv3 (l:List Int)(_ t:Tr)(v:Int):Prop:=0≤v∧v≤(l.take 60).length∧t=(lnodes (l.take 60) v.toNat,(0,()))
def LLine.mes3 (l:List Int)(_ t:Tr)(v:Int):Nat:=((l.take 60).length-v).toNat
def LLine.inv9 (l:List Int)(s:Int)(_ t:Tr)(v:Int):Prop:=s=(lineN l).length∧0≤v∧v≤(lineN l).length∧t=(lineN l,(bestN (lineN l) v.toNat,()))
def LLine.mes9 (l:List Int)(s:Int)(_ t:Tr)(v:Int):Nat:=(s-v).toNat
def LLine.VC :Prop:=∀(x0:(List Int)),LLine.pre x0→(let v9:Nd:=(((0:Int),((List.replicate 32 (0:Int)),((List.replicate 32 (0:Int)),((0:Int),((0:Int),((0:Int),())))))),(((List.replicate 32 (0:Int)).set 0 (255:Int)),((-1:Int),((0:Int),((List.replicate 4 (0:Int)),())))))
 KSome.pre x0 (60:Int)∧(LLine.inv3 x0 ([],((0:Int),())) ([v9],((0:Int),())) (0:Int)∧∀(v2:Tre) (v3:Tre) (v15:Int),LLine.inv3 x0 v2 v3 v15→(((decide (v15<((KSome.fn x0 (60:Int)).length:Int)))=true→(0≤v15∧v15<((KSome.fn x0 (60:Int)).length:Int))∧(4:Int)≠0∧(let v22:Int:=(Int.tmod ((KSome.fn x0 (60:Int)).getD (Int.toNat v15) (0:Int)) (4:Int))
 (64:Int)≠0∧(let v25:Int:=(IntKind.u8.wrap (Int.tdiv ((KSome.fn x0 (60:Int)).getD (Int.toNat v15) (0:Int)) (64:Int)))
 (let v27:Int:=(IntKind.i64.wrap ((IntKind.i64.wrap v22)*(IntKind.i64.wrap v25)))
 (let v29:Int:=(if(IntKind.i64.wrap (v15-v27))>(0:Int) then(IntKind.i64.wrap (v15-v27)) else(0:Int))
 (let v34:Hdr:=((0:Int),((List.replicate 32 (0:Int)),((List.replicate 32 (0:Int)),((0:Int),((0:Int),((IntKind.u32.wrap v15),()))))))
 (let v37:(List Int):=(((List.replicate 32 (0:Int)).set 0 (IntKind.u8.wrap v15)).set 1 (1:Int))
 (0≤v29∧v29<(v3.1.length:Int))∧(let v44:Int:=(v3.1.getD (Int.toNat v29) (((0:Int),((List.replicate 32 (0:Int)),((List.replicate 32 (0:Int)),((0:Int),((0:Int),((0:Int),())))))),((List.replicate 32 (0:Int)),((0:Int),((0:Int),((List.replicate 4 (0:Int)),())))))).2.2.2.1
 (let v46:Nd:=(v34,(v37,(v29,((IntKind.i64.wrap (v44+(1:Int))),((List.replicate 4 (0:Int)),())))))
 Room (v3.1.length+[v46].length) 160∧(LLine.inv3 x0 v2 ((v3.1++[v46]),v3.2) (IntKind.i64.wrap (v15+(1:Int)))∧LLine.mes3 x0 v2 ((v3.1++[v46]),v3.2) (IntKind.i64.wrap (v15+(1:Int)))<LLine.mes3 x0 v2 v3 v15))))))))))∧((decide (v15<((KSome.fn x0 (60:Int)).length:Int)))=false→(LLine.inv9 x0 (v3.1.length:Int) v2 v3 (0:Int)∧∀(v2_1:Tre) (v3_1:Tre) (v54:Int),LLine.inv9 x0 (v3.1.length:Int) v2_1 v3_1 v54→(((decide (v54<(v3.1.length:Int)))=true→(0≤v54∧v54<(v3_1.1.length:Int))∧(let v62:Int:=(v3_1.1.getD (Int.toNat v54) (((0:Int),((List.replicate 32 (0:Int)),((List.replicate 32 (0:Int)),((0:Int),((0:Int),((0:Int),())))))),((List.replicate 32 (0:Int)),((0:Int),((0:Int),((List.replicate 4 (0:Int)),())))))).2.2.2.1
 (0≤v3_1.2.1∧v3_1.2.1<(v3_1.1.length:Int))∧(let v69:Int:=(v3_1.1.getD (Int.toNat v3_1.2.1) (((0:Int),((List.replicate 32 (0:Int)),((List.replicate 32 (0:Int)),((0:Int),((0:Int),((0:Int),())))))),((List.replicate 32 (0:Int)),((0:Int),((0:Int),((List.replicate 4 (0:Int)),())))))).2.2.2.1
 (((decide (v62>v69))=true→(LLine.inv9 x0 (v3.1.length:Int) v2_1 (v3_1.1,(v54,v3_1.2.2)) (IntKind.i64.wrap (v54+(1:Int)))∧LLine.mes9 x0 (v3.1.length:Int) v2_1 (v3_1.1,(v54,v3_1.2.2)) (IntKind.i64.wrap (v54+(1:Int)))<LLine.mes9 x0 (v3.1.length:Int) v2_1 v3_1 v54))∧((decide (v62>v69))=false→(LLine.inv9 x0 (v3.1.length:Int) v2_1 v3_1 (IntKind.i64.wrap (v54+(1:Int)))∧LLine.mes9 x0 (v3.1.length:Int) v2_1 v3_1 (IntKind.i64.wrap (v54+(1:Int)))<LLine.mes9 x0 (v3.1.length:Int) v2_1 v3_1 v54))))))∧((decide (v54<(v3.1.length:Int)))=false→(Ret1 v3_1 (LLine.fn x0)))))))))
theorem U8s.take {l:List Int}(h:U8s l)(n:Nat):U8s (l.take n):=fun s hs=>h s (List.mem_of_mem_take hs)
theorem LLine.vc :LLine.VC:=by
 intro l hp
 have hp:U8s l:=hp
 have hq:=hp.take 60
 have hlen:(l.take 60).length≤60:=by simp;omega
 have e60:KSome.fn l 60=l.take 60:=rfl
 simp only[e60]
 have hN:(lineN l).length=(l.take 60).length+1:=lnodes_len _ _
 simp only[imp_self,true_and,and_true,Bool.cond_true_left,Bool.cond_false_right,Bool.or_eq_true,Bool.or_eq_false_iff,Bool.and_eq_true,Bool.and_eq_false_iff,decide_eq_true_eq,decide_eq_false_iff_not,Bool.not_eq_true',Bool.not_eq_false',beq_iff_eq,bne_iff_ne,ne_eq,beq_eq_false_iff_ne,bne_eq_false_iff_eq,Int.not_lt,Int.not_le,gt_iff_lt,ge_iff_le,Decidable.not_not,Bool.not_eq_true,Bool.not_eq_false]
 try simp only[par_fold,hgt_fold,hsh_fold]
 refine⟨(by show(0:Int)≤60;omega),⟨by omega,by omega,rfl⟩, ?_⟩
 rintro v2 v3 v ⟨k1,k2,rfl⟩
 have hl3:=lnodes_len (l.take 60) v.toNat
 refine⟨fun hc=> ?_,fun hc=> ?_⟩
 ·obtain⟨g1,g2⟩:=hq.get v.toNat
  obtain⟨c1,c2⟩:=kOf_rng k1 (by omega) g1 g2
  have hk:(if(0:Int)<IntKind.i64.wrap (v-IntKind.i64.wrap (IntKind.i64.wrap (Int.tmod ((l.take 60).getD v.toNat 0) 4)*IntKind.i64.wrap (IntKind.u8.wrap (Int.tdiv ((l.take 60).getD v.toNat 0) 64)))) then IntKind.i64.wrap (v-IntKind.i64.wrap (IntKind.i64.wrap (Int.tmod ((l.take 60).getD v.toNat 0) 4)*IntKind.i64.wrap (IntKind.u8.wrap (Int.tdiv ((l.take 60).getD v.toNat 0) 64)))) else 0)=kOf v ((l.take 60).getD v.toNat 0):=rfl
  rw[hk]
  generalize hkk:kOf v ((l.take 60).getD v.toNat 0)=k at*
  rw[i64w (n:=v+1) (by omega) (by omega)]
  refine⟨⟨k1,hc⟩,by omega,by omega,⟨c1,by simp only[hl3];omega⟩,room_of (by simp[hl3];omega) (by omega),⟨by omega,by omega, ?_⟩,by simp only[LLine.mes3];omega⟩
  rw[show(v+1).toNat=v.toNat+1 by omega,lnodes,show((v.toNat:Nat):Int)=v by omega,hkk]
  rfl
 ·have hv:v.toNat=(l.take 60).length:=by omega
  rw[hv]
  have hfold:lnodes (l.take 60) (l.take 60).length=lineN l:=rfl
  rw[hfold]
  refine⟨⟨rfl,by omega,by omega,rfl⟩, ?_⟩
  rintro w2 w3 u ⟨j0,j1,j2,rfl⟩
  refine⟨fun hd=> ?_,fun hd=> ?_⟩
  ·obtain⟨b1,b2⟩:=bestN_rng (lineN l) (by omega) u.toNat (by omega)
   have hu:((u.toNat:Nat):Int)=u:=by omega
   have hs:bestN (lineN l) (u+1).toNat=if hgt (lineN l,(0,())) u>hgt (lineN l,(0,())) (bestN (lineN l) u.toNat) then u else bestN (lineN l) u.toNat:=by
    rw[show(u+1).toNat=u.toNat+1 by omega,bestN,hu]
   refine⟨⟨j1,by omega⟩,⟨b1,b2⟩,fun he=> ?_,fun he=> ?_⟩
   ·rw[i64w (by omega) (by omega)]
    have he':hgt (lineN l,(0,())) u>hgt (lineN l,(0,())) (bestN (lineN l) u.toNat):=he
    exact⟨⟨j0,by omega,by omega,by rw[hs,if_pos he']⟩,by simp only[LLine.mes9];omega⟩
   ·rw[i64w (by omega) (by omega)]
    have he':¬(hgt (lineN l,(0,())) u>hgt (lineN l,(0,())) (bestN (lineN l) u.toNat)):=Int.not_lt.2 he
    exact⟨⟨j0,by omega,by omega,by rw[hs,if_neg he']⟩,by simp only[LLine.mes9];omega⟩
  ·refine ret1.2 ?_
   have:u.toNat=(lineN l).length:=by omega
   rw[this];rfl
theorem lnodes_get (l:List Int)(m:Nat)(i:Nat)(d:Nd)(h:i≤m):(lnodes l (m+1)).getD i d=(lnodes l m).getD i d:=by
 simp only[lnodes,List.getD_eq_getElem?_getD]
 rw[List.getElem?_append_left (by rw[lnodes_len];omega)]
theorem lnodes_new (l:List Int)(m:Nat)(d:Nd):(lnodes l (m+1)).getD (m+1) d=nodeN m (kOf m (l.getD m 0)) (IntKind.i64.wrap (((lnodes l m).getD (kOf m (l.getD m 0)).toNat nd0).2.2.2.1+1)):=by
 simp only[lnodes,List.getD_eq_getElem?_getD]
 rw[List.getElem?_append_right (by rw[lnodes_len];omega),lnodes_len]
 simp
theorem lnodes_snd {l:List Int}(h:U8s l):∀(m:Nat),m≤60→∀b,SndTo (lnodes l m,(b,())) (m+1)∧par (lnodes l m,(b,())) 0= -1∧hgt (lnodes l m,(b,())) 0=0:=by
 intro m
 induction m with
 |zero=>intro _ b;exact⟨fun i h1 h2=>by omega,rfl,rfl⟩
 |succ m ih=>
  intro hm b
  obtain⟨i1,i2,i3⟩:=ih (by omega) b
  have old:∀i:Int,i≤m→par (lnodes l (m+1),(b,())) i=par (lnodes l m,(b,())) i∧hgt (lnodes l (m+1),(b,())) i=hgt (lnodes l m,(b,())) i:=by
   intro i hi
   simp only[par,hgt]
   rw[lnodes_get l m i.toNat nd0 (by omega)]
   exact⟨rfl,rfl⟩
  refine⟨fun i h1 h2=> ?_,by rw[(old 0 (by omega)).1,i2],by rw[(old 0 (by omega)).2,i3]⟩
  by_cases e:i=(m:Int)+1
  ·subst e
   obtain⟨g1,g2⟩:=h.get m
   obtain⟨c1,c2⟩:=kOf_rng (i:=m) (s:=l.getD m 0) (by omega) (by omega) g1 g2
   have hp:par (lnodes l (m+1),(b,())) ((m:Int)+1)=kOf m (l.getD m 0):=by
    simp only[par];rw[show((m:Int)+1).toNat=m+1 by omega,lnodes_new];rfl
   have hh:hgt (lnodes l (m+1),(b,())) ((m:Int)+1)=IntKind.i64.wrap (hgt (lnodes l m,(b,())) (kOf m (l.getD m 0))+1):=by
    simp only[hgt];rw[show((m:Int)+1).toNat=m+1 by omega,lnodes_new];rfl
   rw[hp]
   exact⟨c1,by omega,by rw[hh,(old _ c2).2]⟩
  ·obtain⟨a1,a2,a3⟩:=i1 i h1 (by omega)
   rw[(old i (by omega)).1,(old i (by omega)).2,(old _ (by omega)).2]
   exact⟨a1,a2,a3⟩
theorem line_snd {l:List Int}(h:U8s l):Snd (LLine.fn l):=by
 have hl:(LLine.fn l).1.length=(l.take 60).length+1:=lnodes_len _ _
 have h60:(l.take 60).length≤60:=by simp;omega
 obtain⟨b1,b2⟩:=bestN_rng (lineN l) (by have:=hl;simp only[LLine.fn] at this;omega) (lineN l).length (Nat.le_refl _)
 obtain⟨s1,s2,s3⟩:=lnodes_snd (h.take 60) (l.take 60).length h60 (bestN (lineN l) (lineN l).length)
 refine⟨⟨by omega,by omega⟩,⟨b1,b2⟩,⟨s2,s3⟩, ?_⟩
 have:((LLine.fn l).1.length:Int)=(l.take 60).length+1:=by omega
 rw[this];exact s1
def LSane.pre :Prop:=True
def LSane.fn :Bool:=true
def LSane.VC :Prop:=LSane.pre→(0≤(30:Int)∧(30:Int)≤(30:Int))∧Room ((30:Int)).toNat 1∧LLine.pre (List.replicate ((30:Int)).toNat (0:Int))∧BLocator.pre (LLine.fn (List.replicate ((30:Int)).toNat (0:Int))) (30:Int)∧(let v6:(List (List Int)):=(BLocator.fn (LLine.fn (List.replicate ((30:Int)).toNat (0:Int))) (30:Int))
 (((v6.length:Int)==(14:Int))=true→((v6.length:Int)==(14:Int))=true)∧(((v6.length:Int)==(14:Int))=true→(0≤(10:Int)∧(10:Int)<(v6.length:Int)))∧(((v6.length:Int)==(14:Int))=true→((v6.length:Int)==(14:Int))=true)∧(((v6.length:Int)==(14:Int))=true→((v6.length:Int)==(14:Int))=true)∧(((v6.length:Int)==(14:Int))=true→((v6.length:Int)==(14:Int))=true)∧(((v6.length:Int)==(14:Int))=true→(0≤(19:Int)∧(19:Int)<((LLine.fn (List.replicate ((30:Int)).toNat (0:Int))).1.length:Int)))∧(((v6.length:Int)==(14:Int))=true→((v6.length:Int)==(14:Int))=true)∧(((v6.length:Int)==(14:Int))=true→((v6.length:Int)==(14:Int))=true)∧(((v6.length:Int)==(14:Int))=true→((v6.length:Int)==(14:Int))=true)∧(((v6.length:Int)==(14:Int))=true→((v6.length:Int)==(14:Int))=true)∧(((v6.length:Int)==(14:Int))=true→((v6.length:Int)==(14:Int))=true)∧(let v20:Bool:=(bif ((v6.length:Int)==(14:Int)) then(Ty.beq (.arr 32 (.int .u8)) (v6.getD (Int.toNat (10:Int)) (List.replicate 32 (0:Int))) ((LLine.fn (List.replicate ((30:Int)).toNat (0:Int))).1.getD (Int.toNat (19:Int)) (((0:Int),((List.replicate 32 (0:Int)),((List.replicate 32 (0:Int)),((0:Int),((0:Int),((0:Int),())))))),((List.replicate 32 (0:Int)),((0:Int),((0:Int),((List.replicate 4 (0:Int)),())))))).2.1) else false)
 (v20=true→v20=true)∧(v20=true→(0≤(12:Int)∧(12:Int)<(v6.length:Int)))∧(v20=true→v20=true)∧(v20=true→v20=true)∧(v20=true→v20=true)∧(v20=true→(0≤(7:Int)∧(7:Int)<((LLine.fn (List.replicate ((30:Int)).toNat (0:Int))).1.length:Int)))∧(v20=true→v20=true)∧(v20=true→v20=true)∧(v20=true→v20=true)∧(v20=true→v20=true)∧(v20=true→v20=true)∧(let v31:Bool:=(bif v20 then(Ty.beq (.arr 32 (.int .u8)) (v6.getD (Int.toNat (12:Int)) (List.replicate 32 (0:Int))) ((LLine.fn (List.replicate ((30:Int)).toNat (0:Int))).1.getD (Int.toNat (7:Int)) (((0:Int),((List.replicate 32 (0:Int)),((List.replicate 32 (0:Int)),((0:Int),((0:Int),((0:Int),())))))),((List.replicate 32 (0:Int)),((0:Int),((0:Int),((List.replicate 4 (0:Int)),())))))).2.1) else false)
 (v31=true→v31=true)∧(v31=true→(0≤(13:Int)∧(13:Int)<(v6.length:Int)))∧(v31=true→v31=true)∧(v31=true→v31=true)∧(v31=true→v31=true)∧(v31=true→(0≤(0:Int)∧(0:Int)<((LLine.fn (List.replicate ((30:Int)).toNat (0:Int))).1.length:Int)))∧(v31=true→v31=true)∧(v31=true→v31=true)∧(v31=true→v31=true)∧(v31=true→v31=true)∧(v31=true→v31=true)∧(let v42:Bool:=(bif v31 then(Ty.beq (.arr 32 (.int .u8)) (v6.getD (Int.toNat (13:Int)) (List.replicate 32 (0:Int))) ((LLine.fn (List.replicate ((30:Int)).toNat (0:Int))).1.getD (Int.toNat (0:Int)) (((0:Int),((List.replicate 32 (0:Int)),((List.replicate 32 (0:Int)),((0:Int),((0:Int),((0:Int),())))))),((List.replicate 32 (0:Int)),((0:Int),((0:Int),((List.replicate 4 (0:Int)),())))))).2.1) else false)
 (v42=true→v42=true)∧(v42=true→BFork.pre (LLine.fn (List.replicate ((30:Int)).toNat (0:Int))) (3:Int) (9:Int))∧(v42=true→v42=true)∧(v42=true→v42=true)∧(let v47:Bool:=(bif v42 then((BFork.fn (LLine.fn (List.replicate ((30:Int)).toNat (0:Int))) (3:Int) (9:Int))==(3:Int)) else false)
 (v47=true→v47=true)∧(v47=true→BMain.pre (LLine.fn (List.replicate ((30:Int)).toNat (0:Int))))∧(v47=true→v47=true)∧(v47=true→v47=true)∧(v47=true→v47=true)∧(let v53:Bool:=(bif v47 then(((BMain.fn (LLine.fn (List.replicate ((30:Int)).toNat (0:Int)))).length:Int)==(31:Int)) else false)
 (Ret1 v53 LSane.fn)))))))
def ST :Tr:=LLine.fn (List.replicate 30 0)
theorem st_u8 :U8s (List.replicate 30 0):=fun s hs=>by
 have:=List.eq_of_mem_replicate hs
 omega
theorem st_snd :Snd ST:=line_snd st_u8
theorem st_len :ST.1.length=31:=by kernel_rfl
theorem st_nod {n:Int}(h1:0≤n)(h2:n<31):Nod ST n:=⟨h1,by rw[st_len];exact h2⟩
theorem st_line :lineOf ST 30=[0,1,2,3,4,5,6,7,8,9,10,11,12,13,14,15,16,17,18,19,20,21,22,23,24,25,26,27,28,29,30]:=by kernel_rfl
theorem st_hs :locHs (hgt ST 30)=[30,29,28,27,26,25,24,23,22,21,19,15,7,0]:=by kernel_rfl
theorem st_loc :BLocator.fn ST 30=[hsh ST 30,hsh ST 29,hsh ST 28,hsh ST 27,hsh ST 26,hsh ST 25,hsh ST 24,hsh ST 23,hsh ST 22,hsh ST 21,hsh ST 19,hsh ST 15,hsh ST 7,hsh ST 0]:=by
 rw[BLocator.fn,if_pos ⟨st_snd,st_nod (by omega) (by omega)⟩,st_hs]
 simp only[List.map_cons,List.map_nil,hashAt,st_line]
 rfl
theorem st_fork :BFork.fn ST 3 9=3:=by
 rw[BFork.fn,forkOf,if_pos ⟨st_snd,st_nod (by omega) (by omega),st_nod (by omega) (by omega)⟩]
 kernel_rfl
theorem st_main :(BMain.fn ST).length=31:=by
 rw[BMain.fn,if_pos st_snd,lineOf_len]
 kernel_rfl
theorem LSane.vc :LSane.VC:=by
 intro _
 have e0:LLine.fn (List.replicate ((30:Int)).toNat (0:Int))=ST:=rfl
 refine⟨by omega,room_of (by decide) (by omega),st_u8, ?_⟩
 rw[e0]
 have hl:=st_len
 have hm:=st_main
 have hf:=st_fork
 have v1:(BLocator.fn ST 30).length=14:=by rw[st_loc];rfl
 have v2:(BLocator.fn ST 30).getD (Int.toNat 10) (List.replicate 32 0)=hsh ST 19:=by rw[st_loc];rfl
 have v3:(BLocator.fn ST 30).getD (Int.toNat 12) (List.replicate 32 0)=hsh ST 7:=by rw[st_loc];rfl
 have v4:(BLocator.fn ST 30).getD (Int.toNat 13) (List.replicate 32 0)=hsh ST 0:=by rw[st_loc];rfl
 refine⟨(by show ST.1.length≤100;omega), ?_⟩
 generalize BLocator.fn ST 30=V at*
 have b1:((BFork.fn ST 3 9)==(3:Int))=true:=by rw[hf];rfl
 have b2:(((BMain.fn ST).length:Int)==31)=true:=by rw[hm];rfl
 simp only[hsh_fold,b1,b2,v2,v3,v4,beq_self,hl,v1,BFork.pre,BMain.pre]
 simp[LSane.fn,ret1]
theorem loc_facts :∀h:Fin 61,(locHs (h.val:Int)).length≤18∧1≤(locHs (h.val:Int)).length∧(locHs (h.val:Int)).getD 0 0=h.val∧(locHs (h.val:Int)).getD ((locHs (h.val:Int)).length-1) 0=0∧
 (∀j:Fin 18,j.val+1<(locHs (h.val:Int)).length→(locHs (h.val:Int)).getD (j.val+1) 0<(locHs (h.val:Int)).getD j.val 0)∧∀j:Fin 18,0≤(locHs (h.val:Int)).getD j.val 0∧(locHs (h.val:Int)).getD j.val 0≤h.val:=by decide+kernel
end Lc
