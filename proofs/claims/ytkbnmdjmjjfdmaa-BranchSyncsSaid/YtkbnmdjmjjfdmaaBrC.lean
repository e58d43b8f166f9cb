/- Chapter 16: where a locator meets the best line. -/
import Derived.Test.YtkbnmdjmjjfdmaaBrB
set_option linter.unusedVariables false
set_option linter.unusedSimpArgs false
namespace Lc
open Go
set_option maxRecDepth 10000
theorem mhas_put {K V:Ty}(h k:K.den)(v:V.den):∀(m:List (K.den×V.den)),mhas K V h (mput K V k v m)=(K.beq h k||mhas K V h m)
 |[]=>by simp[mput,mhas]
 |p::r=>by
  have ih:=mhas_put h k v r
  by_cases e:K.beq k p.1=true
  ·have e':=(beq_iff K _ _).1 e
   subst e'
   simp only[mput,beq_self,if_true,mhas]
   by_cases f:K.beq h p.1=true<;>simp[f]
  ·simp only[mput,if_neg e,mhas,ih]
   by_cases f:K.beq h p.1=true<;>by_cases g:K.beq h k=true<;>simp[f,g]
theorem mget_put {K V:Ty}(h k:K.den)(v d:V.den):∀(m:List (K.den×V.den)),mget K V h d (mput K V k v m)=if K.beq h k=true then v else mget K V h d m
 |[]=>by simp[mput,mget]
 |p::r=>by
  have ih:=mget_put h k v d r
  by_cases e:K.beq k p.1=true
  ·have e':=(beq_iff K _ _).1 e
   subst e'
   simp only[mput,beq_self,if_true,mget]
   by_cases f:K.beq h p.1=true<;>simp[f]
  ·simp only[mput,if_neg e,mget,ih]
   by_cases f:K.beq h p.1=true
   ·have f':=(beq_iff K _ _).1 f
    subst f'
    have:¬(K.beq p.1 k=true):=fun g=>e (by rw[(beq_iff K _ _).1 g];exact beq_self K _)
    rw[if_pos f,if_neg this,if_pos f]
   ·rw[if_neg f,if_neg f]
def idxN (t:Tr)(best:List Int)(n:Nat)(h:List Int):Option Nat:=(List.range n).find? (fun j=>decide (h=hsh t (best.getD j 0)))
theorem idxN_succ (t:Tr)(best:List Int)(n:Nat)(h:List Int):idxN t best (n+1) h=(idxN t best n h).or (if h=hsh t (best.getD n 0) then some n else none):=by
 simp only[idxN,List.range_succ,List.find?_append]
 congr 1
 simp only[List.find?_cons,List.find?_nil]
 generalize hsh t (best.getD n 0)=z
 by_cases e:h=z<;>simp[e]
def meetOf (t:Tr)(best:List Int):List (List Int)→Int
 |[]=>0
 |h::r=>match idxN t best best.length h with
  |some j=>(j:Int)
  |none=>meetOf t best r
def MOk (t:Tr)(best:List Int)(n:Nat)(m:List ((List Int)×Int)):Prop:=
 ∀h:List Int,mhas (.arr 32 (.int .u8)) (.int .i64) h m=(idxN t best n h).isSome∧mget (.arr 32 (.int .u8)) (.int .i64) h (0:Int) m=(((idxN t best n h).getD 0:Nat):Int)
theorem beqH (h k:List Int):Ty.beq (.arr 32 (.int .u8)) h k=decide (h=k):=beq_decide (.arr 32 (.int .u8)) h k
theorem MOk.put {t:Tr}{best:List Int}{n:Nat}{m:List ((List Int)×Int)}(h:MOk t best n m)(hn:mhas (.arr 32 (.int .u8)) (.int .i64) (hsh t (best.getD n 0)) m=false):
 MOk t best (n+1) (mput (.arr 32 (.int .u8)) (.int .i64) (hsh t (best.getD n 0)) (n:Int) m):=by
 intro k
 obtain⟨h1,h2⟩:=h k
 have e1:=mhas_put (K:= .arr 32 (.int .u8)) (V:= .int .i64) k (hsh t (best.getD n 0)) (n:Int) m
 have e2:=mget_put (K:= .arr 32 (.int .u8)) (V:= .int .i64) k (hsh t (best.getD n 0)) (n:Int) (0:Int) m
 rw[e1,e2,h1,h2,idxN_succ,beqH]
 clear e1 e2
 generalize hsh t (best.getD n 0)=z at*
 by_cases e:k=z
 ·subst e
  rw[hn] at h1
  have:idxN t best n k=none:=by
   cases hh:idxN t best n k with
   |none=>rfl
   |some j=>rw[hh] at h1;cases h1
  simp[this]
 ·simp[e]
theorem MOk.old {t:Tr}{best:List Int}{n:Nat}{m:List ((List Int)×Int)}(h:MOk t best n m)(hn:mhas (.arr 32 (.int .u8)) (.int .i64) (hsh t (best.getD n 0)) m=true):
 MOk t best (n+1) m:=by
 intro k
 obtain⟨h1,h2⟩:=h k
 rw[h1,h2,idxN_succ]
 generalize hsh t (best.getD n 0)=z at*
 by_cases e:k=z
 ·subst e
  rw[hn] at h1
  cases hh:idxN t best n k with
  |none=>rw[hh] at h1;cases h1
  |some j=>simp
 ·simp[e]
def BMeetH.pre (t:Tr)(best:List Int)(l:List (List Int)):Prop:=(∀j,j<best.length→Nod t (best.getD j 0))∧best.length≤1000000000∧l.length≤1000000000
def BMeetH.fn (t:Tr)(best:List Int)(l:List (List Int)):Int:=meetOf t best l
def BMeetH.inv3 (t:Tr)(best:List Int)(l:List (List Int))(m:List ((List Int)×Int))(v:Int):Prop:=0≤v∧v≤best.length∧MOk t best v.toNat m
def BMeetH.mes3 (t:Tr)(best:List Int)(l:List (List Int))(m:List ((List Int)×Int))(v:Int):Nat:=(best.length-v).toNat
def BMeetH.inv11 (t:Tr)(best:List Int)(l:List (List Int))(m:List ((List Int)×Int))(v:Int):Prop:=0≤v∧v≤l.length∧MOk t best best.length m∧meetOf t best l=meetOf t best (l.drop v.toNat)
def BMeetH.mes11 (t:Tr)(best:List Int)(l:List (List Int))(m:List ((List Int)×Int))(v:Int):Nat:=(l.length-v).toNat
def BMeetH.VC :Prop:=∀(x0:Tre) (x1:(List Int)) (x2:(List (List Int))),BMeetH.pre x0 x1 x2→(BMeetH.inv3 x0 x1 x2 ([]:(List ((List Int)×Int))) (0:Int)∧∀(v7:(List ((List Int)×Int))) (v20:Int),BMeetH.inv3 x0 x1 x2 v7 v20→(((decide (v20<(x1.length:Int)))=true→(0≤v20∧v20<(x1.length:Int))∧(0≤(x1.getD (Int.toNat v20) (0:Int))∧(x1.getD (Int.toNat v20) (0:Int))<(x0.1.length:Int))∧(let v30:(List Int):=(x0.1.getD (Int.toNat (x1.getD (Int.toNat v20) (0:Int))) (((0:Int),((List.replicate 32 (0:Int)),((List.replicate 32 (0:Int)),((0:Int),((0:Int),((0:Int),())))))),((List.replicate 32 (0:Int)),((0:Int),((0:Int),((List.replicate 4 (0:Int)),())))))).2.1
 (((!(mhas (.arr 32 (.int .u8)) (.int .i64) v30 v7))=true→(BMeetH.inv3 x0 x1 x2 (mput (.arr 32 (.int .u8)) (.int .i64) v30 v20 v7) (IntKind.i64.wrap (v20+(1:Int)))∧BMeetH.mes3 x0 x1 x2 (mput (.arr 32 (.int .u8)) (.int .i64) v30 v20 v7) (IntKind.i64.wrap (v20+(1:Int)))<BMeetH.mes3 x0 x1 x2 v7 v20))∧((!(mhas (.arr 32 (.int .u8)) (.int .i64) v30 v7))=false→(BMeetH.inv3 x0 x1 x2 v7 (IntKind.i64.wrap (v20+(1:Int)))∧BMeetH.mes3 x0 x1 x2 v7 (IntKind.i64.wrap (v20+(1:Int)))<BMeetH.mes3 x0 x1 x2 v7 v20)))))∧((decide (v20<(x1.length:Int)))=false→(BMeetH.inv11 x0 x1 x2 v7 (0:Int)∧∀(v7_1:(List ((List Int)×Int))) (v45:Int),BMeetH.inv11 x0 x1 x2 v7_1 v45→(((decide (v45<(x2.length:Int)))=true→(0≤v45∧v45<(x2.length:Int))∧(let v53:Int:=(mget (.arr 32 (.int .u8)) (.int .i64) (x2.getD (Int.toNat v45) (List.replicate 32 (0:Int))) (0:Int) v7_1)
 (let v54:Bool:=(mhas (.arr 32 (.int .u8)) (.int .i64) (x2.getD (Int.toNat v45) (List.replicate 32 (0:Int))) v7_1)
 ((v54=true→(Ret1 v53 (BMeetH.fn x0 x1 x2)))∧(v54=false→(BMeetH.inv11 x0 x1 x2 v7_1 (IntKind.i64.wrap (v45+(1:Int)))∧BMeetH.mes11 x0 x1 x2 v7_1 (IntKind.i64.wrap (v45+(1:Int)))<BMeetH.mes11 x0 x1 x2 v7_1 v45))))))∧((decide (v45<(x2.length:Int)))=false→(Ret1 (0:Int) (BMeetH.fn x0 x1 x2))))))))
theorem drop_getH {x:List (List Int)}{v:Nat}{d:List Int}(h:v<x.length):x.drop v=x.getD v d::x.drop (v+1):=by
 rw[List.drop_eq_getElem_cons h];simp[List.getD_eq_getElem?_getD,h]
theorem BMeetH.vc :BMeetH.VC:=by
 rintro t best l ⟨p1,p2,p3⟩
 refine⟨⟨by omega,by omega,fun h=>⟨rfl,rfl⟩⟩, ?_⟩
 rintro m v ⟨k1,k2,k3⟩
 refine⟨fun hc=> ?_,fun hc=> ?_⟩
 ·have hc:=of_decide_eq_true hc
  refine⟨⟨k1,hc⟩,p1 _ (by omega),fun hd=> ?_,fun hd=> ?_⟩
  ·rw[hsh_fold] at hd⊢
   rw[i64w (by omega) (by omega)]
   have:=k3.put (by simpa using hd)
   rw[show((v.toNat:Nat):Int)=v by omega] at this
   exact⟨⟨by omega,by omega,by rw[show(v+1).toNat=v.toNat+1 by omega];exact this⟩,by simp only[BMeetH.mes3];omega⟩
  ·rw[hsh_fold] at hd
   rw[i64w (by omega) (by omega)]
   have:=k3.old (by simpa using hd)
   exact⟨⟨by omega,by omega,by rw[show(v+1).toNat=v.toNat+1 by omega];exact this⟩,by simp only[BMeetH.mes3];omega⟩
 ·have hc:=of_decide_eq_false hc
  have hv:v.toNat=best.length:=by omega
  rw[hv] at k3
  refine⟨⟨by omega,by omega,k3,by simp⟩, ?_⟩
  rintro m2 w ⟨j1,j2,j3,j4⟩
  refine⟨fun hd=> ?_,fun hd=> ?_⟩
  ·have hd:=of_decide_eq_true hd
   have hdr:=drop_getH (x:=l) (v:=w.toNat) (d:=List.replicate 32 0) (by omega)
   obtain⟨q1,q2⟩:=j3 (l.getD w.toNat (List.replicate 32 0))
   refine⟨⟨j1,hd⟩,fun he=>ret1.2 ?_,fun he=>⟨⟨?_, ?_,j3, ?_⟩, ?_⟩⟩
   ·rw[q1] at he
    rw[q2,BMeetH.fn,j4,hdr,meetOf]
    cases hi:idxN t best best.length (l.getD w.toNat (List.replicate 32 0)) with
    |none=>rw[hi] at he;cases he
    |some j=>rfl
   ·rw[i64w (by omega) (by omega)];omega
   ·rw[i64w (by omega) (by omega)];omega
   ·rw[i64w (by omega) (by omega),show(w+1).toNat=w.toNat+1 by omega,j4,hdr,meetOf]
    rw[q1] at he
    cases hi:idxN t best best.length (l.getD w.toNat (List.replicate 32 0)) with
    |none=>rfl
    |some j=>rw[hi] at he;cases he
   ·rw[i64w (by omega) (by omega)];simp only[BMeetH.mes11];omega
  ·have hd:=of_decide_eq_false hd
   refine ret1.2 ?_
   rw[BMeetH.fn,j4,List.drop_eq_nil_of_le (by omega)];rfl
theorem idxN_lt {t:Tr}{best:List Int}{n:Nat}{h:List Int}{j:Nat}(e:idxN t best n h=some j):j<n∧h=hsh t (best.getD j 0):=by
 have h1:=List.mem_of_find?_eq_some e
 have h2:=List.find?_some e
 exact⟨List.mem_range.1 h1,of_decide_eq_true h2⟩
theorem meetOf_rng (t:Tr)(best:List Int)(h1:1≤best.length):∀l,0≤meetOf t best l∧meetOf t best l<best.length
 |[]=>by simp only[meetOf];omega
 |h::r=>by
  rw[meetOf]
  cases e:idxN t best best.length h with
  |none=>exact meetOf_rng t best h1 r
  |some j=>have:=(idxN_lt e).1;simp only;omega
def BMeet.pre (t:Tr)(l:List (List Int)):Prop:=l.length≤1000000000
noncomputable def BMeet.fn (t:Tr)(l:List (List Int)):Int:=if Snd t then(lineOf t t.2.1).getD (meetOf t (lineOf t t.2.1) l).toNat 0 else-1
def BMeet.VC :Prop:=∀(x0:Tre) (x1:(List (List Int))),BMeet.pre x0 x1→BSound.pre x0∧(((!(BSound.fn x0))=true→(Ret1 (-1:Int) (BMeet.fn x0 x1)))∧((!(BSound.fn x0))=false→BLine.pre x0 x0.2.1∧BMeetH.pre x0 (BLine.fn x0 x0.2.1) x1∧(0≤(BMeetH.fn x0 (BLine.fn x0 x0.2.1) x1)∧(BMeetH.fn x0 (BLine.fn x0 x0.2.1) x1)<((BLine.fn x0 x0.2.1).length:Int))∧(let v19:Int:=((BLine.fn x0 x0.2.1).getD (Int.toNat (BMeetH.fn x0 (BLine.fn x0 x0.2.1) x1)) (0:Int))
 (Ret1 v19 (BMeet.fn x0 x1)))))
theorem BMeet.vc :BMeet.VC:=by
 intro t l hp
 have hp:l.length≤1000000000:=hp
 simp only[imp_self,true_and,and_true,Bool.cond_true_left,Bool.cond_false_right,Bool.or_eq_true,Bool.or_eq_false_iff,Bool.and_eq_true,Bool.and_eq_false_iff,decide_eq_true_eq,decide_eq_false_iff_not,Bool.not_eq_true',Bool.not_eq_false',beq_iff_eq,bne_iff_ne,ne_eq,beq_eq_false_iff_ne,bne_eq_false_iff_eq,Int.not_lt,Int.not_le,gt_iff_lt,ge_iff_le,Decidable.not_not,Bool.not_eq_true,Bool.not_eq_false]
 try simp only[par_fold,hgt_fold,hsh_fold]
 simp only[BSound.fn,decide_eq_false_iff_not,decide_eq_true_eq]
 refine⟨trivial,fun h=>ret1.2 (by rw[BMeet.fn,if_neg h]),fun h=> ?_⟩
 have hb:Nod t t.2.1:=h.2.1
 have hg:=hgt_nn h hb
 have hl:=lineOf_len t t.2.1
 have h3:(t.1.length:Int)≤4096:=by have:=h.1.2;omega
 have hb2:=hb.2
 refine⟨⟨h,hb⟩,⟨fun j hj=>(lineOf_nod h hb (h:=j) ?_).1, ?_,hp⟩,meetOf_rng t _ ?_ l,ret1.2 ?_⟩
 ·simp only[BLine.fn] at hj;omega
 ·simp only[BLine.fn];omega
 ·simp only[BLine.fn];omega
 ·rw[BMeet.fn,if_pos h];rfl
end Lc
