/- Chapter 16: trees, lines, forks, locators: what the functions compute. -/
import Derived.Test.YtkbnmdjmjjfdmaaTreeI
import Derived.Test.YtkbnmdjmjjfdmaaRulings
set_option linter.unusedVariables false
set_option linter.unusedSimpArgs false
namespace Lc
open Go
set_option maxRecDepth 10000
abbrev Tr :Type:=List Nd×(Int×Unit)
abbrev nd0 :Nd:=(((0:Int),((List.replicate 32 (0:Int)),((List.replicate 32 (0:Int)),((0:Int),((0:Int),((0:Int),())))))),((List.replicate 32 (0:Int)),((0:Int),((0:Int),((List.replicate 4 (0:Int)),())))))
def par (t:Tr)(n:Int):Int:=(t.1.getD (Int.toNat n) nd0).2.2.1
def hgt (t:Tr)(n:Int):Int:=(t.1.getD (Int.toNat n) nd0).2.2.2.1
def hsh (t:Tr)(n:Int):List Int:=(t.1.getD (Int.toNat n) nd0).2.1
theorem par_fold (t:Tr)(n:Int):(t.1.getD (Int.toNat n) (((0:Int),((List.replicate 32 (0:Int)),((List.replicate 32 (0:Int)),((0:Int),((0:Int),((0:Int),())))))),((List.replicate 32 (0:Int)),((0:Int),((0:Int),((List.replicate 4 (0:Int)),())))))).2.2.1=par t n:=rfl
theorem hgt_fold (t:Tr)(n:Int):(t.1.getD (Int.toNat n) (((0:Int),((List.replicate 32 (0:Int)),((List.replicate 32 (0:Int)),((0:Int),((0:Int),((0:Int),())))))),((List.replicate 32 (0:Int)),((0:Int),((0:Int),((List.replicate 4 (0:Int)),())))))).2.2.2.1=hgt t n:=rfl
theorem hsh_fold (t:Tr)(n:Int):(t.1.getD (Int.toNat n) (((0:Int),((List.replicate 32 (0:Int)),((List.replicate 32 (0:Int)),((0:Int),((0:Int),((0:Int),())))))),((List.replicate 32 (0:Int)),((0:Int),((0:Int),((List.replicate 4 (0:Int)),())))))).2.1=hsh t n:=rfl
def SndTo (t:Tr)(m:Int):Prop:=∀i:Int,1≤i→i<m→0≤par t i∧par t i<i∧hgt t i=IntKind.i64.wrap (hgt t (par t i)+1)
def Snd (t:Tr):Prop:=(1≤t.1.length∧t.1.length≤4096)∧(0≤t.2.1∧t.2.1<t.1.length)∧(par t 0= -1∧hgt t 0=0)∧SndTo t t.1.length
def Nod (t:Tr)(n:Int):Prop:=0≤n∧n<t.1.length
instance (t :Tr) (n:Int):Decidable (Nod t n):=inferInstanceAs (Decidable (_∧_))
noncomputable instance (t :Tr):Decidable (Snd t):=Classical.propDecidable _
theorem SndTo.succ {t:Tr}{v:Int}(h:SndTo t v)(hv:1≤v→0≤par t v∧par t v<v∧hgt t v=IntKind.i64.wrap (hgt t (par t v)+1)):SndTo t (v+1):=by
 intro i h1 h2
 by_cases e:i=v
 ·subst e;exact hv h1
 ·exact h i h1 (by omega)
def BNode.pre (_:Tr)(_:Int):Prop:=True
def BNode.fn (t:Tr)(n:Int):Bool:=decide (Nod t n)
def BNode.VC :Prop:=∀(x0:Tre) (x1:Int),BNode.pre x0 x1→((decide (x1≥(0:Int)))=true→(decide (x1≥(0:Int)))=true)∧((decide (x1≥(0:Int)))=true→(decide (x1≥(0:Int)))=true)∧((decide (x1≥(0:Int)))=true→(decide (x1≥(0:Int)))=true)∧((decide (x1≥(0:Int)))=true→(decide (x1≥(0:Int)))=true)∧((decide (x1≥(0:Int)))=true→(decide (x1≥(0:Int)))=true)∧(let v13:Bool:=(bif (decide (x1≥(0:Int))) then(decide (x1<(x0.1.length:Int))) else false)
 (Ret1 v13 (BNode.fn x0 x1)))
theorem BNode.vc :BNode.VC:=by
 intro t n _
 simp only[imp_self,true_and,and_true,Bool.cond_true_left,Bool.cond_false_right,Bool.or_eq_true,Bool.or_eq_false_iff,Bool.and_eq_true,Bool.and_eq_false_iff,decide_eq_true_eq,decide_eq_false_iff_not,Bool.not_eq_true',Bool.not_eq_false',beq_iff_eq,bne_iff_ne,ne_eq,beq_eq_false_iff_ne,bne_eq_false_iff_eq,Int.not_lt,Int.not_le,gt_iff_lt,ge_iff_le,Decidable.not_not,Bool.not_eq_true,Bool.not_eq_false]
 try simp only[par_fold,hgt_fold,hsh_fold]
 refine ret1.2 ?_
 simp only[BNode.fn,Nod]
 by_cases h1:0≤n<;>by_cases h2:n<(t.1.length:Int)<;>simp[h1,h2]
def BSound.pre (_:Tr):Prop:=True
noncomputable def BSound.fn (t:Tr):Bool:=decide (Snd t)
def BSound.inv6 (t:Tr)(v:Int):Prop:=((1≤t.1.length∧t.1.length≤4096)∧(0≤t.2.1∧t.2.1<t.1.length)∧(par t 0= -1∧hgt t 0=0))∧0≤v∧v≤t.1.length∧SndTo t v
def BSound.mes6 (t:Tr)(v:Int):Nat:=(t.1.length-v).toNat
def BSound.VC :Prop:=∀(x0:Tre),BSound.pre x0→((decide ((x0.1.length:Int)<(1:Int)))=false→(decide ((x0.1.length:Int)<(1:Int)))=false)∧((decide ((x0.1.length:Int)<(1:Int)))=false→(decide ((x0.1.length:Int)<(1:Int)))=false)∧((decide ((x0.1.length:Int)<(1:Int)))=false→(decide ((x0.1.length:Int)<(1:Int)))=false)∧((decide ((x0.1.length:Int)<(1:Int)))=false→(decide ((x0.1.length:Int)<(1:Int)))=false)∧(let v14:Bool:=(bif (decide ((x0.1.length:Int)<(1:Int))) then true else(decide ((x0.1.length:Int)>(4096:Int))))
 (v14=false→v14=false)∧(v14=false→v14=false)∧(v14=false→v14=false)∧(v14=false→BNode.pre x0 x0.2.1)∧(v14=false→v14=false)∧(v14=false→v14=false)∧(((bif v14 then true else(!(BNode.fn x0 x0.2.1)))=true→(Ret1 false (BSound.fn x0)))∧((bif v14 then true else(!(BNode.fn x0 x0.2.1)))=false→(0≤(0:Int)∧(0:Int)<(x0.1.length:Int))∧(let v26:Int:=(x0.1.getD (Int.toNat (0:Int)) (((0:Int),((List.replicate 32 (0:Int)),((List.replicate 32 (0:Int)),((0:Int),((0:Int),((0:Int),())))))),((List.replicate 32 (0:Int)),((0:Int),((0:Int),((List.replicate 4 (0:Int)),())))))).2.2.1
 ((v26 !=(-1:Int))=false→(v26 !=(-1:Int))=false)∧((v26 !=(-1:Int))=false→(v26 !=(-1:Int))=false)∧((v26 !=(-1:Int))=false→(0≤(0:Int)∧(0:Int)<(x0.1.length:Int)))∧((v26 !=(-1:Int))=false→(v26 !=(-1:Int))=false)∧((v26 !=(-1:Int))=false→(v26 !=(-1:Int))=false)∧((v26 !=(-1:Int))=false→(v26 !=(-1:Int))=false)∧((v26 !=(-1:Int))=false→(v26 !=(-1:Int))=false)∧(let v35:Bool:=(bif (v26 !=(-1:Int)) then true else((x0.1.getD (Int.toNat (0:Int)) (((0:Int),((List.replicate 32 (0:Int)),((List.replicate 32 (0:Int)),((0:Int),((0:Int),((0:Int),())))))),((List.replicate 32 (0:Int)),((0:Int),((0:Int),((List.replicate 4 (0:Int)),())))))).2.2.2.1 !=(0:Int)))
 ((v35=true→(Ret1 false (BSound.fn x0)))∧(v35=false→(BSound.inv6 x0 (0:Int)∧∀(v39:Int),BSound.inv6 x0 v39→(((decide (v39<(x0.1.length:Int)))=true→(0≤v39∧v39<(x0.1.length:Int))∧(let v43:Nd:=(x0.1.getD (Int.toNat v39) (((0:Int),((List.replicate 32 (0:Int)),((List.replicate 32 (0:Int)),((0:Int),((0:Int),((0:Int),())))))),((List.replicate 32 (0:Int)),((0:Int),((0:Int),((List.replicate 4 (0:Int)),()))))))
 (let v4h:Nd:=(((0:Int),((List.replicate 32 (0:Int)),((List.replicate 32 (0:Int)),((0:Int),((0:Int),((0:Int),())))))),((List.replicate 32 (0:Int)),((0:Int),((0:Int),((List.replicate 4 (0:Int)),())))))
 (((v39==(0:Int))=true→(BSound.inv6 x0 (IntKind.i64.wrap (v39+(1:Int)))∧BSound.mes6 x0 (IntKind.i64.wrap (v39+(1:Int)))<BSound.mes6 x0 v39))∧((v39==(0:Int))=false→((decide (v43.2.2.1<(0:Int)))=false→(decide (v43.2.2.1<(0:Int)))=false)∧((decide (v43.2.2.1<(0:Int)))=false→(decide (v43.2.2.1<(0:Int)))=false)∧((decide (v43.2.2.1<(0:Int)))=false→(decide (v43.2.2.1<(0:Int)))=false)∧((decide (v43.2.2.1<(0:Int)))=false→(decide (v43.2.2.1<(0:Int)))=false)∧(let v54:Bool:=(bif (decide (v43.2.2.1<(0:Int))) then true else(decide (v43.2.2.1≥v39)))
 (v54=false→v54=false)∧(v54=false→v54=false)∧(v54=false→v54=false)∧(v54=false→v54=false)∧(v54=false→v54=false)∧(v54=false→(0≤v43.2.2.1∧v43.2.2.1<(x0.1.length:Int)))∧(v54=false→v54=false)∧(v54=false→v54=false)∧(v54=false→v54=false)∧(v54=false→v54=false)∧(v54=false→v54=false)∧(v54=false→v54=false)∧(let v67:Bool:=(bif v54 then true else(v43.2.2.2.1 !=(IntKind.i64.wrap ((x0.1.getD (Int.toNat v43.2.2.1) (((0:Int),((List.replicate 32 (0:Int)),((List.replicate 32 (0:Int)),((0:Int),((0:Int),((0:Int),())))))),((List.replicate 32 (0:Int)),((0:Int),((0:Int),((List.replicate 4 (0:Int)),())))))).2.2.2.1+(1:Int)))))
 ((v67=true→(Ret1 false (BSound.fn x0)))∧(v67=false→(BSound.inv6 x0 (IntKind.i64.wrap (v39+(1:Int)))∧BSound.mes6 x0 (IntKind.i64.wrap (v39+(1:Int)))<BSound.mes6 x0 v39))))))))))∧((decide (v39<(x0.1.length:Int)))=false→(Ret1 true (BSound.fn x0))))))))))))
theorem BSound.vc :BSound.VC:=by
 intro t _
 simp only[imp_self,true_and,and_true,Bool.cond_true_left,Bool.cond_false_right,Bool.or_eq_true,Bool.or_eq_false_iff,Bool.and_eq_true,Bool.and_eq_false_iff,decide_eq_true_eq,decide_eq_false_iff_not,Bool.not_eq_true',Bool.not_eq_false',beq_iff_eq,bne_iff_ne,ne_eq,beq_eq_false_iff_ne,bne_eq_false_iff_eq,Int.not_lt,Int.not_le,gt_iff_lt,ge_iff_le,Decidable.not_not,Bool.not_eq_true,Bool.not_eq_false]
 try simp only[par_fold,hgt_fold,hsh_fold]
 refine⟨fun _=>trivial, ?_, ?_⟩
 ·intro h
  refine ret1.2 (Eq.symm (decide_eq_false (fun hs=> ?_)))
  obtain⟨⟨a1,a2⟩,a3,_⟩:=hs
  rcases h with(h|h)|h
  ·omega
  ·omega
  ·simp only[BNode.fn,decide_eq_false_iff_not] at h;exact h a3
 ·intro h
  obtain⟨⟨h1,h2⟩,h3⟩:=h
  simp only[BNode.fn,decide_eq_true_eq] at h3
  refine⟨by omega,fun _=>by omega, ?_, ?_⟩
  ·intro h
   refine ret1.2 (Eq.symm (decide_eq_false (fun hs=> ?_)))
   obtain⟨_,_,⟨a1,a2⟩,_⟩:=hs
   rcases h with h|h
   ·exact h a1
   ·exact h a2
  ·rintro⟨h4,h5⟩
   refine⟨⟨⟨⟨by omega,by omega⟩,h3,h4,h5⟩,by omega,by omega,fun i a b=>by omega⟩, ?_⟩
   rintro v ⟨hb,v1,v2,v3⟩
   refine⟨fun hc=>⟨⟨v1,hc⟩, ?_, ?_⟩,fun hc=> ?_⟩
   ·intro e
    subst e
    rw[i64w (by omega) (by omega)]
    exact⟨⟨hb,by omega,by omega,v3.succ (fun h=>by omega)⟩,by simp only[BSound.mes6];omega⟩
   ·intro e
    refine⟨fun hh=>by omega, ?_, ?_⟩
    ·intro h
     refine ret1.2 (Eq.symm (decide_eq_false (fun hs=> ?_)))
     obtain⟨_,_,_,a⟩:=hs
     obtain⟨b1,b2,b3⟩:=a v (by omega) hc
     rcases h with(h|h)|h
     ·omega
     ·omega
     ·exact h b3
    ·rintro⟨⟨g1,g2⟩,g3⟩
     rw[i64w (n:=v+1) (by omega) (by omega)]
     exact⟨⟨hb,by omega,by omega,v3.succ (fun h=>⟨g1,g2,g3⟩)⟩,by simp only[BSound.mes6];omega⟩
   ·refine ret1.2 (Eq.symm (decide_eq_true ?_))
    have:v=t.1.length:=by omega
    subst this
    exact⟨hb.1,hb.2.1,hb.2.2,v3⟩
theorem hgt_par0 {t:Tr}(hs:Snd t):∀(k:Nat) (n:Int),n.toNat=k→Nod t n→0≤hgt t n∧hgt t n≤n∧(1≤n→Nod t (par t n)∧par t n<n∧hgt t n=hgt t (par t n)+1):=by
 obtain⟨⟨a1,a2⟩,_,⟨a3,a4⟩,a5⟩:=hs
 intro k
 induction k using Nat.strongRecOn with
 |_ k ih=>
  rintro n hk ⟨h1,h2⟩
  by_cases h0:n=0
  ·subst h0;rw[a4];exact⟨by omega,by omega,fun h=>by omega⟩
  ·obtain⟨b1,b2,b3⟩:=a5 n (by omega) h2
   obtain⟨c1,c2,_⟩:=ih (par t n).toNat (by omega) (par t n) rfl ⟨b1,by omega⟩
   rw[i64w (by omega) (by omega)] at b3
   exact⟨by omega,by omega,fun _=>⟨⟨b1,by omega⟩,b2,b3⟩⟩
theorem hgt_nn {t:Tr}(hs:Snd t){n:Int}(hn:Nod t n):0≤hgt t n∧hgt t n≤n:=⟨(hgt_par0 hs _ n rfl hn).1,(hgt_par0 hs _ n rfl hn).2.1⟩
theorem hgt_par {t:Tr}(hs:Snd t){n:Int}(hn:Nod t n)(h:1≤n):Nod t (par t n)∧par t n<n∧hgt t n=hgt t (par t n)+1:=(hgt_par0 hs _ n rfl hn).2.2 h
theorem hgt_zero {t:Tr}(hs:Snd t){n:Int}(hn:Nod t n)(h:hgt t n=0):n=0:=by
 by_cases h1:1≤n
 ·obtain⟨g1,_,g2⟩:=hgt_par hs hn h1
  have:=(hgt_nn hs g1).1
  omega
 ·have:=hn.1;omega
def anc (t:Tr):Nat→Int→Int
 |0,n=>n
 |k+1,n=>par t (anc t k n)
theorem anc_nod {t:Tr}(hs:Snd t){n:Int}(hn:Nod t n):∀k:Nat,(k:Int)≤hgt t n→Nod t (anc t k n)∧hgt t (anc t k n)=hgt t n-k:=by
 intro k
 induction k with
 |zero=>intro _;exact⟨hn,by simp[anc]⟩
 |succ k ih=>
  intro hk
  obtain⟨i1,i2⟩:=ih (by omega)
  have h1:1≤anc t k n:=by
   have:=(hgt_nn hs i1).2
   omega
  obtain⟨g1,g2,g3⟩:=hgt_par hs i1 h1
  exact⟨g1,by show hgt t (par t (anc t k n))=_;omega⟩
theorem anc_root {t:Tr}(hs:Snd t){n:Int}(hn:Nod t n){k:Nat}(hk:(k:Int)=hgt t n):anc t k n=0:=by
 obtain⟨h1,h2⟩:=anc_nod hs hn k (by omega)
 exact hgt_zero hs h1 (by omega)
def lineOf (t:Tr)(n:Int):List Int:=(List.range (hgt t n+1).toNat).map (fun h=>anc t ((hgt t n).toNat-h) n)
theorem lineOf_len (t:Tr)(n:Int):(lineOf t n).length=(hgt t n+1).toNat:=by simp[lineOf]
theorem lineOf_get {t:Tr}{n:Int}{h:Nat}(hh:(h:Int)≤hgt t n):(lineOf t n).getD h 0=anc t ((hgt t n).toNat-h) n:=by
 rw[List.getD_eq_getElem?_getD]
 simp only[lineOf]
 rw[List.getElem?_map,List.getElem?_range (by omega)];rfl
theorem lineOf_nod {t:Tr}(hs:Snd t){n:Int}(hn:Nod t n){h:Nat}(hh:(h:Int)≤hgt t n):Nod t ((lineOf t n).getD h 0)∧hgt t ((lineOf t n).getD h 0)=h:=by
 rw[lineOf_get hh]
 obtain⟨h1,h2⟩:=anc_nod hs hn ((hgt t n).toNat-h) (by omega)
 exact⟨h1,by rw[h2];omega⟩
theorem lineOf_eq {t:Tr}{n:Int}{l:List Int}(h0:0≤hgt t n)(hl:(l.length:Int)=hgt t n+1)(h:∀j:Nat,(j:Int)≤hgt t n→l.getD ((hgt t n).toNat-j) 0=anc t j n):l=lineOf t n:=by
 apply List.ext_getElem?
 intro i
 by_cases hi:i<l.length
 ·have e1:=h ((hgt t n).toNat-i) (by omega)
  rw[show(hgt t n).toNat-((hgt t n).toNat-i)=i by omega] at e1
  have e2:=lineOf_get (t:=t) (n:=n) (h:=i) (by omega)
  rw[←e1] at e2
  rw[List.getD_eq_getElem?_getD,List.getD_eq_getElem?_getD] at e2
  have l2:i<(lineOf t n).length:=by rw[lineOf_len];omega
  rw[List.getElem?_eq_getElem hi,List.getElem?_eq_getElem l2] at e2⊢
  simp only[Option.getD_some] at e2
  rw[e2]
 ·rw[List.getElem?_eq_none (by omega),List.getElem?_eq_none (by rw[lineOf_len];omega)]
def BLine.pre (t:Tr)(n:Int):Prop:=Snd t∧Nod t n
def BLine.fn (t:Tr)(n:Int):List Int:=lineOf t n
def BLine.inv3 (t:Tr)(n v1:Int)(v5:List Int)(v17:Int):Prop:=0≤v17∧v17≤hgt t n+1∧(v5.length:Int)=hgt t n+1∧(v17≤hgt t n→v1=anc t v17.toNat n)∧∀j:Nat,(j:Int)<v17→v5.getD ((hgt t n).toNat-j) 0=anc t j n
def BLine.mes3 (t:Tr)(n v1:Int)(v5:List Int)(v17:Int):Nat:=(hgt t n+1-v17).toNat
def BLine.VC :Prop:=∀(x0:Tre) (x1:Int),BLine.pre x0 x1→(0≤x1∧x1<(x0.1.length:Int))∧(let v12:Int:=(x0.1.getD (Int.toNat x1) (((0:Int),((List.replicate 32 (0:Int)),((List.replicate 32 (0:Int)),((0:Int),((0:Int),((0:Int),())))))),((List.replicate 32 (0:Int)),((0:Int),((0:Int),((List.replicate 4 (0:Int)),())))))).2.2.2.1
 (0≤(IntKind.i64.wrap (v12+(1:Int)))∧(IntKind.i64.wrap (v12+(1:Int)))≤(IntKind.i64.wrap (v12+(1:Int))))∧Room ((IntKind.i64.wrap (v12+(1:Int)))).toNat 8∧(let v14h:(List Int):=(List.replicate ((IntKind.i64.wrap (v12+(1:Int)))).toNat (0:Int))
 (BLine.inv3 x0 x1 x1 v14h (0:Int)∧∀(v1:Int) (v5:(List Int)) (v17:Int),BLine.inv3 x0 x1 v1 v5 v17→(((decide (v17<(v14h.length:Int)))=true→(let v25:Int:=(IntKind.i64.wrap ((IntKind.i64.wrap ((v5.length:Int)-(1:Int)))-v17))
 (0≤v25∧v25<(v5.length:Int))∧(0≤v1∧v1<(x0.1.length:Int))∧(let v33:Int:=(x0.1.getD (Int.toNat v1) (((0:Int),((List.replicate 32 (0:Int)),((List.replicate 32 (0:Int)),((0:Int),((0:Int),((0:Int),())))))),((List.replicate 32 (0:Int)),((0:Int),((0:Int),((List.replicate 4 (0:Int)),())))))).2.2.1
 (BLine.inv3 x0 x1 v33 (v5.set (Int.toNat v25) v1) (IntKind.i64.wrap (v17+(1:Int)))∧BLine.mes3 x0 x1 v33 (v5.set (Int.toNat v25) v1) (IntKind.i64.wrap (v17+(1:Int)))<BLine.mes3 x0 x1 v1 v5 v17))))∧((decide (v17<(v14h.length:Int)))=false→(Ret1 v5 (BLine.fn x0 x1)))))))
theorem BLine.vc :BLine.VC:=by
 rintro t n ⟨hs,hn⟩
 obtain⟨g1,g2⟩:=hgt_nn hs hn
 have hlen:(t.1.length:Int)≤4096:=by have:=hs.1.2;omega
 have hn2:=hn.2
 simp only[imp_self,true_and,and_true,Bool.cond_true_left,Bool.cond_false_right,Bool.or_eq_true,Bool.or_eq_false_iff,Bool.and_eq_true,Bool.and_eq_false_iff,decide_eq_true_eq,decide_eq_false_iff_not,Bool.not_eq_true',Bool.not_eq_false',beq_iff_eq,bne_iff_ne,ne_eq,beq_eq_false_iff_ne,bne_eq_false_iff_eq,Int.not_lt,Int.not_le,gt_iff_lt,ge_iff_le,Decidable.not_not,Bool.not_eq_true,Bool.not_eq_false]
 try simp only[par_fold,hgt_fold,hsh_fold]
 rw[i64w (n:=hgt t n+1) (by omega) (by omega)]
 simp only[List.length_replicate]
 refine⟨hn,⟨by omega,by omega⟩,room_of (by omega) (by omega),⟨by omega,by omega,by simp;omega,fun _=>rfl,fun j hj=>by omega⟩, ?_⟩
 rintro v1 v5 v17 ⟨k1,k2,k3,k4,k5⟩
 refine⟨fun hc=> ?_,fun hc=> ?_⟩
 ·have hv:=k4 (by omega)
  have ht:((v17.toNat:Nat):Int)=v17:=by omega
  obtain⟨a1,a2⟩:=anc_nod hs hn v17.toNat (by omega)
  rw[←hv] at a1 a2
  simp(disch:=omega) only[i64w]
  refine⟨⟨by omega,by omega⟩,a1,⟨by omega,by omega,by simpa using k3,fun h=> ?_,fun j hj=> ?_⟩,by simp only[BLine.mes3];omega⟩
  ·rw[show(v17+1).toNat=v17.toNat+1 by omega,anc,←hv]
  ·rw[lget_set]
   split
   ·rename_i h
    rw[hv];congr 1;omega
   ·rename_i h
    exact k5 j (by omega)
 ·exact ret1.2 (lineOf_eq g1 k3 (fun j hj=>k5 j (by omega)))
def cmn :List Int→List Int→Nat
 |x::xs,y::ys=>if x=y then cmn xs ys+1 else 0
 |_,_=>0
theorem cmn_eq :∀(a b:List Int) (m:Nat),m≤a.length→m≤b.length→(∀j,j<m→a.getD j 0=b.getD j 0)→(m<a.length→m<b.length→a.getD m 0≠b.getD m 0)→m=cmn a b:=by
 intro a
 induction a with
 |nil=>intro b m h1 _ _ _;simp at h1;simp[cmn,h1]
 |cons x xs ih=>
  intro b m h1 h2 h3 h4
  cases b with
  |nil=>simp at h2;simp[cmn,h2]
  |cons y ys=>
   simp only[cmn]
   cases m with
   |zero=>
    have:=h4 (by simp) (by simp)
    simp at this
    rw[if_neg this]
   |succ m=>
    have e:=h3 0 (by omega)
    simp at e
    rw[if_pos e,←ih ys m (by simpa using h1) (by simpa using h2) (fun j hj=>by simpa using h3 (j+1) (by omega)) (fun p q=>by simpa using h4 (by simpa using p) (by simpa using q))]
theorem cmn_spec :∀(a b:List Int),cmn a b≤a.length∧cmn a b≤b.length∧∀j,j<cmn a b→a.getD j 0=b.getD j 0:=by
 intro a
 induction a with
 |nil=>intro b;simp[cmn]
 |cons x xs ih=>
  intro b
  cases b with
  |nil=>simp[cmn]
  |cons y ys=>
   simp only[cmn]
   split
   ·rename_i e
    obtain⟨i1,i2,i3⟩:=ih ys
    refine⟨by simp;omega,by simp;omega,fun j hj=> ?_⟩
    cases j with
    |zero=>simp[e]
    |succ j=>simpa using i3 j (by omega)
   ·simp
def BCommon.pre (a b:List Int):Prop:=a.length≤1000000000
def BCommon.fn (a b:List Int):Int:=cmn a b
def BCommon.inv2 (a b:List Int)(v:Int):Prop:=0≤v∧v≤a.length∧v≤b.length∧∀j:Nat,(j:Int)<v→a.getD j 0=b.getD j 0
def BCommon.mes2 (a b:List Int)(v:Int):Nat:=(a.length-v).toNat
def BCommon.VC :Prop:=∀(x0:(List Int)) (x1:(List Int)),BCommon.pre x0 x1→(BCommon.inv2 x0 x1 (0:Int)∧∀(v5:Int),BCommon.inv2 x0 x1 v5→((decide (v5<(x0.length:Int)))=true→(decide (v5<(x0.length:Int)))=true)∧((decide (v5<(x0.length:Int)))=true→(decide (v5<(x0.length:Int)))=true)∧((decide (v5<(x0.length:Int)))=true→(decide (v5<(x0.length:Int)))=true)∧((decide (v5<(x0.length:Int)))=true→(decide (v5<(x0.length:Int)))=true)∧(let v15:Bool:=(bif (decide (v5<(x0.length:Int))) then(decide (v5<(x1.length:Int))) else false)
 (v15=true→v15=true)∧(v15=true→v15=true)∧(v15=true→(0≤v5∧v5<(x0.length:Int)))∧(v15=true→v15=true)∧(v15=true→v15=true)∧(v15=true→v15=true)∧(v15=true→(0≤v5∧v5<(x1.length:Int)))∧(v15=true→v15=true)∧(v15=true→v15=true)∧(v15=true→v15=true)∧(v15=true→v15=true)∧(let v26:Bool:=(bif v15 then((x0.getD (Int.toNat v5) (0:Int))==(x1.getD (Int.toNat v5) (0:Int))) else false)
 ((v26=true→(BCommon.inv2 x0 x1 (IntKind.i64.wrap (v5+(1:Int)))∧BCommon.mes2 x0 x1 (IntKind.i64.wrap (v5+(1:Int)))<BCommon.mes2 x0 x1 v5))∧(v26=false→(Ret1 v5 (BCommon.fn x0 x1)))))))
theorem BCommon.vc :BCommon.VC:=by
 intro a b hp
 have hp:a.length≤1000000000:=hp
 simp only[imp_self,true_and,and_true,Bool.cond_true_left,Bool.cond_false_right,Bool.or_eq_true,Bool.or_eq_false_iff,Bool.and_eq_true,Bool.and_eq_false_iff,decide_eq_true_eq,decide_eq_false_iff_not,Bool.not_eq_true',Bool.not_eq_false',beq_iff_eq,bne_iff_ne,ne_eq,beq_eq_false_iff_ne,bne_eq_false_iff_eq,Int.not_lt,Int.not_le,gt_iff_lt,ge_iff_le,Decidable.not_not,Bool.not_eq_true,Bool.not_eq_false]
 try simp only[par_fold,hgt_fold,hsh_fold]
 refine⟨⟨by omega,by omega,by omega,fun j hj=>by omega⟩, ?_⟩
 rintro v ⟨k1,k2,k3,k4⟩
 refine⟨fun h=>by omega,fun h=>by omega, ?_, ?_⟩
 ·rintro⟨⟨h1,h2⟩,h3⟩
  rw[i64w (by omega) (by omega)]
  refine⟨⟨by omega,by omega,by omega,fun j hj=> ?_⟩,by simp only[BCommon.mes2];omega⟩
  by_cases e:(j:Int)=v
  ·rw[show v.toNat=j by omega] at h3;exact h3
  ·exact k4 j (by omega)
 ·intro h
  refine ret1.2 ?_
  have:=cmn_eq a b v.toNat (by omega) (by omega) (fun j hj=>k4 j (by omega)) (fun p q e=>by
   rcases h with(h|h)|h
   ·omega
   ·omega
   ·exact h e)
  simp only[BCommon.fn];omega
def BMain.pre (_:Tr):Prop:=True
noncomputable def BMain.fn (t:Tr):List Int:=if Snd t then lineOf t t.2.1 else[]
def BMain.VC :Prop:=∀(x0:Tre),BMain.pre x0→BSound.pre x0∧(((!(BSound.fn x0))=true→(Ret1 [] (BMain.fn x0)))∧((!(BSound.fn x0))=false→BLine.pre x0 x0.2.1∧(Ret1 (BLine.fn x0 x0.2.1) (BMain.fn x0))))
theorem BMain.vc :BMain.VC:=by
 intro t _
 simp only[imp_self,true_and,and_true,Bool.cond_true_left,Bool.cond_false_right,Bool.or_eq_true,Bool.or_eq_false_iff,Bool.and_eq_true,Bool.and_eq_false_iff,decide_eq_true_eq,decide_eq_false_iff_not,Bool.not_eq_true',Bool.not_eq_false',beq_iff_eq,bne_iff_ne,ne_eq,beq_eq_false_iff_ne,bne_eq_false_iff_eq,Int.not_lt,Int.not_le,gt_iff_lt,ge_iff_le,Decidable.not_not,Bool.not_eq_true,Bool.not_eq_false]
 try simp only[par_fold,hgt_fold,hsh_fold]
 refine⟨trivial,fun h=> ?_,fun h=> ?_⟩
 ·simp only[BSound.fn,decide_eq_false_iff_not] at h
  exact ret1.2 (by rw[BMain.fn,if_neg h])
 ·simp only[BSound.fn,decide_eq_true_eq] at h
  exact⟨⟨h,h.2.1⟩,ret1.2 (by rw[BMain.fn,if_pos h];rfl)⟩
theorem line_root {t:Tr}(hs:Snd t){a:Int}(ha:Nod t a):(lineOf t a).getD 0 0=0:=by
 have:=(hgt_nn hs ha).1
 rw[lineOf_get (by omega)]
 exact anc_root hs ha (by omega)
theorem cmn_pos {t:Tr}(hs:Snd t){a b:Int}(ha:Nod t a)(hb:Nod t b):1≤cmn (lineOf t a) (lineOf t b):=by
 have h1:=(hgt_nn hs ha).1
 have h2:=(hgt_nn hs hb).1
 have l1:=lineOf_len t a
 have l2:=lineOf_len t b
 have e1:=line_root hs ha
 have e2:=line_root hs hb
 generalize lineOf t a=x at*
 generalize lineOf t b=y at*
 cases x with
 |nil=>simp at l1;omega
 |cons p x=>
  cases y with
  |nil=>simp at l2;omega
  |cons q y=>
   simp at e1 e2
   simp[cmn,e1,e2]
noncomputable def forkOf (t:Tr)(a b:Int):Int:=if Snd t∧Nod t a∧Nod t b then(lineOf t a).getD (cmn (lineOf t a) (lineOf t b)-1) 0 else-1
def BFork.pre (_:Tr)(_ _:Int):Prop:=True
noncomputable def BFork.fn (t:Tr)(a b:Int):Int:=forkOf t a b
def BFork.VC :Prop:=∀(x0:Tre) (x1:Int) (x2:Int),BFork.pre x0 x1 x2→BSound.pre x0∧((!(BSound.fn x0))=false→(!(BSound.fn x0))=false)∧((!(BSound.fn x0))=false→(!(BSound.fn x0))=false)∧((!(BSound.fn x0))=false→BNode.pre x0 x1)∧((!(BSound.fn x0))=false→(!(BSound.fn x0))=false)∧((!(BSound.fn x0))=false→(!(BSound.fn x0))=false)∧((bif (!(BSound.fn x0)) then true else(!(BNode.fn x0 x1)))=false→(bif (!(BSound.fn x0)) then true else(!(BNode.fn x0 x1)))=false)∧((bif (!(BSound.fn x0)) then true else(!(BNode.fn x0 x1)))=false→(bif (!(BSound.fn x0)) then true else(!(BNode.fn x0 x1)))=false)∧((bif (!(BSound.fn x0)) then true else(!(BNode.fn x0 x1)))=false→BNode.pre x0 x2)∧((bif (!(BSound.fn x0)) then true else(!(BNode.fn x0 x1)))=false→(bif (!(BSound.fn x0)) then true else(!(BNode.fn x0 x1)))=false)∧((bif (!(BSound.fn x0)) then true else(!(BNode.fn x0 x1)))=false→(bif (!(BSound.fn x0)) then true else(!(BNode.fn x0 x1)))=false)∧(let v22:Bool:=(bif (bif (!(BSound.fn x0)) then true else(!(BNode.fn x0 x1))) then true else(!(BNode.fn x0 x2)))
 ((v22=true→(Ret1 (-1:Int) (BFork.fn x0 x1 x2)))∧(v22=false→BLine.pre x0 x1∧BLine.pre x0 x2∧BCommon.pre (BLine.fn x0 x1) (BLine.fn x0 x2)∧(let v32:Int:=(IntKind.i64.wrap ((BCommon.fn (BLine.fn x0 x1) (BLine.fn x0 x2))-(1:Int)))
 (0≤v32∧v32<((BLine.fn x0 x1).length:Int))∧(Ret1 ((BLine.fn x0 x1).getD (Int.toNat v32) (0:Int)) (BFork.fn x0 x1 x2))))))
theorem BFork.vc :BFork.VC:=by
 intro t a b _
 simp only[imp_self,true_and,and_true,Bool.cond_true_left,Bool.cond_false_right,Bool.or_eq_true,Bool.or_eq_false_iff,Bool.and_eq_true,Bool.and_eq_false_iff,decide_eq_true_eq,decide_eq_false_iff_not,Bool.not_eq_true',Bool.not_eq_false',beq_iff_eq,bne_iff_ne,ne_eq,beq_eq_false_iff_ne,bne_eq_false_iff_eq,Int.not_lt,Int.not_le,gt_iff_lt,ge_iff_le,Decidable.not_not,Bool.not_eq_true,Bool.not_eq_false]
 try simp only[par_fold,hgt_fold,hsh_fold]
 simp only[BSound.fn,BNode.fn,decide_eq_false_iff_not,decide_eq_true_eq]
 refine⟨trivial,fun _=>trivial,fun _=>trivial, ?_, ?_⟩
 ·intro hh
  refine ret1.2 ?_
  simp only[BFork.fn,forkOf]
  rw[if_neg]
  rintro⟨a1,a2,a3⟩
  rcases hh with(hh|hh)|hh
  ·exact hh a1
  ·exact hh a2
  ·exact hh a3
 ·rintro⟨⟨a1,a2⟩,a3⟩
  have h1:=hgt_nn a1 a2
  have h2:=a2.2
  have h3:(t.1.length:Int)≤4096:=by have:=a1.1.2;omega
  have hl:=lineOf_len t a
  have hp:=cmn_pos a1 a2 a3
  have hc:=(cmn_spec (lineOf t a) (lineOf t b)).1
  simp only[BLine.fn,BCommon.fn]
  rw[i64w (by omega) (by omega)]
  refine⟨⟨a1,a2⟩,⟨a1,a3⟩,(by show(lineOf t a).length≤1000000000;omega),⟨by omega,by omega⟩,ret1.2 ?_⟩
  simp only[BFork.fn,forkOf]
  rw[if_pos ⟨a1,a2,a3⟩]
  congr 1;omega
end Lc
