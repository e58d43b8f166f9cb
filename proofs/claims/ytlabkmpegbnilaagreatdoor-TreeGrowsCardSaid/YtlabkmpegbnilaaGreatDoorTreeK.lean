/- The tree of headers: a header that is mined behind a node of a made tree passes all checks but, at most, that of its work. -/
import Derived.Test.YtlabkmpegbnilaaGreatDoorTreeI
import Derived.Test.YtlabkmpegbnilaaGreatDoorRulings
set_option linter.unusedVariables false
set_option linter.unusedSimpArgs false
set_option maxRecDepth 100000
namespace Lc
open Go
theorem compact_some {n:Nat}(hn:n≠0)(hB:n<Big):expandN (compactN n)≠0:=by
 have hm:=manti_lt hn
 have hb:=bl_big hB
 have hp:=bl_pos hn
 have he0:expo n=(bl n+8)/8:=rfl
 have hc:compactN n=expo n*16777216+manti n:=by unfold compactN;rw[if_neg hn]
 have hmod:compactN n%16777216=manti n:=by rw[hc];omega
 have hdiv:compactN n/16777216=expo n:=by rw[hc];omega
 have key:2^(bl n-1)≤expandN (compactN n):=by
  unfold expandN
  rw[hmod,hdiv,if_neg (by omega)]
  split
  ·rename_i h3
   have:manti n=n*2^(8*(3-expo n)):=by unfold manti;rw[if_pos (by omega)]
   rw[this,Nat.mul_div_cancel _ (Nat.two_pow_pos _)]
   exact bl_le hn
  ·rename_i h3
   by_cases h5:expo n=3
   ·have:manti n=n:=by unfold manti;rw[if_pos (by omega),h5];simp
    rw[this,h5,if_neg (by omega)];simp;exact bl_le hn
   ·have hmn:manti n=n/2^(8*(expo n-3)):=by unfold manti;rw[if_neg (by omega)]
    have hbm:bl (manti n)=bl n-8*(expo n-3):=by rw[hmn,bl_div]
    rw[if_neg (by omega),hmn]
    have hq:2^(bl n-1-8*(expo n-3))≤n/2^(8*(expo n-3)):=by
     rw[Nat.le_div_iff_mul_le (Nat.two_pow_pos _),←Nat.pow_add,show bl n-1-8*(expo n-3)+8*(expo n-3)=bl n-1 by omega]
     exact bl_le hn
    have:=Nat.mul_le_mul_right (2^(8*(expo n-3))) hq
    rw[←Nat.pow_add,show bl n-1-8*(expo n-3)+8*(expo n-3)=bl n-1 by omega] at this
    exact this
 have:=Nat.two_pow_pos (bl n-1)
 omega
theorem next_good {p:Par}{c:Cx}(hp:ParOk p)(hf:fitsFn p c=true)(hb:expandN c.2.2.1.toNat≠0):(nextFn p c).2=0∧expandN (nextFn p c).1.toNat≠0:=by
 obtain⟨f1,f2,f3,f4⟩:=(fits_iff p c).1 hf
 have hnb:nextBad p c=false:=by
  simp only[nextBad,Bool.or_eq_false_iff,Bool.not_eq_false',decide_eq_false_iff_not]
  refine⟨f1,by omega,by omega, ?_, ?_⟩<;>split at f4<;>omega
 rw[nextFn,if_neg (by rw[hnb];simp)]
 split
 ·rw[adjFn,if_neg (by rw[f1];simp),if_neg hb]
  refine⟨rfl, ?_⟩
  dsimp only
  rw[Int.toNat_natCast]
  refine compact_some ?_ ?_
  ·split
   ·decide
   ·assumption
  ·split
   ·decide+kernel
   ·exact Nat.lt_of_le_of_lt (Nat.min_le_right _ _) hp.1.lt
 ·exact⟨rfl,hb⟩
theorem check_bits {p:Par}{c:Cx}{h:Hdr}{now:Int}(hc:checkFn p c h now=0):h.2.2.2.2.1=(nextFn p c).1:=by
 unfold checkFn at hc
 split at hc
 ·rename_i hr;exact absurd hc hr
 split at hc
 ·exact absurd hc (by decide)
 split at hc
 ·exact absurd hc (by decide)
 split at hc
 ·rename_i hr;exact absurd hc hr
 split at hc
 ·exact absurd hc (by decide)
 rename_i hb
 exact Decidable.byContradiction hb
theorem mineGo_keep (bits:Int):∀(k:Nat) (h:Hdr),(mineGo bits k h).1=h.1∧(mineGo bits k h).2.1=h.2.1∧(mineGo bits k h).2.2.1=h.2.2.1∧(mineGo bits k h).2.2.2.1=h.2.2.2.1∧(mineGo bits k h).2.2.2.2.1=h.2.2.2.2.1
 |0,h=>⟨rfl,rfl,rfl,rfl,rfl⟩
 |k+1,h=>by
  rw[mineGo_succ]
  split
  ·exact⟨rfl,rfl,rfl,rfl,rfl⟩
  ·exact mineGo_keep bits k (incN h)
theorem median_le {l:List Int}{B:Int}(hB:0≤B)(h:∀x,x∈l→0≤x∧x≤B):0≤medianFn l∧medianFn l≤B:=by
 unfold medianFn
 split
 ·exact⟨Int.le_refl _,hB⟩
 ·rename_i h0
  have hl:=isort_len l
  have:=get_at 0 (P:=fun x=>x∈l) (fun x hx=>(isort_perm l).mem_iff.1 hx) (l:=isort l) (i:=l.length/2) (by omega)
  exact h _ this
theorem mined_check {p:Par}{c:Cx}{root:List Int}{b B:Int}(hp:PGood p)(hk:p.2.2.2.2.2.2.1=[])(hr:roomFn p c=0)(hbits:expandN c.2.2.1.toNat≠0)(hB:0≤B∧B≤1000000)(ht:∀x,x∈c.2.2.2.2.1→0≤x∧x≤B)(hb:0≤b∧b≤255):
 (checkFn p c (mineFn p c root b) 1073741824=0∨checkFn p c (mineFn p c root b) 1073741824=121)∧(mineFn p c root b).2.2.2.1≤B+256∧(mineFn p c root b).2.1=c.2.1:=by
 obtain⟨k1,k2,_,k3,k4⟩:=mineGo_keep (nextFn p c).1 20000 (mine0 p c root b)
 obtain⟨n1,_⟩:=next_good hp.1 (room_ok hr).1 hbits
 obtain⟨m1,m2⟩:=median_le hB.1 ht
 have hu:=hp.2.2.1.1
 have e:(mine0 p c root b).2.2.2.1=medianFn c.2.2.2.2.1+1+b:=by
  show IntKind.u32.wrap (IntKind.u32.wrap (medianFn c.2.2.2.2.1+1)+b)=_
  rw[u32w (n:=medianFn c.2.2.2.2.1+1) (by omega) (by omega),u32w (by omega) (by omega)]
 rw[e] at k3
 have hm:mineGo (nextFn p c).1 20000 (mine0 p c root b)=mineFn p c root b:=rfl
 rw[hm] at k1 k2 k3 k4
 generalize mineFn p c root b=h at*
 refine⟨?_,by omega,k2⟩
 have k1:h.1=p.2.2.2.2.2.1:=k1
 have k2:h.2.1=c.2.1:=k2
 have k4:h.2.2.2.2.1=(nextFn p c).1:=k4
 unfold checkFn
 rw[if_neg (by omega),if_neg (by rw[k2,(b32_eq _ _).2 rfl];decide),if_neg (by omega),if_neg (by omega),if_neg (by rw[k4];simp)]
 split
 ·exact .inr rfl
 ·left
  rw[if_neg (by omega),if_neg (by omega),hk,if_neg (by simp[ckBad])]
theorem Valid15.bits {p:Par}{t:Tre}{cs:List Cx}(hp:PGood p)(h:Valid15 p t cs):∀n,n<t.1.length→expandN (atFn p t.1 n).2.2.1.toNat≠0:=by
 intro n
 induction n using Nat.strongRecOn with
 |_ n ih=>
  intro hn
  by_cases h0:n=0
  ·subst h0
   rw[at_zero,startFn,if_neg (by simp[h.fit.1])]
   exact((valid_iff p).1 h.fit.1).2.2.2.2.2.2.2.1
  ·obtain⟨s,_⟩:=h.step n (by omega) hn
   have hpl:(t.1.getD n zn).2.2.1.toNat<n:=by have:=s.1;have:=s.2.1;omega
   have hr:=step_room s
   have hc:=s.2.2.2.1
   rw[h.at _ (by omega)] at hr hc
   rw[at_step h.linked (by omega) hn,adv_ok hr]
   show expandN (t.1.getD n zn).1.2.2.2.2.1.toNat≠0
   rw[check_bits hc]
   exact(next_good hp.1 (room_ok hr).1 (ih _ hpl (by omega))).2
def TimeT (t:Tre):Prop:=∀j,j<t.1.length→0≤(t.1.getD j zn).1.2.2.2.1∧(t.1.getD j zn).1.2.2.2.1≤1300+300*j
theorem nextT_mem {l:List Int}{t x:Int}(h:x∈nextT l t):x∈l∨x=t:=by
 unfold nextT at h
 split at h
 ·rcases List.mem_append.1 h with h|h
  ·exact .inl (List.mem_of_mem_drop h)
  ·exact .inr (List.mem_singleton.1 h)
 ·rcases List.mem_append.1 h with h|h
  ·exact .inl h
  ·exact .inr (List.mem_singleton.1 h)
theorem Valid15.times {p:Par}{t:Tre}{cs:List Cx}(h:Valid15 p t cs)(ht:TimeT t):∀n,n<t.1.length→∀x,x∈(atFn p t.1 n).2.2.2.2.1→0≤x∧x≤1300+300*n:=by
 intro n
 induction n using Nat.strongRecOn with
 |_ n ih=>
  intro hn x hx
  by_cases h0:n=0
  ·subst h0
   rw[at_zero,startFn,if_neg (by simp[h.fit.1])] at hx
   have:=ht 0 hn
   rw[h.fit.2.2.2] at this
   rw[List.mem_singleton.1 hx];exact this
  ·obtain⟨s,_⟩:=h.step n (by omega) hn
   have hpl:(t.1.getD n zn).2.2.1.toNat<n:=by have:=s.1;have:=s.2.1;omega
   have hr:=step_room s
   rw[h.at _ (by omega)] at hr
   rw[at_step h.linked (by omega) hn,adv_ok hr] at hx
   rcases nextT_mem hx with hx|rfl
   ·have:=ih _ hpl (by omega) x hx;omega
   ·exact ht n hn
theorem Valid15.room {p:Par}{t:Tre}{cs:List Cx}(h:Valid15 p t cs)(hl:t.1.length≤1000):∀n,n<t.1.length→roomFn p (atFn p t.1 n)=0∧0≤(atFn p t.1 n).1∧(atFn p t.1 n).1≤n:=by
 intro n
 induction n using Nat.strongRecOn with
 |_ n ih=>
  intro hn
  by_cases h0:n=0
  ·subst h0
   have hf:=start_fits h.fit.1
   have e:(startFn p).1.1=0:=by rw[startFn,if_neg (by simp[h.fit.1])]
   rw[at_zero,roomFn,if_neg (by rw[hf];simp),e]
   exact⟨rfl,Int.le_refl _,Int.le_refl _⟩
  ·obtain⟨s,_⟩:=h.step n (by omega) hn
   have hpl:(t.1.getD n zn).2.2.1.toNat<n:=by have:=s.1;have:=s.2.1;omega
   have hr:=step_room s
   rw[h.at _ (by omega)] at hr
   obtain⟨i1,i2,i3⟩:=ih _ hpl (by omega)
   have hf:=adv_fits (h:=(t.1.getD n zn).1) hr
   have e:(advFn p (atFn p t.1 (t.1.getD n zn).2.2.1.toNat) (t.1.getD n zn).1).1.1=(atFn p t.1 (t.1.getD n zn).2.2.1.toNat).1+1:=by rw[adv_ok hr]
   rw[at_step h.linked (by omega) hn,roomFn,if_neg (by rw[hf];simp),e,if_neg (by omega)]
   exact⟨rfl,by omega,by omega⟩
theorem mined_insert {p:Par}{t:Tre}{n:Nat}{root:List Int}{b:Int}(hp:PGood p)(hk:p.2.2.2.2.2.2.1=[])(hv:validT p t=true)(hl:t.1.length≤1000)(ht:TimeT t)(hn:n<t.1.length)(hb:0≤b∧b≤255):
 (insertT p t (mineFn p (atFn p t.1 n) root b) 1073741824).2.2=0∨(insertT p t (mineFn p (atFn p t.1 n) root b) 1073741824).2.2=150∨(insertT p t (mineFn p (atFn p t.1 n) root b) 1073741824).2.2=121:=by
 obtain⟨cs,_,h2,_⟩:=valid_of hv
 have hr:=(h2.room hl n hn).1
 obtain⟨m1,m2,m3⟩:=mined_check (root:=root) hp hk hr (h2.bits hp n hn) (B:=1300+300*n) (by omega) (h2.times ht n hn) hb
 generalize mineFn p (atFn p t.1 n) root b=h at*
 rw[h2.hash hn] at m3
 have hf:=vfind hv hn
 rw[←m3] at hf
 rw[insertT,if_neg (by simp[hv])]
 split
 ·exact .inr (.inl rfl)
 rw[hf,Int.toNat_natCast,if_neg (by omega)]
 rcases m1 with m1|m1
 ·rw[m1,if_neg (by decide),if_neg (by omega)];exact .inl rfl
 ·rw[m1,if_pos (by decide)];exact .inr (.inr rfl)
theorem time_insert {p:Par}{t:Tre}{h:Hdr}{now:Int}(ht:TimeT t)(he:(insertT p t h now).2.2=0)(h0:0≤h.2.2.2.1∧h.2.2.2.1≤1300+300*t.1.length):TimeT (insertT p t h now).1:=by
 obtain⟨_,_,_,_,_,h6⟩:=insert_spec he
 rw[h6]
 intro j j1
 have j1:j<(t.1++[insNode p t h]).length:=j1
 rw[List.length_append,List.length_singleton] at j1
 show 0≤((t.1++[insNode p t h]).getD j zn).1.2.2.2.1∧((t.1++[insNode p t h]).getD j zn).1.2.2.2.1≤_
 by_cases e:j=t.1.length
 ·subst e;rw[getD_last];exact h0
 ·rw[getD_app zn (by omega)];exact ht j (by omega)
theorem step_time {p:Par}{t:Tre}{s i:Int}(hp:PGood p)(hk:p.2.2.2.2.2.2.1=[])(hv:validT p t=true)(hto:TreOk t)(hl:t.1.length≤1000)(ht:TimeT t)(hs:0≤s∧s≤255):TimeT (treeStep p t s i):=by
 obtain⟨cs,_,h2,_⟩:=valid_of hv
 unfold treeStep
 split
 ·exact ht
 rename_i hc
 split
 ·rename_i he
  refine time_insert ht he ?_
  have hd:=mineT_ok (i:=i) hp hto hs
  refine⟨hd.2.2.2.1.1, ?_⟩
  unfold mineT at*
  unfold contextT at*
  rw[if_neg (by simp[hv])] at*
  split at hc
  ·exact absurd (by decide) hc
  rename_i hq
  rw[if_neg hq] at*
  have hn:(backT s t.1.length).toNat<t.1.length:=by omega
  have hb:0≤secFn s∧secFn s≤255:=by unfold secFn;omega
  obtain⟨m1,m2,m3⟩:=mined_check (root:=rootT s i) hp hk (h2.room hl _ hn).1 (h2.bits hp _ hn) (B:=1300+300*(backT s t.1.length).toNat) (by omega) (h2.times ht _ hn) hb
  show(mineFn p (atFn p t.1 (backT s t.1.length).toNat) (rootT s i) (secFn s)).2.2.2.1≤_
  omega
 ·exact ht
theorem treeGo_time {p:Par}(hp:PGood p)(hk:p.2.2.2.2.2.2.1=[]):∀(l:List Int) (t:Tre) (i:Int),Bytes l→validT p t=true→TreOk t→t.1.length+l.length≤1000→LateT p t→TimeT t→TimeT (treeGo p t i l)
 |[],t,i,_,_,_,_,_,h=>h
 |s::r,t,i,hb,hv,hto,hl,hla,h=>by
  have hs:=hb s (by simp)
  obtain⟨l1,l2⟩:=step_late (s:=s) (i:=i) hp hla
  rw[List.length_cons] at hl
  rw[treeGo]
  exact treeGo_time hp hk r _ _ (fun x hx=>hb x (List.mem_cons_of_mem _ hx)) (step_valid hp hv) (step_ok hp hto hs) (by omega) l1 (step_time hp hk hv hto (by omega) h hs)
theorem made_time {v:Int}{l:List Int}(hv:0≤v∧v≤255)(hb:Bytes l):TimeT (madeT v l):=by
 have hs:=startT_fit (made_valid hv)
 refine treeGo_time (made_ok hv) rfl _ _ _ (fun x hx=>hb x (List.mem_of_mem_take hx)) (start_valid (made_valid hv)) (startT_ok (made_ok hv)) ?_ ?_ ?_
 ·rw[hs,List.length_take]
  show 1+min 14 l.length≤1000
  omega
 ·rw[hs]
  intro j j0 j1
  have j1:j<1:=j1
  omega
 ·rw[hs]
  intro j j1
  have j1:j<1:=j1
  obtain rfl:j=0:=by omega
  show 0≤1000+v∧1000+v≤1300+300*((0:Nat):Int)
  omega
end Lc
