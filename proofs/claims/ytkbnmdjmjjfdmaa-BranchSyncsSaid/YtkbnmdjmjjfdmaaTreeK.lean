/- The tree of headers: a header that is mined behind a node of a made tree passes all checks but, at most, that of its work. -/
import Derived.Test.YtkbnmdjmjjfdmaaTreeI
import Derived.Test.YtkbnmdjmjjfdmaaRulings
set_option linter.unusedVariables false
set_option linter.unusedSimpArgs false
set_option maxRecDepth 100000
namespace Lc
open Go
theorem compact_some {n:Nat}(hn:n≠0)(hB:n<Big):expandN (compactN n)≠0:=by
 have hm:=manti_lt hn
 have hb:=bl_big hB
 have hp:=bl_pos hn
 have he0:expo n=(bl n+8)/8:=rfl
 have hc:compactN n=expo n*16777216+manti n:=by unfold compactN;rw[if_neg hn]
 have hmod:compactN n%16777216=manti n:=by rw[hc];omega
 have hdiv:compactN n/16777216=expo n:=by rw[hc];omega
 have key:2^(bl n-1)≤expandN (compactN n):=by
  unfold expandN
  rw[hmod,hdiv,if_neg (by omega)]
  split
  ·rename_i h3
   have:manti n=n*2^(8*(3-expo n)):=by unfold manti;rw[if_pos (by omega)]
   rw[this,Nat.mul_div_cancel _ (Nat.two_pow_pos _)]
   exact bl_le hn
  ·rename_i h3
   by_cases h5:expo n=3
   ·have:manti n=n:=by unfold manti;rw[if_pos (by omega),h5];simp
    rw[this,h5,if_neg (by omega)];simp;exact bl_le hn
   ·have hmn:manti n=n/2^(8*(expo n-3)):=by unfold manti;rw[if_neg (by omega)]
    have hbm:bl (manti n)=bl n-8*(expo n-3):=by rw[hmn,bl_div]
    rw[if_neg (by omega),hmn]
    have hq:2^(bl n-1-8*(expo n-3))≤n/2^(8*(expo n-3)):=by
     rw[Nat.le_div_iff_mul_le (Nat.two_pow_pos _),←Nat.pow_add,show bl n-1-8*(expo n-3)+8*(expo n-3)=bl n-1 by omega]
     exact bl_le hn
    have:=Nat.mul_le_mul_right (2^(8*(expo n-3))) hq
    rw[←Nat.pow_add,show bl n-1-8*(expo n-3)+8*(expo n-3)=bl n-1 by omega] at this
    exact this
 have:=Nat.two_pow_pos (bl n-1)
 omega
theorem next_good {p:Par}{c:Cx}(hp:ParOk p)(hf:fitsFn p c=true)(hb:expandN c.2.2.1.toNat≠0):(nextFn p c).2=0∧expandN (nextFn p c).1.toNat≠0:=by
 obtain⟨f1,f2,f3,f4⟩:=(fits_iff p c).1 hf
 have hnb:nextBad p c=false:=by
  simp only[nextBad,Bool.or_eq_false_iff,Bool.not_eq_false',decide_eq_false_iff_not]
  refine⟨f1,by omega,by omega, ?_, ?_⟩<;>split at f4<;>omega
 rw[nextFn,if_neg (by rw[hnb];simp)]
 split
 ·rw[adjFn,if_neg (by rw[f1];simp),if_neg hb]
  refine⟨rfl, ?_⟩
  dsimp only
  rw[Int.toNat_natCast]
  refine compact_some ?_ ?_
  ·split
   ·decide
   ·assumption
  ·split
   ·decide+kernel
   ·exact Nat.lt_of_le_of_lt (Nat.min_le_right _ _) hp.1.lt
 ·exact⟨rfl,hb⟩
theorem check_bits {p:Par}{c:Cx}{h:Hdr}{now:Int}(hc:checkFn p c h now=0):h.2.2.2.2.1=(nextFn p c).1:=by
 unfold checkFn at hc
 split at hc
 ·rename_i hr;exact absurd hc hr
 split at hc
 ·exact absurd hc (by decide)
 split at hc
 ·exact absurd hc (by decide)
 split at hc
 ·rename_i hr;exact absurd hc hr
 split at hc
 ·exact absurd hc (by decide)
 rename_i hb
 exact Decidable.byContradiction hb
theorem Valid15.bits {p:Par}{t:Tre}{cs:List Cx}(hp:PGood p)(h:Valid15 p t cs):∀n,n<t.1.length→expandN (atFn p t.1 n).2.2.1.toNat≠0:=by
 intro n
 induction n using Nat.strongRecOn with
 |_ n ih=>
  intro hn
  by_cases h0:n=0
  ·subst h0
   rw[at_zero,startFn,if_neg (by simp[h.fit.1])]
   exact((valid_iff p).1 h.fit.1).2.2.2.2.2.2.2.1
  ·obtain⟨s,_⟩:=h.step n (by omega) hn
   have hpl:(t.1.getD n zn).2.2.1.toNat<n:=by have:=s.1;have:=s.2.1;omega
   have hr:=step_room s
   have hc:=s.2.2.2.1
   rw[h.at _ (by omega)] at hr hc
   rw[at_step h.linked (by omega) hn,adv_ok hr]
   show expandN (t.1.getD n zn).1.2.2.2.2.1.toNat≠0
   rw[check_bits hc]
   exact(next_good hp.1 (room_ok hr).1 (ih _ hpl (by omega))).2
def TimeT (t:Tre):Prop:=∀j,j<t.1.length→0≤(t.1.getD j zn).1.2.2.2.1∧(t.1.getD j zn).1.2.2.2.1≤1300+300*j
theorem nextT_mem {l:List Int}{t x:Int}(h:x∈nextT l t):x∈l∨x=t:=by
 unfold nextT at h
 split at h
 ·rcases List.mem_append.1 h with h|h
  ·exact .inl (List.mem_of_mem_drop h)
  ·exact .inr (List.mem_singleton.1 h)
 ·rcases List.mem_append.1 h with h|h
  ·exact .inl h
  ·exact .inr (List.mem_singleton.1 h)
theorem Valid15.times {p:Par}{t:Tre}{cs:List Cx}(h:Valid15 p t cs)(ht:TimeT t):∀n,n<t.1.length→∀x,x∈(atFn p t.1 n).2.2.2.2.1→0≤x∧x≤1300+300*n:=by
 intro n
 induction n using Nat.strongRecOn with
 |_ n ih=>
  intro hn x hx
  by_cases h0:n=0
  ·subst h0
   rw[at_zero,startFn,if_neg (by simp[h.fit.1])] at hx
   have:=ht 0 hn
   rw[h.fit.2.2.2] at this
   rw[List.mem_singleton.1 hx];exact this
  ·obtain⟨s,_⟩:=h.step n (by omega) hn
   have hpl:(t.1.getD n zn).2.2.1.toNat<n:=by have:=s.1;have:=s.2.1;omega
   have hr:=step_room s
   rw[h.at _ (by omega)] at hr
   rw[at_step h.linked (by omega) hn,adv_ok hr] at hx
   rcases nextT_mem hx with hx|rfl
   ·have:=ih _ hpl (by omega) x hx;omega
   ·exact ht n hn
theorem Valid15.room {p:Par}{t:Tre}{cs:List Cx}(h:Valid15 p t cs)(hl:t.1.length≤1000):∀n,n<t.1.length→roomFn p (atFn p t.1 n)=0∧0≤(atFn p t.1 n).1∧(atFn p t.1 n).1≤n:=by
 intro n
 induction n using Nat.strongRecOn with
 |_ n ih=>
  intro hn
  by_cases h0:n=0
  ·subst h0
   have hf:=start_fits h.fit.1
   have e:(startFn p).1.1=0:=by rw[startFn,if_neg (by simp[h.fit.1])]
   rw[at_zero,roomFn,if_neg (by rw[hf];simp),e]
   exact⟨rfl,Int.le_refl _,Int.le_refl _⟩
  ·obtain⟨s,_⟩:=h.step n (by omega) hn
   have hpl:(t.1.getD n zn).2.2.1.toNat<n:=by have:=s.1;have:=s.2.1;omega
   have hr:=step_room s
   rw[h.at _ (by omega)] at hr
   obtain⟨i1,i2,i3⟩:=ih _ hpl (by omega)
   have hf:=adv_fits (h:=(t.1.getD n zn).1) hr
   have e:(advFn p (atFn p t.1 (t.1.getD n zn).2.2.1.toNat) (t.1.getD n zn).1).1.1=(atFn p t.1 (t.1.getD n zn).2.2.1.toNat).1+1:=by rw[adv_ok hr]
   rw[at_step h.linked (by omega) hn,roomFn,if_neg (by rw[hf];simp),e,if_neg (by omega)]
   exact⟨rfl,by omega,by omega⟩
end Lc
