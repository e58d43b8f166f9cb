/- Plain lemmas on numbers of 256 bits in words of 64 bits. -/
import Derived.Test.YtlhdieoemhjjiaaGreatDoorBase
set_option linter.unusedVariables false
set_option linter.unusedSimpArgs false
namespace Lc
open Go
def dig (n k:Nat):Nat:=n/2^(64*k)%18446744073709551616
def Wn (m n:Nat):List Int:=(List.range m).map (fun k=>((dig n k:Nat):Int))
def N4 (a:List Int):Nat:=(a.getD 0 0).toNat+18446744073709551616*(a.getD 1 0).toNat+340282366920938463463374607431768211456*(a.getD 2 0).toNat+6277101735386680763835789423207666416102355444464034512896*(a.getD 3 0).toNat
def Big :Nat:=115792089237316195423570985008687907853269984665640564039457584007913129639936
def Ok4 (a:List Int):Prop:=∃n,n<Big∧a=Wn 4 n
theorem big_pow :Big=2^256:=by decide+kernel
theorem dig_lt (n k:Nat):dig n k<18446744073709551616:=Nat.mod_lt _ (by decide)
theorem dig0 (n:Nat):dig n 0=n%18446744073709551616:=by simp[dig]
theorem dig1 (n:Nat):dig n 1=n/18446744073709551616%18446744073709551616:=rfl
theorem dig2 (n:Nat):dig n 2=n/340282366920938463463374607431768211456%18446744073709551616:=rfl
theorem dig3 (n:Nat):dig n 3=n/6277101735386680763835789423207666416102355444464034512896%18446744073709551616:=rfl
theorem Wn_len (m n:Nat):(Wn m n).length=m:=by simp[Wn]
theorem Wn_getD {m k:Nat}(n:Nat)(h:k<m):(Wn m n).getD k 0=((dig n k:Nat):Int):=by
 simp[Wn,List.getD_eq_getElem?_getD,h]
theorem Wn_set {m k n n':Nat}{x:Int}(hk:k<m)(hx:x=((dig n' k:Nat):Int))(ho:∀j,j<m→j≠k→dig n' j=dig n j):(Wn m n).set k x=Wn m n':=by
 apply ext_getD (by simp[Wn_len])
 intro i hi
 have hi:i<m:=by simpa[Wn_len] using hi
 rw[lget_set,Wn_getD _ hi,Wn_getD _ hi,Wn_len]
 by_cases h:k=i
 ·subst h;rw[if_pos ⟨rfl,hi⟩,hx]
 ·rw[if_neg (fun h2=>h h2.1),ho i hi (fun e=>h e.symm)]
theorem W4_eq (n:Nat):Wn 4 n=[((dig n 0:Nat):Int),((dig n 1:Nat):Int),((dig n 2:Nat):Int),((dig n 3:Nat):Int)]:=rfl
theorem N4_W4 {n:Nat}(h:n<Big):N4 (Wn 4 n)=n:=by
 unfold Big at h
 simp only[N4,W4_eq,List.getD_cons_zero,List.getD_cons_succ,Int.toNat_natCast,dig0,dig1,dig2,dig3]
 omega
theorem ok4 {n:Nat}(h:n<Big):Ok4 (Wn 4 n):=⟨n,h,rfl⟩
theorem Wn_mod (n:Nat):Wn 4 (n%Big)=Wn 4 n:=by
 simp only[W4_eq,dig0,dig1,dig2,dig3,Big]
 simp only[List.cons.injEq,and_true]
 omega
theorem ok4' (n:Nat):Ok4 (Wn 4 n):=⟨n%Big,Nat.mod_lt _ (by decide),(Wn_mod n).symm⟩
theorem Ok4.len {a:List Int}(h:Ok4 a):a.length=4:=by obtain⟨n,_,rfl⟩:=h;exact Wn_len 4 n
theorem Ok4.W {a:List Int}(h:Ok4 a):Wn 4 (N4 a)=a:=by obtain⟨n,hn,rfl⟩:=h;rw[N4_W4 hn]
theorem Ok4.lt {a:List Int}(h:Ok4 a):N4 a<Big:=by obtain⟨n,hn,rfl⟩:=h;rw[N4_W4 hn];exact hn
theorem Ok4.of {a:List Int}(hl:a.length=4)(h:∀x,x∈a→0≤x∧x≤18446744073709551615):Ok4 a:=by
 match a,hl with
 |[x,y,z,u],_=>
  have h1:=h x (by simp)
  have h2:=h y (by simp)
  have h3:=h z (by simp)
  have h4:=h u (by simp)
  obtain⟨x,rfl⟩:=Int.eq_ofNat_of_zero_le h1.1
  obtain⟨y,rfl⟩:=Int.eq_ofNat_of_zero_le h2.1
  obtain⟨z,rfl⟩:=Int.eq_ofNat_of_zero_le h3.1
  obtain⟨u,rfl⟩:=Int.eq_ofNat_of_zero_le h4.1
  refine⟨x+18446744073709551616*y+340282366920938463463374607431768211456*z+6277101735386680763835789423207666416102355444464034512896*u,by unfold Big;omega, ?_⟩
  simp only[W4_eq,List.cons.injEq,dig0,dig1,dig2,dig3,and_true]
  omega
theorem Ok4.eqz {a:List Int}(h:Ok4 a):a=List.replicate 4 0↔N4 a=0:=by
 constructor
 ·rintro rfl;rfl
 ·intro e;rw[←h.W,e];rfl
theorem or64 {a b:Nat}(ha:a<18446744073709551616)(hb:b<18446744073709551616):ior .u64 a b=((a|||b:Nat):Int):=by
 have h:(a|||b)<2^64:=Nat.or_lt_two_pow ha hb
 have e:ior .u64 a b=IntKind.u64.wrap (((BitVec.ofInt 64 (a:Int)).toNat|||(BitVec.ofInt 64 (b:Int)).toNat:Nat):Int):=rfl
 rw[e,ofInt_nat (show a<2^64 from ha),ofInt_nat (show b<2^64 from hb),u64w (by omega) (by omega)]
theorem and64 {a b:Nat}(ha:a<18446744073709551616)(hb:b<18446744073709551616):iand .u64 a b=((a&&&b:Nat):Int):=by
 have h:(a&&&b)<2^64:=Nat.and_lt_two_pow _ hb
 have e:iand .u64 a b=IntKind.u64.wrap (((BitVec.ofInt 64 (a:Int)).toNat&&&(BitVec.ofInt 64 (b:Int)).toNat:Nat):Int):=rfl
 rw[e,ofInt_nat (show a<2^64 from ha),ofInt_nat (show b<2^64 from hb),u64w (by omega) (by omega)]
theorem xor64 {a b:Nat}(ha:a<18446744073709551616)(hb:b<18446744073709551616):ixor .u64 a b=((a^^^b:Nat):Int):=by
 have h:(a^^^b)<2^64:=Nat.xor_lt_two_pow ha hb
 have e:ixor .u64 a b=IntKind.u64.wrap (((BitVec.ofInt 64 (a:Int)).toNat^^^(BitVec.ofInt 64 (b:Int)).toNat:Nat):Int):=rfl
 rw[e,ofInt_nat (show a<2^64 from ha),ofInt_nat (show b<2^64 from hb),u64w (by omega) (by omega)]
theorem not64 {a:Nat}(ha:a<18446744073709551616):inot .u64 a=((18446744073709551615-a:Nat):Int):=by
 have e:inot .u64 a=ixor .u64 ((18446744073709551615:Nat):Int) (a:Int):=rfl
 rw[e,xor64 (by omega) ha]
 congr 1
 have h1:=BitVec.toNat_not (x:=BitVec.ofNat 64 a)
 have h2:(BitVec.allOnes 64^^^BitVec.ofNat 64 a).toNat=(~~~BitVec.ofNat 64 a).toNat:=by rw[BitVec.allOnes_xor]
 rw[h1,BitVec.toNat_xor,BitVec.toNat_allOnes,BitVec.toNat_ofNat,Nat.mod_eq_of_lt (show a<2^64 from ha)] at h2
 exact h2
theorem shr64 {a k:Nat}(hk:k≤64):ishr .u64 (a:Int) (k:Int)=((a/2^k:Nat):Int):=by
 have e:ishr .u64 (a:Int) (k:Int)=(a:Int).fdiv (2^(min (k:Int).toNat 64)):=rfl
 rw[e,Int.toNat_natCast,Nat.min_eq_left hk]
 have:(2:Int)^k=((2^k:Nat):Int):=by simp
 rw[this,Int.fdiv_eq_ediv_of_nonneg _ (Int.natCast_nonneg _)]
 simp
theorem shl64 {a k:Nat}(hk:k≤64):ishl .u64 (a:Int) (k:Int)=((a*2^k%18446744073709551616:Nat):Int):=by
 have e:ishl .u64 (a:Int) (k:Int)=IntKind.u64.wrap ((a:Int)*2^(min (k:Int).toNat 64)):=rfl
 rw[e,Int.toNat_natCast,Nat.min_eq_left hk,u64m]
 have:(2:Int)^k=((2^k:Nat):Int):=by simp
 rw[this]
 simp
theorem dig_bit (n:Nat){k r:Nat}(hr:r<64):dig n k/2^r%2=n/2^(64*k+r)%2:=by
 have h1:(dig n k).testBit r=n.testBit (64*k+r):=by
  unfold dig
  rw[show(18446744073709551616:Nat)=2^64 from rfl,Nat.testBit_mod_two_pow,Nat.testBit_div_two_pow]
  simp[hr,Nat.add_comm]
 rw[Nat.testBit_eq_decide_div_mod_eq,Nat.testBit_eq_decide_div_mod_eq] at h1
 have h2:=Nat.mod_lt (dig n k/2^r) (show 0<2 by decide)
 have h3:=Nat.mod_lt (n/2^(64*k+r)) (show 0<2 by decide)
 have h4:=decide_eq_decide.1 h1
 omega
def bl (n:Nat):Nat:=if n=0 then 0 else Nat.log2 n+1
theorem bl_zero :bl 0=0:=rfl
theorem bl_lt (n:Nat):n<2^bl n:=by
 unfold bl;split
 ·subst_vars;decide
 ·exact Nat.lt_log2_self
theorem bl_le {n:Nat}(h:n≠0):2^(bl n-1)≤n:=by
 unfold bl;rw[if_neg h,Nat.add_sub_cancel];exact Nat.log2_self_le h
theorem bl_unique {n k:Nat}(h1:n<2^k)(h2:k=0∨2^(k-1)≤n):bl n=k:=by
 by_cases hn:n=0
 ·subst hn
  rcases h2 with rfl|h2
  ·rfl
  ·have:=Nat.two_pow_pos (k-1);omega
 ·have h3:=bl_lt n
  have h4:=bl_le hn
  rcases h2 with rfl|h2
  ·have:n<1:=h1;omega
  ·have h5:k-1<bl n:=(Nat.pow_lt_pow_iff_right (show 1<2 by decide)).1 (Nat.lt_of_le_of_lt h2 h3)
   have h6:bl n-1<k:=(Nat.pow_lt_pow_iff_right (show 1<2 by decide)).1 (Nat.lt_of_le_of_lt h4 h1)
   omega
theorem bl_pos {n:Nat}(h:n≠0):1≤bl n:=by unfold bl;rw[if_neg h];omega
theorem bl_le_iff {n k:Nat}:bl n≤k↔n<2^k:=by
 constructor
 ·intro h;exact Nat.lt_of_lt_of_le (bl_lt n) (Nat.pow_le_pow_right (by decide) h)
 ·intro h
  by_cases hn:n=0
  ·subst hn;simp[bl_zero]
  ·have h4:=bl_le hn
   have:=(Nat.pow_lt_pow_iff_right (show 1<2 by decide)).1 (Nat.lt_of_le_of_lt h4 h)
   have:=bl_pos hn
   omega
theorem bl_mul {n:Nat}(h:n≠0)(k:Nat):bl (n*2^k)=bl n+k:=by
 apply bl_unique
 ·rw[Nat.pow_add];exact Nat.mul_lt_mul_of_pos_right (bl_lt n) (Nat.two_pow_pos k)
 ·right
  have:=bl_pos h
  rw[show bl n+k-1=(bl n-1)+k by omega,Nat.pow_add]
  exact Nat.mul_le_mul_right _ (bl_le h)
theorem bl_div (n k:Nat):bl (n/2^k)=bl n-k:=by
 by_cases hk:bl n≤k
 ·have:=bl_le_iff.1 hk
  rw[Nat.div_eq_of_lt this,bl_zero];omega
 ·have hn:n≠0:=by rintro rfl;simp[bl_zero] at hk
  apply bl_unique
  ·rw[Nat.div_lt_iff_lt_mul (Nat.two_pow_pos k),←Nat.pow_add,show bl n-k+k=bl n by omega];exact bl_lt n
  ·right
   rw[Nat.le_div_iff_mul_le (Nat.two_pow_pos k),←Nat.pow_add,show bl n-k-1+k=bl n-1 by omega];exact bl_le hn
end Lc
namespace Lc
open Go
theorem pow64 :(18446744073709551616:Nat)=2^64:=rfl
theorem dig_testBit (n k i:Nat):(dig n k).testBit i=(decide (i<64)&&n.testBit (64*k+i)):=by
 unfold dig
 rw[pow64,Nat.testBit_mod_two_pow,Nat.testBit_div_two_pow,Nat.add_comm]
theorem dig_or (x y j:Nat):dig (x|||y) j=(dig x j|||dig y j):=by
 apply Nat.eq_of_testBit_eq
 intro i
 simp only[dig_testBit,Nat.testBit_or,Bool.and_or_distrib_left]
theorem dig_pow (w b j:Nat)(hb:b<64):dig (2^(64*w+b)) j=if j=w then 2^b else 0:=by
 apply Nat.eq_of_testBit_eq
 intro i
 simp only[dig_testBit,Nat.testBit_two_pow]
 split
 ·subst_vars
  rw[Nat.testBit_two_pow]
  by_cases h:i<64<;>simp[h]<;>omega
 ·simp only[Nat.zero_testBit,Bool.and_eq_false_iff,decide_eq_false_iff_not]
  omega
theorem Wn_or {m w b x:Nat}(hw:w<m)(hb:b<64):(Wn m x).set w (((dig x w|||2^b:Nat):Int))=Wn m (x|||2^(64*w+b)):=by
 refine Wn_set hw ?_ ?_
 ·rw[dig_or,dig_pow _ _ _ hb,if_pos rfl]
 ·intro j _ hne
  rw[dig_or,dig_pow _ _ _ hb,if_neg hne,Nat.or_zero]
theorem or_low {x t:Nat}(h:x<2^t):(x|||2^t)=x+2^t:=by
 have:=Nat.two_pow_add_eq_or_of_lt h 1
 rw[Nat.mul_one] at this
 rw[Nat.or_comm,←this,Nat.add_comm]
theorem or_high {x t:Nat}(h:x%2^(t+1)=0):(x|||2^t)=x+2^t:=by
 have hx:x=2^(t+1)*(x/2^(t+1)):=by have:=Nat.div_add_mod x (2^(t+1));omega
 rw[hx,←Nat.two_pow_add_eq_or_of_lt (Nat.pow_lt_pow_right (by decide) (Nat.lt_succ_self t))]
theorem dig_form {hi d lo k:Nat}(j:Nat)(hd:d<18446744073709551616)(hlo:lo<2^(64*k)):
 dig (2^(64*k)*(18446744073709551616*hi+d)+lo) j=if j<k then dig lo j else if j=k then d else dig hi (j-k-1):=by
 unfold dig
 split
 ·rename_i h
  have e:2^(64*k)=2^(64*j)*(18446744073709551616*2^(64*(k-j-1))):=by
   rw[pow64,←Nat.pow_add,←Nat.pow_add];congr 1;omega
  rw[e,Nat.mul_assoc,Nat.mul_add_div (Nat.two_pow_pos _),Nat.mul_assoc,Nat.mul_add_mod]
 ·rename_i h
  split
  ·rename_i h2
   subst h2
   rw[Nat.mul_add_div (Nat.two_pow_pos _),Nat.div_eq_of_lt hlo,Nat.add_zero,Nat.mul_add_mod,Nat.mod_eq_of_lt hd]
  ·rename_i h2
   have e:2^(64*j)=2^(64*k)*(18446744073709551616*2^(64*(j-k-1))):=by
    rw[pow64,←Nat.pow_add,←Nat.pow_add];congr 1;omega
   rw[e,←Nat.div_div_eq_div_mul,Nat.mul_add_div (Nat.two_pow_pos _),Nat.div_eq_of_lt hlo,Nat.add_zero,←Nat.div_div_eq_div_mul,Nat.mul_add_div (by decide),Nat.div_eq_of_lt hd,Nat.add_zero]
theorem dig_split (x k:Nat):x=2^(64*k)*(18446744073709551616*(x/2^(64*k)/18446744073709551616)+dig x k)+x%2^(64*k):=by
 unfold dig
 rw[Nat.div_add_mod,Nat.div_add_mod]
def setw (x k v:Nat):Nat:=2^(64*k)*(18446744073709551616*(x/2^(64*k)/18446744073709551616)+v)+x%2^(64*k)
theorem setw_eq (x k v:Nat):setw x k v+dig x k*2^(64*k)=x+v*2^(64*k):=by
 have h:=dig_split x k
 have e:setw x k v=2^(64*k)*(18446744073709551616*(x/2^(64*k)/18446744073709551616))+2^(64*k)*v+x%2^(64*k):=by unfold setw;rw[Nat.mul_add]
 rw[Nat.mul_add] at h
 rw[e,Nat.mul_comm (dig x k),Nat.mul_comm v]
 generalize 2^(64*k)*(18446744073709551616*(x/2^(64*k)/18446744073709551616))=A at*
 generalize 2^(64*k)*dig x k=D at*
 generalize 2^(64*k)*v=V at*
 generalize x%2^(64*k)=M at*
 omega
theorem Wn_setw {m k x v:Nat}(hk:k<m)(hv:v<18446744073709551616):(Wn m x).set k ((v:Nat):Int)=Wn m (setw x k v):=by
 have hlo:x%2^(64*k)<2^(64*k):=Nat.mod_lt _ (Nat.two_pow_pos _)
 refine Wn_set hk ?_ ?_
 ·unfold setw;rw[dig_form k hv hlo,if_neg (Nat.lt_irrefl _),if_pos rfl]
 ·intro j _ hne
  conv=>rhs;rw[dig_split x k]
  unfold setw
  rw[dig_form j hv hlo,dig_form j (dig_lt x k) hlo]
  simp only[hne,if_false]
theorem div_split (n i:Nat):n/2^(64*i)=18446744073709551616*(n/2^(64*(i+1)))+dig n i:=by
 have e:2^(64*(i+1))=2^(64*i)*18446744073709551616:=by rw[pow64,←Nat.pow_add];congr 1
 rw[e,←Nat.div_div_eq_div_mul];unfold dig;rw[Nat.div_add_mod]
theorem mod_split (n i:Nat):n%2^(64*(i+1))=n%2^(64*i)+dig n i*2^(64*i):=by
 have e:2^(64*(i+1))=2^(64*i)*18446744073709551616:=by rw[pow64,←Nat.pow_add];congr 1
 rw[e,Nat.mod_mul,Nat.mul_comm (dig n i)];rfl
theorem mul_step {x c k p lo hi S:Nat}(h:x+c*2^(64*k)=S)(hp:p+dig x k+c=18446744073709551616*hi+lo):
 setw x k lo+hi*2^(64*(k+1))=S+p*2^(64*k):=by
 have e:2^(64*(k+1))=18446744073709551616*2^(64*k):=by rw[pow64,←Nat.pow_add];congr 1;omega
 have h1:=setw_eq x k lo
 have h2:=congrArg (·*2^(64*k)) hp
 simp only[Nat.add_mul] at h2
 rw[e]
 rw[show 18446744073709551616*hi*2^(64*k)=hi*(18446744073709551616*2^(64*k)) by rw[Nat.mul_comm 18446744073709551616 hi,Nat.mul_assoc]] at h2
 generalize hi*(18446744073709551616*2^(64*k))=H at*
 generalize lo*2^(64*k)=Lo at*
 generalize p*2^(64*k)=Pp at*
 generalize c*2^(64*k)=C at*
 generalize dig x k*2^(64*k)=D at*
 generalize setw x k lo=X at*
 omega
theorem div_next {A K r b t:Nat}(h:A=b*K+r)(hr:r<b):(2*A+t)=b*(if b≤2*r+t then 2*K+1 else 2*K)+(if b≤2*r+t then 2*r+t-b else 2*r+t):=by
 split
 ·rw[Nat.mul_add,Nat.mul_one,show b*(2*K)=2*(b*K) by rw[Nat.mul_left_comm]]
  generalize b*K=X at*
  omega
 ·rw[show b*(2*K)=2*(b*K) by rw[Nat.mul_left_comm]]
  generalize b*K=X at*
  omega
theorem shl_dig {n j r:Nat}(hr:r<64)(hj:1≤j):dig (n*2^r) j=((dig n j*2^r%18446744073709551616)|||dig n (j-1)/2^(64-r)):=by
 apply Nat.eq_of_testBit_eq
 intro i
 rw[dig_testBit,Nat.testBit_or,pow64,Nat.testBit_mod_two_pow,Nat.testBit_mul_two_pow,Nat.testBit_mul_two_pow,Nat.testBit_div_two_pow,dig_testBit,dig_testBit]
 by_cases h1:i<64
 ·by_cases h2:r≤i
  ·have h3:i-r<64:=by omega
   have h4:¬(i+(64-r)<64):=by omega
   have h5:r≤64*j+i:=by omega
   have h6:64*j+i-r=64*j+(i-r):=by omega
   simp[h1,h2,h3,h4,h5,h6]
  ·have h4:i+(64-r)<64:=by omega
   have h5:r≤64*j+i:=by omega
   have h6:64*j+i-r=64*(j-1)+(i+(64-r)):=by omega
   simp[h1,h2,h4,h5,h6]
 ·have h4:¬(i+(64-r)<64):=by omega
  simp[h1,h4]
theorem shl_dig0 (n r:Nat):dig (n*2^r) 0=dig n 0*2^r%18446744073709551616:=by
 rw[dig0,dig0,Nat.mod_mul_mod]
theorem shl_words (n w r i:Nat):dig (n*2^(64*w+r)) i=if w≤i then dig (n*2^r) (i-w) else 0:=by
 unfold dig
 split
 ·rename_i h
  rw[show 64*i=64*(i-w)+64*w by omega,Nat.pow_add,Nat.pow_add,Nat.mul_comm (2^(64*w)),←Nat.mul_assoc,Nat.mul_div_mul_right _ _ (Nat.two_pow_pos _)]
 ·rename_i h
  rw[show 64*w+r=64*i+(64+(64*(w-i-1)+r)) by omega,Nat.pow_add,Nat.mul_left_comm,Nat.mul_div_cancel_left _ (Nat.two_pow_pos _),Nat.pow_add,←pow64,Nat.mul_left_comm,Nat.mul_mod_right]
theorem shr_dig {n j r:Nat}(hr:r<64):dig (n/2^r) j=(dig n j/2^r|||(dig n (j+1)*2^(64-r)%18446744073709551616)):=by
 apply Nat.eq_of_testBit_eq
 intro i
 rw[dig_testBit,Nat.testBit_or,pow64,Nat.testBit_mod_two_pow,Nat.testBit_mul_two_pow,Nat.testBit_div_two_pow,Nat.testBit_div_two_pow,dig_testBit,dig_testBit]
 by_cases h1:i+r<64
 ·have h2:i<64:=by omega
  have h3:¬(64-r≤i):=by omega
  have h6:64*j+i+r=64*j+(i+r):=by omega
  simp[h1,h2,h3,h6]
 ·by_cases h2:i<64
  ·have h3:64-r≤i:=by omega
   have h4:i-(64-r)<64:=by omega
   have h6:64*j+i+r=64*(j+1)+(i-(64-r)):=by omega
   simp[h1,h2,h3,h4,h6]
  ·simp[h1,h2]
theorem shr_words (n w r i:Nat):dig (n/2^(64*w+r)) i=dig (n/2^r) (i+w):=by
 unfold dig
 rw[Nat.div_div_eq_div_mul,Nat.div_div_eq_div_mul,←Nat.pow_add,←Nat.pow_add]
 congr 3
 omega
theorem dig_high {n k:Nat}(h:n<2^(64*k)):dig n k=0:=by unfold dig;rw[Nat.div_eq_of_lt h]
end Lc
set_option maxRecDepth 100000
namespace Lc
open Go
def W64 (x:Int):Prop:=0≤x∧x≤18446744073709551615
theorem W64.nat {x:Int}(h:W64 x):∃n:Nat,n<18446744073709551616∧x=(n:Int):=by
 obtain⟨n,rfl⟩:=Int.eq_ofNat_of_zero_le h.1
 exact⟨n,by have:=h.2;omega,rfl⟩
theorem u64_dig (n k:Nat):W64 ((dig n k:Nat):Int):=⟨by omega,by have:=dig_lt n k;omega⟩
def Add64.pre (x y c:Int):Prop:=W64 x∧W64 y∧0≤c∧c≤1
def Add64.fn (x y c:Int):Int×Int:=((x+y+c)%18446744073709551616,(x+y+c)/18446744073709551616)
def Sub64.pre (x y c:Int):Prop:=W64 x∧W64 y∧0≤c∧c≤1
def Sub64.fn (x y c:Int):Int×Int:=((x-y-c)%18446744073709551616,if x<y+c then 1 else 0)
def Len8Tab :ByteArray:=⟨((List.range 256).map (fun n=>UInt8.ofNat (bl n))).toArray⟩
theorem len8_size :Len8Tab.size=256:=by decide+kernel
theorem len8_get {n:Nat}(h:n<256):(Len8Tab.toList.getD n 0).toNat=bl n:=by
 have e:Len8Tab.toList=(List.range 256).map (fun n=>UInt8.ofNat (bl n)):=by rw[baList];rfl
 rw[e,List.getD_eq_getElem?_getD,List.getElem?_map,List.getElem?_range h]
 simp only[Option.map_some,Option.getD_some]
 have:bl n≤8:=bl_le_iff.2 h
 simp only[UInt8.toNat_ofNat']
 omega
def Len64.pre (x:Int):Prop:=W64 x
def Len64.fn (x:Int):Int:=((bl x.toNat:Nat):Int)
def Len64.VC :Prop:=∀(x0:Int),Len64.pre x0→(((decide (x0≥(4294967296:Int)))=true→0≤(32:Int)∧(((decide ((ishr .u64 x0 (32:Int))≥(65536:Int)))=true→0≤(16:Int)∧(let v14:Bool:=(decide ((ishr .u64 (ishr .u64 x0 (32:Int)) (16:Int))≥(256:Int)))
 ((v14=true→0≤(8:Int)∧(let v16:Int:=(ishr .u64 (ishr .u64 (ishr .u64 x0 (32:Int)) (16:Int)) (8:Int))
 (let v18:Int:=(IntKind.i64.wrap ((IntKind.i64.wrap ((32:Int)+(16:Int)))+(8:Int)))
 (0≤(IntKind.u8.wrap v16)∧(IntKind.u8.wrap v16)<(Len8Tab.size:Int))∧(let v22:Int:=(((Len8Tab.toList.getD (Int.toNat (IntKind.u8.wrap v16)) 0).toNat:Nat):Int)
 (Ret1 (IntKind.i64.wrap (v18+(IntKind.i64.wrap v22))) (Len64.fn x0))))))∧(v14=false→(let v21:Int:=(IntKind.u8.wrap (ishr .u64 (ishr .u64 x0 (32:Int)) (16:Int)))
 (0≤v21∧v21<(Len8Tab.size:Int))∧(let v22_1:Int:=(((Len8Tab.toList.getD (Int.toNat v21) 0).toNat:Nat):Int)
 (let v24:Int:=(IntKind.i64.wrap ((IntKind.i64.wrap ((32:Int)+(16:Int)))+(IntKind.i64.wrap v22_1)))
 (Ret1 v24 (Len64.fn x0)))))))))∧((decide ((ishr .u64 x0 (32:Int))≥(65536:Int)))=false→(((decide ((ishr .u64 x0 (32:Int))≥(256:Int)))=true→0≤(8:Int)∧(let v21_1:Int:=(IntKind.u8.wrap (ishr .u64 (ishr .u64 x0 (32:Int)) (8:Int)))
 (0≤v21_1∧v21_1<(Len8Tab.size:Int))∧(let v22_2:Int:=(((Len8Tab.toList.getD (Int.toNat v21_1) 0).toNat:Nat):Int)
 (let v24_1:Int:=(IntKind.i64.wrap ((IntKind.i64.wrap ((32:Int)+(8:Int)))+(IntKind.i64.wrap v22_2)))
 (Ret1 v24_1 (Len64.fn x0))))))∧((decide ((ishr .u64 x0 (32:Int))≥(256:Int)))=false→(0≤(IntKind.u8.wrap (ishr .u64 x0 (32:Int)))∧(IntKind.u8.wrap (ishr .u64 x0 (32:Int)))<(Len8Tab.size:Int))∧(let v22_3:Int:=(((Len8Tab.toList.getD (Int.toNat (IntKind.u8.wrap (ishr .u64 x0 (32:Int)))) 0).toNat:Nat):Int)
 (Ret1 (IntKind.i64.wrap ((32:Int)+(IntKind.i64.wrap v22_3))) (Len64.fn x0))))))))∧((decide (x0≥(4294967296:Int)))=false→(((decide (x0≥(65536:Int)))=true→0≤(16:Int)∧(((decide ((ishr .u64 x0 (16:Int))≥(256:Int)))=true→0≤(8:Int)∧(let v18_1:Int:=(IntKind.i64.wrap ((IntKind.i64.wrap ((0:Int)+(16:Int)))+(8:Int)))
 (let v21_2:Int:=(IntKind.u8.wrap (ishr .u64 (ishr .u64 x0 (16:Int)) (8:Int)))
 (0≤v21_2∧v21_2<(Len8Tab.size:Int))∧(let v22_4:Int:=(((Len8Tab.toList.getD (Int.toNat v21_2) 0).toNat:Nat):Int)
 (Ret1 (IntKind.i64.wrap (v18_1+(IntKind.i64.wrap v22_4))) (Len64.fn x0))))))∧((decide ((ishr .u64 x0 (16:Int))≥(256:Int)))=false→(0≤(IntKind.u8.wrap (ishr .u64 x0 (16:Int)))∧(IntKind.u8.wrap (ishr .u64 x0 (16:Int)))<(Len8Tab.size:Int))∧(let v22_5:Int:=(((Len8Tab.toList.getD (Int.toNat (IntKind.u8.wrap (ishr .u64 x0 (16:Int)))) 0).toNat:Nat):Int)
 (let v24_2:Int:=(IntKind.i64.wrap ((IntKind.i64.wrap ((0:Int)+(16:Int)))+(IntKind.i64.wrap v22_5)))
 (Ret1 v24_2 (Len64.fn x0)))))))∧((decide (x0≥(65536:Int)))=false→(((decide (x0≥(256:Int)))=true→0≤(8:Int)∧(0≤(IntKind.u8.wrap (ishr .u64 x0 (8:Int)))∧(IntKind.u8.wrap (ishr .u64 x0 (8:Int)))<(Len8Tab.size:Int))∧(let v22_6:Int:=(((Len8Tab.toList.getD (Int.toNat (IntKind.u8.wrap (ishr .u64 x0 (8:Int)))) 0).toNat:Nat):Int)
 (let v24_3:Int:=(IntKind.i64.wrap ((IntKind.i64.wrap ((0:Int)+(8:Int)))+(IntKind.i64.wrap v22_6)))
 (Ret1 v24_3 (Len64.fn x0)))))∧((decide (x0≥(256:Int)))=false→(0≤(IntKind.u8.wrap x0)∧(IntKind.u8.wrap x0)<(Len8Tab.size:Int))∧(let v22_7:Int:=(((Len8Tab.toList.getD (Int.toNat (IntKind.u8.wrap x0)) 0).toNat:Nat):Int)
 (Ret1 (IntKind.i64.wrap ((0:Int)+(IntKind.i64.wrap v22_7))) (Len64.fn x0)))))))))
theorem len64_core {x:Nat}(k:Nat)(h1:2^k≤x∨k=0)(h2:x/2^k<256):bl x=k+bl (x/2^k):=by
 have:=bl_div x k
 rcases h1 with h1|h1
 ·have h3:¬bl x≤k:=fun h=>by have:=bl_le_iff.1 h;omega
  omega
 ·subst h1;simp
theorem len64_fin {x:Nat}{a:Int}(k:Nat)(h1:2^k≤x∨k=0)(h2:x/2^k<256)(hx:x<18446744073709551616){t:Int}(ht:t=((x/2^k:Nat):Int))(hk:k≤56)(ha:a=k):
 (0≤IntKind.u8.wrap t∧IntKind.u8.wrap t<(Len8Tab.size:Int))∧Ret1 (IntKind.i64.wrap (a+IntKind.i64.wrap (((Len8Tab.toList.getD (IntKind.u8.wrap t).toNat 0).toNat:Nat):Int))) (Len64.fn (x:Int)):=by
 have hl:=len64_core k h1 h2
 have hb:bl (x/2^k)≤8:=bl_le_iff.2 h2
 generalize x/2^k=y at*
 have hw:IntKind.u8.wrap t=(y:Int):=by rw[ht,u8w (by omega) (by omega)]
 rw[hw,len8_size,Int.toNat_natCast,len8_get h2,ha]
 rw[i64w (n:=((bl y:Nat):Int)) (by omega) (by omega),i64w (by omega) (by omega)]
 refine⟨⟨by omega,by omega⟩,ret1.2 ?_⟩
 simp only[Len64.fn,Int.toNat_natCast]
 omega
theorem Len64.vc :Len64.VC:=by
 intro x0 h
 obtain⟨x,hx,rfl⟩:=W64.nat h
 have s32:ishr .u64 (x:Int) 32=((x/2^32:Nat):Int):=shr64 (k:=32) (by omega)
 have s16:∀y:Nat,ishr .u64 (y:Int) 16=((y/2^16:Nat):Int):=fun y=>shr64 (k:=16) (by omega)
 have s8:∀y:Nat,ishr .u64 (y:Int) 8=((y/2^8:Nat):Int):=fun y=>shr64 (k:=8) (by omega)
 simp only[s32,s16,s8,decide_eq_true_eq,decide_eq_false_iff_not]
 have e1:IntKind.i64.wrap (32+16)=48:=rfl
 have e2:IntKind.i64.wrap (48+8)=56:=rfl
 have e3:IntKind.i64.wrap (32+8)=40:=rfl
 have e4:IntKind.i64.wrap (0+16)=16:=rfl
 have e5:IntKind.i64.wrap (16+8)=24:=rfl
 have e6:IntKind.i64.wrap (0+8)=8:=rfl
 simp only[e1,e2,e3,e4,e5,e6]
 refine⟨fun h1=>⟨by omega,fun h2=>⟨by omega,fun h3=>⟨by omega, ?_⟩,fun h3=> ?_⟩,fun h2=>⟨fun h3=>⟨by omega, ?_⟩,fun h3=> ?_⟩⟩,fun h1=>⟨fun h2=>⟨by omega,fun h3=>⟨by omega, ?_⟩,fun h3=> ?_⟩,fun h2=>⟨fun h3=>⟨by omega, ?_⟩,fun h3=> ?_⟩⟩⟩
 ·exact len64_fin 56 (by omega) (by omega) hx (by omega) (by omega) rfl
 ·exact len64_fin 48 (by omega) (by omega) hx (by omega) (by omega) rfl
 ·exact len64_fin 40 (by omega) (by omega) hx (by omega) (by omega) rfl
 ·exact len64_fin 32 (by omega) (by omega) hx (by omega) (by omega) rfl
 ·exact len64_fin 24 (by omega) (by omega) hx (by omega) (by omega) rfl
 ·exact len64_fin 16 (by omega) (by omega) hx (by omega) (by omega) rfl
 ·exact len64_fin 8 (by omega) (by omega) hx (by omega) (by omega) rfl
 ·exact len64_fin 0 (by omega) (by omega) hx (by omega) (by omega) rfl
def Mul64.pre (x y:Int):Prop:=W64 x∧W64 y
def Mul64.fn (x y:Int):Int×Int:=(x*y/18446744073709551616,x*y%18446744073709551616)
def Mul64.VC :Prop:=∀(x0:Int) (x1:Int),Mul64.pre x0 x1→0≤(32:Int)∧0≤(32:Int)∧(let v24:Int:=(IntKind.u64.wrap ((iand .u64 x0 (4294967295:Int))*(iand .u64 x1 (4294967295:Int))))
 (let v27:Int:=(IntKind.u64.wrap ((ishr .u64 x0 (32:Int))*(iand .u64 x1 (4294967295:Int))))
 0≤(32:Int)∧(let v32:Int:=(iand .u64 (IntKind.u64.wrap (v27+(ishr .u64 v24 (32:Int)))) (4294967295:Int))
 0≤(32:Int)∧(let v34:Int:=(ishr .u64 (IntKind.u64.wrap (v27+(ishr .u64 v24 (32:Int)))) (32:Int))
 (let v38:Int:=(IntKind.u64.wrap ((iand .u64 x0 (4294967295:Int))*(ishr .u64 x1 (32:Int))))
 (let v42:Int:=(IntKind.u64.wrap ((ishr .u64 x0 (32:Int))*(ishr .u64 x1 (32:Int))))
 0≤(32:Int)∧(let v47:Int:=(IntKind.u64.wrap ((IntKind.u64.wrap (v42+v34))+(ishr .u64 (IntKind.u64.wrap (v32+v38)) (32:Int))))
 (Ret2 v47 (IntKind.u64.wrap (x0*x1)) (Mul64.fn x0 x1)))))))))
theorem and32 {a:Nat}(h:a<18446744073709551616):iand .u64 (a:Int) 4294967295=((a%4294967296:Nat):Int):=by
 have:(4294967295:Int)=((4294967295:Nat):Int):=rfl
 rw[this,and64 h (by omega)]
 congr 1
 exact Nat.and_two_pow_sub_one_eq_mod a 32
theorem mul64_core {a b c d:Nat}(ha:a<4294967296)(hb:b<4294967296)(hc:c<4294967296)(hd:d<4294967296):
 a*c+(a*d+b*c/1*0+0)/1*0=a*c∧a*c≤18446744065119617025∧a*d≤18446744065119617025∧b*c≤18446744065119617025∧b*d≤18446744065119617025:=by
 have h:∀{x y:Nat},x<4294967296→y<4294967296→x*y≤18446744065119617025:=by
  intro x y hx hy
  exact Nat.mul_le_mul (show x≤4294967295 by omega) (show y≤4294967295 by omega)
 exact⟨by simp,h ha hc,h ha hd,h hb hc,h hb hd⟩
theorem Mul64.vc :Mul64.VC:=by
 intro x0 x1 ⟨h0,h1⟩
 obtain⟨x,hx,rfl⟩:=W64.nat h0
 obtain⟨y,hy,rfl⟩:=W64.nat h1
 have s32:∀a:Nat,ishr .u64 (a:Int) 32=((a/4294967296:Nat):Int):=fun a=>shr64 (k:=32) (by omega)
 refine⟨by omega,by omega, ?_⟩
 simp only[and32 hx,and32 hy,s32]
 have bx:x/4294967296<4294967296:=by omega
 have by':y/4294967296<4294967296:=by omega
 have cx:x%4294967296<4294967296:=by omega
 have cy:y%4294967296<4294967296:=by omega
 have hxy:x*y=18446744073709551616*(x/4294967296*(y/4294967296))+4294967296*(x/4294967296*(y%4294967296))+4294967296*(x%4294967296*(y/4294967296))+x%4294967296*(y%4294967296):=by
  conv=>lhs;rw[←Nat.div_add_mod x 4294967296,←Nat.div_add_mod y 4294967296]
  rw[Nat.add_mul,Nat.mul_add,Nat.mul_add]
  generalize x/4294967296=a
  generalize y/4294967296=b
  generalize x%4294967296=c
  generalize y%4294967296=d
  rw[show 4294967296*a*(4294967296*b)=18446744073709551616*(a*b) by rw[Nat.mul_mul_mul_comm],Nat.mul_assoc 4294967296 a d,show c*(4294967296*b)=4294967296*(c*b) by rw[Nat.mul_left_comm]]
  omega
 obtain⟨_,k1,k2,k3,k4⟩:=mul64_core bx cx by' cy
 have hm:((x:Int)*(y:Int))=((x*y:Nat):Int):=by simp
 simp only[hm,←Int.natCast_mul]
 generalize x*y=p at*
 generalize x/4294967296*(y/4294967296)=hh at*
 generalize x/4294967296*(y%4294967296)=hl at*
 generalize x%4294967296*(y/4294967296)=lh at*
 generalize x%4294967296*(y%4294967296)=ll at*
 refine⟨by omega, ?_⟩
 have w1:IntKind.u64.wrap (ll:Int)=(ll:Int):=u64w (by omega) (by omega)
 have w2:IntKind.u64.wrap (hl:Int)=(hl:Int):=u64w (by omega) (by omega)
 have w3:IntKind.u64.wrap (lh:Int)=(lh:Int):=u64w (by omega) (by omega)
 have w4:IntKind.u64.wrap (hh:Int)=(hh:Int):=u64w (by omega) (by omega)
 simp only[w1,w2,w3,w4,s32]
 have w5:IntKind.u64.wrap ((hl:Int)+((ll/4294967296:Nat):Int))=((hl+ll/4294967296:Nat):Int):=by rw[u64w (by omega) (by omega)];omega
 simp only[w5,s32,and32 (show hl+ll/4294967296<18446744073709551616 by omega)]
 refine⟨by omega,by omega, ?_⟩
 have w6:IntKind.u64.wrap ((((hl+ll/4294967296)%4294967296:Nat):Int)+(lh:Int))=(((hl+ll/4294967296)%4294967296+lh:Nat):Int):=by rw[u64w (by omega) (by omega)];omega
 have w7:IntKind.u64.wrap ((hh:Int)+(((hl+ll/4294967296)/4294967296:Nat):Int))=((hh+(hl+ll/4294967296)/4294967296:Nat):Int):=by rw[u64w (by omega) (by omega)];omega
 simp only[w6,w7,s32]
 rw[u64w (by omega) (by omega),u64m]
 refine ret2.2 ?_
 simp only[Mul64.fn,hm]
 refine Prod.ext ?_ ?_<;>simp only<;>omega
theorem ok4_get {n:Nat}{i:Int}(h:0≤i∧i<4):(Wn 4 n).getD i.toNat 0=((dig n i.toNat:Nat):Int):=Wn_getD n (by omega)
theorem set0 {n:Nat}(h:n<18446744073709551616):(List.replicate 4 (0:Int)).set 0 (n:Int)=Wn 4 n:=by
 rw[W4_eq,dig0,dig1,dig2,dig3]
 have e1:n%18446744073709551616=n:=by omega
 have e2:n/18446744073709551616%18446744073709551616=0:=by omega
 have e3:n/340282366920938463463374607431768211456%18446744073709551616=0:=by omega
 have e4:n/6277101735386680763835789423207666416102355444464034512896%18446744073709551616=0:=by omega
 rw[e1,e2,e3,e4];rfl
def WFrom.pre (x:Int):Prop:=W64 x
def WFrom.fn (x:Int):List Int:=Wn 4 x.toNat
def WFrom.VC :Prop:=∀(x0:Int),WFrom.pre x0→(Ret1 ((List.replicate 4 (0:Int)).set 0 x0) (WFrom.fn x0))
theorem WFrom.vc :WFrom.VC:=by
 intro x0 h
 obtain⟨x,hx,rfl⟩:=W64.nat h
 exact ret1.2 (by rw[set0 hx];rfl)
def QFromUint.pre (x:Int):Prop:=W64 x
def QFromUint.fn (x:Int):List Int:=Wn 4 x.toNat
def QFromUint.VC :Prop:=∀(x0:Int),QFromUint.pre x0→(Ret1 ((List.replicate 4 (0:Int)).set 0 x0) (QFromUint.fn x0))
theorem QFromUint.vc :QFromUint.VC:=WFrom.vc
def cmpN (n m:Nat):Int:=if n<m then-1 else if m<n then 1 else 0
def WCmp.pre (a b:List Int):Prop:=Ok4 a∧Ok4 b
def WCmp.fn (a b:List Int):Int:=cmpN (N4 a) (N4 b)
def WCmp.inv2 (a b:List Int)(i:Int):Prop:= -1≤i∧i≤3∧N4 a/2^(64*(i+1).toNat)=N4 b/2^(64*(i+1).toNat)
def WCmp.mes2 (a b:List Int)(i:Int):Nat:=(i+1).toNat
def WCmp.VC :Prop:=∀(x0:(List Int)) (x1:(List Int)),WCmp.pre x0 x1→(WCmp.inv2 x0 x1 (3:Int)∧∀(v5:Int),WCmp.inv2 x0 x1 v5→(((decide (v5≥(0:Int)))=true→(0≤v5∧v5<4)∧(0≤v5∧v5<4)∧(let v16:Bool:=(decide ((x0.getD (Int.toNat v5) (0:Int))<(x1.getD (Int.toNat v5) (0:Int))))
 ((v16=true→(Ret1 (-1:Int) (WCmp.fn x0 x1)))∧(v16=false→(0≤v5∧v5<4)∧(0≤v5∧v5<4)∧(let v23:Bool:=(decide ((x0.getD (Int.toNat v5) (0:Int))>(x1.getD (Int.toNat v5) (0:Int))))
 ((v23=true→(Ret1 (1:Int) (WCmp.fn x0 x1)))∧(v23=false→(WCmp.inv2 x0 x1 (IntKind.i64.wrap (v5-(1:Int)))∧WCmp.mes2 x0 x1 (IntKind.i64.wrap (v5-(1:Int)))<WCmp.mes2 x0 x1 v5))))))))∧((decide (v5≥(0:Int)))=false→(Ret1 (0:Int) (WCmp.fn x0 x1)))))
theorem WCmp.vc :WCmp.VC:=by
 rintro a b ⟨⟨n,hn,rfl⟩,⟨m,hm,rfl⟩⟩
 simp only[WCmp.inv2,WCmp.fn,N4_W4 hn,N4_W4 hm]
 refine⟨⟨by omega,by omega, ?_⟩, ?_⟩
 ·unfold Big at hn hm
  show n/2^256=m/2^256
  omega
 rintro i ⟨k1,k2,k3⟩
 refine⟨fun hc=> ?_,fun hc=> ?_⟩
 ·have hc:0≤i:=of_decide_eq_true hc
  have hi:0≤i∧i<4:=⟨hc,by omega⟩
  rw[ok4_get hi,ok4_get hi]
  have e:(i+1).toNat=i.toNat+1:=by omega
  rw[e] at k3
  have d1:=div_split n i.toNat
  have d2:=div_split m i.toNat
  rw[k3] at d1
  refine⟨hi,hi,fun h=> ?_,fun h=>⟨hi,hi,fun h2=> ?_,fun h2=> ?_⟩⟩
  ·have h:((dig n i.toNat:Nat):Int)<((dig m i.toNat:Nat):Int):=of_decide_eq_true h
   have hlt:n<m:=by
    refine Nat.lt_of_not_le (fun hle=> ?_)
    have:=Nat.div_le_div_right (c:=2^(64*i.toNat)) hle
    omega
   rw[ret1,cmpN,if_pos hlt]
  ·have h2:((dig n i.toNat:Nat):Int)>((dig m i.toNat:Nat):Int):=of_decide_eq_true h2
   have hlt:m<n:=by
    refine Nat.lt_of_not_le (fun hle=> ?_)
    have:=Nat.div_le_div_right (c:=2^(64*i.toNat)) hle
    omega
   rw[ret1,cmpN,if_neg (by omega),if_pos hlt]
  ·have h:¬((dig n i.toNat:Nat):Int)<((dig m i.toNat:Nat):Int):=of_decide_eq_false h
   have h2:¬((dig n i.toNat:Nat):Int)>((dig m i.toNat:Nat):Int):=of_decide_eq_false h2
   rw[i64w (by omega) (by omega)]
   refine⟨⟨by omega,by omega, ?_⟩,by simp only[WCmp.mes2];omega⟩
   rw[show i-1+1=i by omega]
   omega
 ·have hc:¬0≤i:=of_decide_eq_false hc
  have:(i+1).toNat=0:=by omega
  rw[this] at k3
  simp only[Nat.mul_zero,Nat.pow_zero,Nat.div_one] at k3
  rw[ret1,cmpN,k3];simp
def QCmp.pre (a b:List Int):Prop:=Ok4 a∧Ok4 b
def QCmp.fn (a b:List Int):Int:=cmpN (N4 a) (N4 b)
def QCmp.inv2 (a b:List Int)(i:Int):Prop:=WCmp.inv2 a b i
def QCmp.mes2 (a b:List Int)(i:Int):Nat:=WCmp.mes2 a b i
def QCmp.VC :Prop:=∀(x0:(List Int)) (x1:(List Int)),QCmp.pre x0 x1→(QCmp.inv2 x0 x1 (3:Int)∧∀(v5:Int),QCmp.inv2 x0 x1 v5→(((decide (v5≥(0:Int)))=true→(0≤v5∧v5<4)∧(0≤v5∧v5<4)∧(let v16:Bool:=(decide ((x0.getD (Int.toNat v5) (0:Int))<(x1.getD (Int.toNat v5) (0:Int))))
 ((v16=true→(Ret1 (-1:Int) (QCmp.fn x0 x1)))∧(v16=false→(0≤v5∧v5<4)∧(0≤v5∧v5<4)∧(let v23:Bool:=(decide ((x0.getD (Int.toNat v5) (0:Int))>(x1.getD (Int.toNat v5) (0:Int))))
 ((v23=true→(Ret1 (1:Int) (QCmp.fn x0 x1)))∧(v23=false→(QCmp.inv2 x0 x1 (IntKind.i64.wrap (v5-(1:Int)))∧QCmp.mes2 x0 x1 (IntKind.i64.wrap (v5-(1:Int)))<QCmp.mes2 x0 x1 v5))))))))∧((decide (v5≥(0:Int)))=false→(Ret1 (0:Int) (QCmp.fn x0 x1)))))
theorem QCmp.vc :QCmp.VC:=WCmp.vc
def WLen.pre (a:List Int):Prop:=Ok4 a
def WLen.fn (a:List Int):Int:=((bl (N4 a):Nat):Int)
def WLen.inv2 (a:List Int)(i:Int):Prop:= -1≤i∧i≤3∧N4 a<2^(64*(i+1).toNat)
def WLen.mes2 (a:List Int)(i:Int):Nat:=(i+1).toNat
def WLen.VC :Prop:=∀(x0:(List Int)),WLen.pre x0→(WLen.inv2 x0 (3:Int)∧∀(v3:Int),WLen.inv2 x0 v3→(((decide (v3≥(0:Int)))=true→(0≤v3∧v3<4)∧((((x0.getD (Int.toNat v3) (0:Int)) !=(0:Int))=true→(0≤v3∧v3<4)∧Len64.pre (x0.getD (Int.toNat v3) (0:Int))∧(let v18:Int:=(IntKind.i64.wrap ((IntKind.i64.wrap ((64:Int)*v3))+(Len64.fn (x0.getD (Int.toNat v3) (0:Int)))))
 (Ret1 v18 (WLen.fn x0))))∧(((x0.getD (Int.toNat v3) (0:Int)) !=(0:Int))=false→(WLen.inv2 x0 (IntKind.i64.wrap (v3-(1:Int)))∧WLen.mes2 x0 (IntKind.i64.wrap (v3-(1:Int)))<WLen.mes2 x0 v3))))∧((decide (v3≥(0:Int)))=false→(Ret1 (0:Int) (WLen.fn x0)))))
theorem bl_big {n:Nat}(h:n<Big):bl n≤256:=bl_le_iff.2 (by rw[←big_pow];exact h)
theorem WLen.vc :WLen.VC:=by
 rintro a ⟨n,hn,rfl⟩
 have hb:=bl_big hn
 simp only[WLen.inv2,WLen.fn,N4_W4 hn]
 refine⟨⟨by omega,by omega,by rw[show((3:Int)+1).toNat=4 from rfl,←show Big=2^(64*4) from big_pow];exact hn⟩, ?_⟩
 rintro i ⟨k1,k2,k3⟩
 refine⟨fun hc=> ?_,fun hc=> ?_⟩
 ·have hc:0≤i:=of_decide_eq_true hc
  have hi:0≤i∧i<4:=⟨hc,by omega⟩
  rw[ok4_get hi]
  have e:(i+1).toNat=i.toNat+1:=by omega
  rw[e] at k3
  have d1:=div_split n i.toNat
  rw[Nat.div_eq_of_lt k3,Nat.mul_zero,Nat.zero_add] at d1
  refine⟨hi,fun h=>⟨hi,u64_dig _ _, ?_⟩,fun h=> ?_⟩
  ·have h:((dig n i.toNat:Nat):Int)≠0:=by simpa using h
   simp only[Len64.fn,Int.toNat_natCast]
   rw[←d1,bl_div]
   have hl:64*i.toNat<bl n:=by
    refine Nat.lt_of_not_le (fun hle=> ?_)
    have:=bl_le_iff.1 hle
    rw[Nat.div_eq_of_lt this] at d1
    omega
   rw[i64w (n:=64*i) (by omega) (by omega),i64w (by omega) (by omega)]
   rw[ret1];omega
  ·have h:((dig n i.toNat:Nat):Int)=0:=by simpa using h
   rw[i64w (by omega) (by omega)]
   refine⟨⟨by omega,by omega, ?_⟩,by simp only[WLen.mes2];omega⟩
   rw[show i-1+1=i by omega]
   have hz:n/2^(64*i.toNat)=0:=by omega
   exact(Nat.div_eq_zero_iff_lt (Nat.two_pow_pos _)).1 hz
 ·have hc:¬0≤i:=of_decide_eq_false hc
  have:(i+1).toNat=0:=by omega
  rw[this] at k3
  have:n=0:=by simpa using k3
  subst this
  exact ret1.2 (by simp[bl_zero])
def QBit.pre (a:List Int)(i:Int):Prop:=Ok4 a∧0≤i∧i<256
def QBit.fn (a:List Int)(i:Int):Bool:=decide (N4 a/2^i.toNat%2=1)
def QBit.VC :Prop:=∀(x0:(List Int)) (x1:Int),QBit.pre x0 x1→(64:Int)≠0∧(0≤(IntKind.i64.wrap (Int.tdiv x1 (64:Int)))∧(IntKind.i64.wrap (Int.tdiv x1 (64:Int)))<4)∧(let v8:Int:=(x0.getD (Int.toNat (IntKind.i64.wrap (Int.tdiv x1 (64:Int)))) (0:Int))
 (64:Int)≠0∧0≤(Int.tmod x1 (64:Int))∧(let v12:Int:=(iand .u64 (ishr .u64 v8 (Int.tmod x1 (64:Int))) (1:Int))
 (Ret1 (v12==(1:Int)) (QBit.fn x0 x1))))
theorem QBit.vc :QBit.VC:=by
 rintro a i ⟨⟨n,hn,rfl⟩,h1,h2⟩
 simp only[QBit.fn,N4_W4 hn]
 have e1:Int.tdiv i 64=i/64:=Int.tdiv_eq_ediv_of_nonneg h1
 have e2:Int.tmod i 64=i%64:=Int.tmod_eq_emod_of_nonneg h1
 rw[e1,e2,i64w (by omega) (by omega),ok4_get (by omega)]
 refine⟨by omega,by omega,by omega,by omega, ?_⟩
 obtain⟨j,rfl⟩:=Int.eq_ofNat_of_zero_le h1
 have e3:(j:Int)%64=((j%64:Nat):Int):=by omega
 have e4:((j:Int)/64).toNat=j/64:=by omega
 rw[e3,e4,shr64 (by omega),show(1:Int)=((1:Nat):Int) from rfl,and64 (Nat.lt_of_le_of_lt (Nat.div_le_self _ _) (dig_lt _ _)) (by omega),Nat.and_one_is_mod,dig_bit n (Nat.mod_lt _ (by omega)),Nat.div_add_mod,Int.toNat_natCast]
 rw[ret1,Bool.eq_iff_iff]
 simp only[beq_iff_eq,decide_eq_true_eq]
 omega
def QLen.pre (a:List Int):Prop:=Ok4 a
def QLen.fn (a:List Int):Int:=((bl (N4 a):Nat):Int)
def QLen.inv2 (a:List Int)(i:Int):Prop:= -1≤i∧i≤255∧N4 a<2^(i+1).toNat
def QLen.mes2 (a:List Int)(i:Int):Nat:=(i+1).toNat
def QLen.VC :Prop:=∀(x0:(List Int)),QLen.pre x0→(QLen.inv2 x0 (255:Int)∧∀(v3:Int),QLen.inv2 x0 v3→(((decide (v3≥(0:Int)))=true→QBit.pre x0 v3∧(((QBit.fn x0 v3)=true→(Ret1 (IntKind.i64.wrap (v3+(1:Int))) (QLen.fn x0)))∧((QBit.fn x0 v3)=false→(QLen.inv2 x0 (IntKind.i64.wrap (v3-(1:Int)))∧QLen.mes2 x0 (IntKind.i64.wrap (v3-(1:Int)))<QLen.mes2 x0 v3))))∧((decide (v3≥(0:Int)))=false→(Ret1 (0:Int) (QLen.fn x0)))))
theorem bit_top {n i:Nat}(h:n<2^(i+1)):(n/2^i%2=1→bl n=i+1)∧(¬n/2^i%2=1→n<2^i):=by
 have hd:n/2^i<2:=by rw[Nat.div_lt_iff_lt_mul (Nat.two_pow_pos i),←Nat.pow_succ'];exact h
 refine⟨fun hb=>bl_unique h (.inr ?_),fun hb=> ?_⟩
 ·rw[Nat.add_sub_cancel]
  refine Nat.le_of_not_lt (fun hlt=> ?_)
  rw[Nat.div_eq_of_lt hlt] at hb;omega
 ·refine(Nat.div_eq_zero_iff_lt (Nat.two_pow_pos _)).1 ?_
  generalize n/2^i=y at*
  omega
theorem QLen.vc :QLen.VC:=by
 rintro a ⟨n,hn,rfl⟩
 have hb:=bl_big hn
 simp only[QLen.inv2,QLen.fn,QBit.fn,N4_W4 hn]
 refine⟨⟨by omega,by omega,by rw[show((255:Int)+1).toNat=256 from rfl,←big_pow];exact hn⟩, ?_⟩
 rintro i ⟨k1,k2,k3⟩
 refine⟨fun hc=> ?_,fun hc=> ?_⟩
 ·have hc:0≤i:=of_decide_eq_true hc
  rw[show(i+1).toNat=i.toNat+1 by omega] at k3
  obtain⟨b1,b2⟩:=bit_top k3
  refine⟨⟨⟨n,hn,rfl⟩,hc,by omega⟩,fun h=> ?_,fun h=> ?_⟩
  ·rw[i64w (by omega) (by omega),b1 (of_decide_eq_true h)]
   rw[ret1];omega
  ·rw[i64w (by omega) (by omega)]
   refine⟨⟨by omega,by omega, ?_⟩,by simp only[QLen.mes2];omega⟩
   rw[show i-1+1=i by omega]
   exact b2 (of_decide_eq_false h)
 ·have hc:¬0≤i:=of_decide_eq_false hc
  have:(i+1).toNat=0:=by omega
  rw[this] at k3
  have:n=0:=by simpa using k3
  subst this
  exact ret1.2 (by simp[bl_zero])
def QZero.pre (a:List Int):Prop:=Ok4 a
def QZero.fn (a:List Int):Bool:=decide (N4 a=0)
def QZero.VC :Prop:=∀(x0:(List Int)),QZero.pre x0→(let v5:Bool:=(Ty.beq (.arr 4 (.int .u64)) x0 (List.replicate 4 (0:Int)))
 (Ret1 v5 (QZero.fn x0)))
theorem beq4 {a b:List Int}:Ty.beq (.arr 4 (.int .u64)) a b=decide (a=b):=by
 rw[Bool.eq_iff_iff,beq_iff,decide_eq_true_iff]
theorem zeq {a:List Int}(h:Ok4 a):Ty.beq (.arr 4 (.int .u64)) a (List.replicate 4 0)=decide (N4 a=0):=by
 rw[beq4,decide_eq_decide];exact h.eqz
theorem QZero.vc :QZero.VC:=by
 intro a h
 exact ret1.2 (zeq h)
def QNot.pre (a:List Int):Prop:=Ok4 a
def QNot.fn (a:List Int):List Int:=Wn 4 (Big-1-N4 a)
def QNot.VC :Prop:=∀(x0:(List Int)),QNot.pre x0→(0≤(0:Int)∧(0:Int)<4)∧(0≤(1:Int)∧(1:Int)<4)∧(0≤(2:Int)∧(2:Int)<4)∧(0≤(3:Int)∧(3:Int)<4)∧(let v15:(List Int):=[(inot .u64 (x0.getD (Int.toNat (0:Int)) (0:Int))),(inot .u64 (x0.getD (Int.toNat (1:Int)) (0:Int))),(inot .u64 (x0.getD (Int.toNat (2:Int)) (0:Int))),(inot .u64 (x0.getD (Int.toNat (3:Int)) (0:Int)))]
 (Ret1 v15 (QNot.fn x0)))
theorem QNot.vc :QNot.VC:=by
 rintro a ⟨n,hn,rfl⟩
 refine⟨by omega,by omega,by omega,by omega, ?_⟩
 have hB:=hn
 unfold Big at hB
 simp only[QNot.fn,N4_W4 hn]
 have g:∀k,k<4→inot .u64 ((Wn 4 n).getD k 0)=((18446744073709551615-dig n k:Nat):Int):=fun k hk=>by rw[Wn_getD n hk,not64 (dig_lt _ _)]
 have g0:=g 0 (by omega)
 have g1:=g 1 (by omega)
 have g2:=g 2 (by omega)
 have g3:=g 3 (by omega)
 refine ret1.2 ?_
 show[inot .u64 ((Wn 4 n).getD 0 0),inot .u64 ((Wn 4 n).getD 1 0),inot .u64 ((Wn 4 n).getD 2 0),inot .u64 ((Wn 4 n).getD 3 0)]=_
 rw[g0,g1,g2,g3,W4_eq]
 simp only[dig0,dig1,dig2,dig3,Big,List.cons.injEq,and_true]
 omega
end Lc
set_option maxRecDepth 100000
namespace Lc
open Go
theorem N4_W (z:Nat):N4 (Wn 4 z)=z%Big:=by rw[←Wn_mod,N4_W4 (Nat.mod_lt _ (by decide))]
theorem Wn_congr {z y:Nat}(h:z%Big=y%Big):Wn 4 z=Wn 4 y:=by rw[←Wn_mod z,←Wn_mod y,h]
theorem mix_getD {A B:List Int}(h:A.length=B.length)(i j:Nat):(mix A B i).getD j 0=if j<i then A.getD j 0 else B.getD j 0:=by
 simp only[mix,List.getD_eq_getElem?_getD]
 by_cases hj:j<i
 ·rw[if_pos hj]
  by_cases hA:j<A.length
  ·rw[List.getElem?_append_left (by simp;omega),List.getElem?_take,if_pos hj]
  ·rw[List.getElem?_append_right (by simp;omega),List.getElem?_drop,List.length_take,Nat.min_eq_right (by omega)]
   rw[List.getElem?_eq_none (by omega),List.getElem?_eq_none (by omega)]
 ·rw[if_neg hj,List.getElem?_append_right (by simp;omega),List.getElem?_drop,List.length_take]
  by_cases hA:i≤A.length
  ·rw[Nat.min_eq_left hA,show i+(j-i)=j by omega]
  ·rw[Nat.min_eq_right (by omega),List.getElem?_eq_none (by omega),List.getElem?_eq_none (by omega)]
def Z4 :List Int:=List.replicate 4 0
theorem Z4_len :Z4.length=4:=rfl
def carry (n m i:Nat):Nat:=(n%2^(64*i)+m%2^(64*i))/2^(64*i)
theorem carry_le (n m i:Nat):carry n m i≤1:=by
 unfold carry
 have h1:=Nat.mod_lt n (Nat.two_pow_pos (64*i))
 have h2:=Nat.mod_lt m (Nat.two_pow_pos (64*i))
 exact Nat.le_of_lt_succ ((Nat.div_lt_iff_lt_mul (Nat.two_pow_pos _)).2 (by omega))
theorem add_dig (n m i:Nat):dig (n+m) i=(dig n i+dig m i+carry n m i)%18446744073709551616:=by
 have e:n+m=2^(64*i)*(n/2^(64*i)+m/2^(64*i))+(n%2^(64*i)+m%2^(64*i)):=by
  have h1:=Nat.div_add_mod n (2^(64*i))
  have h2:=Nat.div_add_mod m (2^(64*i))
  rw[Nat.mul_add]
  omega
 unfold carry dig
 rw[e,Nat.mul_add_div (Nat.two_pow_pos _)]
 omega
theorem carry_succ (n m i:Nat):carry n m (i+1)=(dig n i+dig m i+carry n m i)/18446744073709551616:=by
 unfold carry
 rw[mod_split,mod_split]
 have e:2^(64*(i+1))=2^(64*i)*18446744073709551616:=by rw[pow64,←Nat.pow_add];congr 1
 rw[e,←Nat.div_div_eq_div_mul]
 have e2:n%2^(64*i)+dig n i*2^(64*i)+(m%2^(64*i)+dig m i*2^(64*i))=2^(64*i)*(dig n i+dig m i)+(n%2^(64*i)+m%2^(64*i)):=by
  rw[Nat.mul_add,Nat.mul_comm (dig n i),Nat.mul_comm (dig m i)];omega
 rw[e2,Nat.mul_add_div (Nat.two_pow_pos _)]
def QAdd.pre (a b:List Int):Prop:=Ok4 a∧Ok4 b
def QAdd.fn (a b:List Int):List Int×Bool:=(Wn 4 (N4 a+N4 b),decide (Big≤N4 a+N4 b))
def QAdd.inv4 (a b v4 v6:List Int)(c i:Int):Prop:=0≤i∧i≤4∧v6=mix (Wn 4 (N4 a+N4 b)) Z4 i.toNat∧c=((carry (N4 a) (N4 b) i.toNat:Nat):Int)
def QAdd.mes4 (a b v4 v6:List Int)(c i:Int):Nat:=(4-i).toNat
def QAdd.VC :Prop:=∀(x0:(List Int)) (x1:(List Int)),QAdd.pre x0 x1→(QAdd.inv4 x0 x1 (List.replicate 4 (0:Int)) (List.replicate 4 (0:Int)) (0:Int) (0:Int)∧∀(v4:(List Int)) (v6:(List Int)) (v7:Int) (v9:Int),QAdd.inv4 x0 x1 v4 v6 v7 v9→(((decide (v9<(4:Int)))=true→(0≤v9∧v9<4)∧(0≤v9∧v9<4)∧Add64.pre (x0.getD (Int.toNat v9) (0:Int)) (x1.getD (Int.toNat v9) (0:Int)) v7∧(let v22:Int:=(Add64.fn (x0.getD (Int.toNat v9) (0:Int)) (x1.getD (Int.toNat v9) (0:Int)) v7).1
 (let v23:Int:=(Add64.fn (x0.getD (Int.toNat v9) (0:Int)) (x1.getD (Int.toNat v9) (0:Int)) v7).2
 (0≤v9∧v9<4)∧(QAdd.inv4 x0 x1 v4 (v6.set (Int.toNat v9) v22) v23 (IntKind.i64.wrap (v9+(1:Int)))∧QAdd.mes4 x0 x1 v4 (v6.set (Int.toNat v9) v22) v23 (IntKind.i64.wrap (v9+(1:Int)))<QAdd.mes4 x0 x1 v4 v6 v7 v9))))∧((decide (v9<(4:Int)))=false→(Ret2 v6 (v7==(1:Int)) (QAdd.fn x0 x1)))))
theorem mixZ_set {s:Nat}{i:Int}{x:Int}(h:0≤i∧i<4)(hx:x=((dig s i.toNat:Nat):Int)){B:List Int}(hB:B.length=4):(mix (Wn 4 s) B i.toNat).set i.toNat x=mix (Wn 4 s) B (i+1).toNat:=by
 rw[mix_set (by rw[Wn_len,hB]) (by rw[Wn_len];omega) (by rw[ok4_get h];exact hx),show(i+1).toNat=i.toNat+1 by omega]
theorem QAdd.vc :QAdd.VC:=by
 rintro a b ⟨⟨n,hn,rfl⟩,⟨m,hm,rfl⟩⟩
 simp only[QAdd.inv4,QAdd.fn,N4_W4 hn,N4_W4 hm]
 refine⟨⟨by omega,by omega,by rw[Int.toNat_zero,mix_zero];rfl,by simp[carry,Nat.mod_one]⟩, ?_⟩
 rintro v4 v6 c i ⟨k1,k2,rfl,rfl⟩
 refine⟨fun hc=> ?_,fun hc=> ?_⟩
 ·have hc:i<4:=of_decide_eq_true hc
  have hi:0≤i∧i<4:=⟨k1,hc⟩
  have hcl:=carry_le n m i.toNat
  have hd:=add_dig n m i.toNat
  have hs:=carry_succ n m i.toNat
  rw[ok4_get hi,ok4_get hi,i64w (by omega) (by omega)]
  refine⟨hi,hi,⟨u64_dig _ _,u64_dig _ _,by omega,by omega⟩,hi,⟨by omega,by omega,mixZ_set hi ?_ Z4_len, ?_⟩,by simp only[QAdd.mes4];omega⟩
  ·simp only[Add64.fn];omega
  ·simp only[Add64.fn];rw[show(i+1).toNat=i.toNat+1 by omega];omega
 ·have hc:¬i<4:=of_decide_eq_false hc
  have e:i.toNat=4:=by omega
  rw[e,mix_all (by rw[Wn_len];omega) (by decide)]
  refine ret2.2 (Prod.ext rfl ?_)
  have hcv:carry n m 4=(n+m)/Big:=by
   unfold carry
   rw[show 2^(64*4)=Big from big_pow.symm,Nat.mod_eq_of_lt hn,Nat.mod_eq_of_lt hm]
  rw[hcv,Bool.eq_iff_iff]
  simp only[beq_iff_eq,decide_eq_true_eq]
  unfold Big at*
  omega
def lowB (n m i:Nat):Nat:=if n%2^(64*i)<m%2^(64*i) then 1 else 0
theorem sub_dig {n m:Nat}(hn:n<Big)(hm:m<Big){i:Nat}(hi:i<4):
 (((dig n i:Nat):Int)-((dig m i:Nat):Int)-((lowB n m i:Nat):Int))%18446744073709551616=((dig (n+Big-m) i:Nat):Int)∧
 (if((dig n i:Nat):Int)<((dig m i:Nat):Int)+((lowB n m i:Nat):Int) then(1:Int) else 0)=((lowB n m (i+1):Nat):Int):=by
 unfold Big at hn hm
 have hc:i=0∨i=1∨i=2∨i=3:=by omega
 rcases hc with rfl|rfl|rfl|rfl<;>simp only[dig0,dig1,dig2,dig3,lowB,Big,Nat.reduceMul,Nat.reducePow,Nat.reduceAdd]
 ·constructor
  ·split<;>omega
  ·split<;>split<;>split at* <;>omega
 ·constructor
  ·split<;>omega
  ·split<;>split<;>split at* <;>omega
 ·constructor
  ·split<;>omega
  ·split<;>split<;>split at* <;>omega
 ·constructor
  ·split<;>omega
  ·split<;>split<;>split at* <;>omega
def WSub.pre (a b:List Int):Prop:=Ok4 a∧Ok4 b
def WSub.fn (a b:List Int):List Int×Bool:=(Wn 4 (N4 a+Big-N4 b),decide (N4 a<N4 b))
def WSub.inv4 (a b v4 v6:List Int)(c i:Int):Prop:=0≤i∧i≤4∧v6=mix (Wn 4 (N4 a+Big-N4 b)) Z4 i.toNat∧c=((lowB (N4 a) (N4 b) i.toNat:Nat):Int)
def WSub.mes4 (a b v4 v6:List Int)(c i:Int):Nat:=(4-i).toNat
def WSub.VC :Prop:=∀(x0:(List Int)) (x1:(List Int)),WSub.pre x0 x1→(WSub.inv4 x0 x1 (List.replicate 4 (0:Int)) (List.replicate 4 (0:Int)) (0:Int) (0:Int)∧∀(v4:(List Int)) (v6:(List Int)) (v7:Int) (v9:Int),WSub.inv4 x0 x1 v4 v6 v7 v9→(((decide (v9<(4:Int)))=true→(0≤v9∧v9<4)∧(0≤v9∧v9<4)∧Sub64.pre (x0.getD (Int.toNat v9) (0:Int)) (x1.getD (Int.toNat v9) (0:Int)) v7∧(let v22:Int:=(Sub64.fn (x0.getD (Int.toNat v9) (0:Int)) (x1.getD (Int.toNat v9) (0:Int)) v7).1
 (let v23:Int:=(Sub64.fn (x0.getD (Int.toNat v9) (0:Int)) (x1.getD (Int.toNat v9) (0:Int)) v7).2
 (0≤v9∧v9<4)∧(WSub.inv4 x0 x1 v4 (v6.set (Int.toNat v9) v22) v23 (IntKind.i64.wrap (v9+(1:Int)))∧WSub.mes4 x0 x1 v4 (v6.set (Int.toNat v9) v22) v23 (IntKind.i64.wrap (v9+(1:Int)))<WSub.mes4 x0 x1 v4 v6 v7 v9))))∧((decide (v9<(4:Int)))=false→(Ret2 v6 (v7 !=(0:Int)) (WSub.fn x0 x1)))))
theorem lowB_le (n m i:Nat):lowB n m i≤1:=by unfold lowB;split<;>omega
theorem lowB_top {n m:Nat}(hn:n<Big)(hm:m<Big):lowB n m 4=if n<m then 1 else 0:=by
 unfold lowB
 rw[show 2^(64*4)=Big from big_pow.symm,Nat.mod_eq_of_lt hn,Nat.mod_eq_of_lt hm]
theorem WSub.vc :WSub.VC:=by
 rintro a b ⟨⟨n,hn,rfl⟩,⟨m,hm,rfl⟩⟩
 simp only[WSub.inv4,WSub.fn,N4_W4 hn,N4_W4 hm]
 refine⟨⟨by omega,by omega,by rw[Int.toNat_zero,mix_zero];rfl,by simp[lowB,Nat.mod_one]⟩, ?_⟩
 rintro v4 v6 c i ⟨k1,k2,rfl,rfl⟩
 refine⟨fun hc=> ?_,fun hc=> ?_⟩
 ·have hc:i<4:=of_decide_eq_true hc
  have hi:0≤i∧i<4:=⟨k1,hc⟩
  have hcl:=lowB_le n m i.toNat
  obtain⟨hd,hs⟩:=sub_dig hn hm (show i.toNat<4 by omega)
  rw[ok4_get hi,ok4_get hi,i64w (by omega) (by omega)]
  refine⟨hi,hi,⟨u64_dig _ _,u64_dig _ _,by omega,by omega⟩,hi,⟨by omega,by omega,mixZ_set hi hd Z4_len, ?_⟩,by simp only[WSub.mes4];omega⟩
  rw[show(i+1).toNat=i.toNat+1 by omega]
  exact hs
 ·have hc:¬i<4:=of_decide_eq_false hc
  have e:i.toNat=4:=by omega
  rw[e,mix_all (by rw[Wn_len];omega) (by decide),lowB_top hn hm]
  refine ret2.2 (Prod.ext rfl ?_)
  simp only
  by_cases h:n<m<;>simp[h]
def QSub.pre (a b:List Int):Prop:=Ok4 a∧Ok4 b
def QSub.fn (a b:List Int):List Int×Bool:=WSub.fn a b
def QSub.inv4 (a b v4 v6:List Int)(c i:Int):Prop:=WSub.inv4 a b v4 v6 c i
def QSub.mes4 (a b v4 v6:List Int)(c i:Int):Nat:=WSub.mes4 a b v4 v6 c i
def QSub.VC :Prop:=∀(x0:(List Int)) (x1:(List Int)),QSub.pre x0 x1→(QSub.inv4 x0 x1 (List.replicate 4 (0:Int)) (List.replicate 4 (0:Int)) (0:Int) (0:Int)∧∀(v4:(List Int)) (v6:(List Int)) (v7:Int) (v9:Int),QSub.inv4 x0 x1 v4 v6 v7 v9→(((decide (v9<(4:Int)))=true→(0≤v9∧v9<4)∧(0≤v9∧v9<4)∧Sub64.pre (x0.getD (Int.toNat v9) (0:Int)) (x1.getD (Int.toNat v9) (0:Int)) v7∧(let v22:Int:=(Sub64.fn (x0.getD (Int.toNat v9) (0:Int)) (x1.getD (Int.toNat v9) (0:Int)) v7).1
 (let v23:Int:=(Sub64.fn (x0.getD (Int.toNat v9) (0:Int)) (x1.getD (Int.toNat v9) (0:Int)) v7).2
 (0≤v9∧v9<4)∧(QSub.inv4 x0 x1 v4 (v6.set (Int.toNat v9) v22) v23 (IntKind.i64.wrap (v9+(1:Int)))∧QSub.mes4 x0 x1 v4 (v6.set (Int.toNat v9) v22) v23 (IntKind.i64.wrap (v9+(1:Int)))<QSub.mes4 x0 x1 v4 v6 v7 v9))))∧((decide (v9<(4:Int)))=false→(Ret2 v6 (v7==(1:Int)) (QSub.fn x0 x1)))))
theorem QSub.vc :QSub.VC:=by
 intro a b h
 obtain⟨h1,h2⟩:=WSub.vc a b h
 refine⟨h1,fun v4 v6 c i hi=> ?_⟩
 obtain⟨h3,h4⟩:=h2 v4 v6 c i hi
 refine⟨h3,fun hc=> ?_⟩
 have h5:=ret2.1 (h4 hc)
 refine ret2.2 ?_
 rw[QSub.fn,←h5]
 obtain⟨_,_,_,rfl⟩:=hi
 have:=lowB_le (N4 a) (N4 b) i.toNat
 refine Prod.ext rfl ?_
 simp only
 have hc2:lowB (N4 a) (N4 b) i.toNat=0∨lowB (N4 a) (N4 b) i.toNat=1:=by omega
 rcases hc2 with h|h<;>rw[h]<;>rfl
def WDbl.pre (a:List Int)(l:Int):Prop:=Ok4 a∧0≤l∧l≤1
def WDbl.fn (a:List Int)(l:Int):List Int×Int:=(Wn 4 (2*N4 a+l.toNat),(((2*N4 a+l.toNat)/Big:Nat):Int))
def dblC (n l i:Nat):Nat:=(2*(n%2^(64*i))+l)/2^(64*i)
def WDbl.inv2 (a:List Int)(l c:Int)(v2 v4:List Int)(i:Int):Prop:=0≤i∧i≤4∧v2=mix (Wn 4 (2*N4 a+l.toNat)) a i.toNat∧c=((dblC (N4 a) l.toNat i.toNat:Nat):Int)
def WDbl.mes2 (a:List Int)(l c:Int)(v2 v4:List Int)(i:Int):Nat:=(4-i).toNat
def WDbl.VC :Prop:=∀(x0:(List Int)) (x1:Int),WDbl.pre x0 x1→(WDbl.inv2 x0 x1 x1 x0 (List.replicate 4 (0:Int)) (0:Int)∧∀(v1:Int) (v2:(List Int)) (v4:(List Int)) (v7:Int),WDbl.inv2 x0 x1 v1 v2 v4 v7→(((decide (v7<(4:Int)))=true→(0≤v7∧v7<4)∧0≤(1:Int)∧(let v16:Int:=(ior .u64 (ishl .u64 (v2.getD (Int.toNat v7) (0:Int)) (1:Int)) v1)
 (0≤v7∧v7<4)∧0≤(63:Int)∧(0≤v7∧v7<4)∧(WDbl.inv2 x0 x1 (ishr .u64 (v2.getD (Int.toNat v7) (0:Int)) (63:Int)) (v2.set (Int.toNat v7) v16) v4 (IntKind.i64.wrap (v7+(1:Int)))∧WDbl.mes2 x0 x1 (ishr .u64 (v2.getD (Int.toNat v7) (0:Int)) (63:Int)) (v2.set (Int.toNat v7) v16) v4 (IntKind.i64.wrap (v7+(1:Int)))<WDbl.mes2 x0 x1 v1 v2 v4 v7)))∧((decide (v7<(4:Int)))=false→(Ret2 v2 v1 (WDbl.fn x0 x1)))))
theorem dbl_step {n l i:Nat}(hl:l≤1)(hi:i<4):dig (2*n+l) i=(dig n i*2%18446744073709551616|||dblC n l i)∧dblC n l (i+1)=dig n i/2^63∧dblC n l i≤1:=by
 have hor:∀k c:Nat,c≤1→(2*k|||c)=2*k+c:=by
  intro k c hc
  have:=Nat.two_pow_add_eq_or_of_lt (i:=1) (b:=c) (by omega) k
  simpa using this.symm
 have hev:∀d:Nat,d*2%18446744073709551616=2*(d%9223372036854775808):=by intro d;omega
 rw[hev]
 have hle:dblC n l i≤1:=by
  have hc:i=0∨i=1∨i=2∨i=3:=by omega
  rcases hc with rfl|rfl|rfl|rfl<;>simp only[dblC,Nat.reduceMul,Nat.reducePow]<;>omega
 rw[hor _ _ hle]
 have hc:i=0∨i=1∨i=2∨i=3:=by omega
 rcases hc with rfl|rfl|rfl|rfl<;>simp only[dig0,dig1,dig2,dig3,dblC,Nat.reduceMul,Nat.reducePow,Nat.reduceAdd] at* <;>omega
theorem WDbl.vc :WDbl.VC:=by
 rintro a l0 ⟨⟨n,hn,rfl⟩,hl1,hl2⟩
 obtain⟨l,rfl⟩:=Int.eq_ofNat_of_zero_le hl1
 have hl:l≤1:=by omega
 simp only[WDbl.inv2,WDbl.fn,N4_W4 hn,Int.toNat_natCast]
 refine⟨⟨by omega,by omega,by rw[Int.toNat_zero,mix_zero],by simp[dblC,Nat.mod_one]⟩, ?_⟩
 rintro c v2 v4 i ⟨k1,k2,rfl,rfl⟩
 refine⟨fun hc=> ?_,fun hc=> ?_⟩
 ·have hc:i<4:=of_decide_eq_true hc
  have hi:0≤i∧i<4:=⟨k1,hc⟩
  obtain⟨d1,d2,d3⟩:=dbl_step (n:=n) hl (show i.toNat<4 by omega)
  have hg:(mix (Wn 4 (2*n+l)) (Wn 4 n) i.toNat).getD i.toNat 0=((dig n i.toNat:Nat):Int):=by rw[mix_get (by rw[Wn_len];omega),ok4_get hi]
  rw[hg,i64w (by omega) (by omega)]
  have s1:ishl .u64 ((dig n i.toNat:Nat):Int) 1=((dig n i.toNat*2%18446744073709551616:Nat):Int):=shl64 (k:=1) (by omega)
  have s2:ishr .u64 ((dig n i.toNat:Nat):Int) 63=((dig n i.toNat/2^63:Nat):Int):=shr64 (k:=63) (by omega)
  rw[s1,s2,or64 (by omega) (by omega),←d1,←d2]
  refine⟨hi,by omega,hi,by omega,hi,⟨by omega,by omega,mixZ_set hi rfl (Wn_len 4 n), ?_⟩,by simp only[WDbl.mes2];omega⟩
  rw[show(i+1).toNat=i.toNat+1 by omega]
 ·have hc:¬i<4:=of_decide_eq_false hc
  have e:i.toNat=4:=by omega
  rw[e,mix_all (by rw[Wn_len];omega) (by rw[Wn_len];omega)]
  refine ret2.2 (Prod.ext rfl ?_)
  simp only[dblC]
  rw[show 2^(64*4)=Big from big_pow.symm,Nat.mod_eq_of_lt hn]
def mulFn (a b:List Int):List Int×List Int:=(Wn 4 (N4 a*N4 b/Big),Wn 4 (N4 a*N4 b))
def mulI (a b w:List Int)(i:Int):Prop:=0≤i∧i≤4∧w=Wn 8 (N4 a%2^(64*i.toNat)*N4 b)
def mulJ (a b w:List Int)(i c j:Int):Prop:=0≤i∧i<4∧0≤j∧j≤4∧∃x cn:Nat,w=Wn 8 x∧c=(cn:Int)∧cn<18446744073709551616∧dig x (i.toNat+4)=0∧
 x+cn*2^(64*(i.toNat+j.toNat))=N4 a%2^(64*i.toNat)*N4 b+dig (N4 a) i.toNat*2^(64*i.toNat)*(N4 b%2^(64*j.toNat))
theorem mulJ_start {n m:Nat}(hn:n<Big)(hm:m<Big){w:List Int}{i:Int}(h:mulI (Wn 4 n) (Wn 4 m) w i)(hi:i<4):mulJ (Wn 4 n) (Wn 4 m) w i 0 0:=by
 obtain⟨h1,h2,h3⟩:=h
 rw[N4_W4 hn,N4_W4 hm] at h3
 refine⟨h1,hi,by omega,by omega,_,0,h3,rfl,by omega, ?_, ?_⟩
 ·apply dig_high
  rw[show 64*(i.toNat+4)=64*i.toNat+256 by omega,Nat.pow_add,←big_pow]
  exact Nat.mul_lt_mul'' (Nat.mod_lt _ (Nat.two_pow_pos _)) hm
 ·simp[N4_W4 hn,N4_W4 hm,Nat.mod_one]
theorem mulJ_end {n m:Nat}(hn:n<Big)(hm:m<Big){w:List Int}{i c j:Int}(h:mulJ (Wn 4 n) (Wn 4 m) w i c j)(hj:¬j<4):mulI (Wn 4 n) (Wn 4 m) (w.set (i+4).toNat c) (i+1):=by
 obtain⟨h1,h2,h3,h4,x,cn,rfl,rfl,h5,h6,h7⟩:=h
 rw[N4_W4 hn,N4_W4 hm] at h7
 have e:j.toNat=4:=by omega
 rw[e,show 2^(64*4)=Big from big_pow.symm,Nat.mod_eq_of_lt hm] at h7
 refine⟨by omega,by omega, ?_⟩
 rw[N4_W4 hn,N4_W4 hm,show(i+4).toNat=i.toNat+4 by omega,show(i+1).toNat=i.toNat+1 by omega,Wn_setw (by omega) h5]
 have h8:=setw_eq x (i.toNat+4) cn
 rw[h6,Nat.zero_mul,Nat.add_zero] at h8
 rw[h8,h7,mod_split,Nat.add_mul]
theorem mulJ_step {n m:Nat}(hn:n<Big)(hm:m<Big){w:List Int}{i c j:Int}(h:mulJ (Wn 4 n) (Wn 4 m) w i c j)(hj:j<4):
 W64 (w.getD (i+j).toNat 0)∧W64 c∧∀s c',s=(((dig n i.toNat:Nat):Int)*((dig m j.toNat:Nat):Int)+w.getD (i+j).toNat 0+c)%18446744073709551616→
  c'=(((dig n i.toNat:Nat):Int)*((dig m j.toNat:Nat):Int)+w.getD (i+j).toNat 0+c)/18446744073709551616→c'<18446744073709551616∧mulJ (Wn 4 n) (Wn 4 m) (w.set (i+j).toNat s) i c' (j+1):=by
 obtain⟨h1,h2,h3,h4,x,cn,rfl,rfl,h5,h6,h7⟩:=h
 rw[N4_W4 hn,N4_W4 hm] at h7
 have hk:(i+j).toNat=i.toNat+j.toNat:=by omega
 rw[hk,Wn_getD x (by omega)]
 have hx:=dig_lt x (i.toNat+j.toNat)
 refine⟨u64_dig _ _,⟨by omega,by omega⟩, ?_⟩
 intro s c' hs hc'
 have hp:dig n i.toNat*dig m j.toNat≤18446744073709551615*18446744073709551615:=Nat.mul_le_mul (by have:=dig_lt n i.toNat;omega) (by have:=dig_lt m j.toNat;omega)
 have hpi:((dig n i.toNat:Nat):Int)*((dig m j.toNat:Nat):Int)=((dig n i.toNat*dig m j.toNat:Nat):Int):=by simp
 rw[hpi] at hs hc'
 generalize hpe:dig n i.toNat*dig m j.toNat=p at*
 have hs':s=(((p+dig x (i.toNat+j.toNat)+cn)%18446744073709551616:Nat):Int):=by omega
 have hc2:c'=(((p+dig x (i.toNat+j.toNat)+cn)/18446744073709551616:Nat):Int):=by omega
 refine⟨by omega,h1,h2,by omega,by omega,setw x (i.toNat+j.toNat) ((p+dig x (i.toNat+j.toNat)+cn)%18446744073709551616),(p+dig x (i.toNat+j.toNat)+cn)/18446744073709551616, ?_,hc2,by omega, ?_, ?_⟩
 ·rw[hs',Wn_setw (by omega) (Nat.mod_lt _ (by omega))]
 ·have hlo:x%2^(64*(i.toNat+j.toNat))<2^(64*(i.toNat+j.toNat)):=Nat.mod_lt _ (Nat.two_pow_pos _)
  rw[dig_split x (i.toNat+j.toNat),dig_form _ (dig_lt _ _) hlo] at h6
  unfold setw
  rw[dig_form _ (Nat.mod_lt _ (by omega)) hlo]
  rw[if_neg (by omega),if_neg (by omega)] at h6⊢
  exact h6
 ·have hst:=mul_step (k:=i.toNat+j.toNat) h7 (show p+dig x (i.toNat+j.toNat)+cn=18446744073709551616*((p+dig x (i.toNat+j.toNat)+cn)/18446744073709551616)+(p+dig x (i.toNat+j.toNat)+cn)%18446744073709551616 by omega)
  rw[N4_W4 hn,N4_W4 hm,show(j+1).toNat=j.toNat+1 by omega,show i.toNat+(j.toNat+1)=i.toNat+j.toNat+1 by omega,hst,mod_split m j.toNat,Nat.mul_add (dig n i.toNat*2^(64*i.toNat)),←hpe]
  rw[show 64*(i.toNat+j.toNat)=64*i.toNat+64*j.toNat by omega,Nat.pow_add]
  have:dig n i.toNat*dig m j.toNat*(2^(64*i.toNat)*2^(64*j.toNat))=dig n i.toNat*2^(64*i.toNat)*(dig m j.toNat*2^(64*j.toNat)):=by rw[Nat.mul_mul_mul_comm]
  rw[this];omega
theorem mul_halves (x:Nat)(hx:x<Big*Big):((Wn 8 x).drop 4).take 4=Wn 4 (x/Big)∧(Wn 8 x).take 4=Wn 4 x:=by
 have e:Wn 8 x=[((dig x 0:Nat):Int),((dig x 1:Nat):Int),((dig x 2:Nat):Int),((dig x 3:Nat):Int),((dig x 4:Nat):Int),((dig x 5:Nat):Int),((dig x 6:Nat):Int),((dig x 7:Nat):Int)]:=rfl
 have hd:∀k,dig (x/Big) k=dig x (4+k):=by
  intro k
  unfold dig
  rw[Nat.div_div_eq_div_mul,big_pow,←Nat.pow_add]
  congr 3
  omega
 rw[e,W4_eq,W4_eq,hd,hd,hd,hd]
 exact⟨rfl,rfl⟩
theorem mul_lt {n m:Nat}(hn:n<Big)(hm:m<Big):n*m<Big*Big:=Nat.mul_lt_mul'' hn hm
def WMul.pre (a b:List Int):Prop:=Ok4 a∧Ok4 b
def WMul.fn (a b:List Int):List Int×List Int:=mulFn a b
def WMul.inv3 (a b v4 v5 w:List Int)(i:Int):Prop:=mulI a b w i
def WMul.mes3 (a b v4 v5 w:List Int)(i:Int):Nat:=(4-i).toNat
def WMul.inv7 (a b:List Int)(i:Int)(v4 v5 w:List Int)(c j:Int):Prop:=mulJ a b w i c j
def WMul.mes7 (a b:List Int)(i:Int)(v4 v5 w:List Int)(c j:Int):Nat:=(4-j).toNat
def WMul.VC :Prop:=∀(x0:(List Int)) (x1:(List Int)),WMul.pre x0 x1→(WMul.inv3 x0 x1 (List.replicate 4 (0:Int)) (List.replicate 4 (0:Int)) (List.replicate 8 (0:Int)) (0:Int)∧∀(v4:(List Int)) (v5:(List Int)) (v6:(List Int)) (v14:Int),WMul.inv3 x0 x1 v4 v5 v6 v14→(((decide (v14<(4:Int)))=true→(WMul.inv7 x0 x1 v14 v4 v5 v6 (0:Int) (0:Int)∧∀(v4_1:(List Int)) (v5_1:(List Int)) (v6_1:(List Int)) (v8:Int) (v17:Int),WMul.inv7 x0 x1 v14 v4_1 v5_1 v6_1 v8 v17→(((decide (v17<(4:Int)))=true→(0≤v14∧v14<4)∧(0≤v17∧v17<4)∧Mul64.pre (x0.getD (Int.toNat v14) (0:Int)) (x1.getD (Int.toNat v17) (0:Int))∧(let v28:Int:=(Mul64.fn (x0.getD (Int.toNat v14) (0:Int)) (x1.getD (Int.toNat v17) (0:Int))).1
 (let v29:Int:=(Mul64.fn (x0.getD (Int.toNat v14) (0:Int)) (x1.getD (Int.toNat v17) (0:Int))).2
 (0≤(IntKind.i64.wrap (v14+v17))∧(IntKind.i64.wrap (v14+v17))<8)∧(let v36:Int:=(v6_1.getD (Int.toNat (IntKind.i64.wrap (v14+v17))) (0:Int))
 Add64.pre v29 v36 (0:Int)∧Add64.pre ((Add64.fn v29 v36 (0:Int)).1) v8 (0:Int)∧(let v55:Int:=(IntKind.u64.wrap ((IntKind.u64.wrap (v28+(Add64.fn v29 v36 (0:Int)).2))+(Add64.fn ((Add64.fn v29 v36 (0:Int)).1) v8 (0:Int)).2))
 (0≤(IntKind.i64.wrap (v14+v17))∧(IntKind.i64.wrap (v14+v17))<8)∧(let v6_2h:(List Int):=(v6_1.set (Int.toNat (IntKind.i64.wrap (v14+v17))) (Add64.fn ((Add64.fn v29 v36 (0:Int)).1) v8 (0:Int)).1)
 (WMul.inv7 x0 x1 v14 v4_1 v5_1 v6_2h v55 (IntKind.i64.wrap (v17+(1:Int)))∧WMul.mes7 x0 x1 v14 v4_1 v5_1 v6_2h v55 (IntKind.i64.wrap (v17+(1:Int)))<WMul.mes7 x0 x1 v14 v4_1 v5_1 v6_1 v8 v17)))))))∧((decide (v17<(4:Int)))=false→(0≤(IntKind.i64.wrap (v14+(4:Int)))∧(IntKind.i64.wrap (v14+(4:Int)))<8)∧(let v6_3h:(List Int):=(v6_1.set (Int.toNat (IntKind.i64.wrap (v14+(4:Int)))) v8)
 (WMul.inv3 x0 x1 v4_1 v5_1 v6_3h (IntKind.i64.wrap (v14+(1:Int)))∧WMul.mes3 x0 x1 v4_1 v5_1 v6_3h (IntKind.i64.wrap (v14+(1:Int)))<WMul.mes3 x0 x1 v4 v5 v6 v14))))))∧((decide (v14<(4:Int)))=false→(0≤(4:Int)∧(4:Int)≤(8:Int)∧(8:Int)≤8)∧(Int.toNat (4:Int))+((Int.toNat (8:Int))-(Int.toNat (4:Int)))≤v6.length∧4≤((v6.drop (Int.toNat (4:Int))).take ((Int.toNat (8:Int))-(Int.toNat (4:Int)))).length∧(let v65:(List Int):=(((v6.drop (Int.toNat (4:Int))).take ((Int.toNat (8:Int))-(Int.toNat (4:Int)))).take 4)
 (0≤(0:Int)∧(0:Int)≤(4:Int)∧(4:Int)≤8)∧(Int.toNat (0:Int))+((Int.toNat (4:Int))-(Int.toNat (0:Int)))≤v6.length∧4≤((v6.drop (Int.toNat (0:Int))).take ((Int.toNat (4:Int))-(Int.toNat (0:Int)))).length∧(let v68:(List Int):=(((v6.drop (Int.toNat (0:Int))).take ((Int.toNat (4:Int))-(Int.toNat (0:Int)))).take 4)
 (Ret2 v65 v68 (WMul.fn x0 x1)))))))
theorem add64z (x y:Int):Add64.fn x y 0=((x+y)%18446744073709551616,(x+y)/18446744073709551616):=by simp[Add64.fn]
theorem zero8 :List.replicate 8 (0:Int)=Wn 8 0:=by
 apply ext_getD (by simp[Wn_len])
 intro i hi
 have hi:i<8:=by simpa using hi
 rw[zeros_get,Wn_getD 0 hi]
 simp[dig]
theorem mulI_zero (a b:List Int):mulI a b (List.replicate 8 0) 0:=⟨by omega,by omega,by rw[zero8];simp[Nat.mod_one]⟩
theorem WMul.vc :WMul.VC:=by
 rintro a b ⟨⟨n,hn,rfl⟩,⟨m,hm,rfl⟩⟩
 refine⟨mulI_zero _ _, ?_⟩
 rintro v4 v5 w i hI
 have hI0:0≤i∧i≤4:=⟨hI.1,hI.2.1⟩
 refine⟨fun hc=> ?_,fun hc=> ?_⟩
 ·have hc:i<4:=of_decide_eq_true hc
  refine⟨mulJ_start hn hm hI hc, ?_⟩
  rintro v4 v5 w c j hJ
  have hJ0:0≤j∧j≤4:=⟨hJ.2.2.1,hJ.2.2.2.1⟩
  have hi:0≤i∧i<4:=⟨hI0.1,hc⟩
  refine⟨fun hj=> ?_,fun hj=> ?_⟩
  ·have hj:j<4:=of_decide_eq_true hj
   have hj':0≤j∧j<4:=⟨hJ0.1,hj⟩
   obtain⟨s1,s2,s3⟩:=mulJ_step hn hm hJ hj
   simp only[ok4_get hi,ok4_get hj',i64w (n:=i+j) (by omega) (by omega),i64w (n:=j+1) (by omega) (by omega),add64z]
   have hm1:Mul64.fn ((dig n i.toNat:Nat):Int) ((dig m j.toNat:Nat):Int)=(((dig n i.toNat:Nat):Int)*((dig m j.toNat:Nat):Int)/18446744073709551616,((dig n i.toNat:Nat):Int)*((dig m j.toNat:Nat):Int)%18446744073709551616):=rfl
   simp only[hm1]
   have hp0:0≤((dig n i.toNat:Nat):Int)*((dig m j.toNat:Nat):Int):=Int.mul_nonneg (by omega) (by omega)
   generalize ((dig n i.toNat:Nat):Int)*((dig m j.toNat:Nat):Int)=p at*
   generalize w.getD (i+j).toNat 0=d at*
   obtain⟨s4,s5⟩:=s3 _ _ rfl rfl
   unfold W64 at s1 s2
   have e1:IntKind.u64.wrap (IntKind.u64.wrap (p/18446744073709551616+(p%18446744073709551616+d)/18446744073709551616)+((p%18446744073709551616+d)%18446744073709551616+c)/18446744073709551616)=(p+d+c)/18446744073709551616:=by
    rw[u64w (n:=p/18446744073709551616+(p%18446744073709551616+d)/18446744073709551616) (by omega) (by omega),u64w (by omega) (by omega)]
    omega
   have e2:((p%18446744073709551616+d)%18446744073709551616+c)%18446744073709551616=(p+d+c)%18446744073709551616:=by omega
   rw[e1,e2]
   refine⟨hi,hj',⟨u64_dig _ _,u64_dig _ _⟩,by omega,⟨⟨by omega,by omega⟩,s1,by omega,by omega⟩,⟨⟨by omega,by omega⟩,s2,by omega,by omega⟩,by omega,s5,by simp only[WMul.mes7];omega⟩
  ·have hj:¬j<4:=of_decide_eq_false hj
   rw[i64w (n:=i+4) (by omega) (by omega),i64w (n:=i+1) (by omega) (by omega)]
   exact⟨by omega,mulJ_end hn hm hJ hj,by simp only[WMul.mes3];omega⟩
 ·have hc:¬i<4:=of_decide_eq_false hc
  obtain⟨_,_,hw⟩:=hI
  rw[N4_W4 hn,N4_W4 hm,show i.toNat=4 by omega,show 2^(64*4)=Big from big_pow.symm,Nat.mod_eq_of_lt hn] at hw
  subst hw
  obtain⟨q1,q2⟩:=mul_halves (n*m) (mul_lt hn hm)
  have l8:(Wn 8 (n*m)).length=8:=Wn_len _ _
  refine⟨by omega,by rw[l8];decide,by rw[List.length_take,List.length_drop,l8];decide,by omega,by rw[l8];decide,by rw[List.length_take,List.length_drop,l8];decide,ret2.2 ?_⟩
  refine Prod.ext ?_ ?_
  ·show List.take 4 (List.take 4 (List.drop 4 (Wn 8 (n*m))))=Wn 4 (N4 (Wn 4 n)*N4 (Wn 4 m)/Big)
   rw[q1,List.take_of_length_le (by rw[Wn_len];omega),N4_W4 hn,N4_W4 hm]
  ·show List.take 4 (List.take 4 (List.drop 0 (Wn 8 (n*m))))=Wn 4 (N4 (Wn 4 n)*N4 (Wn 4 m))
   rw[List.drop_zero,q2,List.take_of_length_le (by rw[Wn_len];omega),N4_W4 hn,N4_W4 hm]
def QMul.pre (a b:List Int):Prop:=Ok4 a∧Ok4 b
def QMul.fn (a b:List Int):List Int×List Int:=mulFn a b
def QMul.inv3 (a b v4 v5 w:List Int)(i:Int):Prop:=v4.length=4∧v5.length=4∧mulI a b w i
def QMul.mes3 (a b v4 v5 w:List Int)(i:Int):Nat:=(4-i).toNat
def QMul.inv7 (a b:List Int)(i:Int)(v4 v5 w:List Int)(c j:Int):Prop:=v4.length=4∧v5.length=4∧mulJ a b w i c j
def QMul.mes7 (a b:List Int)(i:Int)(v4 v5 w:List Int)(c j:Int):Nat:=(4-j).toNat
def QMul.VC :Prop:=∀(x0:(List Int)) (x1:(List Int)),QMul.pre x0 x1→(QMul.inv3 x0 x1 (List.replicate 4 (0:Int)) (List.replicate 4 (0:Int)) (List.replicate 8 (0:Int)) (0:Int)∧∀(v4:(List Int)) (v5:(List Int)) (v6:(List Int)) (v15:Int),QMul.inv3 x0 x1 v4 v5 v6 v15→(((decide (v15<(4:Int)))=true→(QMul.inv7 x0 x1 v15 v4 v5 v6 (0:Int) (0:Int)∧∀(v4_1:(List Int)) (v5_1:(List Int)) (v6_1:(List Int)) (v8:Int) (v18:Int),QMul.inv7 x0 x1 v15 v4_1 v5_1 v6_1 v8 v18→(((decide (v18<(4:Int)))=true→(0≤v15∧v15<4)∧(0≤v18∧v18<4)∧Mul64.pre (x0.getD (Int.toNat v15) (0:Int)) (x1.getD (Int.toNat v18) (0:Int))∧(let v29:Int:=(Mul64.fn (x0.getD (Int.toNat v15) (0:Int)) (x1.getD (Int.toNat v18) (0:Int))).1
 (let v30:Int:=(Mul64.fn (x0.getD (Int.toNat v15) (0:Int)) (x1.getD (Int.toNat v18) (0:Int))).2
 (0≤(IntKind.i64.wrap (v15+v18))∧(IntKind.i64.wrap (v15+v18))<8)∧(let v36:Int:=(v6_1.getD (Int.toNat (IntKind.i64.wrap (v15+v18))) (0:Int))
 Add64.pre v36 v30 (0:Int)∧Add64.pre ((Add64.fn v36 v30 (0:Int)).1) v8 (0:Int)∧(let v55:Int:=(IntKind.u64.wrap ((IntKind.u64.wrap (v29+(Add64.fn v36 v30 (0:Int)).2))+(Add64.fn ((Add64.fn v36 v30 (0:Int)).1) v8 (0:Int)).2))
 (0≤(IntKind.i64.wrap (v15+v18))∧(IntKind.i64.wrap (v15+v18))<8)∧(let v6_2h:(List Int):=(v6_1.set (Int.toNat (IntKind.i64.wrap (v15+v18))) (Add64.fn ((Add64.fn v36 v30 (0:Int)).1) v8 (0:Int)).1)
 (QMul.inv7 x0 x1 v15 v4_1 v5_1 v6_2h v55 (IntKind.i64.wrap (v18+(1:Int)))∧QMul.mes7 x0 x1 v15 v4_1 v5_1 v6_2h v55 (IntKind.i64.wrap (v18+(1:Int)))<QMul.mes7 x0 x1 v15 v4_1 v5_1 v6_1 v8 v18)))))))∧((decide (v18<(4:Int)))=false→(0≤(IntKind.i64.wrap (v15+(4:Int)))∧(IntKind.i64.wrap (v15+(4:Int)))<8)∧(let v6_3h:(List Int):=(v6_1.set (Int.toNat (IntKind.i64.wrap (v15+(4:Int)))) v8)
 (QMul.inv3 x0 x1 v4_1 v5_1 v6_3h (IntKind.i64.wrap (v15+(1:Int)))∧QMul.mes3 x0 x1 v4_1 v5_1 v6_3h (IntKind.i64.wrap (v15+(1:Int)))<QMul.mes3 x0 x1 v4 v5 v6 v15))))))∧((decide (v15<(4:Int)))=false→(0≤(0:Int)∧(0:Int)≤(4:Int)∧(4:Int)≤8)∧(Int.toNat (0:Int))+((Int.toNat (4:Int))-(Int.toNat (0:Int)))≤v6.length∧(let v65:Int:=((min ((v6.drop (Int.toNat (0:Int))).take ((Int.toNat (4:Int))-(Int.toNat (0:Int)))).length v5.length:Nat):Int)
 (let v5_2h:(List Int):=(((v6.drop (Int.toNat (0:Int))).take ((Int.toNat (4:Int))-(Int.toNat (0:Int)))).take v5.length++v5.drop ((v6.drop (Int.toNat (0:Int))).take ((Int.toNat (4:Int))-(Int.toNat (0:Int)))).length)
 (0≤(4:Int)∧(4:Int)≤(8:Int)∧(8:Int)≤8)∧(Int.toNat (4:Int))+((Int.toNat (8:Int))-(Int.toNat (4:Int)))≤v6.length∧(let v68:Int:=((min ((v6.drop (Int.toNat (4:Int))).take ((Int.toNat (8:Int))-(Int.toNat (4:Int)))).length v4.length:Nat):Int)
 (let v4_2h:(List Int):=(((v6.drop (Int.toNat (4:Int))).take ((Int.toNat (8:Int))-(Int.toNat (4:Int)))).take v4.length++v4.drop ((v6.drop (Int.toNat (4:Int))).take ((Int.toNat (8:Int))-(Int.toNat (4:Int)))).length)
 (Ret2 v4_2h v5_2h (QMul.fn x0 x1)))))))))
theorem QMul.vc :QMul.VC:=by
 rintro a b ⟨⟨n,hn,rfl⟩,⟨m,hm,rfl⟩⟩
 refine⟨⟨rfl,rfl,mulI_zero _ _⟩, ?_⟩
 rintro v4 v5 w i ⟨l4,l5,hI⟩
 have hI0:0≤i∧i≤4:=⟨hI.1,hI.2.1⟩
 refine⟨fun hc=> ?_,fun hc=> ?_⟩
 ·have hc:i<4:=of_decide_eq_true hc
  refine⟨⟨l4,l5,mulJ_start hn hm hI hc⟩, ?_⟩
  rintro v4 v5 w c j ⟨l4,l5,hJ⟩
  have hJ0:0≤j∧j≤4:=⟨hJ.2.2.1,hJ.2.2.2.1⟩
  have hi:0≤i∧i<4:=⟨hI0.1,hc⟩
  refine⟨fun hj=> ?_,fun hj=> ?_⟩
  ·have hj:j<4:=of_decide_eq_true hj
   have hj':0≤j∧j<4:=⟨hJ0.1,hj⟩
   obtain⟨s1,s2,s3⟩:=mulJ_step hn hm hJ hj
   simp only[ok4_get hi,ok4_get hj',i64w (n:=i+j) (by omega) (by omega),i64w (n:=j+1) (by omega) (by omega),add64z]
   have hm1:Mul64.fn ((dig n i.toNat:Nat):Int) ((dig m j.toNat:Nat):Int)=(((dig n i.toNat:Nat):Int)*((dig m j.toNat:Nat):Int)/18446744073709551616,((dig n i.toNat:Nat):Int)*((dig m j.toNat:Nat):Int)%18446744073709551616):=rfl
   simp only[hm1]
   have hp0:0≤((dig n i.toNat:Nat):Int)*((dig m j.toNat:Nat):Int):=Int.mul_nonneg (by omega) (by omega)
   generalize ((dig n i.toNat:Nat):Int)*((dig m j.toNat:Nat):Int)=p at*
   generalize w.getD (i+j).toNat 0=d at*
   obtain⟨s4,s5⟩:=s3 _ _ rfl rfl
   unfold W64 at s1 s2
   have e1:IntKind.u64.wrap (IntKind.u64.wrap (p/18446744073709551616+(d+p%18446744073709551616)/18446744073709551616)+((d+p%18446744073709551616)%18446744073709551616+c)/18446744073709551616)=(p+d+c)/18446744073709551616:=by
    rw[u64w (n:=p/18446744073709551616+(d+p%18446744073709551616)/18446744073709551616) (by omega) (by omega),u64w (by omega) (by omega)]
    omega
   have e2:((d+p%18446744073709551616)%18446744073709551616+c)%18446744073709551616=(p+d+c)%18446744073709551616:=by omega
   rw[e1,e2]
   refine⟨hi,hj',⟨u64_dig _ _,u64_dig _ _⟩,by omega,⟨s1,⟨by omega,by omega⟩,by omega,by omega⟩,⟨⟨by omega,by omega⟩,s2,by omega,by omega⟩,by omega,⟨l4,l5,s5⟩,by simp only[QMul.mes7];omega⟩
  ·have hj:¬j<4:=of_decide_eq_false hj
   rw[i64w (n:=i+4) (by omega) (by omega),i64w (n:=i+1) (by omega) (by omega)]
   exact⟨by omega,⟨l4,l5,mulJ_end hn hm hJ hj⟩,by simp only[QMul.mes3];omega⟩
 ·have hc:¬i<4:=of_decide_eq_false hc
  obtain⟨_,_,hw⟩:=hI
  rw[N4_W4 hn,N4_W4 hm,show i.toNat=4 by omega,show 2^(64*4)=Big from big_pow.symm,Nat.mod_eq_of_lt hn] at hw
  subst hw
  obtain⟨q1,q2⟩:=mul_halves (n*m) (mul_lt hn hm)
  have l8:(Wn 8 (n*m)).length=8:=Wn_len _ _
  refine⟨by omega,by rw[l8];decide,by omega,by rw[l8];decide,ret2.2 ?_⟩
  refine Prod.ext ?_ ?_
  ·show List.take v4.length (List.take 4 (List.drop 4 (Wn 8 (n*m))))++List.drop (List.take 4 (List.drop 4 (Wn 8 (n*m)))).length v4=Wn 4 (N4 (Wn 4 n)*N4 (Wn 4 m)/Big)
   rw[q1,l4,List.take_of_length_le (by rw[Wn_len];omega),Wn_len,List.drop_eq_nil_of_le (by omega),List.append_nil,N4_W4 hn,N4_W4 hm]
  ·show List.take v5.length (List.take 4 (List.drop 0 (Wn 8 (n*m))))++List.drop (List.take 4 (List.drop 0 (Wn 8 (n*m)))).length v5=Wn 4 (N4 (Wn 4 n)*N4 (Wn 4 m))
   rw[List.drop_zero,q2,l5,List.take_of_length_le (by rw[Wn_len];omega),Wn_len,List.drop_eq_nil_of_le (by omega),List.append_nil,N4_W4 hn,N4_W4 hm]
end Lc
set_option maxRecDepth 100000
namespace Lc
open Go
def divFn (hi lo b:List Int):List Int×List Int×Bool:=
 if N4 b≤N4 hi then(Wn 4 0,Wn 4 0,false) else(Wn 4 ((N4 hi*Big+N4 lo)/N4 b),Wn 4 ((N4 hi*Big+N4 lo)%N4 b),true)
def divQ (X b s:Nat):Nat:=X/2^s/b*2^s
def divR (X b s:Nat):Nat:=X/2^s%b
theorem div_half (X s:Nat):X/2^s=2*(X/2^(s+1))+X/2^s%2:=by
 rw[Nat.pow_succ,←Nat.div_div_eq_div_mul,Nat.div_add_mod]
theorem div_mod_of {A b K r:Nat}(hb:0<b)(h:A=b*K+r)(hr:r<b):A/b=K∧A%b=r:=by
 subst h
 exact⟨by rw[Nat.mul_add_div hb,Nat.div_eq_of_lt hr,Nat.add_zero],by rw[Nat.mul_add_mod,Nat.mod_eq_of_lt hr]⟩
theorem div_down {X b s:Nat}(hb:0<b):
 divR X b s=(if b≤2*divR X b (s+1)+X/2^s%2 then 2*divR X b (s+1)+X/2^s%2-b else 2*divR X b (s+1)+X/2^s%2)∧
 divQ X b s=(if b≤2*divR X b (s+1)+X/2^s%2 then divQ X b (s+1)+2^s else divQ X b (s+1)):=by
 have hA:=div_half X s
 have hr:divR X b (s+1)<b:=Nat.mod_lt _ hb
 have h0:X/2^(s+1)=b*(X/2^(s+1)/b)+divR X b (s+1):=(Nat.div_add_mod _ _).symm
 have h1:=div_next (t:=X/2^s%2) h0 hr
 rw[←hA] at h1
 have ht:X/2^s%2<2:=Nat.mod_lt _ (by omega)
 have hr2:(if b≤2*divR X b (s+1)+X/2^s%2 then 2*divR X b (s+1)+X/2^s%2-b else 2*divR X b (s+1)+X/2^s%2)<b:=by
  generalize X/2^s%2=t at*
  generalize divR X b (s+1)=r at*
  split<;>omega
 obtain⟨hq,hm⟩:=div_mod_of hb h1 hr2
 constructor
 ·exact hm
 ·unfold divQ
  rw[hq,Nat.pow_succ]
  split
  ·rw[Nat.add_mul,Nat.one_mul,Nat.mul_comm 2,Nat.mul_assoc,Nat.mul_comm 2]
  ·rw[Nat.mul_comm 2,Nat.mul_assoc,Nat.mul_comm 2]
theorem div_top {hi lo b:Nat}(hlo:lo<Big)(h:hi<b):divR (hi*Big+lo) b 256=hi∧divQ (hi*Big+lo) b 256=0:=by
 have e:(hi*Big+lo)/2^256=hi:=by
  rw[←big_pow,Nat.mul_comm,Nat.mul_add_div (by decide),Nat.div_eq_of_lt hlo,Nat.add_zero]
 unfold divR divQ
 rw[e,Nat.mod_eq_of_lt h,Nat.div_eq_of_lt h,Nat.zero_mul]
 exact⟨rfl,rfl⟩
theorem div_zero_s (X b:Nat):divR X b 0=X%b∧divQ X b 0=X/b:=by simp[divR,divQ]
theorem div_bit {hi lo s:Nat}(hs:s<256):(hi*Big+lo)/2^s%2=lo/2^s%2:=by
 have e:Big=2^s*(2*2^(255-s)):=by
  rw[big_pow,←Nat.pow_succ',←Nat.pow_add];congr 1;omega
 rw[e,Nat.mul_left_comm,Nat.mul_add_div (Nat.two_pow_pos s),Nat.mul_left_comm,Nat.mul_add_mod]
theorem divQ_mul (X b s:Nat):divQ X b (s+1)%2^(s+1)=0:=by unfold divQ;rw[Nat.mul_mod_left]
theorem sub_big {v b r:Nat}(hb:b<Big)(hr:r<b)(hv:v≤2*r+1)(h:b≤v):Wn 4 (v%Big+Big-b)=Wn 4 (v-b):=by
 apply Wn_congr
 unfold Big at*
 omega
theorem q_set {X b s:Nat}{q:Nat}(hq:q=divQ X b (s+1))(hs:s<256):(Wn 4 q).set (s/64) (((dig q (s/64)|||2^(s%64):Nat):Int))=Wn 4 (q+2^s):=by
 rw[Wn_or (by omega) (Nat.mod_lt _ (by omega)),Nat.div_add_mod,or_high (by rw[hq];exact divQ_mul X b s)]
theorem shl1 {k:Nat}(hk:k<64):ishl .u64 (1:Int) (k:Int)=((2^k:Nat):Int):=by
 have:=shl64 (a:=1) (k:=k) (by omega)
 rw[Nat.one_mul,Nat.mod_eq_of_lt (Nat.pow_lt_pow_right (by decide) hk:2^k<2^64)] at this
 exact this
theorem pow_lt64 {k:Nat}(hk:k<64):2^k<18446744073709551616:=Nat.pow_lt_pow_right (by decide) hk
def QDiv.pre (hi lo b:List Int):Prop:=Ok4 hi∧Ok4 lo∧Ok4 b
def QDiv.fn (hi lo b:List Int):List Int×List Int×Bool:=divFn hi lo b
def QDiv.inv5 (hi lo b q r:List Int)(i:Int):Prop:= -1≤i∧i≤255∧N4 hi<N4 b∧q=Wn 4 (divQ (N4 hi*Big+N4 lo) (N4 b) (i+1).toNat)∧r=Wn 4 (divR (N4 hi*Big+N4 lo) (N4 b) (i+1).toNat)
def QDiv.mes5 (hi lo b q r:List Int)(i:Int):Nat:=(i+1).toNat
def QDiv.VC :Prop:=∀(x0:(List Int)) (x1:(List Int)) (x2:(List Int)),QDiv.pre x0 x1 x2→QCmp.pre x2 x0∧(((decide ((QCmp.fn x2 x0)≤(0:Int)))=true→(Ret3 (List.replicate 4 (0:Int)) (List.replicate 4 (0:Int)) false (QDiv.fn x0 x1 x2)))∧((decide ((QCmp.fn x2 x0)≤(0:Int)))=false→(QDiv.inv5 x0 x1 x2 (List.replicate 4 (0:Int)) x0 (255:Int)∧∀(v6:(List Int)) (v7:(List Int)) (v9:Int),QDiv.inv5 x0 x1 x2 v6 v7 v9→(((decide (v9≥(0:Int)))=true→QBit.pre v7 (255:Int)∧QAdd.pre v7 v7∧QBit.pre x1 v9∧(((QBit.fn x1 v9)=true→(0≤(0:Int)∧(0:Int)<4)∧(let v35:Int:=(ior .u64 ((QAdd.fn v7 v7).1.getD (Int.toNat (0:Int)) (0:Int)) (1:Int))
 (0≤(0:Int)∧(0:Int)<4)∧((QBit.fn v7 (255:Int))=false→(QBit.fn v7 (255:Int))=false)∧((QBit.fn v7 (255:Int))=false→(QBit.fn v7 (255:Int))=false)∧((QBit.fn v7 (255:Int))=false→QCmp.pre ((QAdd.fn v7 v7).1.set (Int.toNat (0:Int)) v35) x2)∧((QBit.fn v7 (255:Int))=false→(QBit.fn v7 (255:Int))=false)∧((QBit.fn v7 (255:Int))=false→(QBit.fn v7 (255:Int))=false)∧(let v43:Bool:=(bif (QBit.fn v7 (255:Int)) then true else(decide ((QCmp.fn ((QAdd.fn v7 v7).1.set (Int.toNat (0:Int)) v35) x2)≥(0:Int))))
 ((v43=true→QSub.pre ((QAdd.fn v7 v7).1.set (Int.toNat (0:Int)) v35) x2∧(let v48:(List Int):=(QSub.fn ((QAdd.fn v7 v7).1.set (Int.toNat (0:Int)) v35) x2).1
 (let v49:Bool:=(QSub.fn ((QAdd.fn v7 v7).1.set (Int.toNat (0:Int)) v35) x2).2
 (64:Int)≠0∧(0≤(IntKind.i64.wrap (Int.tdiv v9 (64:Int)))∧(IntKind.i64.wrap (Int.tdiv v9 (64:Int)))<4)∧(let v53:Int:=(v6.getD (Int.toNat (IntKind.i64.wrap (Int.tdiv v9 (64:Int)))) (0:Int))
 (64:Int)≠0∧0≤(Int.tmod v9 (64:Int))∧(let v57:Int:=(ior .u64 v53 (ishl .u64 (1:Int) (Int.tmod v9 (64:Int))))
 (0≤(IntKind.i64.wrap (Int.tdiv v9 (64:Int)))∧(IntKind.i64.wrap (Int.tdiv v9 (64:Int)))<4)∧(let v6_1h:(List Int):=(v6.set (Int.toNat (IntKind.i64.wrap (Int.tdiv v9 (64:Int)))) v57)
 (QDiv.inv5 x0 x1 x2 v6_1h v48 (IntKind.i64.wrap (v9-(1:Int)))∧QDiv.mes5 x0 x1 x2 v6_1h v48 (IntKind.i64.wrap (v9-(1:Int)))<QDiv.mes5 x0 x1 x2 v6 v7 v9)))))))∧(v43=false→(QDiv.inv5 x0 x1 x2 v6 ((QAdd.fn v7 v7).1.set (Int.toNat (0:Int)) v35) (IntKind.i64.wrap (v9-(1:Int)))∧QDiv.mes5 x0 x1 x2 v6 ((QAdd.fn v7 v7).1.set (Int.toNat (0:Int)) v35) (IntKind.i64.wrap (v9-(1:Int)))<QDiv.mes5 x0 x1 x2 v6 v7 v9))))))∧((QBit.fn x1 v9)=false→((QBit.fn v7 (255:Int))=false→(QBit.fn v7 (255:Int))=false)∧((QBit.fn v7 (255:Int))=false→(QBit.fn v7 (255:Int))=false)∧((QBit.fn v7 (255:Int))=false→QCmp.pre ((QAdd.fn v7 v7).1) x2)∧((QBit.fn v7 (255:Int))=false→(QBit.fn v7 (255:Int))=false)∧((QBit.fn v7 (255:Int))=false→(QBit.fn v7 (255:Int))=false)∧(let v43_1:Bool:=(bif (QBit.fn v7 (255:Int)) then true else(decide ((QCmp.fn ((QAdd.fn v7 v7).1) x2)≥(0:Int))))
 ((v43_1=true→QSub.pre ((QAdd.fn v7 v7).1) x2∧(64:Int)≠0∧(0≤(IntKind.i64.wrap (Int.tdiv v9 (64:Int)))∧(IntKind.i64.wrap (Int.tdiv v9 (64:Int)))<4)∧(let v53_1:Int:=(v6.getD (Int.toNat (IntKind.i64.wrap (Int.tdiv v9 (64:Int)))) (0:Int))
 (64:Int)≠0∧0≤(Int.tmod v9 (64:Int))∧(let v57_1:Int:=(ior .u64 v53_1 (ishl .u64 (1:Int) (Int.tmod v9 (64:Int))))
 (0≤(IntKind.i64.wrap (Int.tdiv v9 (64:Int)))∧(IntKind.i64.wrap (Int.tdiv v9 (64:Int)))<4)∧(let v6_2h:(List Int):=(v6.set (Int.toNat (IntKind.i64.wrap (Int.tdiv v9 (64:Int)))) v57_1)
 (QDiv.inv5 x0 x1 x2 v6_2h ((QSub.fn ((QAdd.fn v7 v7).1) x2).1) (IntKind.i64.wrap (v9-(1:Int)))∧QDiv.mes5 x0 x1 x2 v6_2h ((QSub.fn ((QAdd.fn v7 v7).1) x2).1) (IntKind.i64.wrap (v9-(1:Int)))<QDiv.mes5 x0 x1 x2 v6 v7 v9)))))∧(v43_1=false→(QDiv.inv5 x0 x1 x2 v6 ((QAdd.fn v7 v7).1) (IntKind.i64.wrap (v9-(1:Int)))∧QDiv.mes5 x0 x1 x2 v6 ((QAdd.fn v7 v7).1) (IntKind.i64.wrap (v9-(1:Int)))<QDiv.mes5 x0 x1 x2 v6 v7 v9)))))))∧((decide (v9≥(0:Int)))=false→(Ret3 v6 v7 true (QDiv.fn x0 x1 x2)))))))
theorem cmp_le {n m:Nat}:decide (cmpN n m≤0)=decide (n≤m):=by
 rw[decide_eq_decide];unfold cmpN
 split
 ·constructor<;>intro<;>omega
 ·split
  ·constructor<;>intro<;>omega
  ·constructor<;>intro<;>omega
theorem cmp_ge {n m:Nat}:decide (cmpN n m≥0)=decide (m≤n):=by
 rw[decide_eq_decide];unfold cmpN
 split
 ·constructor<;>intro<;>omega
 ·split
  ·constructor<;>intro<;>omega
  ·constructor<;>intro<;>omega
theorem bit255 {R:Nat}(hR:R<Big):decide (R/2^255%2=1)=decide (Big≤2*R):=by
 rw[decide_eq_decide]
 have e:(2:Nat)^255=57896044618658097711785492504343953926634992332820282019728792003956564819968:=by decide+kernel
 rw[e]
 unfold Big at*
 omega
theorem cmp_over {R b v:Nat}(hb:b<Big)(hBv:Big≤2*R↔Big≤v):(bif decide (Big≤2*R) then true else decide (cmpN (N4 (Wn 4 v)) b≥0))=decide (b≤v):=by
 rw[cmp_ge,N4_W]
 by_cases hB:Big≤2*R
 ·have:b≤v:=by have:=hBv.1 hB;omega
  simp[hB,this]
 ·have hnv:¬Big≤v:=fun h=>hB (hBv.2 h)
  rw[Nat.mod_eq_of_lt (by omega)]
  simp[hB]
theorem big_odd {R:Nat}:Big≤2*R↔Big≤2*R+1:=by unfold Big;omega
theorem or_one (R:Nat):(Wn 4 (2*R)).set (Int.toNat 0) (ior .u64 ((Wn 4 (2*R)).getD (Int.toNat 0) 0) 1)=Wn 4 (2*R+1):=by
 show(Wn 4 (2*R)).set 0 (ior .u64 ((Wn 4 (2*R)).getD 0 0) ((1:Nat):Int))=_
 rw[Wn_getD _ (by omega),or64 (dig_lt _ _) (by omega)]
 have:=Wn_or (m:=4) (w:=0) (b:=0) (x:=2*R) (by omega) (by omega)
 rw[this]
 congr 1
 exact or_high (by simp)
theorem QDiv.vc :QDiv.VC:=by
 rintro hi lo b ⟨⟨h,hh,rfl⟩,⟨l,hl,rfl⟩,⟨b,hb,rfl⟩⟩
 have hin:∀q r i,QDiv.inv5 (Wn 4 h) (Wn 4 l) (Wn 4 b) q r i↔-1≤i∧i≤255∧h<b∧q=Wn 4 (divQ (h*Big+l) b (i+1).toNat)∧r=Wn 4 (divR (h*Big+l) b (i+1).toNat):=by
  intro q r i;simp only[QDiv.inv5,N4_W4 hh,N4_W4 hl,N4_W4 hb]
 simp only[hin]
 simp only[QCmp.fn,QDiv.fn,divFn,N4_W4 hh,N4_W4 hl,N4_W4 hb,cmp_le]
 refine⟨⟨ok4 hb,ok4 hh⟩,fun hc=> ?_,fun hc=> ?_⟩
 ·rw[ret3,if_pos (of_decide_eq_true hc)];rfl
 have hlt:h<b:=by have:=of_decide_eq_false hc;omega
 have hbp:0<b:=by omega
 obtain⟨t1,t2⟩:=div_top hl hlt
 refine⟨⟨by omega,by omega,hlt,by rw[show((255:Int)+1).toNat=256 from rfl,t2];rfl,by rw[show((255:Int)+1).toNat=256 from rfl,t1]⟩, ?_⟩
 rintro q r i ⟨k1,k2,_,hq,hr⟩
 refine⟨fun hc=> ?_,fun hc=> ?_⟩
 ·have hc:0≤i:=of_decide_eq_true hc
  obtain⟨s,rfl⟩:=Int.eq_ofNat_of_zero_le hc
  have hs:s<256:=by omega
  rw[show((s:Int)+1).toNat=s+1 by omega] at hq hr
  have hi1:IntKind.i64.wrap ((s:Int)-1)=(s:Int)-1:=i64w (by omega) (by omega)
  have hi2:((s:Int)-1+1).toNat=s:=by omega
  have ht1:Int.tdiv (s:Int) 64=((s/64:Nat):Int):=by rw[Int.tdiv_eq_ediv_of_nonneg (by omega)];omega
  have ht2:Int.tmod (s:Int) 64=((s%64:Nat):Int):=by rw[Int.tmod_eq_emod_of_nonneg (by omega)];omega
  have ht3:IntKind.i64.wrap ((s/64:Nat):Int)=((s/64:Nat):Int):=i64w (by omega) (by omega)
  have ht4:(0:Int)≤((s/64:Nat):Int)∧((s/64:Nat):Int)<4:=by omega
  have hbit:=div_bit (hi:=h) (lo:=l) hs
  obtain⟨d1,d2⟩:=div_down (X:=h*Big+l) (b:=b) (s:=s) hbp
  rw[hbit] at d1 d2
  have hrl:divR (h*Big+l) b (s+1)<b:=Nat.mod_lt _ hbp
  generalize hR:divR (h*Big+l) b (s+1)=R at*
  generalize hQ:divQ (h*Big+l) b (s+1)=Q at*
  subst hr hq
  have hRB:R<Big:=by omega
  have hmes:∀q r q2 r2:List Int,QDiv.mes5 (Wn 4 h) (Wn 4 l) (Wn 4 b) q r ((s:Int)-1)<QDiv.mes5 (Wn 4 h) (Wn 4 l) (Wn 4 b) q2 r2 s:=fun q r q2 r2=>by simp only[QDiv.mes5];omega
  simp only[hi1,hi2,ht1,ht2,ht3,Int.toNat_natCast,Wn_getD Q (show s/64<4 by omega),shl1 (Nat.mod_lt s (show 0<64 by omega)),or64 (dig_lt _ _) (pow_lt64 (Nat.mod_lt s (show 0<64 by omega)))]
  simp only[q_set hQ.symm hs]
  have hQadd:(QAdd.fn (Wn 4 R) (Wn 4 R)).1=Wn 4 (2*R):=by simp only[QAdd.fn,N4_W4 hRB];congr 1;omega
  have hov:QBit.fn (Wn 4 R) 255=decide (Big≤2*R):=by
   simp only[QBit.fn,N4_W4 hRB]
   exact bit255 hRB
  have hlb:QBit.fn (Wn 4 l) (s:Int)=decide (l/2^s%2=1):=by simp only[QBit.fn,N4_W4 hl,Int.toNat_natCast]
  have ht:l/2^s%2<2:=Nat.mod_lt _ (by omega)
  have z64:(64:Int)≠0:=by decide
  have z0:(0:Int)≤0∧(0:Int)<4:=by decide
  have zs:(0:Int)≤((s%64:Nat):Int):=Int.natCast_nonneg _
  have zb:(0:Int)≤255∧(255:Int)<256:=by decide
  have zi:(0:Int)≤(s:Int)∧(s:Int)<256:=⟨Int.natCast_nonneg _,by omega⟩
  have zj: -1≤(s:Int)-1∧(s:Int)-1≤255:=⟨by omega,by omega⟩
  generalize hv:2*R+l/2^s%2=v at d1 d2
  clear hi1 hi2 ht1 ht2 ht3 k1 k2 hbit hR hQ
  rw[hQadd,hlb]
  rw[or_one,hov]
  refine⟨⟨ok4 hRB,zb.1,zb.2⟩,⟨ok4 hRB,ok4 hRB⟩,⟨ok4 hl,zi.1,zi.2⟩,fun hb1=> ?_,fun hb1=> ?_⟩
  ·have hb1:l/2^s%2=1:=of_decide_eq_true hb1
   rw[hb1] at hv
   subst hv
   rw[cmp_over hb big_odd]
   refine⟨z0,z0,fun h=>h,fun h=>h,fun _=>⟨ok4' _,ok4 hb⟩,fun h=>h,fun h=>h,fun hge=> ?_,fun hge=> ?_⟩
   ·have hge:b≤2*R+1:=of_decide_eq_true hge
    rw[if_pos hge] at d1 d2
    refine⟨⟨ok4' _,ok4 hb⟩,z64,ht4,z64,zs,ht4,⟨zj.1,zj.2,hlt,by rw[d2], ?_⟩,hmes _ _ _ _⟩
    simp only[QSub.fn,WSub.fn,N4_W,N4_W4 hb]
    rw[sub_big hb hrl (Nat.le_refl _) hge,d1]
   ·have hge:¬b≤2*R+1:=of_decide_eq_false hge
    rw[if_neg hge] at d1 d2
    exact⟨⟨zj.1,zj.2,hlt,by rw[d2],by rw[d1]⟩,hmes _ _ _ _⟩
  ·have hb1:l/2^s%2=0:=by have:=of_decide_eq_false hb1;omega
   rw[hb1,Nat.add_zero] at hv
   subst hv
   rw[cmp_over hb Iff.rfl]
   refine⟨fun h=>h,fun h=>h,fun _=>⟨ok4' _,ok4 hb⟩,fun h=>h,fun h=>h,fun hge=> ?_,fun hge=> ?_⟩
   ·have hge:b≤2*R:=of_decide_eq_true hge
    rw[if_pos hge] at d1 d2
    refine⟨⟨ok4' _,ok4 hb⟩,z64,ht4,z64,zs,ht4,⟨zj.1,zj.2,hlt,by rw[d2], ?_⟩,hmes _ _ _ _⟩
    simp only[QSub.fn,WSub.fn,N4_W,N4_W4 hb]
    rw[sub_big hb hrl (Nat.le_succ _) hge,d1]
   ·have hge:¬b≤2*R:=of_decide_eq_false hge
    rw[if_neg hge] at d1 d2
    exact⟨⟨zj.1,zj.2,hlt,by rw[d2],by rw[d1]⟩,hmes _ _ _ _⟩
 ·have hc:¬0≤i:=of_decide_eq_false hc
  have e:(i+1).toNat=0:=by omega
  rw[e,(div_zero_s _ _).2] at hq
  rw[e,(div_zero_s _ _).1] at hr
  rw[ret3,if_neg (by omega),hq,hr]
end Lc
set_option maxRecDepth 100000
namespace Lc
open Go
def WDiv.pre (hi lo b:List Int):Prop:=Ok4 hi∧Ok4 lo∧Ok4 b
def WDiv.fn (hi lo b:List Int):List Int×List Int×Bool:=divFn hi lo b
def divI (hi lo b l q r z:List Int)(s:Nat):Prop:=N4 hi<N4 b∧z=Z4∧s≤256∧l=Wn 4 (N4 lo*2^(256-s))∧q=Wn 4 (divQ (N4 hi*Big+N4 lo) (N4 b) s)∧r=Wn 4 (divR (N4 hi*Big+N4 lo) (N4 b) s)
def WDiv.inv6 (hi lo b l q r z:List Int)(w:Int):Prop:= -1≤w∧w≤3∧divI hi lo b l q r z (64*(w+1).toNat)
def WDiv.mes6 (hi lo b l q r z:List Int)(w:Int):Nat:=(w+1).toNat
def WDiv.inv9 (hi lo b:List Int)(w:Int)(l q r z:List Int)(i:Int):Prop:=0≤w∧w≤3∧-1≤i∧i≤63∧divI hi lo b l q r z (64*w.toNat+(i+1).toNat)
def WDiv.mes9 (hi lo b:List Int)(w:Int)(l q r z:List Int)(i:Int):Nat:=(i+1).toNat
def WDiv.VC :Prop:=∀(x0:(List Int)) (x1:(List Int)) (x2:(List Int)),WDiv.pre x0 x1 x2→WCmp.pre x2 x0∧(((decide ((WCmp.fn x2 x0)≤(0:Int)))=true→(Ret3 (List.replicate 4 (0:Int)) (List.replicate 4 (0:Int)) false (WDiv.fn x0 x1 x2)))∧((decide ((WCmp.fn x2 x0)≤(0:Int)))=false→(WDiv.inv6 x0 x1 x2 x1 (List.replicate 4 (0:Int)) x0 (List.replicate 4 (0:Int)) (3:Int)∧∀(v4:(List Int)) (v6:(List Int)) (v7:(List Int)) (v9:(List Int)) (v10:Int),WDiv.inv6 x0 x1 x2 v4 v6 v7 v9 v10→(((decide (v10≥(0:Int)))=true→(WDiv.inv9 x0 x1 x2 v10 v4 v6 v7 v9 (63:Int)∧∀(v4_1:(List Int)) (v6_1:(List Int)) (v7_1:(List Int)) (v9_1:(List Int)) (v11:Int),WDiv.inv9 x0 x1 x2 v10 v4_1 v6_1 v7_1 v9_1 v11→(((decide (v11≥(0:Int)))=true→((Ty.beq (.arr 4 (.int .u64)) v7_1 v9_1)=true→(Ty.beq (.arr 4 (.int .u64)) v7_1 v9_1)=true)∧((Ty.beq (.arr 4 (.int .u64)) v7_1 v9_1)=true→(Ty.beq (.arr 4 (.int .u64)) v7_1 v9_1)=true)∧((Ty.beq (.arr 4 (.int .u64)) v7_1 v9_1)=true→(Ty.beq (.arr 4 (.int .u64)) v7_1 v9_1)=true)∧(let v37:Bool:=(bif (Ty.beq (.arr 4 (.int .u64)) v7_1 v9_1) then(Ty.beq (.arr 4 (.int .u64)) v4_1 v9_1) else false)
 ((v37=true→(Ret3 v6_1 v7_1 true (WDiv.fn x0 x1 x2)))∧(v37=false→WDbl.pre v4_1 (0:Int)∧WDbl.pre v7_1 ((WDbl.fn v4_1 (0:Int)).2)∧(((WDbl.fn v7_1 ((WDbl.fn v4_1 (0:Int)).2)).2 !=(0:Int))=false→((WDbl.fn v7_1 ((WDbl.fn v4_1 (0:Int)).2)).2 !=(0:Int))=false)∧(((WDbl.fn v7_1 ((WDbl.fn v4_1 (0:Int)).2)).2 !=(0:Int))=false→((WDbl.fn v7_1 ((WDbl.fn v4_1 (0:Int)).2)).2 !=(0:Int))=false)∧(((WDbl.fn v7_1 ((WDbl.fn v4_1 (0:Int)).2)).2 !=(0:Int))=false→WCmp.pre ((WDbl.fn v7_1 ((WDbl.fn v4_1 (0:Int)).2)).1) x2)∧(((WDbl.fn v7_1 ((WDbl.fn v4_1 (0:Int)).2)).2 !=(0:Int))=false→((WDbl.fn v7_1 ((WDbl.fn v4_1 (0:Int)).2)).2 !=(0:Int))=false)∧(((WDbl.fn v7_1 ((WDbl.fn v4_1 (0:Int)).2)).2 !=(0:Int))=false→((WDbl.fn v7_1 ((WDbl.fn v4_1 (0:Int)).2)).2 !=(0:Int))=false)∧(let v56:Bool:=(bif ((WDbl.fn v7_1 ((WDbl.fn v4_1 (0:Int)).2)).2 !=(0:Int)) then true else(decide ((WCmp.fn ((WDbl.fn v7_1 ((WDbl.fn v4_1 (0:Int)).2)).1) x2)≥(0:Int))))
 ((v56=true→WSub.pre ((WDbl.fn v7_1 ((WDbl.fn v4_1 (0:Int)).2)).1) x2∧(let v61:(List Int):=(WSub.fn ((WDbl.fn v7_1 ((WDbl.fn v4_1 (0:Int)).2)).1) x2).1
 (let v62:Bool:=(WSub.fn ((WDbl.fn v7_1 ((WDbl.fn v4_1 (0:Int)).2)).1) x2).2
 (0≤v10∧v10<4)∧0≤v11∧(let v68:Int:=(ior .u64 (v6_1.getD (Int.toNat v10) (0:Int)) (ishl .u64 (1:Int) v11))
 (0≤v10∧v10<4)∧(WDiv.inv9 x0 x1 x2 v10 ((WDbl.fn v4_1 (0:Int)).1) (v6_1.set (Int.toNat v10) v68) v61 v9_1 (IntKind.i64.wrap (v11-(1:Int)))∧WDiv.mes9 x0 x1 x2 v10 ((WDbl.fn v4_1 (0:Int)).1) (v6_1.set (Int.toNat v10) v68) v61 v9_1 (IntKind.i64.wrap (v11-(1:Int)))<WDiv.mes9 x0 x1 x2 v10 v4_1 v6_1 v7_1 v9_1 v11)))))∧(v56=false→(WDiv.inv9 x0 x1 x2 v10 ((WDbl.fn v4_1 (0:Int)).1) v6_1 ((WDbl.fn v7_1 ((WDbl.fn v4_1 (0:Int)).2)).1) v9_1 (IntKind.i64.wrap (v11-(1:Int)))∧WDiv.mes9 x0 x1 x2 v10 ((WDbl.fn v4_1 (0:Int)).1) v6_1 ((WDbl.fn v7_1 ((WDbl.fn v4_1 (0:Int)).2)).1) v9_1 (IntKind.i64.wrap (v11-(1:Int)))<WDiv.mes9 x0 x1 x2 v10 v4_1 v6_1 v7_1 v9_1 v11))))))))∧((decide (v11≥(0:Int)))=false→(WDiv.inv6 x0 x1 x2 v4_1 v6_1 v7_1 v9_1 (IntKind.i64.wrap (v10-(1:Int)))∧WDiv.mes6 x0 x1 x2 v4_1 v6_1 v7_1 v9_1 (IntKind.i64.wrap (v10-(1:Int)))<WDiv.mes6 x0 x1 x2 v4 v6 v7 v9 v10)))))∧((decide (v10≥(0:Int)))=false→(Ret3 v6 v7 true (WDiv.fn x0 x1 x2)))))))
theorem lo_step {l s:Nat}(hs:s<256):Wn 4 (2*(l*2^(256-(s+1))%Big)+0)=Wn 4 (l*2^(256-s))∧(2*(l*2^(256-(s+1))%Big)+0)/Big=l/2^s%2:=by
 have e:256-s=(256-(s+1))+1:=by omega
 constructor
 ·apply Wn_congr
  rw[e,Nat.pow_succ,←Nat.mul_assoc]
  generalize l*2^(256-(s+1))=y
  unfold Big
  omega
 ·have e2:l*2^(256-(s+1))/57896044618658097711785492504343953926634992332820282019728792003956564819968=l/2^s:=by
   rw[show(57896044618658097711785492504343953926634992332820282019728792003956564819968:Nat)=2^255 from rfl,show 255=s+(256-(s+1)) by omega,Nat.pow_add,Nat.mul_div_mul_right _ _ (Nat.two_pow_pos _)]
  rw[←e2]
  generalize l*2^(256-(s+1))=y
  unfold Big
  omega
theorem stop_here {h l b s:Nat}(hs:s≤256)(hb:0<b)(h1:divR (h*Big+l) b s=0)(h2:l*2^(256-s)%Big=0):divQ (h*Big+l) b s=(h*Big+l)/b∧(h*Big+l)%b=0:=by
 have e:Big=2^s*2^(256-s):=by rw[big_pow,←Nat.pow_add];congr 1;omega
 rw[e,Nat.mul_mod_mul_right] at h2
 have h3:l%2^s=0:=by
  rcases Nat.mul_eq_zero.1 h2 with h|h
  ·exact h
  ·have:=Nat.two_pow_pos (256-s);omega
 have h4:(h*Big+l)%2^s=0:=by
  rw[e,Nat.mul_left_comm,Nat.mul_add_mod,h3]
 have h5:h*Big+l=2^s*((h*Big+l)/2^s):=by have:=Nat.div_add_mod (h*Big+l) (2^s);omega
 have h6:(h*Big+l)/2^s=b*((h*Big+l)/2^s/b):=by
  have:=Nat.div_add_mod ((h*Big+l)/2^s) b
  unfold divR at h1
  omega
 generalize hK:(h*Big+l)/2^s/b=K at*
 unfold divQ
 rw[hK]
 rw[h6] at h5
 generalize h*Big+l=X at*
 subst h5
 rw[Nat.mul_left_comm]
 refine⟨?_,Nat.mul_mod_right _ _⟩
 rw[Nat.mul_div_cancel_left _ hb,Nat.mul_comm]
theorem WDiv.vc :WDiv.VC:=by
 rintro hi lo b ⟨⟨h,hh,rfl⟩,⟨l,hl,rfl⟩,⟨b,hb,rfl⟩⟩
 have hin:∀lw q r z s,divI (Wn 4 h) (Wn 4 l) (Wn 4 b) lw q r z s↔h<b∧z=Z4∧s≤256∧lw=Wn 4 (l*2^(256-s))∧q=Wn 4 (divQ (h*Big+l) b s)∧r=Wn 4 (divR (h*Big+l) b s):=by
  intro lw q r z s;simp only[divI,N4_W4 hh,N4_W4 hl,N4_W4 hb]
 simp only[WDiv.inv6,WDiv.inv9,hin]
 simp only[WCmp.fn,WDiv.fn,divFn,N4_W4 hh,N4_W4 hl,N4_W4 hb,cmp_le]
 refine⟨⟨ok4 hb,ok4 hh⟩,fun hc=> ?_,fun hc=> ?_⟩
 ·rw[ret3,if_pos (of_decide_eq_true hc)];rfl
 have hlt:h<b:=by have:=of_decide_eq_false hc;omega
 have hbp:0<b:=by omega
 have hnb:¬b≤h:=by omega
 obtain⟨t1,t2⟩:=div_top hl hlt
 refine⟨⟨by omega,by omega,hlt,rfl,by decide, ?_, ?_, ?_⟩, ?_⟩
 ·rw[show 64*((3:Int)+1).toNat=256 from rfl];simp
 ·rw[show 64*((3:Int)+1).toNat=256 from rfl,t2];rfl
 ·rw[show 64*((3:Int)+1).toNat=256 from rfl,t1]
 rintro lw q r z w ⟨k1,k2,_,rfl,_,hlw,hq,hr⟩
 refine⟨fun hc=> ?_,fun hc=> ?_⟩
 ·have hc:0≤w:=of_decide_eq_true hc
  refine⟨⟨hc,k2,by omega,by omega,hlt,rfl,by omega, ?_, ?_, ?_⟩, ?_⟩
  ·rw[hlw];congr 3;omega
  ·rw[hq];congr 2;omega
  ·rw[hr];congr 2;omega
  clear hlw hq hr
  rintro lw q r z i ⟨_,_,k3,k4,_,rfl,_,hlw,hq,hr⟩
  refine⟨fun hc2=> ?_,fun hc2=> ?_⟩
  ·have hc2:0≤i:=of_decide_eq_true hc2
   obtain⟨wn,rfl⟩:=Int.eq_ofNat_of_zero_le hc
   obtain⟨n,rfl⟩:=Int.eq_ofNat_of_zero_le hc2
   simp only[Int.toNat_natCast] at hlw hq hr
   have hs:64*wn+n<256:=by omega
   generalize hsd:64*wn+n=s at hs
   have e1:64*wn+((n:Int)+1).toNat=s+1:=by omega
   rw[e1] at hlw hq hr
   have hi1:IntKind.i64.wrap ((n:Int)-1)=(n:Int)-1:=i64w (by omega) (by omega)
   have hi2:64*wn+((n:Int)-1+1).toNat=s:=by omega
   have ht4:(0:Int)≤(wn:Int)∧(wn:Int)<4:=by omega
   have hbit:=div_bit (hi:=h) (lo:=l) hs
   obtain⟨d1,d2⟩:=div_down (X:=h*Big+l) (b:=b) (s:=s) hbp
   rw[hbit] at d1 d2
   have hrl:divR (h*Big+l) b (s+1)<b:=Nat.mod_lt _ hbp
   obtain⟨l1,l2⟩:=lo_step (l:=l) hs
   have hstop:divR (h*Big+l) b (s+1)=0→l*2^(256-(s+1))%Big=0→divQ (h*Big+l) b (s+1)=(h*Big+l)/b∧(h*Big+l)%b=0:=stop_here (by omega) hbp
   generalize hR:divR (h*Big+l) b (s+1)=R at*
   generalize hQ:divQ (h*Big+l) b (s+1)=Q at*
   subst hr hq hlw
   have hRB:R<Big:=by omega
   have hmes:∀lw q r z lw2 q2 r2 z2:List Int,WDiv.mes9 (Wn 4 h) (Wn 4 l) (Wn 4 b) wn lw q r z ((n:Int)-1)<WDiv.mes9 (Wn 4 h) (Wn 4 l) (Wn 4 b) wn lw2 q2 r2 z2 n:=fun lw q r z lw2 q2 r2 z2=>by simp only[WDiv.mes9];omega
   have hn64:n<64:=by omega
   have hqs:(Wn 4 Q).set wn (((dig Q wn|||2^n:Nat):Int))=Wn 4 (Q+2^s):=by
    have:=q_set hQ.symm hs
    rw[show s/64=wn by omega,show s%64=n by omega] at this
    exact this
   have hD1:WDbl.fn (Wn 4 (l*2^(256-(s+1)))) 0=(Wn 4 (l*2^(256-s)),((l/2^s%2:Nat):Int)):=by
    simp only[WDbl.fn,N4_W,Int.toNat_zero]
    rw[l1,l2]
   have ht:l/2^s%2<2:=Nat.mod_lt _ (by omega)
   generalize hbt:l/2^s%2=t at*
   have hD2:WDbl.fn (Wn 4 R) ((t:Nat):Int)=(Wn 4 (2*R+t),(((2*R+t)/Big:Nat):Int)):=by simp only[WDbl.fn,N4_W4 hRB,Int.toNat_natCast]
   have hov:((((2*R+t)/Big:Nat):Int) !=0)=decide (Big≤2*R+t):=by
    rw[Bool.eq_iff_iff]
    simp only[bne_iff_ne,ne_eq,decide_eq_true_eq]
    unfold Big at*
    omega
   simp only[hi1,hi2,Int.toNat_natCast,Wn_getD Q (show wn<4 by omega),shl1 hn64,or64 (dig_lt _ _) (pow_lt64 hn64),hqs,hD1,hD2,hov]
   have hz1:Ty.beq (.arr 4 (.int .u64)) (Wn 4 R) Z4=decide (R=0):=by rw[show Z4=List.replicate 4 0 from rfl,zeq (ok4 hRB),N4_W4 hRB]
   have hz2:Ty.beq (.arr 4 (.int .u64)) (Wn 4 (l*2^(256-(s+1)))) Z4=decide (l*2^(256-(s+1))%Big=0):=by rw[show Z4=List.replicate 4 0 from rfl,zeq (ok4' _),N4_W]
   rw[hz1,hz2]
   refine⟨fun h=>h,fun h=>h,fun h=>h,fun hstp=> ?_,fun hstp=> ?_⟩
   ·have hstp2:R=0∧l*2^(256-(s+1))%Big=0:=by
     by_cases hR0:R=0
     ·refine⟨hR0, ?_⟩
      rw[decide_eq_true hR0] at hstp
      exact of_decide_eq_true hstp
     ·rw[decide_eq_false hR0] at hstp
      cases hstp
    obtain⟨g1,g2⟩:=hstop hstp2.1 hstp2.2
    rw[ret3,if_neg hnb,g1,g2,hstp2.1]
   ·have key:(bif decide (Big≤2*R+t) then true else decide (cmpN (N4 (Wn 4 (2*R+t))) b≥0))=decide (b≤2*R+t):=by
     rw[cmp_ge,N4_W]
     by_cases hB:Big≤2*R+t
     ·have:b≤2*R+t:=by omega
      simp[hB,this]
     ·rw[Nat.mod_eq_of_lt (by omega)]
      simp[hB]
    rw[key]
    refine⟨⟨ok4' _,by omega,by omega⟩,⟨ok4 hRB,by omega,by omega⟩,fun h=>h,fun h=>h,fun _=>⟨ok4' _,ok4 hb⟩,fun h=>h,fun h=>h,fun hge=> ?_,fun hge=> ?_⟩
    ·have hge:b≤2*R+t:=of_decide_eq_true hge
     rw[if_pos hge] at d1 d2
     refine⟨⟨ok4' _,ok4 hb⟩,ht4,by omega,ht4,⟨by omega,by omega,by omega,by omega,hlt,trivial,by omega,trivial,by rw[d2], ?_⟩,hmes _ _ _ _ _ _ _ _⟩
     simp only[WSub.fn,N4_W,N4_W4 hb]
     rw[sub_big hb hrl (by omega) hge,d1]
    ·have hge:¬b≤2*R+t:=of_decide_eq_false hge
     rw[if_neg hge] at d1 d2
     exact⟨⟨by omega,by omega,by omega,by omega,hlt,trivial,by omega,trivial,by rw[d2],by rw[d1]⟩,hmes _ _ _ _ _ _ _ _⟩
  ·have hc2:¬0≤i:=of_decide_eq_false hc2
   rw[i64w (by omega) (by omega)]
   have e:64*(w-1+1).toNat=64*w.toNat+(i+1).toNat:=by omega
   rw[e]
   exact⟨⟨by omega,by omega,hlt,rfl,by omega,hlw,hq,hr⟩,by simp only[WDiv.mes6];omega⟩
 ·have hc:¬0≤w:=of_decide_eq_false hc
  have e:64*(w+1).toNat=0:=by omega
  rw[e,(div_zero_s _ _).2] at hq
  rw[e,(div_zero_s _ _).1] at hr
  rw[ret3,if_neg hnb,hq,hr]
end Lc
set_option maxRecDepth 100000
namespace Lc
open Go
def shlFn (a:List Int)(n:Int):List Int:=if n<0 then a else Wn 4 (N4 a*2^n.toNat)
def shrFn (a:List Int)(n:Int):List Int:=if n<0 then a else Wn 4 (N4 a/2^n.toNat)
theorem shl_big (n k:Nat)(h:256≤k):Wn 4 (n*2^k)=Wn 4 0:=by
 apply Wn_congr
 rw[show k=256+(k-256) by omega,Nat.pow_add,←big_pow,Nat.mul_left_comm,Nat.mul_mod_right]
 rfl
theorem shr_big {n k:Nat}(hn:n<Big)(h:256≤k):Wn 4 (n/2^k)=Wn 4 0:=by
 rw[Nat.div_eq_of_lt]
 refine Nat.lt_of_lt_of_le hn ?_
 rw[big_pow];exact Nat.pow_le_pow_right (by decide) h
theorem split64 {x:Int}(h0:0≤x)(h1:x<256):∃w r:Nat,r<64∧w<4∧x.toNat=64*w+r∧IntKind.i64.wrap (Int.tdiv x 64)=(w:Int)∧Int.tmod x 64=(r:Int):=by
 refine⟨x.toNat/64,x.toNat%64,by omega,by omega,by omega, ?_, ?_⟩
 ·rw[Int.tdiv_eq_ediv_of_nonneg h0,i64w (by omega) (by omega)];omega
 ·rw[Int.tmod_eq_emod_of_nonneg h0];omega
def WShl.pre (a:List Int)(n:Int):Prop:=Ok4 a
def WShl.fn (a:List Int)(n:Int):List Int:=shlFn a n
def WShl.inv8 (a:List Int)(n:Int)(v4 v5:List Int)(i:Int):Prop:=n.toNat/64≤i.toNat∧0≤i∧i≤4∧v5=mix (Wn 4 (N4 a*2^n.toNat)) Z4 i.toNat
def WShl.mes8 (a:List Int)(n:Int)(v4 v5:List Int)(i:Int):Nat:=(4-i).toNat
def WShl.VC :Prop:=∀(x0:(List Int)) (x1:Int),WShl.pre x0 x1→(((decide (x1<(0:Int)))=true→(Ret1 x0 (WShl.fn x0 x1)))∧((decide (x1<(0:Int)))=false→(((decide (x1≥(256:Int)))=true→(Ret1 (List.replicate 4 (0:Int)) (WShl.fn x0 x1)))∧((decide (x1≥(256:Int)))=false→(64:Int)≠0∧(64:Int)≠0∧(WShl.inv8 x0 x1 (List.replicate 4 (0:Int)) (List.replicate 4 (0:Int)) (IntKind.i64.wrap (Int.tdiv x1 (64:Int)))∧∀(v4:(List Int)) (v5:(List Int)) (v8:Int),WShl.inv8 x0 x1 v4 v5 v8→(((decide (v8<(4:Int)))=true→(let v27:Int:=(IntKind.i64.wrap (v8-(IntKind.i64.wrap (Int.tdiv x1 (64:Int)))))
 (0≤v27∧v27<4)∧0≤(Int.tmod x1 (64:Int))∧(let v31:Int:=(ishl .u64 (x0.getD (Int.toNat v27) (0:Int)) (Int.tmod x1 (64:Int)))
 (0≤v8∧v8<4)∧(((decide (v8>(IntKind.i64.wrap (Int.tdiv x1 (64:Int)))))=true→(0≤v8∧v8<4)∧(let v41:Int:=(IntKind.i64.wrap (v8-(IntKind.i64.wrap (Int.tdiv x1 (64:Int)))))
 (0≤(IntKind.i64.wrap (v41-(1:Int)))∧(IntKind.i64.wrap (v41-(1:Int)))<4)∧(let v44:Int:=(x0.getD (Int.toNat (IntKind.i64.wrap (v41-(1:Int)))) (0:Int))
 0≤(IntKind.i64.wrap ((64:Int)-(Int.tmod x1 (64:Int))))∧(let v47:Int:=(ishr .u64 v44 (IntKind.i64.wrap ((64:Int)-(Int.tmod x1 (64:Int)))))
 (let v48:Int:=(ior .u64 ((v5.set (Int.toNat v8) v31).getD (Int.toNat v8) (0:Int)) v47)
 (0≤v8∧v8<4)∧(WShl.inv8 x0 x1 v4 ((v5.set (Int.toNat v8) v31).set (Int.toNat v8) v48) (IntKind.i64.wrap (v8+(1:Int)))∧WShl.mes8 x0 x1 v4 ((v5.set (Int.toNat v8) v31).set (Int.toNat v8) v48) (IntKind.i64.wrap (v8+(1:Int)))<WShl.mes8 x0 x1 v4 v5 v8))))))∧((decide (v8>(IntKind.i64.wrap (Int.tdiv x1 (64:Int)))))=false→(WShl.inv8 x0 x1 v4 (v5.set (Int.toNat v8) v31) (IntKind.i64.wrap (v8+(1:Int)))∧WShl.mes8 x0 x1 v4 (v5.set (Int.toNat v8) v31) (IntKind.i64.wrap (v8+(1:Int)))<WShl.mes8 x0 x1 v4 v5 v8))))))∧((decide (v8<(4:Int)))=false→(Ret1 v5 (WShl.fn x0 x1)))))))))
theorem Z4_get (j:Nat):Z4.getD j 0=0:=zeros_get 4 j
theorem set_set_get {l:List Int}{k:Nat}{x:Int}(hk:k<l.length):(l.set k x).getD k 0=x:=by rw[lget_set,if_pos ⟨rfl,hk⟩]
theorem WShl.vc :WShl.VC:=by
 rintro a x ⟨n,hn,rfl⟩
 simp only[WShl.inv8,WShl.fn,shlFn,N4_W4 hn]
 refine⟨fun hc=> ?_,fun hc=>⟨fun hc2=> ?_,fun hc2=> ?_⟩⟩
 ·rw[ret1,if_pos (of_decide_eq_true hc)]
 ·have hc:¬x<0:=of_decide_eq_false hc
  have hc2:x≥256:=of_decide_eq_true hc2
  rw[ret1,if_neg hc,shl_big _ _ (by omega)];rfl
 ·have hc:¬x<0:=of_decide_eq_false hc
  have hc2:¬x≥256:=of_decide_eq_false hc2
  obtain⟨w,r,hr,hw,e1,e2,e3⟩:=split64 (x:=x) (by omega) (by omega)
  simp only[e1,e2,e3]
  have ew:(64*w+r)/64=w:=by omega
  simp only[ew]
  refine⟨by omega,by omega,⟨by omega,by omega,by omega, ?_⟩, ?_⟩
  ·show Z4=_
   apply ext_getD (by rw[mix_len (by rw[Wn_len];rfl),Wn_len];rfl)
   intro j hj
   rw[mix_getD (by rw[Wn_len];rfl)]
   have hj:j<4:=hj
   split
   ·rw[Wn_getD _ hj,shl_words,if_neg (by omega),Z4_get];rfl
   ·rfl
  rintro v4 v5 i ⟨k0,k1,k2,rfl⟩
  refine⟨fun hi=> ?_,fun hi=> ?_⟩
  ·have hi:i<4:=of_decide_eq_true hi
   have hi4:0≤i∧i<4:=⟨k1,hi⟩
   obtain⟨k,rfl⟩:=Int.eq_ofNat_of_zero_le k1
   have f1:IntKind.i64.wrap ((k:Int)-(w:Int))=((k-w:Nat):Int):=by rw[i64w (by omega) (by omega)];omega
   have f2:IntKind.i64.wrap ((k:Int)+1)=(k:Int)+1:=i64w (by omega) (by omega)
   have f3:IntKind.i64.wrap ((64:Int)-(r:Int))=((64-r:Nat):Int):=by rw[i64w (by omega) (by omega)];omega
   simp only[f1,f2,f3,Int.toNat_natCast,Wn_getD n (show k-w<4 by omega),shl64 (show r≤64 by omega)]
   have hl:(mix (Wn 4 (n*2^(64*w+r))) Z4 k).length=4:=by rw[mix_len (by rw[Wn_len];rfl),Wn_len]
   have hlt:dig n (k-w)*2^r%18446744073709551616<18446744073709551616:=Nat.mod_lt _ (by omega)
   refine⟨by omega,by omega,hi4,fun hg=> ?_,fun hg=> ?_⟩
   ·have hg:(k:Int)>(w:Int):=of_decide_eq_true hg
    have f4:IntKind.i64.wrap (((k-w:Nat):Int)-1)=((k-w-1:Nat):Int):=by rw[i64w (by omega) (by omega)];omega
    simp only[f4,Int.toNat_natCast,Wn_getD n (show k-w-1<4 by omega),shr64 (show 64-r≤64 by omega),set_set_get (show k<(mix (Wn 4 (n*2^(64*w+r))) Z4 k).length by rw[hl];omega),List.set_set]
    have hsr:dig n (k-w-1)/2^(64-r)<18446744073709551616:=Nat.lt_of_le_of_lt (Nat.div_le_self _ _) (dig_lt _ _)
    rw[or64 hlt hsr,←shl_dig hr (by omega)]
    refine⟨hi4,by omega,by omega,hi4,⟨by omega,by omega,by omega, ?_⟩,by simp only[WShl.mes8];omega⟩
    have:=mixZ_set (s:=n*2^(64*w+r)) (i:=(k:Int)) (x:=((dig (n*2^r) (k-w):Nat):Int)) hi4 (by rw[Int.toNat_natCast,shl_words,if_pos (by omega)]) Z4_len
    simpa using this
   ·have hg:¬(k:Int)>(w:Int):=of_decide_eq_false hg
    have hkw:k=w:=by omega
    refine⟨⟨by omega,by omega,by omega, ?_⟩,by simp only[WShl.mes8];omega⟩
    have:=mixZ_set (s:=n*2^(64*w+r)) (i:=(k:Int)) (x:=((dig n (k-w)*2^r%18446744073709551616:Nat):Int)) hi4 (by rw[Int.toNat_natCast,shl_words,if_pos (by omega),hkw,Nat.sub_self,shl_dig0]) Z4_len
    simpa using this
  ·have hi:¬i<4:=of_decide_eq_false hi
   rw[ret1,if_neg hc,show i.toNat=4 by omega,mix_all (by rw[Wn_len];omega) (by decide)]
def WShr.pre (a:List Int)(n:Int):Prop:=Ok4 a
def WShr.fn (a:List Int)(n:Int):List Int:=shrFn a n
def WShr.inv8 (a:List Int)(n:Int)(v4 v5:List Int)(i:Int):Prop:=0≤i∧i.toNat+n.toNat/64≤4∧v5=mix (Wn 4 (N4 a/2^n.toNat)) Z4 i.toNat
def WShr.mes8 (a:List Int)(n:Int)(v4 v5:List Int)(i:Int):Nat:=(4-i).toNat
def WShr.VC :Prop:=∀(x0:(List Int)) (x1:Int),WShr.pre x0 x1→(((decide (x1<(0:Int)))=true→(Ret1 x0 (WShr.fn x0 x1)))∧((decide (x1<(0:Int)))=false→(((decide (x1≥(256:Int)))=true→(Ret1 (List.replicate 4 (0:Int)) (WShr.fn x0 x1)))∧((decide (x1≥(256:Int)))=false→(64:Int)≠0∧(64:Int)≠0∧(let v20:Int:=(IntKind.i64.wrap ((4:Int)-(IntKind.i64.wrap (Int.tdiv x1 (64:Int)))))
 (WShr.inv8 x0 x1 (List.replicate 4 (0:Int)) (List.replicate 4 (0:Int)) (0:Int)∧∀(v4:(List Int)) (v5:(List Int)) (v21:Int),WShr.inv8 x0 x1 v4 v5 v21→(((decide (v21<v20))=true→(let v27:Int:=(IntKind.i64.wrap (v21+(IntKind.i64.wrap (Int.tdiv x1 (64:Int)))))
 (0≤v27∧v27<4)∧0≤(Int.tmod x1 (64:Int))∧(let v31:Int:=(ishr .u64 (x0.getD (Int.toNat v27) (0:Int)) (Int.tmod x1 (64:Int)))
 (0≤v21∧v21<4)∧(let v35:Int:=(IntKind.i64.wrap (v21+(IntKind.i64.wrap (Int.tdiv x1 (64:Int)))))
 (((decide (v35<(3:Int)))=true→(0≤v21∧v21<4)∧(let v39:Int:=((v5.set (Int.toNat v21) v31).getD (Int.toNat v21) (0:Int))
 (let v42:Int:=(IntKind.i64.wrap (v21+(IntKind.i64.wrap (Int.tdiv x1 (64:Int)))))
 (0≤(IntKind.i64.wrap (v42+(1:Int)))∧(IntKind.i64.wrap (v42+(1:Int)))<4)∧(let v45:Int:=(x0.getD (Int.toNat (IntKind.i64.wrap (v42+(1:Int)))) (0:Int))
 0≤(IntKind.i64.wrap ((64:Int)-(Int.tmod x1 (64:Int))))∧(let v48:Int:=(ishl .u64 v45 (IntKind.i64.wrap ((64:Int)-(Int.tmod x1 (64:Int)))))
 (0≤v21∧v21<4)∧(let v5_1h:(List Int):=((v5.set (Int.toNat v21) v31).set (Int.toNat v21) (ior .u64 v39 v48))
 (WShr.inv8 x0 x1 v4 v5_1h (IntKind.i64.wrap (v21+(1:Int)))∧WShr.mes8 x0 x1 v4 v5_1h (IntKind.i64.wrap (v21+(1:Int)))<WShr.mes8 x0 x1 v4 v5 v21)))))))∧((decide (v35<(3:Int)))=false→(WShr.inv8 x0 x1 v4 (v5.set (Int.toNat v21) v31) (IntKind.i64.wrap (v21+(1:Int)))∧WShr.mes8 x0 x1 v4 (v5.set (Int.toNat v21) v31) (IntKind.i64.wrap (v21+(1:Int)))<WShr.mes8 x0 x1 v4 v5 v21)))))))∧((decide (v21<v20))=false→(Ret1 v5 (WShr.fn x0 x1))))))))))
theorem WShr.vc :WShr.VC:=by
 rintro a x ⟨n,hn,rfl⟩
 simp only[WShr.inv8,WShr.fn,shrFn,N4_W4 hn]
 refine⟨fun hc=> ?_,fun hc=>⟨fun hc2=> ?_,fun hc2=> ?_⟩⟩
 ·rw[ret1,if_pos (of_decide_eq_true hc)]
 ·have hc:¬x<0:=of_decide_eq_false hc
  have hc2:x≥256:=of_decide_eq_true hc2
  rw[ret1,if_neg hc,shr_big hn (by omega)];rfl
 ·have hc:¬x<0:=of_decide_eq_false hc
  have hc2:¬x≥256:=of_decide_eq_false hc2
  obtain⟨w,r,hr,hw,e1,e2,e3⟩:=split64 (x:=x) (by omega) (by omega)
  simp only[e1,e2,e3]
  have ew:(64*w+r)/64=w:=by omega
  have f0:IntKind.i64.wrap ((4:Int)-(w:Int))=((4-w:Nat):Int):=by rw[i64w (by omega) (by omega)];omega
  simp only[ew,f0]
  have hhigh:∀j,4≤j→dig n j=0:=by
   intro j hj
   apply dig_high
   refine Nat.lt_of_lt_of_le hn ?_
   rw[big_pow];exact Nat.pow_le_pow_right (by decide) (by omega)
  refine⟨by omega,by omega,⟨by omega,by rw[Int.toNat_zero];omega,by rw[Int.toNat_zero,mix_zero];rfl⟩, ?_⟩
  rintro v4 v5 i ⟨k1,k2,rfl⟩
  refine⟨fun hi=> ?_,fun hi=> ?_⟩
  ·have hi:i<((4-w:Nat):Int):=of_decide_eq_true hi
   have hi4:0≤i∧i<4:=⟨k1,by omega⟩
   obtain⟨k,rfl⟩:=Int.eq_ofNat_of_zero_le k1
   have f1:IntKind.i64.wrap ((k:Int)+(w:Int))=((k+w:Nat):Int):=by rw[i64w (by omega) (by omega)];omega
   have f2:IntKind.i64.wrap ((k:Int)+1)=(k:Int)+1:=i64w (by omega) (by omega)
   have f3:IntKind.i64.wrap ((64:Int)-(r:Int))=((64-r:Nat):Int):=by rw[i64w (by omega) (by omega)];omega
   simp only[f1,f2,f3,Int.toNat_natCast,Wn_getD n (show k+w<4 by omega),shr64 (show r≤64 by omega)]
   have hl:(mix (Wn 4 (n/2^(64*w+r))) Z4 k).length=4:=by rw[mix_len (by rw[Wn_len];rfl),Wn_len]
   have hlt:dig n (k+w)/2^r<18446744073709551616:=Nat.lt_of_le_of_lt (Nat.div_le_self _ _) (dig_lt _ _)
   refine⟨by omega,by omega,hi4,fun hg=> ?_,fun hg=> ?_⟩
   ·have hg:((k+w:Nat):Int)<3:=of_decide_eq_true hg
    have f4:IntKind.i64.wrap (((k+w:Nat):Int)+1)=((k+w+1:Nat):Int):=by rw[i64w (by omega) (by omega)];omega
    simp only[f4,Int.toNat_natCast,Wn_getD n (show k+w+1<4 by omega),shl64 (show 64-r≤64 by omega),set_set_get (show k<(mix (Wn 4 (n/2^(64*w+r))) Z4 k).length by rw[hl];omega),List.set_set]
    have hsr:dig n (k+w+1)*2^(64-r)%18446744073709551616<18446744073709551616:=Nat.mod_lt _ (by omega)
    rw[or64 hlt hsr,←shr_dig hr]
    refine⟨hi4,by omega,by omega,hi4,⟨by omega,by omega, ?_⟩,by simp only[WShr.mes8];omega⟩
    have:=mixZ_set (s:=n/2^(64*w+r)) (i:=(k:Int)) (x:=((dig (n/2^r) (k+w):Nat):Int)) hi4 (by rw[Int.toNat_natCast,shr_words]) Z4_len
    simpa using this
   ·have hg:¬((k+w:Nat):Int)<3:=of_decide_eq_false hg
    refine⟨⟨by omega,by omega, ?_⟩,by simp only[WShr.mes8];omega⟩
    have:=mixZ_set (s:=n/2^(64*w+r)) (i:=(k:Int)) (x:=((dig n (k+w)/2^r:Nat):Int)) hi4 (by rw[Int.toNat_natCast,shr_words,shr_dig hr,hhigh (k+w+1) (by omega)];simp) Z4_len
    simpa using this
  ·have hi:¬i<((4-w:Nat):Int):=of_decide_eq_false hi
   rw[ret1,if_neg hc]
   apply ext_getD (by rw[mix_len (by rw[Wn_len];rfl)])
   intro j hj
   have hj:j<4:=by rw[mix_len (by rw[Wn_len];rfl),Wn_len] at hj;exact hj
   rw[mix_getD (by rw[Wn_len];rfl)]
   split
   ·rfl
   ·rw[Z4_get,Wn_getD _ hj,shr_words,shr_dig hr,hhigh (j+w) (by omega),hhigh (j+w+1) (by omega)];simp
def QShl.pre (a:List Int)(n:Int):Prop:=Ok4 a∧-9223372036854775808≤n
def QShl.fn (a:List Int)(n:Int):List Int:=shlFn a n
def QShl.inv3 (a:List Int)(n k:Int)(v2 v4:List Int):Prop:=k≤n∧n<256∧(k=n∨0≤k)∧v2=Wn 4 (N4 a*2^(n-k).toNat)
def QShl.mes3 (a:List Int)(n k:Int)(v2 v4:List Int):Nat:=k.toNat
def QShl.VC :Prop:=∀(x0:(List Int)) (x1:Int),QShl.pre x0 x1→(((decide (x1≥(256:Int)))=true→(Ret1 (List.replicate 4 (0:Int)) (QShl.fn x0 x1)))∧((decide (x1≥(256:Int)))=false→(QShl.inv3 x0 x1 x1 x0 (List.replicate 4 (0:Int))∧∀(v1:Int) (v2:(List Int)) (v4:(List Int)),QShl.inv3 x0 x1 v1 v2 v4→(((decide (v1>(0:Int)))=true→QAdd.pre v2 v2∧(QShl.inv3 x0 x1 (IntKind.i64.wrap (v1-(1:Int))) ((QAdd.fn v2 v2).1) v4∧QShl.mes3 x0 x1 (IntKind.i64.wrap (v1-(1:Int))) ((QAdd.fn v2 v2).1) v4<QShl.mes3 x0 x1 v1 v2 v4))∧((decide (v1>(0:Int)))=false→(Ret1 v2 (QShl.fn x0 x1)))))))
theorem QShl.vc :QShl.VC:=by
 rintro a x ⟨⟨n,hn,rfl⟩,hx⟩
 simp only[QShl.inv3,QShl.fn,shlFn,N4_W4 hn]
 refine⟨fun hc=> ?_,fun hc=> ?_⟩
 ·have hc:x≥256:=of_decide_eq_true hc
  rw[ret1,if_neg (by omega),shl_big _ _ (by omega)];rfl
 have hc:¬x≥256:=of_decide_eq_false hc
 refine⟨⟨by omega,by omega,.inl trivial,by simp⟩, ?_⟩
 rintro k v2 v4 ⟨k1,k2,k3,rfl⟩
 refine⟨fun h=> ?_,fun h=> ?_⟩
 ·have h:k>0:=of_decide_eq_true h
  rw[i64w (by omega) (by omega)]
  refine⟨⟨ok4' _,ok4' _⟩,⟨by omega,by omega,.inr (by omega), ?_⟩,by simp only[QShl.mes3];omega⟩
  simp only[QAdd.fn,N4_W]
  apply Wn_congr
  rw[show(x-(k-1)).toNat=(x-k).toNat+1 by omega,Nat.pow_succ,←Nat.mul_assoc]
  generalize n*2^(x-k).toNat=y
  unfold Big
  omega
 ·have h:¬k>0:=of_decide_eq_false h
  rw[ret1]
  split
  ·rename_i hneg
   have:k=x:=by omega
   subst this;simp
  ·have:k=0:=by omega
   subst this;simp
def QShr.pre (a:List Int)(n:Int):Prop:=Ok4 a
def QShr.fn (a:List Int)(n:Int):List Int:=shrFn a n
def QShr.inv7 (a:List Int)(n:Int)(v4 v5:List Int)(i:Int):Prop:=0≤i∧i+n≤256∧v5=Wn 4 (N4 a/2^n.toNat%2^i.toNat)
def QShr.mes7 (a:List Int)(n:Int)(v4 v5:List Int)(i:Int):Nat:=(256-i).toNat
def QShr.VC :Prop:=∀(x0:(List Int)) (x1:Int),QShr.pre x0 x1→(((decide (x1≤(0:Int)))=true→(Ret1 x0 (QShr.fn x0 x1)))∧((decide (x1≤(0:Int)))=false→(((decide (x1≥(256:Int)))=true→(Ret1 (List.replicate 4 (0:Int)) (QShr.fn x0 x1)))∧((decide (x1≥(256:Int)))=false→(QShr.inv7 x0 x1 (List.replicate 4 (0:Int)) (List.replicate 4 (0:Int)) (0:Int)∧∀(v4:(List Int)) (v5:(List Int)) (v6:Int),QShr.inv7 x0 x1 v4 v5 v6→(((decide ((IntKind.i64.wrap (v6+x1))<(256:Int)))=true→QBit.pre x0 (IntKind.i64.wrap (v6+x1))∧(((QBit.fn x0 (IntKind.i64.wrap (v6+x1)))=true→(64:Int)≠0∧(0≤(IntKind.i64.wrap (Int.tdiv v6 (64:Int)))∧(IntKind.i64.wrap (Int.tdiv v6 (64:Int)))<4)∧(let v27:Int:=(v5.getD (Int.toNat (IntKind.i64.wrap (Int.tdiv v6 (64:Int)))) (0:Int))
 (64:Int)≠0∧0≤(Int.tmod v6 (64:Int))∧(let v31:Int:=(ior .u64 v27 (ishl .u64 (1:Int) (Int.tmod v6 (64:Int))))
 (0≤(IntKind.i64.wrap (Int.tdiv v6 (64:Int)))∧(IntKind.i64.wrap (Int.tdiv v6 (64:Int)))<4)∧(let v5_1h:(List Int):=(v5.set (Int.toNat (IntKind.i64.wrap (Int.tdiv v6 (64:Int)))) v31)
 (QShr.inv7 x0 x1 v4 v5_1h (IntKind.i64.wrap (v6+(1:Int)))∧QShr.mes7 x0 x1 v4 v5_1h (IntKind.i64.wrap (v6+(1:Int)))<QShr.mes7 x0 x1 v4 v5 v6)))))∧((QBit.fn x0 (IntKind.i64.wrap (v6+x1)))=false→(QShr.inv7 x0 x1 v4 v5 (IntKind.i64.wrap (v6+(1:Int)))∧QShr.mes7 x0 x1 v4 v5 (IntKind.i64.wrap (v6+(1:Int)))<QShr.mes7 x0 x1 v4 v5 v6))))∧((decide ((IntKind.i64.wrap (v6+x1))<(256:Int)))=false→(Ret1 v5 (QShr.fn x0 x1)))))))))
theorem QShr.vc :QShr.VC:=by
 rintro a x ⟨n,hn,rfl⟩
 simp only[QShr.inv7,QShr.fn,shrFn,N4_W4 hn]
 refine⟨fun hc=> ?_,fun hc=>⟨fun hc2=> ?_,fun hc2=> ?_⟩⟩
 ·have hc:x≤0:=of_decide_eq_true hc
  rw[ret1]
  split
  ·rfl
  ·have:x=0:=by omega
   subst this;simp
 ·have hc:¬x≤0:=of_decide_eq_false hc
  have hc2:x≥256:=of_decide_eq_true hc2
  rw[ret1,if_neg (by omega),shr_big hn (by omega)];rfl
 ·have hc:¬x≤0:=of_decide_eq_false hc
  have hc2:¬x≥256:=of_decide_eq_false hc2
  refine⟨⟨by omega,by omega,by simp[Nat.mod_one];rfl⟩, ?_⟩
  rintro v4 v5 i ⟨k1,k2,rfl⟩
  obtain⟨k,rfl⟩:=Int.eq_ofNat_of_zero_le k1
  have e0:IntKind.i64.wrap ((k:Int)+x)=(k:Int)+x:=i64w (by omega) (by omega)
  have e1:IntKind.i64.wrap ((k:Int)+1)=(k:Int)+1:=i64w (by omega) (by omega)
  simp only[e0,e1]
  have hbit:n/2^((k:Int)+x).toNat=n/2^x.toNat/2^k:=by
   rw[Nat.div_div_eq_div_mul,←Nat.pow_add];congr 2;omega
  have hy:n/2^x.toNat<2^(256-x.toNat):=by
   rw[Nat.div_lt_iff_lt_mul (Nat.two_pow_pos _),←Nat.pow_add,show 256-x.toNat+x.toNat=256 by omega,←big_pow];exact hn
  generalize hyd:n/2^x.toNat=y at*
  refine⟨fun h=> ?_,fun h=> ?_⟩
  ·have h:(k:Int)+x<256:=of_decide_eq_true h
   obtain⟨w,r,hr,hw,q1,q2,q3⟩:=split64 (x:=(k:Int)) (by omega) (by omega)
   rw[Int.toNat_natCast] at q1
   have hsucc:y%2^(k+1)=y%2^k+2^k*(y/2^k%2):=by rw[Nat.pow_succ,Nat.mod_mul]
   have hk1:((k:Int)+1).toNat=k+1:=by omega
   simp only[q2,q3,QBit.fn,N4_W4 hn,hbit,Int.toNat_natCast,hk1]
   have hmes:∀p q p2 q2:List Int,QShr.mes7 (Wn 4 n) x p q ((k:Int)+1)<QShr.mes7 (Wn 4 n) x p2 q2 k:=fun p q p2 q2=>by simp only[QShr.mes7];omega
   refine⟨⟨⟨n,hn,rfl⟩,by omega,by omega⟩,fun hb=> ?_,fun hb=> ?_⟩
   ·have hb:y/2^k%2=1:=of_decide_eq_true hb
    rw[hb,Nat.mul_one] at hsucc
    have hlow:y%2^k<2^k:=Nat.mod_lt _ (Nat.two_pow_pos _)
    simp only[Wn_getD (y%2^k) hw,shl1 hr,or64 (dig_lt _ _) (pow_lt64 hr)]
    refine⟨by omega,by omega,by omega,by omega,by omega,⟨by omega,by omega, ?_⟩,hmes _ _ _ _⟩
    rw[Wn_or hw hr,←q1,or_low hlow,hsucc]
   ·have hb:y/2^k%2=0:=by have:=of_decide_eq_false hb;have:=Nat.mod_lt (y/2^k) (show 0<2 by omega);omega
    have hs2:y%2^(k+1)=y%2^k:=by rw[hsucc,hb];rfl
    exact⟨⟨by omega,by omega,by rw[hs2]⟩,hmes _ _ _ _⟩
  ·have h:¬(k:Int)+x<256:=of_decide_eq_false h
   rw[ret1,if_neg (by omega),Int.toNat_natCast,Nat.mod_eq_of_lt]
   rw[show k=256-x.toNat by omega];exact hy
end Lc
