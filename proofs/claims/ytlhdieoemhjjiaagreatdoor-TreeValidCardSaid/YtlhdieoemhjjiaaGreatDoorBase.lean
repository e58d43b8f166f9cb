/- Plain lemmas for the conditions: wrapping, iteration, lists of numbers. -/
import Derived.Test.YtlhdieoemhjjiaaGreatDoorEngSV
set_option linter.unusedVariables false
set_option linter.unusedSimpArgs false
namespace Lc
open Go
theorem i64w {n:Int}(h1: -9223372036854775808≤n)(h2:n≤9223372036854775807):IntKind.i64.wrap n=n:=by
 simp only[IntKind.wrap,IntKind.bits,IntKind.signed,Bool.true_and]
 split<;>simp at* <;>omega
theorem u64w {n:Int}(h1:0≤n)(h2:n≤18446744073709551615):IntKind.u64.wrap n=n:=by
 simp only[IntKind.wrap,IntKind.bits,IntKind.signed,Bool.false_and]
 simp;omega
theorem u32w {n:Int}(h1:0≤n)(h2:n≤4294967295):IntKind.u32.wrap n=n:=by
 simp only[IntKind.wrap,IntKind.bits,IntKind.signed,Bool.false_and]
 simp;omega
theorem u8w {n:Int}(h1:0≤n)(h2:n≤255):IntKind.u8.wrap n=n:=by
 simp only[IntKind.wrap,IntKind.bits,IntKind.signed,Bool.false_and]
 simp;omega
theorem u64m (n:Int):IntKind.u64.wrap n=n%18446744073709551616:=by simp[IntKind.wrap,IntKind.bits,IntKind.signed]
theorem u32m (n:Int):IntKind.u32.wrap n=n%4294967296:=by simp[IntKind.wrap,IntKind.bits,IntKind.signed]
theorem u8m (n:Int):IntKind.u8.wrap n=n%256:=by simp[IntKind.wrap,IntKind.bits,IntKind.signed]
theorem u64r (n:Int):0≤IntKind.u64.wrap n∧IntKind.u64.wrap n≤18446744073709551615:=by rw[u64m];omega
theorem u32r (n:Int):0≤IntKind.u32.wrap n∧IntKind.u32.wrap n≤4294967295:=by rw[u32m];omega
theorem u8r (n:Int):0≤IntKind.u8.wrap n∧IntKind.u8.wrap n≤255:=by rw[u8m];omega
theorem room_of {n b:Nat}(h:n≤1000000000)(hb:b≤4096):Room n b:=by
 have:=Nat.mul_le_mul h hb
 constructor<;>omega
def upN {α:Type}(f:Int→α→α)(a:Int):Nat→α→α
 |0,s=>s
 |k+1,s=>f (a+k) (upN f a k s)
def up {α:Type}(f:Int→α→α)(a v:Int)(s:α):α:=upN f a (v-a).toNat s
theorem up_self {α:Type}(f:Int→α→α)(a:Int)(s:α):up f a a s=s:=by simp[up,upN]
theorem up_succ {α:Type}{f:Int→α→α}{a v:Int}{s:α}(h:a≤v):up f a (v+1) s=f v (up f a v s):=by
 unfold up
 rw[show(v+1-a).toNat=(v-a).toNat+1 by omega,upN,show a+((v-a).toNat:Int)=v by omega]
theorem up_keeps {α:Type}{f:Int→α→α}{a:Int}{s:α}(P:α→Prop)(h0:P s)(hs:∀i x,a≤i→P x→P (f i x))(v:Int):P (up f a v s):=by
 unfold up
 induction (v-a).toNat with
 |zero=>exact h0
 |succ k ih=>exact hs _ _ (by omega) ih
attribute [irreducible] upN
theorem lget_set (l:List Int)(i j:Nat)(x d:Int):(l.set i x).getD j d=if i=j∧j<l.length then x else l.getD j d:=by
 simp only[List.getD_eq_getElem?_getD,List.getElem?_set]
 by_cases h:i=j
 ·subst h
  by_cases h2:i<l.length
  ·simp[h2]
  ·simp[h2]
 ·simp[h]
theorem zeros_get (n i:Nat):(List.replicate n (0:Int)).getD i 0=0:=by
 rw[List.getD_eq_getElem?_getD,List.getElem?_replicate]
 split<;>rfl
theorem ext_getD {l m:List Int}(hl:l.length=m.length)(h:∀i,i<l.length→l.getD i 0=m.getD i 0):l=m:=by
 apply List.ext_getElem hl
 intro i h1 h2
 have:=h i h1
 simpa[List.getD_eq_getElem?_getD,h1,h2] using this
def Bytes (l:List Int):Prop:=∀x,x∈l→0≤x∧x≤255
theorem Bytes.getD {l:List Int}(h:Bytes l)(i:Nat):0≤l.getD i 0∧l.getD i 0≤255:=by
 rw[List.getD_eq_getElem?_getD]
 cases hq:l[i]? with
 |none=>simp
 |some x=>exact h x (List.mem_of_getElem? hq)
theorem Bytes.append {l m:List Int}(h:Bytes l)(k:Bytes m):Bytes (l++m):=by
 intro x hx;rcases List.mem_append.1 hx with hx|hx
 ·exact h x hx
 ·exact k x hx
theorem Bytes.take {l:List Int}(h:Bytes l)(n:Nat):Bytes (l.take n):=fun x hx=>h x (List.mem_of_mem_take hx)
theorem Bytes.drop {l:List Int}(h:Bytes l)(n:Nat):Bytes (l.drop n):=fun x hx=>h x (List.mem_of_mem_drop hx)
theorem Bytes.set {l:List Int}(h:Bytes l)(n:Nat){x:Int}(hx:0≤x∧x≤255):Bytes (l.set n x):=by
 intro y hy
 rcases List.mem_or_eq_of_mem_set hy with hy|rfl
 ·exact h y hy
 ·exact hx
theorem Bytes.zeros (n:Nat):Bytes (List.replicate n 0):=by
 intro x hx;rw[List.eq_of_mem_replicate hx];omega
theorem Bytes.of {s:ByteArray}:Bytes (bytesOf s):=by
 intro x hx
 simp only[bytesOf,List.mem_map] at hx
 obtain⟨c,_,rfl⟩:=hx
 have:=c.toNat_lt
 omega
theorem baList (s:ByteArray):s.toList=s.data.toList:=by
 have:∀(k i:Nat) (r:List UInt8),s.size-i=k→ByteArray.toList.loop s i r=r.reverse++s.data.toList.drop i:=by
  intro k
  induction k with
  |zero=>
   intro i r h
   unfold ByteArray.toList.loop
   have h2:¬(i<s.size):=by omega
   rw[if_neg h2,List.drop_eq_nil_of_le (by simp only[Array.length_toList];exact Nat.le_of_not_lt h2)]
   simp
  |succ k ih=>
   intro i r h
   unfold ByteArray.toList.loop
   have h2:i<s.size:=by omega
   have h3:i<s.data.toList.length:=by simpa using h2
   rw[if_pos h2,ih (i+1) _ (by omega),List.drop_eq_getElem_cons h3]
   simp only[List.reverse_cons,List.append_assoc,List.cons_append,List.nil_append]
   congr 2
   have h4:i<s.data.size:=h2
   simp only[ByteArray.get!,Array.getElem_toList]
   exact getElem!_pos s.data i h4
 have h:=this (s.size-0) 0 [] rfl
 simpa[ByteArray.toList] using h
theorem bytesOf_len (s:ByteArray):(bytesOf s).length=s.size:=by
 simp only[bytesOf,List.length_map,baList]
 exact Array.length_toList
theorem beq_iff (t:Ty)(x y:t.den):t.beq x y=true↔x=y:=Ty.beq_iff t x y
theorem beq_self (t:Ty)(x:t.den):t.beq x x=true:=(beq_iff t x x).2 rfl
theorem ofInt_nat {w:Nat}{a:Nat}(h:a<2^w):(BitVec.ofInt w (a:Int)).toNat=a:=by
 rw[BitVec.toNat_ofInt]
 have:((a:Int)%((2^w:Nat):Int))=((a%2^w:Nat):Int):=by simp
 rw[this,Int.toNat_natCast,Nat.mod_eq_of_lt h]
theorem ior_u32 {a b:Nat}(ha:a<4294967296)(hb:b<4294967296):ior .u32 a b=((a|||b:Nat):Int):=by
 have h:(a|||b)<2^32:=Nat.or_lt_two_pow ha hb
 have e:ior .u32 a b=IntKind.u32.wrap (((BitVec.ofInt 32 (a:Int)).toNat|||(BitVec.ofInt 32 (b:Int)).toNat:Nat):Int):=rfl
 rw[e,ofInt_nat (show a<2^32 from ha),ofInt_nat (show b<2^32 from hb),u32w (by omega) (by omega)]
theorem ior_add {a b k:Nat}(hb:b<2^k)(h:a*2^k+b<4294967296):ior .u32 ((a*2^k:Nat):Int) (b:Int)=((a*2^k+b:Nat):Int):=by
 rw[ior_u32 (by omega) (by omega)]
 congr 1
 rw[←Nat.shiftLeft_eq,Nat.shiftLeft_add_eq_or_of_lt hb]
theorem orI {a b c:Int}(k:Nat)(hc:c=a*2^k)(ha:0≤a)(hb:0≤b)(hb2:b<2^k)(h:c+b<4294967296):ior .u32 c b=c+b:=by
 obtain⟨a,rfl⟩:=Int.eq_ofNat_of_zero_le ha
 obtain⟨b,rfl⟩:=Int.eq_ofNat_of_zero_le hb
 have hc':c=((a*2^k:Nat):Int):=by rw[hc];simp
 subst hc'
 have hb3:b<2^k:=by exact_mod_cast hb2
 generalize hm:a*2^k=m at*
 have:=ior_add (a:=a) (b:=b) (k:=k) hb3 (by rw[hm];omega)
 rw[hm] at this
 rw[this];simp
theorem shlI {a:Int}(k:Nat)(hk:k≤32)(ha:0≤a)(h:a*2^k<4294967296):ishl .u32 a k=a*2^k:=by
 have e:ishl .u32 a k=IntKind.u32.wrap (a*2^(min (k:Int).toNat 32)):=rfl
 rw[e,Int.toNat_natCast,Nat.min_eq_left hk,u32w]
 ·exact Int.mul_nonneg ha (by exact_mod_cast Nat.zero_le _)
 ·omega
theorem or8 {a b:Int}(ha:0≤a)(ha2:a<16777216)(hb:0≤b∧b≤255):ior .u32 (ishl .u32 a 8) (IntKind.u32.wrap b)=256*a+b:=by
 rw[u32w hb.1 (by omega),show(8:Int)=((8:Nat):Int) from rfl,shlI 8 (by omega) ha (by omega),orI (a:=a) 8 rfl ha hb.1 (by omega) (by omega)]
 omega
theorem or4 {a b c d:Int}(ha:0≤a∧a≤255)(hb:0≤b∧b≤255)(hc:0≤c∧c≤255)(hd:0≤d∧d≤255):
 ior .u32 (ior .u32 (ior .u32 (ishl .u32 (IntKind.u32.wrap a) 24) (ishl .u32 (IntKind.u32.wrap b) 16)) (ishl .u32 (IntKind.u32.wrap c) 8)) (IntKind.u32.wrap d)=16777216*a+65536*b+256*c+d:=by
 rw[u32w ha.1 (by omega),u32w hb.1 (by omega),u32w hc.1 (by omega),u32w hd.1 (by omega)]
 rw[show(24:Int)=((24:Nat):Int) from rfl,show(16:Int)=((16:Nat):Int) from rfl,show(8:Int)=((8:Nat):Int) from rfl,
  shlI 24 (by omega) ha.1 (by omega),shlI 16 (by omega) hb.1 (by omega),shlI 8 (by omega) hc.1 (by omega)]
 have e1:ior .u32 (a*2^24) (b*2^16)=a*2^24+b*2^16:=orI (a:=a) 24 rfl ha.1 (by omega) (by omega) (by omega)
 have e2:ior .u32 (a*2^24+b*2^16) (c*2^8)=a*2^24+b*2^16+c*2^8:=orI (a:=256*a+b) 16 (by omega) (by omega) (by omega) (by omega) (by omega)
 have e3:ior .u32 (a*2^24+b*2^16+c*2^8) d=a*2^24+b*2^16+c*2^8+d:=orI (a:=65536*a+256*b+c) 8 (by omega) (by omega) (by omega) (by omega) (by omega)
 rw[e1,e2,e3]
 omega
def mix (A B:List Int)(i:Nat):List Int:=A.take i++B.drop i
theorem mix_zero (A B:List Int):mix A B 0=B:=by simp[mix]
theorem mix_all {A B:List Int}{n:Nat}(h:A.length≤n)(h2:B.length≤n):mix A B n=A:=by simp[mix,List.take_of_length_le h,List.drop_eq_nil_of_le h2]
theorem mix_len {A B:List Int}(h:A.length=B.length)(i:Nat):(mix A B i).length=A.length:=by simp[mix];omega
theorem mix_get {A B:List Int}{i:Nat}(h:i≤A.length):(mix A B i).getD i 0=B.getD i 0:=by
 simp only[mix,List.getD_eq_getElem?_getD]
 rw[List.getElem?_append_right (by simp;omega)]
 simp[Nat.min_eq_left h]
theorem mix_set {A B:List Int}{i:Nat}{x:Int}(h:A.length=B.length)(hi:i<A.length)(hx:x=A.getD i 0):(mix A B i).set i x=mix A B (i+1):=by
 subst hx
 apply List.ext_getElem?
 intro j
 simp only[mix,List.getElem?_set,List.getElem?_append,List.getElem?_take,List.getElem?_drop,List.length_append,List.length_take,List.length_drop,List.getD_eq_getElem?_getD]
 by_cases h1:i=j
 ·subst h1
  rw[if_pos rfl,if_pos (by omega),if_pos (by omega),if_pos (by omega)]
  simp[hi]
 ·rw[if_neg h1]
  by_cases h2:j<i
  ·rw[if_pos (by omega),if_pos h2,if_pos (by omega),if_pos (by omega)]
  ·rw[if_neg (by omega),if_neg (by omega)]
   congr 1
   omega
end Lc
