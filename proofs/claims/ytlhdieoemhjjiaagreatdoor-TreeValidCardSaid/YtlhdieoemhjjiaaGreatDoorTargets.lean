/- Compact targets: the functions of the program and of the reference as plain functions, and the proofs of their conditions. -/
import Derived.Test.YtlhdieoemhjjiaaGreatDoorWides
import Derived.Test.YtlhdieoemhjjiaaGreatDoorHashes
set_option linter.unusedVariables false
set_option linter.unusedSimpArgs false
set_option maxRecDepth 100000
namespace Lc
open Go
def U32 (x:Int):Prop:=0≤x∧x≤4294967295
theorem U32.nat {x:Int}(h:U32 x):∃n:Nat,n<4294967296∧x=(n:Int):=by
 obtain⟨n,rfl⟩:=Int.eq_ofNat_of_zero_le h.1
 exact⟨n,by have:=h.2;omega,rfl⟩
theorem andU32 {a b:Nat}(ha:a<4294967296)(hb:b<4294967296):iand .u32 a b=((a&&&b:Nat):Int):=by
 have h:(a&&&b)<2^32:=Nat.and_lt_two_pow _ hb
 have e:iand .u32 a b=IntKind.u32.wrap (((BitVec.ofInt 32 (a:Int)).toNat&&&(BitVec.ofInt 32 (b:Int)).toNat:Nat):Int):=rfl
 rw[e,ofInt_nat (show a<2^32 from ha),ofInt_nat (show b<2^32 from hb),u32w (by omega) (by omega)]
theorem shrU32 {a k:Nat}(hk:k≤32):ishr .u32 (a:Int) (k:Int)=((a/2^k:Nat):Int):=by
 have e:ishr .u32 (a:Int) (k:Int)=(a:Int).fdiv (2^(min (k:Int).toNat 32)):=rfl
 rw[e,Int.toNat_natCast,Nat.min_eq_left hk]
 have:(2:Int)^k=((2^k:Nat):Int):=by simp
 rw[this,Int.fdiv_eq_ediv_of_nonneg _ (Int.natCast_nonneg _)]
 simp
theorem mant {x:Nat}(h:x<4294967296):IntKind.u64.wrap (iand .u32 (x:Int) 16777215)=((x%16777216:Nat):Int):=by
 have:(16777215:Int)=((16777215:Nat):Int):=rfl
 rw[this,andU32 h (by omega),u64w (by omega) (by have:=Nat.and_le_right (n:=x) (m:=16777215);omega)]
 congr 1
 exact Nat.and_two_pow_sub_one_eq_mod x 24
theorem sgn {x:Nat}(h:x<4294967296):((iand .u32 (x:Int) 8388608) !=0)=decide (8388608≤x%16777216):=by
 have:(8388608:Int)=((8388608:Nat):Int):=rfl
 rw[this,andU32 h (by omega),Bool.eq_iff_iff]
 simp only[bne_iff_ne,ne_eq,decide_eq_true_eq]
 have e:(x&&&8388608)=8388608*(x/8388608%2):=by
  apply Nat.eq_of_testBit_eq
  intro i
  rw[Nat.testBit_and,show(8388608:Nat)=2^23 from rfl,Nat.testBit_two_pow]
  by_cases hi:23=i
  ·subst hi
   rw[Nat.testBit_two_pow_mul]
   have h0:(x/2^23%2).testBit 0=x.testBit 23:=by
    rw[Nat.testBit_zero,Nat.testBit_eq_decide_div_mod_eq,Nat.mod_mod]
   simp[h0]
  ·have:(2^23*(x/2^23%2)).testBit i=false:=by
    rw[Nat.testBit_two_pow_mul]
    by_cases h2:23≤i
    ·have:(x/2^23%2).testBit (i-23)=false:=by
      apply Nat.testBit_lt_two_pow
      have h3:x/2^23%2<2:=Nat.mod_lt _ (by omega)
      have h4:2^1≤2^(i-23):=Nat.pow_le_pow_right (by omega) (by omega)
      omega
     simp[this]
    ·simp[h2]
   rw[this];simp[hi]
 rw[e]
 omega
def expandN (x:Nat):Nat:=
 if 8388608≤x%16777216 then 0
 else if x/16777216<3 then x%16777216/2^(8*(3-x/16777216))
 else if 256<bl (x%16777216)+8*(x/16777216-3) then 0 else x%16777216*2^(8*(x/16777216-3))
def expandFn (x:Int):List Int×Int:=if expandN x.toNat=0 then(Wn 4 0,120) else(Wn 4 (expandN x.toNat),0)
theorem expandN_lt {x:Nat}(h:x<4294967296):expandN x<Big:=by
 unfold expandN
 split
 ·decide
 ·split
  ·refine Nat.lt_of_le_of_lt (Nat.div_le_self _ _) ?_
   unfold Big;omega
  ·split
   ·decide
   ·rename_i h1 h2 h3
    by_cases hz:x%16777216=0
    ·rw[hz,Nat.zero_mul];decide
    ·rw[big_pow,←bl_le_iff,bl_mul hz];omega
def TShifted.pre (a:List Int)(n:Int):Prop:=Ok4 a∧-100000≤n∧n≤100000
def TShifted.fn (a:List Int)(n:Int):List Int:=if n<0 then shrFn a (0-n) else shlFn a n
def TShifted.VC :Prop:=∀(x0:(List Int)) (x1:Int),TShifted.pre x0 x1→(((decide (x1<(0:Int)))=true→WShr.pre x0 (IntKind.i64.wrap (0-x1))∧(Ret1 (WShr.fn x0 (IntKind.i64.wrap (0-x1))) (TShifted.fn x0 x1)))∧((decide (x1<(0:Int)))=false→WShl.pre x0 x1∧(Ret1 (WShl.fn x0 x1) (TShifted.fn x0 x1))))
theorem TShifted.vc :TShifted.VC:=by
 intro a n ⟨h,h1,h2⟩
 rw[i64w (by omega) (by omega)]
 refine⟨fun hc=>⟨h,ret1.2 ?_⟩,fun hc=>⟨h,ret1.2 ?_⟩⟩
 ·rw[TShifted.fn,if_pos (of_decide_eq_true hc)];rfl
 ·rw[TShifted.fn,if_neg (of_decide_eq_false hc)];rfl
theorem shifted_neg {n k:Nat}(hn:n<Big)(hk:0<k):TShifted.fn (Wn 4 n) (-(k:Int))=Wn 4 (n/2^k):=by
 rw[TShifted.fn,if_pos (by omega),shrFn,if_neg (by omega),N4_W4 hn]
 congr 3;omega
theorem shifted_pos {n k:Nat}(hn:n<Big):TShifted.fn (Wn 4 n) (k:Int)=Wn 4 (n*2^k):=by
 rw[TShifted.fn,if_neg (by omega),shlFn,if_neg (by omega),N4_W4 hn,Int.toNat_natCast]
def TExpand.pre (x:Int):Prop:=U32 x
def TExpand.fn (x:Int):List Int×Int:=expandFn x
def TExpand.VC :Prop:=∀(x0:Int),TExpand.pre x0→WFrom.pre (IntKind.u64.wrap (iand .u32 x0 (16777215:Int)))∧(let v10:(List Int):=(WFrom.fn (IntKind.u64.wrap (iand .u32 x0 (16777215:Int))))
 0≤(24:Int)∧(let v14:Int:=(IntKind.i64.wrap ((IntKind.i64.wrap (ishr .u32 x0 (24:Int)))-(3:Int)))
 (((iand .u32 x0 (8388608:Int)) !=(0:Int))=false→((iand .u32 x0 (8388608:Int)) !=(0:Int))=false)∧(((iand .u32 x0 (8388608:Int)) !=(0:Int))=false→WLen.pre v10)∧(((iand .u32 x0 (8388608:Int)) !=(0:Int))=false→((iand .u32 x0 (8388608:Int)) !=(0:Int))=false)∧(((iand .u32 x0 (8388608:Int)) !=(0:Int))=false→((iand .u32 x0 (8388608:Int)) !=(0:Int))=false)∧(((iand .u32 x0 (8388608:Int)) !=(0:Int))=false→((iand .u32 x0 (8388608:Int)) !=(0:Int))=false)∧(((iand .u32 x0 (8388608:Int)) !=(0:Int))=false→((iand .u32 x0 (8388608:Int)) !=(0:Int))=false)∧(let v25:Bool:=(bif ((iand .u32 x0 (8388608:Int)) !=(0:Int)) then true else(decide ((IntKind.i64.wrap ((WLen.fn v10)+(IntKind.i64.wrap ((8:Int)*v14))))>(256:Int))))
 ((v25=true→(Ret2 (List.replicate 4 (0:Int)) (120:Int) (TExpand.fn x0)))∧(v25=false→TShifted.pre v10 (IntKind.i64.wrap ((8:Int)*v14))∧(let v32:Bool:=(Ty.beq (.arr 4 (.int .u64)) (TShifted.fn v10 (IntKind.i64.wrap ((8:Int)*v14))) (List.replicate 4 (0:Int)))
 ((v32=true→(Ret2 (List.replicate 4 (0:Int)) (120:Int) (TExpand.fn x0)))∧(v32=false→(Ret2 (TShifted.fn v10 (IntKind.i64.wrap ((8:Int)*v14))) (0:Int) (TExpand.fn x0))))))))))
theorem TExpand.vc :TExpand.VC:=by
 intro x0 hx0
 obtain⟨x,hx,rfl⟩:=hx0.nat
 have s24:ishr .u32 (x:Int) 24=((x/16777216:Nat):Int):=shrU32 (k:=24) (by omega)
 simp only[mant hx,sgn hx,s24,WFrom.fn,Int.toNat_natCast]
 have hx24:x/16777216<256:=by omega
 have hm:x%16777216<16777216:=Nat.mod_lt _ (by omega)
 have hmB:x%16777216<Big:=by unfold Big;omega
 have e1:IntKind.i64.wrap ((x/16777216:Nat):Int)=((x/16777216:Nat):Int):=i64w (by omega) (by omega)
 have e2:IntKind.i64.wrap (((x/16777216:Nat):Int)-3)=((x/16777216:Nat):Int)-3:=i64w (by omega) (by omega)
 have e3:IntKind.i64.wrap (8*(((x/16777216:Nat):Int)-3))=8*(((x/16777216:Nat):Int)-3):=i64w (by omega) (by omega)
 simp only[e1,e2,e3,WLen.fn,N4_W4 hmB]
 have hbl:bl (x%16777216)≤24:=bl_le_iff.2 hm
 have e4:IntKind.i64.wrap (((bl (x%16777216):Nat):Int)+8*(((x/16777216:Nat):Int)-3))=((bl (x%16777216):Nat):Int)+8*(((x/16777216:Nat):Int)-3):=i64w (by omega) (by omega)
 simp only[e4]
 refine⟨⟨by omega,by omega⟩,by omega,fun h=>h,fun _=>ok4 hmB,fun h=>h,fun h=>h,fun h=>h,fun h=>h,fun hb=> ?_,fun hb=> ?_⟩
 ·have hz:expandN x=0:=by
   unfold expandN
   by_cases hs:8388608≤x%16777216
   ·rw[if_pos hs]
   ·rw[decide_eq_false hs] at hb
    have hb:((bl (x%16777216):Nat):Int)+8*(((x/16777216:Nat):Int)-3)>256:=of_decide_eq_true hb
    rw[if_neg hs,if_neg (by omega),if_pos (by omega)]
  rw[ret2,TExpand.fn,expandFn,Int.toNat_natCast,if_pos hz];rfl
 ·have hs:¬8388608≤x%16777216:=by
   intro hs;rw[decide_eq_true hs] at hb;cases hb
  rw[decide_eq_false hs] at hb
  have hb:¬((bl (x%16777216):Nat):Int)+8*(((x/16777216:Nat):Int)-3)>256:=of_decide_eq_false hb
  have hT:TShifted.fn (Wn 4 (x%16777216)) (8*(((x/16777216:Nat):Int)-3))=Wn 4 (expandN x):=by
   unfold expandN
   rw[if_neg hs]
   by_cases h3:x/16777216<3
   ·rw[if_pos h3,show(8*(((x/16777216:Nat):Int)-3))= -((8*(3-x/16777216):Nat):Int) by omega,shifted_neg hmB (by omega)]
   ·rw[if_neg h3,if_neg (by omega),show(8*(((x/16777216:Nat):Int)-3))=((8*(x/16777216-3):Nat):Int) by omega,shifted_pos hmB]
  rw[hT,zeq (ok4 (expandN_lt hx)),N4_W4 (expandN_lt hx)]
  refine⟨⟨ok4 hmB,by omega,by omega⟩,fun hz=> ?_,fun hz=> ?_⟩
  ·rw[ret2,TExpand.fn,expandFn,Int.toNat_natCast,if_pos (of_decide_eq_true hz)];rfl
  ·rw[ret2,TExpand.fn,expandFn,Int.toNat_natCast,if_neg (of_decide_eq_false hz)]
def QExpand.pre (x:Int):Prop:=U32 x
def QExpand.fn (x:Int):List Int×Int:=expandFn x
def QExpand.VC :Prop:=∀(x0:Int),QExpand.pre x0→0≤(24:Int)∧QFromUint.pre (IntKind.u64.wrap (iand .u32 x0 (16777215:Int)))∧(let v13:(List Int):=(QFromUint.fn (IntKind.u64.wrap (iand .u32 x0 (16777215:Int))))
 ((((iand .u32 x0 (8388608:Int)) !=(0:Int))=true→(Ret2 (List.replicate 4 (0:Int)) (120:Int) (QExpand.fn x0)))∧(((iand .u32 x0 (8388608:Int)) !=(0:Int))=false→(let v20:Bool:=(decide ((IntKind.i64.wrap (ishr .u32 x0 (24:Int)))<(3:Int)))
 ((v20=true→(let v23:Int:=(IntKind.i64.wrap ((3:Int)-(IntKind.i64.wrap (ishr .u32 x0 (24:Int)))))
 QShr.pre v13 (IntKind.i64.wrap ((8:Int)*v23))∧QZero.pre (QShr.fn v13 (IntKind.i64.wrap ((8:Int)*v23)))∧(let v45:Bool:=(QZero.fn (QShr.fn v13 (IntKind.i64.wrap ((8:Int)*v23))))
 ((v45=true→(Ret2 (List.replicate 4 (0:Int)) (120:Int) (QExpand.fn x0)))∧(v45=false→(Ret2 (QShr.fn v13 (IntKind.i64.wrap ((8:Int)*v23))) (0:Int) (QExpand.fn x0)))))))∧(v20=false→QZero.pre v13∧((!(QZero.fn v13))=true→(!(QZero.fn v13))=true)∧((!(QZero.fn v13))=true→QLen.pre v13)∧((!(QZero.fn v13))=true→(!(QZero.fn v13))=true)∧((!(QZero.fn v13))=true→(!(QZero.fn v13))=true)∧((!(QZero.fn v13))=true→(!(QZero.fn v13))=true)∧((!(QZero.fn v13))=true→(!(QZero.fn v13))=true)∧((!(QZero.fn v13))=true→(!(QZero.fn v13))=true)∧((!(QZero.fn v13))=true→(!(QZero.fn v13))=true)∧(let v37:Bool:=(bif (!(QZero.fn v13)) then(decide ((IntKind.i64.wrap ((QLen.fn v13)+(IntKind.i64.wrap ((8:Int)*(IntKind.i64.wrap ((IntKind.i64.wrap (ishr .u32 x0 (24:Int)))-(3:Int)))))))>(256:Int))) else false)
 ((v37=true→(Ret2 (List.replicate 4 (0:Int)) (120:Int) (QExpand.fn x0)))∧(v37=false→(let v41:Int:=(IntKind.i64.wrap ((IntKind.i64.wrap (ishr .u32 x0 (24:Int)))-(3:Int)))
 QShl.pre v13 (IntKind.i64.wrap ((8:Int)*v41))∧QZero.pre (QShl.fn v13 (IntKind.i64.wrap ((8:Int)*v41)))∧(let v45_1:Bool:=(QZero.fn (QShl.fn v13 (IntKind.i64.wrap ((8:Int)*v41))))
 ((v45_1=true→(Ret2 (List.replicate 4 (0:Int)) (120:Int) (QExpand.fn x0)))∧(v45_1=false→(Ret2 (QShl.fn v13 (IntKind.i64.wrap ((8:Int)*v41))) (0:Int) (QExpand.fn x0)))))))))))))))
theorem QExpand.vc :QExpand.VC:=by
 intro x0 hx0
 obtain⟨x,hx,rfl⟩:=hx0.nat
 have s24:ishr .u32 (x:Int) 24=((x/16777216:Nat):Int):=shrU32 (k:=24) (by omega)
 simp only[mant hx,sgn hx,s24,QFromUint.fn,Int.toNat_natCast]
 have hx24:x/16777216<256:=by omega
 have hm:x%16777216<16777216:=Nat.mod_lt _ (by omega)
 have hmB:x%16777216<Big:=by unfold Big;omega
 have e1:IntKind.i64.wrap ((x/16777216:Nat):Int)=((x/16777216:Nat):Int):=i64w (by omega) (by omega)
 simp only[e1]
 have hbl:bl (x%16777216)≤24:=bl_le_iff.2 hm
 refine⟨by omega,⟨by omega,by omega⟩,fun hb=> ?_,fun hb=> ?_⟩
 ·have hs:8388608≤x%16777216:=of_decide_eq_true hb
  rw[ret2,QExpand.fn,expandFn,Int.toNat_natCast,if_pos (by unfold expandN;rw[if_pos hs])];rfl
 have hs:¬8388608≤x%16777216:=of_decide_eq_false hb
 refine⟨fun h3=> ?_,fun h3=> ?_⟩
 ·have h3:((x/16777216:Nat):Int)<3:=of_decide_eq_true h3
  have e2:IntKind.i64.wrap (3-((x/16777216:Nat):Int))=3-((x/16777216:Nat):Int):=i64w (by omega) (by omega)
  have e3:IntKind.i64.wrap (8*(3-((x/16777216:Nat):Int)))=((8*(3-x/16777216):Nat):Int):=by rw[i64w (by omega) (by omega)];omega
  have hE:QShr.fn (Wn 4 (x%16777216)) ((8*(3-x/16777216):Nat):Int)=Wn 4 (expandN x):=by
   unfold expandN
   rw[if_neg hs,if_pos (by omega),QShr.fn,shrFn,if_neg (by omega),N4_W4 hmB,Int.toNat_natCast]
  simp only[e2,e3,hE,QZero.fn,N4_W4 (expandN_lt hx)]
  refine⟨ok4 hmB,ok4 (expandN_lt hx),fun hz=> ?_,fun hz=> ?_⟩
  ·rw[ret2,QExpand.fn,expandFn,Int.toNat_natCast,if_pos (of_decide_eq_true hz)];rfl
  ·rw[ret2,QExpand.fn,expandFn,Int.toNat_natCast,if_neg (of_decide_eq_false hz)]
 ·have h3:¬((x/16777216:Nat):Int)<3:=of_decide_eq_false h3
  have e2:IntKind.i64.wrap (((x/16777216:Nat):Int)-3)=((x/16777216:Nat):Int)-3:=i64w (by omega) (by omega)
  have e3:IntKind.i64.wrap (8*(((x/16777216:Nat):Int)-3))=((8*(x/16777216-3):Nat):Int):=by rw[i64w (by omega) (by omega)];omega
  simp only[e2,e3,QZero.fn,QLen.fn,N4_W4 hmB]
  have e4:IntKind.i64.wrap (((bl (x%16777216):Nat):Int)+((8*(x/16777216-3):Nat):Int))=((bl (x%16777216)+8*(x/16777216-3):Nat):Int):=by rw[i64w (by omega) (by omega)];omega
  simp only[e4]
  refine⟨ok4 hmB,fun h=>h,fun _=>ok4 hmB,fun h=>h,fun h=>h,fun h=>h,fun h=>h,fun h=>h,fun h=>h,fun hb=> ?_,fun hb=> ?_⟩
  ·have hz:expandN x=0:=by
    unfold expandN
    rw[if_neg hs,if_neg (by omega)]
    by_cases h0:x%16777216=0
    ·rw[decide_eq_true h0] at hb;cases hb
    ·rw[decide_eq_false h0] at hb
     have hb:((bl (x%16777216)+8*(x/16777216-3):Nat):Int)>256:=of_decide_eq_true hb
     rw[if_pos (by omega)]
   rw[ret2,QExpand.fn,expandFn,Int.toNat_natCast,if_pos hz];rfl
  ·have hE:N4 (QShl.fn (Wn 4 (x%16777216)) ((8*(x/16777216-3):Nat):Int))=expandN x∧QShl.fn (Wn 4 (x%16777216)) ((8*(x/16777216-3):Nat):Int)=Wn 4 (expandN x):=by
    have hS:QShl.fn (Wn 4 (x%16777216)) ((8*(x/16777216-3):Nat):Int)=Wn 4 (x%16777216*2^(8*(x/16777216-3))):=by
     rw[QShl.fn,shlFn,if_neg (by omega),N4_W4 hmB,Int.toNat_natCast]
    by_cases h0:x%16777216=0
    ·have hz:expandN x=0:=by
      unfold expandN;rw[if_neg hs,if_neg (by omega),h0];simp
     rw[hS,h0,Nat.zero_mul,hz]
     exact⟨rfl,rfl⟩
    ·rw[decide_eq_false h0] at hb
     have hb:¬((bl (x%16777216)+8*(x/16777216-3):Nat):Int)>256:=of_decide_eq_false hb
     have hz:expandN x=x%16777216*2^(8*(x/16777216-3)):=by
      unfold expandN;rw[if_neg hs,if_neg (by omega),if_neg (by omega)]
     rw[hS,←hz]
     exact⟨N4_W4 (expandN_lt hx),rfl⟩
   rw[hE.2]
   rw[N4_W4 (expandN_lt hx)]
   refine⟨⟨ok4 hmB,by omega⟩,ok4 (expandN_lt hx),fun hz=> ?_,fun hz=> ?_⟩
   ·rw[ret2,QExpand.fn,expandFn,Int.toNat_natCast,if_pos (of_decide_eq_true hz)];rfl
   ·rw[ret2,QExpand.fn,expandFn,Int.toNat_natCast,if_neg (of_decide_eq_false hz)]
def expo (n:Nat):Nat:=(bl n+8)/8
def manti (n:Nat):Nat:=if expo n≤3 then n*2^(8*(3-expo n)) else n/2^(8*(expo n-3))
def compactN (n:Nat):Nat:=if n=0 then 0 else expo n*16777216+manti n
def compactFn (a:List Int):Int:=((compactN (N4 a):Nat):Int)
theorem manti_lt {n:Nat}(hn:n≠0):manti n<8388608:=by
 show manti n<2^23
 rw[←bl_le_iff]
 unfold manti
 have h:=bl_pos hn
 have he:expo n=(bl n+8)/8:=rfl
 split
 ·rw[bl_mul hn];omega
 ·rw[bl_div];omega
theorem compact_word {n:Nat}(hn:n≠0)(hB:n<Big):ior .u32 (ishl .u32 (IntKind.u32.wrap ((expo n:Nat):Int)) 24) (IntKind.u32.wrap ((dig (manti n) 0:Nat):Int))=((compactN n:Nat):Int):=by
 have hm:=manti_lt hn
 have hb:=bl_big hB
 have he:expo n≤33:=by unfold expo;omega
 rw[dig0,Nat.mod_eq_of_lt (by omega),u32w (n:=((expo n:Nat):Int)) (by omega) (by omega),u32w (by omega) (by omega)]
 rw[show(24:Int)=((24:Nat):Int) from rfl,shlI 24 (by omega) (by omega) (by omega)]
 rw[orI (a:=((expo n:Nat):Int)) 24 rfl (by omega) (by omega) (by omega) (by omega)]
 unfold compactN
 rw[if_neg hn]
 omega
def TCompact.pre (a:List Int):Prop:=Ok4 a
def TCompact.fn (a:List Int):Int:=compactFn a
def TCompact.VC :Prop:=∀(x0:(List Int)),TCompact.pre x0→(let v7:Bool:=(Ty.beq (.arr 4 (.int .u64)) x0 (List.replicate 4 (0:Int)))
 ((v7=true→(Ret1 (0:Int) (TCompact.fn x0)))∧(v7=false→WLen.pre x0∧(8:Int)≠0∧(let v11:Int:=(IntKind.i64.wrap (Int.tdiv (IntKind.i64.wrap ((WLen.fn x0)+(8:Int))) (8:Int)))
 (let v15:Int:=(IntKind.i64.wrap ((8:Int)*(IntKind.i64.wrap ((3:Int)-v11))))
 TShifted.pre x0 v15∧0≤(24:Int)∧(0≤(0:Int)∧(0:Int)<4)∧(let v22:Int:=(IntKind.u32.wrap ((TShifted.fn x0 v15).getD (Int.toNat (0:Int)) (0:Int)))
 (Ret1 (ior .u32 (ishl .u32 (IntKind.u32.wrap v11) (24:Int)) v22) (TCompact.fn x0))))))))
theorem TCompact.vc :TCompact.VC:=by
 rintro a ⟨n,hn,rfl⟩
 simp only[zeq (ok4 hn),N4_W4 hn,TCompact.fn,compactFn,WLen.fn]
 have hb:=bl_big hn
 refine⟨fun hz=> ?_,fun hz=> ?_⟩
 ·have hz:n=0:=of_decide_eq_true hz
  subst hz;rfl
 have hz:n≠0:=of_decide_eq_false hz
 have e0:IntKind.i64.wrap (((bl n:Nat):Int)+8)=((bl n+8:Nat):Int):=by rw[i64w (by omega) (by omega)];omega
 have e1:IntKind.i64.wrap (Int.tdiv ((bl n+8:Nat):Int) 8)=((expo n:Nat):Int):=by
  rw[Int.tdiv_eq_ediv_of_nonneg (by omega),i64w (by omega) (by omega)];unfold expo;omega
 have he:expo n≤33:=by unfold expo;omega
 have e2:IntKind.i64.wrap (3-((expo n:Nat):Int))=3-((expo n:Nat):Int):=i64w (by omega) (by omega)
 have e3:IntKind.i64.wrap (8*(3-((expo n:Nat):Int)))=8*(3-((expo n:Nat):Int)):=i64w (by omega) (by omega)
 simp only[e0,e1,e2,e3]
 have hT:TShifted.fn (Wn 4 n) (8*(3-((expo n:Nat):Int)))=Wn 4 (manti n):=by
  unfold manti
  by_cases h3:expo n≤3
  ·rw[if_pos h3,show(8*(3-((expo n:Nat):Int)))=((8*(3-expo n):Nat):Int) by omega,shifted_pos hn]
  ·rw[if_neg h3,show(8*(3-((expo n:Nat):Int)))= -((8*(expo n-3):Nat):Int) by omega,shifted_neg hn (by omega)]
 rw[hT]
 refine⟨ok4 hn,by omega,⟨ok4 hn,by omega,by omega⟩,by omega,by omega,ret1.2 ?_⟩
 rw[show(Int.toNat 0)=0 from rfl,Wn_getD _ (by omega)]
 exact compact_word hz hn
def QCompact.pre (a:List Int):Prop:=Ok4 a
def QCompact.fn (a:List Int):Int:=compactFn a
def QCompact.inv5 (a:List Int)(x:Int):Prop:=1≤x∧x≤expo (N4 a)∧N4 a≠0
def QCompact.mes5 (a:List Int)(x:Int):Nat:=(40-x).toNat
def QCompact.VC :Prop:=∀(x0:(List Int)),QCompact.pre x0→QZero.pre x0∧(((QZero.fn x0)=true→(Ret1 (0:Int) (QCompact.fn x0)))∧((QZero.fn x0)=false→(QCompact.inv5 x0 (1:Int)∧∀(v3:Int),QCompact.inv5 x0 v3→(((decide (v3≤(3:Int)))=true→(let v15:Int:=(IntKind.i64.wrap ((8:Int)*(IntKind.i64.wrap ((3:Int)-v3))))
 QShl.pre x0 v15∧(let v20:Int:=(IntKind.i64.wrap ((8:Int)*(IntKind.i64.wrap ((3:Int)-v3))))
 QShr.pre (QShl.fn x0 v15) v20∧QCmp.pre (QShr.fn (QShl.fn x0 v15) v20) x0∧((((QCmp.fn (QShr.fn (QShl.fn x0 v15) v20) x0) !=(0:Int))=true→(QCompact.inv5 x0 (IntKind.i64.wrap (v3+(1:Int)))∧QCompact.mes5 x0 (IntKind.i64.wrap (v3+(1:Int)))<QCompact.mes5 x0 v3))∧(((QCmp.fn (QShr.fn (QShl.fn x0 v15) v20) x0) !=(0:Int))=false→QLen.pre (QShl.fn x0 v15)∧(((decide ((QLen.fn (QShl.fn x0 v15))≤(23:Int)))=true→0≤(24:Int)∧(0≤(0:Int)∧(0:Int)<4)∧(let v38:Int:=(IntKind.u32.wrap ((QShl.fn x0 v15).getD (Int.toNat (0:Int)) (0:Int)))
 (Ret1 (ior .u32 (ishl .u32 (IntKind.u32.wrap v3) (24:Int)) v38) (QCompact.fn x0))))∧((decide ((QLen.fn (QShl.fn x0 v15))≤(23:Int)))=false→(QCompact.inv5 x0 (IntKind.i64.wrap (v3+(1:Int)))∧QCompact.mes5 x0 (IntKind.i64.wrap (v3+(1:Int)))<QCompact.mes5 x0 v3))))))))∧((decide (v3≤(3:Int)))=false→(let v28:Int:=(IntKind.i64.wrap ((8:Int)*(IntKind.i64.wrap (v3-(3:Int)))))
 QShr.pre x0 v28∧QLen.pre (QShr.fn x0 v28)∧(((decide ((QLen.fn (QShr.fn x0 v28))≤(23:Int)))=true→0≤(24:Int)∧(0≤(0:Int)∧(0:Int)<4)∧(let v38_1:Int:=(IntKind.u32.wrap ((QShr.fn x0 v28).getD (Int.toNat (0:Int)) (0:Int)))
 (let v39:Int:=(ior .u32 (ishl .u32 (IntKind.u32.wrap v3) (24:Int)) v38_1)
 (Ret1 v39 (QCompact.fn x0)))))∧((decide ((QLen.fn (QShr.fn x0 v28))≤(23:Int)))=false→(QCompact.inv5 x0 (IntKind.i64.wrap (v3+(1:Int)))∧QCompact.mes5 x0 (IntKind.i64.wrap (v3+(1:Int)))<QCompact.mes5 x0 v3)))))))))
theorem QCompact.vc :QCompact.VC:=by
 rintro a ⟨n,hn,rfl⟩
 simp only[QZero.fn,N4_W4 hn,QCompact.fn,compactFn,QCompact.inv5]
 have hb:=bl_big hn
 have he:expo n≤33:=by unfold expo;omega
 have he0:expo n=(bl n+8)/8:=rfl
 refine⟨ok4 hn,fun hz=> ?_,fun hz=> ?_⟩
 ·have hz:n=0:=of_decide_eq_true hz
  subst hz;rfl
 have hz:n≠0:=of_decide_eq_false hz
 have hbp:=bl_pos hz
 refine⟨⟨by omega,by omega,hz⟩, ?_⟩
 rintro x ⟨k1,k2,_⟩
 obtain⟨x,rfl⟩:=Int.eq_ofNat_of_zero_le (show 0≤x by omega)
 have e1:IntKind.i64.wrap ((x:Int)+1)=(x:Int)+1:=i64w (by omega) (by omega)
 have hmes:QCompact.mes5 (Wn 4 n) ((x:Int)+1)<QCompact.mes5 (Wn 4 n) x:=by simp only[QCompact.mes5];omega
 simp only[e1]
 refine⟨fun h3=> ?_,fun h3=> ?_⟩
 ·have h3:(x:Int)≤3:=of_decide_eq_true h3
  have e2:IntKind.i64.wrap (3-(x:Int))=3-(x:Int):=i64w (by omega) (by omega)
  have e3:IntKind.i64.wrap (8*(3-(x:Int)))=((8*(3-x):Nat):Int):=by rw[i64w (by omega) (by omega)];omega
  have hS:QShl.fn (Wn 4 n) ((8*(3-x):Nat):Int)=Wn 4 (n*2^(8*(3-x))):=by
   rw[QShl.fn,shlFn,if_neg (by omega),N4_W4 hn,Int.toNat_natCast]
  have hR:QShr.fn (Wn 4 (n*2^(8*(3-x)))) ((8*(3-x):Nat):Int)=Wn 4 (n*2^(8*(3-x))%Big/2^(8*(3-x))):=by
   rw[QShr.fn,shrFn,if_neg (by omega),N4_W,Int.toNat_natCast]
  have hlt:n*2^(8*(3-x))%Big/2^(8*(3-x))<Big:=Nat.lt_of_le_of_lt (Nat.div_le_self _ _) (Nat.mod_lt _ (by decide))
  simp only[e2,e3,hS,hR,QCmp.fn,QLen.fn,N4_W4 hlt,N4_W4 hn]
  have hcm:∀p q:Nat,(cmpN p q !=0)=decide (p≠q):=by
   intro p q
   rw[Bool.eq_iff_iff];simp only[bne_iff_ne,ne_eq,decide_eq_true_eq]
   unfold cmpN;split
   ·constructor<;>intro<;>omega
   ·split
    ·constructor<;>intro<;>omega
    ·constructor
     ·intro h;exact absurd rfl h
     ·intro h;omega
  rw[hcm]
  have hfit:bl n+8*(3-x)≤256→n*2^(8*(3-x))<Big:=fun h=>by rw[big_pow,←bl_le_iff,bl_mul hz];exact h
  refine⟨⟨ok4 hn,by omega⟩,ok4' _,⟨ok4 hlt,ok4 hn⟩,fun hne=> ?_,fun heq=>⟨ok4' _,fun hl=> ?_,fun hl=> ?_⟩⟩
  ·have hne:n*2^(8*(3-x))%Big/2^(8*(3-x))≠n:=of_decide_eq_true hne
   have hbig:¬bl n+8*(3-x)≤256:=fun h=>by
    have:=hfit h
    rw[Nat.mod_eq_of_lt this,Nat.mul_div_cancel _ (Nat.two_pow_pos _)] at hne
    exact hne rfl
   exact⟨⟨by omega,by omega,hz⟩,hmes⟩
  ·have heq:n*2^(8*(3-x))%Big/2^(8*(3-x))=n:=by have:=of_decide_eq_false heq;omega
   have hl:((bl (N4 (Wn 4 (n*2^(8*(3-x))))):Nat):Int)≤23:=of_decide_eq_true hl
   rw[N4_W] at hl
   have hq:n*2^(8*(3-x))%Big=n*2^(8*(3-x)):=by
    have h1:=Nat.div_mul_le_self (n*2^(8*(3-x))%Big) (2^(8*(3-x)))
    rw[heq] at h1
    have h2:=Nat.mod_le (n*2^(8*(3-x))) Big
    omega
   rw[hq,bl_mul hz] at hl
   have hxe:x=expo n:=by omega
   refine⟨by omega,by omega,ret1.2 ?_⟩
   rw[show(Int.toNat 0)=0 from rfl,Wn_getD _ (by omega)]
   have:=compact_word hz hn
   rw[←hxe] at this
   rw[←this]
   unfold manti
   rw[←hxe,if_pos (by omega)]
  ·have heq:n*2^(8*(3-x))%Big/2^(8*(3-x))=n:=by have:=of_decide_eq_false heq;omega
   have hl:¬((bl (N4 (Wn 4 (n*2^(8*(3-x))))):Nat):Int)≤23:=of_decide_eq_false hl
   rw[N4_W] at hl
   have hq:n*2^(8*(3-x))%Big=n*2^(8*(3-x)):=by
    have h1:=Nat.div_mul_le_self (n*2^(8*(3-x))%Big) (2^(8*(3-x)))
    rw[heq] at h1
    have h2:=Nat.mod_le (n*2^(8*(3-x))) Big
    omega
   rw[hq,bl_mul hz] at hl
   exact⟨⟨by omega,by omega,hz⟩,hmes⟩
 ·have h3:¬(x:Int)≤3:=of_decide_eq_false h3
  have e2:IntKind.i64.wrap ((x:Int)-3)=(x:Int)-3:=i64w (by omega) (by omega)
  have e3:IntKind.i64.wrap (8*((x:Int)-3))=((8*(x-3):Nat):Int):=by rw[i64w (by omega) (by omega)];omega
  have hR:QShr.fn (Wn 4 n) ((8*(x-3):Nat):Int)=Wn 4 (n/2^(8*(x-3))):=by
   rw[QShr.fn,shrFn,if_neg (by omega),N4_W4 hn,Int.toNat_natCast]
  have hlt:n/2^(8*(x-3))<Big:=Nat.lt_of_le_of_lt (Nat.div_le_self _ _) hn
  simp only[e2,e3,hR,QLen.fn,N4_W4 hlt,bl_div]
  refine⟨ok4 hn,ok4 hlt,fun hl=> ?_,fun hl=> ?_⟩
  ·have hl:((bl n-8*(x-3):Nat):Int)≤23:=of_decide_eq_true hl
   have hxe:x=expo n:=by omega
   refine⟨by omega,by omega,ret1.2 ?_⟩
   rw[show(Int.toNat 0)=0 from rfl,Wn_getD _ (by omega)]
   have:=compact_word hz hn
   rw[←hxe] at this
   rw[←this]
   unfold manti
   rw[←hxe,if_neg (by omega)]
  ·have hl:¬((bl n-8*(x-3):Nat):Int)≤23:=of_decide_eq_false hl
   exact⟨⟨by omega,by omega,hz⟩,hmes⟩
end Lc
set_option maxRecDepth 100000
namespace Lc
open Go
abbrev Hdr :=Int×List Int×List Int×Int×Int×Int×Unit
abbrev Cp :=Int×List Int×Unit
abbrev Par :=Hdr×List Int×Int×Int×Int×Int×List Cp×Int×Int×Int×Unit
abbrev Cx :=Int×List Int×Int×Int×List Int×Unit
theorem cmpLe {n m:Nat}:cmpN n m≤0↔n≤m:=by
 have:=cmp_le (n:=n) (m:=m);rwa [decide_eq_decide] at this
def ParOk (p:Par):Prop:=Ok4 p.2.1∧U32 p.1.2.2.2.2.1∧p.2.2.2.2.2.2.1.length≤8
def CxOk (c:Cx):Prop:=U32 c.2.2.1∧U32 c.2.2.2.1∧∀t,t∈c.2.2.2.2.1→U32 t
def ckOk :Int→List Cp→Bool
 |_,[]=>true
 |b,c::r=>decide (b<c.1∧c.1≤16777216)&&ckOk c.1 r
def validFn (p:Par):Bool:=
 decide (N4 p.2.1≠0)&&(decide (1≤p.2.2.1∧p.2.2.1≤4096)&&(decide (1≤p.2.2.2.1∧p.2.2.2.1≤1048576)&&(decide (0≤p.2.2.2.2.2.2.2.1∧p.2.2.2.2.2.2.2.1≤2100000000000000)&&
 (decide (1≤p.2.2.2.2.2.2.2.2.1∧p.2.2.2.2.2.2.2.2.1≤16777216)&&(decide (0≤p.2.2.2.2.2.2.2.2.2.1∧p.2.2.2.2.2.2.2.2.2.1≤16777216)&&(ckOk 0 p.2.2.2.2.2.2.1&&
 (decide (expandN p.1.2.2.2.2.1.toNat≠0)&&decide (expandN p.1.2.2.2.2.1.toNat≤N4 p.2.1))))))))
theorem valid_iff (p:Par):validFn p=true↔N4 p.2.1≠0∧(1≤p.2.2.1∧p.2.2.1≤4096)∧(1≤p.2.2.2.1∧p.2.2.2.1≤1048576)∧(0≤p.2.2.2.2.2.2.2.1∧p.2.2.2.2.2.2.2.1≤2100000000000000)∧
 (1≤p.2.2.2.2.2.2.2.2.1∧p.2.2.2.2.2.2.2.2.1≤16777216)∧(0≤p.2.2.2.2.2.2.2.2.2.1∧p.2.2.2.2.2.2.2.2.2.1≤16777216)∧ckOk 0 p.2.2.2.2.2.2.1=true∧expandN p.1.2.2.2.2.1.toNat≠0∧expandN p.1.2.2.2.2.1.toNat≤N4 p.2.1:=by
 simp only[validFn,Bool.and_eq_true,decide_eq_true_eq]
theorem not_valid {p:Par}(h:¬(N4 p.2.1≠0∧(1≤p.2.2.1∧p.2.2.1≤4096)∧(1≤p.2.2.2.1∧p.2.2.2.1≤1048576)∧(0≤p.2.2.2.2.2.2.2.1∧p.2.2.2.2.2.2.2.1≤2100000000000000)∧
 (1≤p.2.2.2.2.2.2.2.2.1∧p.2.2.2.2.2.2.2.2.1≤16777216)∧(0≤p.2.2.2.2.2.2.2.2.2.1∧p.2.2.2.2.2.2.2.2.2.1≤16777216)∧ckOk 0 p.2.2.2.2.2.2.1=true∧expandN p.1.2.2.2.2.1.toNat≠0∧expandN p.1.2.2.2.2.1.toNat≤N4 p.2.1)):validFn p=false:=by
 rw[Bool.eq_false_iff];exact fun hv=>h ((valid_iff p).1 hv)
theorem drop_cons {l:List Cp}{i:Int}(h0:0≤i)(h1:i<l.length):l.drop i.toNat=l.getD i.toNat ((0:Int),((List.replicate 32 (0:Int)),()))::l.drop (i+1).toNat:=by
 rw[show(i+1).toNat=i.toNat+1 by omega,List.drop_eq_getElem_cons (show i.toNat<l.length by omega)]
 simp[List.getD_eq_getElem?_getD,show i.toNat<l.length by omega]
def RValid.pre (p:Par):Prop:=ParOk p
def RValid.fn (p:Par):Bool:=validFn p
def RValid.inv9 (p:Par)(b i:Int):Prop:=0≤i∧i≤p.2.2.2.2.2.2.1.length∧ckOk 0 p.2.2.2.2.2.2.1=ckOk b (p.2.2.2.2.2.2.1.drop i.toNat)
def RValid.mes9 (p:Par)(b i:Int):Nat:=(p.2.2.2.2.2.2.1.length-i).toNat
def RValid.VC :Prop:=∀(x0:Par),RValid.pre x0→(let v11:Bool:=(Ty.beq (.arr 4 (.int .u64)) x0.2.1 (List.replicate 4 (0:Int)))
 (v11=false→v11=false)∧(v11=false→v11=false)∧(v11=false→v11=false)∧((bif v11 then true else(decide (x0.2.2.1<(1:Int))))=false→(bif v11 then true else(decide (x0.2.2.1<(1:Int))))=false)∧((bif v11 then true else(decide (x0.2.2.1<(1:Int))))=false→(bif v11 then true else(decide (x0.2.2.1<(1:Int))))=false)∧((bif v11 then true else(decide (x0.2.2.1<(1:Int))))=false→(bif v11 then true else(decide (x0.2.2.1<(1:Int))))=false)∧(let v21:Bool:=(bif (bif v11 then true else(decide (x0.2.2.1<(1:Int)))) then true else(decide (x0.2.2.1>(4096:Int))))
 ((v21=true→(Ret1 false (RValid.fn x0)))∧(v21=false→((decide (x0.2.2.2.1<(1:Int)))=false→(decide (x0.2.2.2.1<(1:Int)))=false)∧((decide (x0.2.2.2.1<(1:Int)))=false→(decide (x0.2.2.2.1<(1:Int)))=false)∧((decide (x0.2.2.2.1<(1:Int)))=false→(decide (x0.2.2.2.1<(1:Int)))=false)∧(let v29:Bool:=(bif (decide (x0.2.2.2.1<(1:Int))) then true else(decide (x0.2.2.2.1>(1048576:Int))))
 (v29=false→v29=false)∧(v29=false→v29=false)∧(v29=false→v29=false)∧(let v34:Bool:=(bif v29 then true else(decide (x0.2.2.2.2.2.2.2.1<(0:Int))))
 (v34=false→v34=false)∧(v34=false→v34=false)∧(v34=false→v34=false)∧(let v39:Bool:=(bif v34 then true else(decide (x0.2.2.2.2.2.2.2.1>(2100000000000000:Int))))
 ((v39=true→(Ret1 false (RValid.fn x0)))∧(v39=false→((decide (x0.2.2.2.2.2.2.2.2.1<(1:Int)))=false→(decide (x0.2.2.2.2.2.2.2.2.1<(1:Int)))=false)∧((decide (x0.2.2.2.2.2.2.2.2.1<(1:Int)))=false→(decide (x0.2.2.2.2.2.2.2.2.1<(1:Int)))=false)∧((decide (x0.2.2.2.2.2.2.2.2.1<(1:Int)))=false→(decide (x0.2.2.2.2.2.2.2.2.1<(1:Int)))=false)∧(let v47:Bool:=(bif (decide (x0.2.2.2.2.2.2.2.2.1<(1:Int))) then true else(decide (x0.2.2.2.2.2.2.2.2.1>(16777216:Int))))
 (v47=false→v47=false)∧(v47=false→v47=false)∧(v47=false→v47=false)∧(let v52:Bool:=(bif v47 then true else(decide (x0.2.2.2.2.2.2.2.2.2.1<(0:Int))))
 (v52=false→v52=false)∧(v52=false→v52=false)∧(v52=false→v52=false)∧(let v57:Bool:=(bif v52 then true else(decide (x0.2.2.2.2.2.2.2.2.2.1>(16777216:Int))))
 ((v57=true→(Ret1 false (RValid.fn x0)))∧(v57=false→(RValid.inv9 x0 (0:Int) (0:Int)∧∀(v3:Int) (v61:Int),RValid.inv9 x0 v3 v61→(((decide (v61<(x0.2.2.2.2.2.2.1.length:Int)))=true→(0≤v61∧v61<(x0.2.2.2.2.2.2.1.length:Int))∧(let v64:Cp:=(x0.2.2.2.2.2.2.1.getD (Int.toNat v61) ((0:Int),((List.replicate 32 (0:Int)),())))
 ((decide (v64.1≤v3))=false→(decide (v64.1≤v3))=false)∧((decide (v64.1≤v3))=false→(decide (v64.1≤v3))=false)∧((decide (v64.1≤v3))=false→(decide (v64.1≤v3))=false)∧(let v73:Bool:=(bif (decide (v64.1≤v3)) then true else(decide (v64.1>(16777216:Int))))
 ((v73=true→(Ret1 false (RValid.fn x0)))∧(v73=false→(RValid.inv9 x0 v64.1 (IntKind.i64.wrap (v61+(1:Int)))∧RValid.mes9 x0 v64.1 (IntKind.i64.wrap (v61+(1:Int)))<RValid.mes9 x0 v3 v61))))))∧((decide (v61<(x0.2.2.2.2.2.2.1.length:Int)))=false→TExpand.pre x0.1.2.2.2.2.1∧(((TExpand.fn x0.1.2.2.2.2.1).2==(0:Int))=true→((TExpand.fn x0.1.2.2.2.2.1).2==(0:Int))=true)∧(((TExpand.fn x0.1.2.2.2.2.1).2==(0:Int))=true→((TExpand.fn x0.1.2.2.2.2.1).2==(0:Int))=true)∧(((TExpand.fn x0.1.2.2.2.2.1).2==(0:Int))=true→((TExpand.fn x0.1.2.2.2.2.1).2==(0:Int))=true)∧(((TExpand.fn x0.1.2.2.2.2.1).2==(0:Int))=true→WCmp.pre ((TExpand.fn x0.1.2.2.2.2.1).1) x0.2.1)∧(((TExpand.fn x0.1.2.2.2.2.1).2==(0:Int))=true→((TExpand.fn x0.1.2.2.2.2.1).2==(0:Int))=true)∧(((TExpand.fn x0.1.2.2.2.2.1).2==(0:Int))=true→((TExpand.fn x0.1.2.2.2.2.1).2==(0:Int))=true)∧(let v92:Bool:=(bif ((TExpand.fn x0.1.2.2.2.2.1).2==(0:Int)) then(decide ((WCmp.fn ((TExpand.fn x0.1.2.2.2.2.1).1) x0.2.1)≤(0:Int))) else false)
 (Ret1 v92 (RValid.fn x0))))))))))))))))))))
theorem expand2 (x:Int):((expandFn x).2==0)=decide (expandN x.toNat≠0):=by
 unfold expandFn
 split
 ·rename_i h;simp[h]
 ·rename_i h;simp[h]
theorem expand1 {x:Int}(hx:U32 x):Ok4 (expandFn x).1∧N4 (expandFn x).1=expandN x.toNat:=by
 have hlt:expandN x.toNat<Big:=expandN_lt (by have:=hx.1;have:=hx.2;omega)
 unfold expandFn
 split
 ·rename_i h;rw[h];exact⟨ok4' 0,rfl⟩
 ·exact⟨ok4 hlt,N4_W4 hlt⟩
theorem RValid.vc :RValid.VC:=by
 intro p ⟨h1,h2,h3⟩
 simp only[imp_self,true_and,Bool.cond_true_left,Bool.cond_false_right,Bool.or_eq_true,Bool.or_eq_false_iff,decide_eq_true_eq,decide_eq_false_iff_not,zeq h1,TExpand.fn,WCmp.fn,expand2,cmpLe]
 obtain⟨q1,q2⟩:=expand1 h2
 simp only[q2,RValid.fn,ret1]
 have nv:= @not_valid p
 have vi:=valid_iff p
 refine⟨fun h=>(nv (fun hv=>by omega)).symm,fun a1=>⟨fun h=>(nv (fun hv=>by omega)).symm,fun a2=>⟨fun h=>(nv (fun hv=>by omega)).symm,fun a3=>⟨⟨by omega,by omega,by simp⟩, ?_⟩⟩⟩⟩
 rintro b i ⟨k1,k2,k3⟩
 refine⟨fun hc=> ?_,fun hc=> ?_⟩
 ·have hd:=drop_cons k1 hc
  rw[hd] at k3
  refine⟨⟨k1,hc⟩,fun h=>(nv (fun hv=> ?_)).symm,fun h=> ?_⟩
  ·have hck:=hv.2.2.2.2.2.2.1
   rw[k3] at hck
   simp only[ckOk,Bool.and_eq_true,decide_eq_true_eq] at hck
   omega
  ·rw[i64w (by omega) (by omega)]
   refine⟨⟨by omega,by omega, ?_⟩,by simp only[RValid.mes9];omega⟩
   rw[k3]
   simp only[ckOk]
   rw[decide_eq_true (by omega),Bool.true_and]
 ·refine⟨h2,fun _=>⟨q1,h1⟩, ?_⟩
  have hck:ckOk 0 p.2.2.2.2.2.2.1=true:=by
   rw[k3,List.drop_eq_nil_of_le (by omega)];rfl
  rw[Bool.eq_iff_iff,vi]
  simp only[Bool.and_eq_true,decide_eq_true_eq]
  constructor
  ·intro⟨e1,e2⟩;exact⟨by omega,by omega,by omega,by omega,by omega,by omega,hck,e1,e2⟩
  ·intro hv;exact⟨hv.2.2.2.2.2.2.2.1,hv.2.2.2.2.2.2.2.2⟩
def QValid.pre (p:Par):Prop:=ParOk p
def QValid.fn (p:Par):Bool:=validFn p
def prevH (l:List Cp)(i:Int):Int:=if i≤0 then 0 else(l.getD (i-1).toNat ((0:Int),((List.replicate 32 (0:Int)),()))).1
def QValid.inv6 (p:Par)(i:Int):Prop:=0≤i∧i≤p.2.2.2.2.2.2.1.length∧0≤prevH p.2.2.2.2.2.2.1 i∧ckOk 0 p.2.2.2.2.2.2.1=ckOk (prevH p.2.2.2.2.2.2.1 i) (p.2.2.2.2.2.2.1.drop i.toNat)
def QValid.mes6 (p:Par)(i:Int):Nat:=(p.2.2.2.2.2.2.1.length-i).toNat
def QValid.VC :Prop:=∀(x0:Par),QValid.pre x0→QZero.pre x0.2.1∧((QZero.fn x0.2.1)=false→(QZero.fn x0.2.1)=false)∧((QZero.fn x0.2.1)=false→(QZero.fn x0.2.1)=false)∧((QZero.fn x0.2.1)=false→(QZero.fn x0.2.1)=false)∧(let v14:Bool:=(bif (QZero.fn x0.2.1) then true else(decide (x0.2.2.1<(1:Int))))
 (v14=false→v14=false)∧(v14=false→v14=false)∧(v14=false→v14=false)∧((bif v14 then true else(decide (x0.2.2.1>(4096:Int))))=false→(bif v14 then true else(decide (x0.2.2.1>(4096:Int))))=false)∧((bif v14 then true else(decide (x0.2.2.1>(4096:Int))))=false→(bif v14 then true else(decide (x0.2.2.1>(4096:Int))))=false)∧((bif v14 then true else(decide (x0.2.2.1>(4096:Int))))=false→(bif v14 then true else(decide (x0.2.2.1>(4096:Int))))=false)∧(let v24:Bool:=(bif (bif v14 then true else(decide (x0.2.2.1>(4096:Int)))) then true else(decide (x0.2.2.2.1<(1:Int))))
 (v24=false→v24=false)∧(v24=false→v24=false)∧(v24=false→v24=false)∧(let v29:Bool:=(bif v24 then true else(decide (x0.2.2.2.1>(1048576:Int))))
 ((v29=true→(Ret1 false (QValid.fn x0)))∧(v29=false→((decide (x0.2.2.2.2.2.2.2.1<(0:Int)))=false→(decide (x0.2.2.2.2.2.2.2.1<(0:Int)))=false)∧((decide (x0.2.2.2.2.2.2.2.1<(0:Int)))=false→(decide (x0.2.2.2.2.2.2.2.1<(0:Int)))=false)∧((decide (x0.2.2.2.2.2.2.2.1<(0:Int)))=false→(decide (x0.2.2.2.2.2.2.2.1<(0:Int)))=false)∧(let v37:Bool:=(bif (decide (x0.2.2.2.2.2.2.2.1<(0:Int))) then true else(decide (x0.2.2.2.2.2.2.2.1>(2100000000000000:Int))))
 (v37=false→v37=false)∧(v37=false→v37=false)∧(v37=false→v37=false)∧(let v42:Bool:=(bif v37 then true else(decide (x0.2.2.2.2.2.2.2.2.1<(1:Int))))
 (v42=false→v42=false)∧(v42=false→v42=false)∧(v42=false→v42=false)∧(let v47:Bool:=(bif v42 then true else(decide (x0.2.2.2.2.2.2.2.2.1>(16777216:Int))))
 (v47=false→v47=false)∧(v47=false→v47=false)∧(v47=false→v47=false)∧(let v52:Bool:=(bif v47 then true else(decide (x0.2.2.2.2.2.2.2.2.2.1<(0:Int))))
 (v52=false→v52=false)∧(v52=false→v52=false)∧(v52=false→v52=false)∧(let v57:Bool:=(bif v52 then true else(decide (x0.2.2.2.2.2.2.2.2.2.1>(16777216:Int))))
 ((v57=true→(Ret1 false (QValid.fn x0)))∧(v57=false→(QValid.inv6 x0 (0:Int)∧∀(v61:Int),QValid.inv6 x0 v61→(((decide (v61<(x0.2.2.2.2.2.2.1.length:Int)))=true→(0≤v61∧v61<(x0.2.2.2.2.2.2.1.length:Int))∧(let v65:Cp:=(x0.2.2.2.2.2.2.1.getD (Int.toNat v61) ((0:Int),((List.replicate 32 (0:Int)),())))
 ((decide (v65.1<(1:Int)))=false→(decide (v65.1<(1:Int)))=false)∧((decide (v65.1<(1:Int)))=false→(decide (v65.1<(1:Int)))=false)∧((decide (v65.1<(1:Int)))=false→(decide (v65.1<(1:Int)))=false)∧(let v73:Bool:=(bif (decide (v65.1<(1:Int))) then true else(decide (v65.1>(16777216:Int))))
 (v73=false→v73=false)∧(v73=false→v73=false)∧((v73=false∧(decide (v61>(0:Int)))=true)→(v73=false∧(decide (v61>(0:Int)))=true))∧((v73=false∧(decide (v61>(0:Int)))=true)→(v73=false∧(decide (v61>(0:Int)))=true))∧((v73=false∧(decide (v61>(0:Int)))=true)→(v73=false∧(decide (v61>(0:Int)))=true))∧((v73=false∧(decide (v61>(0:Int)))=true)→(v73=false∧(decide (v61>(0:Int)))=true))∧((v73=false∧(decide (v61>(0:Int)))=true)→(0≤(IntKind.i64.wrap (v61-(1:Int)))∧(IntKind.i64.wrap (v61-(1:Int)))<(x0.2.2.2.2.2.2.1.length:Int)))∧((v73=false∧(decide (v61>(0:Int)))=true)→(v73=false∧(decide (v61>(0:Int)))=true))∧((v73=false∧(decide (v61>(0:Int)))=true)→(v73=false∧(decide (v61>(0:Int)))=true))∧((v73=false∧(decide (v61>(0:Int)))=true)→(v73=false∧(decide (v61>(0:Int)))=true))∧((v73=false∧(decide (v61>(0:Int)))=true)→(v73=false∧(decide (v61>(0:Int)))=true))∧((v73=false∧(decide (v61>(0:Int)))=true)→(v73=false∧(decide (v61>(0:Int)))=true))∧(v73=false→v73=false)∧(v73=false→((decide (v61>(0:Int)))=true→(v73=false∧(decide (v61>(0:Int)))=true)))∧(v73=false→v73=false)∧(let v89:Bool:=(bif v73 then true else(bif (decide (v61>(0:Int))) then(decide ((x0.2.2.2.2.2.2.1.getD (Int.toNat (IntKind.i64.wrap (v61-(1:Int)))) ((0:Int),((List.replicate 32 (0:Int)),()))).1≥v65.1)) else false))
 ((v89=true→(Ret1 false (QValid.fn x0)))∧(v89=false→(QValid.inv6 x0 (IntKind.i64.wrap (v61+(1:Int)))∧QValid.mes6 x0 (IntKind.i64.wrap (v61+(1:Int)))<QValid.mes6 x0 v61)))))))∧((decide (v61<(x0.2.2.2.2.2.2.1.length:Int)))=false→QExpand.pre x0.1.2.2.2.2.1∧(((QExpand.fn x0.1.2.2.2.2.1).2==(0:Int))=true→((QExpand.fn x0.1.2.2.2.2.1).2==(0:Int))=true)∧(((QExpand.fn x0.1.2.2.2.2.1).2==(0:Int))=true→((QExpand.fn x0.1.2.2.2.2.1).2==(0:Int))=true)∧(((QExpand.fn x0.1.2.2.2.2.1).2==(0:Int))=true→((QExpand.fn x0.1.2.2.2.2.1).2==(0:Int))=true)∧(((QExpand.fn x0.1.2.2.2.2.1).2==(0:Int))=true→QCmp.pre ((QExpand.fn x0.1.2.2.2.2.1).1) x0.2.1)∧(((QExpand.fn x0.1.2.2.2.2.1).2==(0:Int))=true→((QExpand.fn x0.1.2.2.2.2.1).2==(0:Int))=true)∧(((QExpand.fn x0.1.2.2.2.2.1).2==(0:Int))=true→((QExpand.fn x0.1.2.2.2.2.1).2==(0:Int))=true)∧(let v106:Bool:=(bif ((QExpand.fn x0.1.2.2.2.2.1).2==(0:Int)) then(decide ((QCmp.fn ((QExpand.fn x0.1.2.2.2.2.1).1) x0.2.1)≤(0:Int))) else false)
 (Ret1 v106 (QValid.fn x0))))))))))))))))))
theorem QValid.vc :QValid.VC:=by
 intro p ⟨h1,h2,h3⟩
 simp only[imp_self,true_and,Bool.cond_true_left,Bool.cond_false_right,Bool.or_eq_true,Bool.or_eq_false_iff,decide_eq_true_eq,decide_eq_false_iff_not,QZero.fn,QExpand.fn,QCmp.fn,expand2,cmpLe]
 obtain⟨q1,q2⟩:=expand1 h2
 simp only[q2,QValid.fn,ret1]
 have nv:= @not_valid p
 have vi:=valid_iff p
 refine⟨h1,fun h=>(nv (fun hv=>by omega)).symm,fun a1=>⟨fun h=>(nv (fun hv=>by omega)).symm,fun a2=>⟨⟨by omega,by omega,by simp[prevH],by simp[prevH]⟩, ?_⟩⟩⟩
 rintro i ⟨k1,k2,k4,k3⟩
 refine⟨fun hc=> ?_,fun hc=> ?_⟩
 ·have hd:=drop_cons k1 hc
  rw[hd] at k3
  have hi1:i>0→IntKind.i64.wrap (i-1)=i-1:=fun _=>i64w (by omega) (by omega)
  have hpr:i>0→(p.2.2.2.2.2.2.1.getD (IntKind.i64.wrap (i-1)).toNat ((0:Int),((List.replicate 32 (0:Int)),()))).1=prevH p.2.2.2.2.2.2.1 i:=fun h=>by rw[hi1 h,prevH,if_neg (by omega)]
  have hp0:¬i>0→prevH p.2.2.2.2.2.2.1 i=0:=fun h=>by rw[prevH,if_pos (by omega)]
  have hnx:prevH p.2.2.2.2.2.2.1 (i+1)=(p.2.2.2.2.2.2.1.getD i.toNat ((0:Int),((List.replicate 32 (0:Int)),()))).1:=by rw[prevH,if_neg (by omega),show i+1-1=i by omega]
  refine⟨⟨k1,hc⟩,fun h=>⟨?_, ?_⟩,fun h h'=>⟨h,h'⟩,fun h=>(nv (fun hv=> ?_)).symm,fun h=> ?_⟩
  ·rw[hi1 h.2];omega
  ·rw[hi1 h.2];omega
  ·have hck:=hv.2.2.2.2.2.2.1
   rw[k3] at hck
   simp only[ckOk,Bool.and_eq_true,decide_eq_true_eq] at hck
   by_cases hi:i>0
   ·rw[hpr hi] at h
    simp only[hi,decide_true,Bool.true_and,decide_eq_true_eq] at h
    omega
   ·have:=hp0 hi
    simp only[hi,decide_false,Bool.false_and,Bool.false_eq_true,or_false] at h
    omega
  ·rw[i64w (by omega) (by omega)]
   have hcond:prevH p.2.2.2.2.2.2.1 i<(p.2.2.2.2.2.2.1.getD i.toNat ((0:Int),((List.replicate 32 (0:Int)),()))).1∧(p.2.2.2.2.2.2.1.getD i.toNat ((0:Int),((List.replicate 32 (0:Int)),()))).1≤16777216:=by
    by_cases hi:i>0
    ·rw[hpr hi] at h
     simp only[hi,decide_true,Bool.true_and,decide_eq_false_iff_not] at h
     omega
    ·have:=hp0 hi
     omega
   refine⟨⟨by omega,by omega,by rw[hnx];omega, ?_⟩,by simp only[QValid.mes6];omega⟩
   rw[k3,hnx]
   simp only[ckOk]
   rw[decide_eq_true hcond,Bool.true_and]
 ·refine⟨h2,fun _=>⟨q1,h1⟩, ?_⟩
  have hck:ckOk 0 p.2.2.2.2.2.2.1=true:=by
   rw[k3,List.drop_eq_nil_of_le (by omega)];rfl
  rw[Bool.eq_iff_iff,vi]
  simp only[Bool.and_eq_true,decide_eq_true_eq]
  constructor
  ·intro⟨e1,e2⟩;exact⟨by omega,by omega,by omega,by omega,by omega,by omega,hck,e1,e2⟩
  ·intro hv;exact⟨hv.2.2.2.2.2.2.2.1,hv.2.2.2.2.2.2.2.2⟩
def ins (v:Int):List Int→List Int
 |[]=>[v]
 |x::r=>if x≤v then x::ins v r else v::x::r
def isort (l:List Int):List Int:=l.foldl (fun s v=>ins v s) []
theorem ins_perm (v:Int):∀l,(ins v l).Perm (v::l)
 |[]=>List.Perm.refl _
 |x::r=>by
  simp only[ins]
  split
  ·exact((ins_perm v r).cons x).trans (List.Perm.swap v x r)
  ·exact List.Perm.refl _
theorem ins_sorted (v:Int):∀l:List Int,l.Pairwise (·≤·)→(ins v l).Pairwise (·≤·)
 |[],_=>by simp[ins]
 |x::r,h=>by
  simp only[ins]
  obtain⟨h1,h2⟩:=List.pairwise_cons.1 h
  split
  ·refine List.pairwise_cons.2 ⟨fun y hy=> ?_,ins_sorted v r h2⟩
   rcases List.mem_cons.1 ((ins_perm v r).subset hy) with rfl|hy
   ·assumption
   ·exact h1 y hy
  ·refine List.pairwise_cons.2 ⟨fun y hy=> ?_,h⟩
   rcases List.mem_cons.1 hy with rfl|hy
   ·omega
   ·have:=h1 y hy;omega
theorem foldl_ins (l:List Int):∀s:List Int,(l.foldl (fun s v=>ins v s) s).Perm (l++s)∧(s.Pairwise (·≤·)→(l.foldl (fun s v=>ins v s) s).Pairwise (·≤·)):=by
 induction l with
 |nil=>intro s;exact⟨List.Perm.refl _,fun h=>h⟩
 |cons x r ih=>
  intro s
  obtain⟨i1,i2⟩:=ih (ins x s)
  refine⟨i1.trans ?_,fun h=>i2 (ins_sorted x s h)⟩
  refine((ins_perm x s).append_left r).trans ?_
  exact List.perm_middle
theorem isort_perm (l:List Int):(isort l).Perm l:=by have:=(foldl_ins l []).1;rwa [List.append_nil] at this
theorem isort_sorted (l:List Int):(isort l).Pairwise (·≤·):=(foldl_ins l []).2 List.Pairwise.nil
theorem isort_len (l:List Int):(isort l).length=l.length:=(isort_perm l).length_eq
theorem isort_unique {l m:List Int}(h:m.Perm l)(hs:m.Pairwise (·≤·)):m=isort l:=
 List.Perm.eq_of_pairwise (le:=(·≤·)) (fun a b _ _ h1 h2=>by omega) hs (isort_sorted l) (h.trans (isort_perm l).symm)
theorem isort_snoc (l:List Int)(v:Int):isort (l++[v])=ins v (isort l):=by simp[isort,List.foldl_append]
theorem merge_isort (l:List Int):l.mergeSort (fun x y=>decide (x≤y))=isort l:=by
 refine isort_unique (List.mergeSort_perm _ _) ?_
 have:=List.pairwise_mergeSort (le:=fun x y:Int=>decide (x≤y)) (fun a b c h1 h2=>by simp at*;omega) (fun a b=>by simp;omega) l
 exact this.imp (fun h=>by simpa using h)
def SortPre (xs:List Int):Prop:=List.length xs<4611686018427387904
def SortFn (xs:List Int):List Int:=isort xs
def medianFn (l:List Int):Int:=if l.length=0 then 0 else(isort l).getD (l.length/2) 0
def RMedian.pre (l:List Int):Prop:=l.length≤1000
def RMedian.fn (l:List Int):Int:=medianFn l
def RMedian.VC :Prop:=∀(x0:(List Int)),RMedian.pre x0→((((x0.length:Int)==(0:Int))=true→(Ret1 (0:Int) (RMedian.fn x0)))∧(((x0.length:Int)==(0:Int))=false→(0≤(x0.length:Int)∧(x0.length:Int)≤(x0.length:Int))∧Room ((x0.length:Int)).toNat 4∧(let v12:Int:=((min x0.length (List.replicate ((x0.length:Int)).toNat (0:Int)).length:Nat):Int)
 (let v9h:(List Int):=(x0.take (List.replicate ((x0.length:Int)).toNat (0:Int)).length++(List.replicate ((x0.length:Int)).toNat (0:Int)).drop x0.length)
 SortPre v9h∧(2:Int)≠0∧(let v18:Int:=(IntKind.i64.wrap (Int.tdiv ((SortFn v9h).length:Int) (2:Int)))
 (0≤v18∧v18<((SortFn v9h).length:Int))∧(Ret1 ((SortFn v9h).getD (Int.toNat v18) (0:Int)) (RMedian.fn x0)))))))
theorem RMedian.vc :RMedian.VC:=by
 intro l h
 have h:l.length≤1000:=h
 have e0:(l.take (List.replicate ((l.length:Int)).toNat (0:Int)).length++(List.replicate ((l.length:Int)).toNat (0:Int)).drop l.length)=l:=by
  rw[Int.toNat_natCast,List.length_replicate,List.take_length,List.drop_eq_nil_of_le (by simp),List.append_nil]
 simp only[e0,SortFn,isort_len]
 have e1:IntKind.i64.wrap (Int.tdiv (l.length:Int) 2)=((l.length/2:Nat):Int):=by
  rw[Int.tdiv_eq_ediv_of_nonneg (by omega),i64w (by omega) (by omega)];omega
 simp only[e1,Int.toNat_natCast,RMedian.fn,medianFn,ret1]
 refine⟨fun hc=> ?_,fun hc=> ?_⟩
 ·have:l.length=0:=by simpa using hc
  rw[if_pos this]
 ·have hne:l.length≠0:=by simpa using hc
  refine⟨⟨by omega,by omega⟩,room_of (by omega) (by omega),by show List.length l<_;omega,by omega,⟨by omega,by omega⟩, ?_⟩
  rw[if_neg hne]
def QMedian.pre (l:List Int):Prop:=l.length≤1000
def QMedian.fn (l:List Int):Int:=medianFn l
def QMedian.inv3 (l s:List Int)(i:Int):Prop:=0≤i∧i≤l.length∧s=isort (l.take i.toNat)
def QMedian.mes3 (l s:List Int)(i:Int):Nat:=(l.length-i).toNat
def QMedian.inv6 (l s:List Int)(v i k:Int):Prop:=0≤k∧k≤s.length∧∀j:Nat,j<k.toNat→s.getD j 0≤v
def QMedian.mes6 (l s:List Int)(v i k:Int):Nat:=(s.length-k).toNat
def QMedian.VC :Prop:=∀(x0:(List Int)),QMedian.pre x0→(QMedian.inv3 x0 [] (0:Int)∧∀(v3:(List Int)) (v9:Int),QMedian.inv3 x0 v3 v9→(((decide (v9<(x0.length:Int)))=true→(0≤v9∧v9<(x0.length:Int))∧(QMedian.inv6 x0 v3 (x0.getD (Int.toNat v9) (0:Int)) v9 (0:Int)∧∀(v6:Int),QMedian.inv6 x0 v3 (x0.getD (Int.toNat v9) (0:Int)) v9 v6→((decide (v6<(v3.length:Int)))=true→(decide (v6<(v3.length:Int)))=true)∧((decide (v6<(v3.length:Int)))=true→(decide (v6<(v3.length:Int)))=true)∧((decide (v6<(v3.length:Int)))=true→(0≤v6∧v6<(v3.length:Int)))∧((decide (v6<(v3.length:Int)))=true→(decide (v6<(v3.length:Int)))=true)∧((decide (v6<(v3.length:Int)))=true→(decide (v6<(v3.length:Int)))=true)∧((decide (v6<(v3.length:Int)))=true→(decide (v6<(v3.length:Int)))=true)∧((decide (v6<(v3.length:Int)))=true→(decide (v6<(v3.length:Int)))=true)∧(let v24:Bool:=(bif (decide (v6<(v3.length:Int))) then(decide ((v3.getD (Int.toNat v6) (0:Int))≤(x0.getD (Int.toNat v9) (0:Int)))) else false)
 ((v24=true→(QMedian.inv6 x0 v3 (x0.getD (Int.toNat v9) (0:Int)) v9 (IntKind.i64.wrap (v6+(1:Int)))∧QMedian.mes6 x0 v3 (x0.getD (Int.toNat v9) (0:Int)) v9 (IntKind.i64.wrap (v6+(1:Int)))<QMedian.mes6 x0 v3 (x0.getD (Int.toNat v9) (0:Int)) v9 v6))∧(v24=false→(0≤(0:Int)∧(0:Int)≤v6∧v6=v6∧v6≤(v3.length:Int))∧(0≤v6∧v6≤(v3.length:Int)∧(v3.length:Int)≤(v3.length:Int))∧(let v35:(List Int):=((v3.drop (Int.toNat v6)).take ((Int.toNat (v3.length:Int))-(Int.toNat v6)))
 Room ([(x0.getD (Int.toNat v9) (0:Int))].length+v35.length) 4∧0<([(x0.getD (Int.toNat v9) (0:Int))]++v35).length∧Room (((v3.drop (Int.toNat (0:Int))).take ((Int.toNat v6)-(Int.toNat (0:Int)))).length+([(x0.getD (Int.toNat v9) (0:Int))]++v35).length) 4∧(let v37h:(List Int):=(((v3.drop (Int.toNat (0:Int))).take ((Int.toNat v6)-(Int.toNat (0:Int))))++([(x0.getD (Int.toNat v9) (0:Int))]++v35))
 (QMedian.inv3 x0 v37h (IntKind.i64.wrap (v9+(1:Int)))∧QMedian.mes3 x0 v37h (IntKind.i64.wrap (v9+(1:Int)))<QMedian.mes3 x0 v3 v9))))))))∧((decide (v9<(x0.length:Int)))=false→((((v3.length:Int)==(0:Int))=true→(Ret1 (0:Int) (QMedian.fn x0)))∧(((v3.length:Int)==(0:Int))=false→(2:Int)≠0∧(0≤(IntKind.i64.wrap (Int.tdiv (v3.length:Int) (2:Int)))∧(IntKind.i64.wrap (Int.tdiv (v3.length:Int) (2:Int)))<(v3.length:Int))∧(let v47:Int:=(v3.getD (Int.toNat (IntKind.i64.wrap (Int.tdiv (v3.length:Int) (2:Int)))) (0:Int))
 (Ret1 v47 (QMedian.fn x0))))))))
theorem ins_at (v:Int):∀(s:List Int) (k:Nat),k≤s.length→(∀j,j<k→s.getD j 0≤v)→(k=s.length∨¬s.getD k 0≤v)→s.take k++v::s.drop k=ins v s
 |[],k,h,_,_=>by have:k=0:=by simpa using h
                 subst this;rfl
 |x::r,0,h,h1,h2=>by
  rcases h2 with h2|h2
  ·simp at h2
  ·simp only[List.getD_cons_zero] at h2
   simp[ins,h2]
 |x::r,k+1,h,h1,h2=>by
  have hx:x≤v:=by have:=h1 0 (by omega);simpa using this
  simp only[List.take_succ_cons,List.drop_succ_cons,List.cons_append,ins,hx,if_true]
  have h3:k=r.length∨¬r.getD k 0≤v:=by
   rcases h2 with h2|h2
   ·left;simpa using h2
   ·right;simpa using h2
  rw[ins_at v r k (by simpa using h) (fun j hj=>by have:=h1 (j+1) (by omega);simpa using this) h3]
theorem take_snoc {l:List Int}{i:Int}(h0:0≤i)(h1:i<l.length):l.take (i+1).toNat=l.take i.toNat++[l.getD i.toNat 0]:=by
 rw[show(i+1).toNat=i.toNat+1 by omega,List.take_add_one]
 simp[List.getD_eq_getElem?_getD,show i.toNat<l.length by omega]
theorem QMedian.vc :QMedian.VC:=by
 intro l h
 have h:l.length≤1000:=h
 refine⟨⟨by omega,by omega,by simp[isort]⟩, ?_⟩
 rintro s i ⟨k1,k2,rfl⟩
 have hsl:(isort (l.take i.toNat)).length=i.toNat:=by rw[isort_len,List.length_take];omega
 refine⟨fun hc=> ?_,fun hc=> ?_⟩
 ·have hc:i<l.length:=of_decide_eq_true hc
  refine⟨⟨k1,hc⟩,⟨by omega,by omega,fun j hj=>by simp at hj⟩, ?_⟩
  rintro k ⟨j1,j2,j3⟩
  refine⟨fun h=>h,fun h=>h,fun hk=>⟨j1,of_decide_eq_true hk⟩,fun h=>h,fun h=>h,fun h=>h,fun h=>h,fun hb=> ?_,fun hb=> ?_⟩
  ·have hkl:k<(isort (l.take i.toNat)).length:=by
    refine Int.lt_of_not_ge (fun hge=> ?_)
    rw[decide_eq_false (by omega)] at hb;cases hb
   rw[decide_eq_true hkl] at hb
   have hv:=of_decide_eq_true hb
   rw[i64w (by omega) (by omega)]
   refine⟨⟨by omega,by omega,fun j hj=> ?_⟩,by simp only[QMedian.mes6];omega⟩
   by_cases hjk:j=k.toNat
   ·rw[hjk];exact hv
   ·exact j3 j (by omega)
  ·have hexit:k.toNat=(isort (l.take i.toNat)).length∨¬(isort (l.take i.toNat)).getD k.toNat 0≤l.getD i.toNat 0:=by
    by_cases hkl:k<(isort (l.take i.toNat)).length
    ·rw[decide_eq_true hkl] at hb
     exact .inr (of_decide_eq_false hb)
    ·left;omega
   have hi:=ins_at (l.getD i.toNat 0) _ k.toNat (by omega) j3 hexit
   have hd:(List.drop k.toNat (isort (l.take i.toNat))).take (Int.toNat ((isort (l.take i.toNat)).length:Int)-k.toNat)=List.drop k.toNat (isort (l.take i.toNat)):=by
    rw[List.take_of_length_le];rw[List.length_drop];omega
   have ht:List.take (k.toNat-Int.toNat 0) (List.drop (Int.toNat 0) (isort (l.take i.toNat)))=List.take k.toNat (isort (l.take i.toNat)):=rfl
   simp only[hd,ht]
   have hlen:(List.take k.toNat (isort (l.take i.toNat))).length+([l.getD i.toNat 0]++List.drop k.toNat (isort (l.take i.toNat))).length=i.toNat+1:=by
    simp only[List.length_take,List.length_append,List.length_drop,List.length_singleton];omega
   refine⟨⟨by omega,j1,trivial,by omega⟩,⟨j1,by omega,by omega⟩,room_of (by simp only[List.length_drop,List.length_singleton];omega) (by omega),by simp,room_of (by rw[hlen];omega) (by omega), ?_⟩
   rw[i64w (by omega) (by omega)]
   refine⟨⟨by omega,by omega, ?_⟩,by simp only[QMedian.mes3];omega⟩
   rw[take_snoc k1 hc,isort_snoc,←hi];rfl
 ·have hc:¬i<l.length:=of_decide_eq_false hc
  rw[List.take_of_length_le (by omega)]
  simp only[isort_len]
  have e1:IntKind.i64.wrap (Int.tdiv (l.length:Int) 2)=((l.length/2:Nat):Int):=by
   rw[Int.tdiv_eq_ediv_of_nonneg (by omega),i64w (by omega) (by omega)];omega
  simp only[e1,Int.toNat_natCast,QMedian.fn,medianFn,ret1]
  refine⟨fun hc=> ?_,fun hc=> ?_⟩
  ·have:l.length=0:=by simpa using hc
   rw[if_pos this]
  ·have hne:l.length≠0:=by simpa using hc
   exact⟨by omega,⟨by omega,by omega⟩,by rw[if_neg hne]⟩
def dueN (p:Par):Nat:=p.2.2.1.toNat*p.2.2.2.1.toNat
def spanN (due:Nat)(first last:Int):Nat:=min (max (last.toNat-first.toNat) (due/4)) (4*due)
def adjQ (p:Par)(bits first last:Int):Nat:=min (expandN bits.toNat*spanN (dueN p) first last/dueN p) (N4 p.2.1)
def adjFn (p:Par)(bits first last:Int):Int×Int:=
 if validFn p=false then(0,6) else if expandN bits.toNat=0 then(0,120)
 else(((compactN (if adjQ p bits first last=0 then 1 else adjQ p bits first last):Nat):Int),0)
def AdjPre (p:Par)(bits first last:Int):Prop:=ParOk p∧U32 bits∧U32 first∧U32 last
def RAdjust.pre (p:Par)(bits first last:Int):Prop:=AdjPre p bits first last
def RAdjust.fn (p:Par)(bits first last:Int):Int×Int:=adjFn p bits first last
def RAdjust.VC :Prop:=∀(x0:Par) (x1:Int) (x2:Int) (x3:Int),RAdjust.pre x0 x1 x2 x3→RValid.pre x0∧(((!(RValid.fn x0))=true→(Ret2 (0:Int) (6:Int) (RAdjust.fn x0 x1 x2 x3)))∧((!(RValid.fn x0))=false→TExpand.pre x1∧((((TExpand.fn x1).2 !=(0:Int))=true→(Ret2 (0:Int) ((TExpand.fn x1).2) (RAdjust.fn x0 x1 x2 x3)))∧(((TExpand.fn x1).2 !=(0:Int))=false→(let v36:Int:=(IntKind.u64.wrap ((IntKind.u64.wrap x0.2.2.1)*(IntKind.u64.wrap x0.2.2.2.1)))
 (((decide (x3>x2))=true→(4:Int)≠0∧(let v47:Int:=(if(IntKind.u64.wrap (Int.tdiv v36 (4:Int)))>(IntKind.u64.wrap (IntKind.u32.wrap (x3-x2))) then(IntKind.u64.wrap (Int.tdiv v36 (4:Int))) else(IntKind.u64.wrap (IntKind.u32.wrap (x3-x2))))
 (let v50:Int:=(if(IntKind.u64.wrap ((4:Int)*v36))<v47 then(IntKind.u64.wrap ((4:Int)*v36)) else v47)
 WFrom.pre v50∧WMul.pre ((TExpand.fn x1).1) (WFrom.fn v50)∧WFrom.pre v36∧WDiv.pre ((WMul.fn ((TExpand.fn x1).1) (WFrom.fn v50)).1) ((WMul.fn ((TExpand.fn x1).1) (WFrom.fn v50)).2) (WFrom.fn v36)∧(let v64:(List Int):=(WDiv.fn ((WMul.fn ((TExpand.fn x1).1) (WFrom.fn v50)).1) ((WMul.fn ((TExpand.fn x1).1) (WFrom.fn v50)).2) (WFrom.fn v36)).1
 (let v65:(List Int):=(WDiv.fn ((WMul.fn ((TExpand.fn x1).1) (WFrom.fn v50)).1) ((WMul.fn ((TExpand.fn x1).1) (WFrom.fn v50)).2) (WFrom.fn v36)).2.1
 (let v66:Bool:=(WDiv.fn ((WMul.fn ((TExpand.fn x1).1) (WFrom.fn v50)).1) ((WMul.fn ((TExpand.fn x1).1) (WFrom.fn v50)).2) (WFrom.fn v36)).2.2
 ((!v66)=false→(!v66)=false)∧((!v66)=false→(!v66)=false)∧((!v66)=false→(!v66)=false)∧((!v66)=false→WCmp.pre v64 x0.2.1)∧((!v66)=false→(!v66)=false)∧((!v66)=false→(!v66)=false)∧(let v75:Bool:=(bif (!v66) then true else(decide ((WCmp.fn v64 x0.2.1)>(0:Int))))
 ((v75=true→(let v80:Bool:=(Ty.beq (.arr 4 (.int .u64)) x0.2.1 (List.replicate 4 (0:Int)))
 ((v80=true→WFrom.pre (1:Int)∧TCompact.pre (WFrom.fn (1:Int))∧(Ret2 (TCompact.fn (WFrom.fn (1:Int))) (0:Int) (RAdjust.fn x0 x1 x2 x3)))∧(v80=false→TCompact.pre x0.2.1∧(Ret2 (TCompact.fn x0.2.1) (0:Int) (RAdjust.fn x0 x1 x2 x3))))))∧(v75=false→(let v80_1:Bool:=(Ty.beq (.arr 4 (.int .u64)) v64 (List.replicate 4 (0:Int)))
 ((v80_1=true→WFrom.pre (1:Int)∧TCompact.pre (WFrom.fn (1:Int))∧(Ret2 (TCompact.fn (WFrom.fn (1:Int))) (0:Int) (RAdjust.fn x0 x1 x2 x3)))∧(v80_1=false→TCompact.pre v64∧(Ret2 (TCompact.fn v64) (0:Int) (RAdjust.fn x0 x1 x2 x3))))))))))))))∧((decide (x3>x2))=false→(4:Int)≠0∧(let v47_1:Int:=(if(IntKind.u64.wrap (Int.tdiv v36 (4:Int)))>(0:Int) then(IntKind.u64.wrap (Int.tdiv v36 (4:Int))) else(0:Int))
 (let v50_1:Int:=(if(IntKind.u64.wrap ((4:Int)*v36))<v47_1 then(IntKind.u64.wrap ((4:Int)*v36)) else v47_1)
 WFrom.pre v50_1∧WMul.pre ((TExpand.fn x1).1) (WFrom.fn v50_1)∧WFrom.pre v36∧WDiv.pre ((WMul.fn ((TExpand.fn x1).1) (WFrom.fn v50_1)).1) ((WMul.fn ((TExpand.fn x1).1) (WFrom.fn v50_1)).2) (WFrom.fn v36)∧(let v64_1:(List Int):=(WDiv.fn ((WMul.fn ((TExpand.fn x1).1) (WFrom.fn v50_1)).1) ((WMul.fn ((TExpand.fn x1).1) (WFrom.fn v50_1)).2) (WFrom.fn v36)).1
 (let v65_1:(List Int):=(WDiv.fn ((WMul.fn ((TExpand.fn x1).1) (WFrom.fn v50_1)).1) ((WMul.fn ((TExpand.fn x1).1) (WFrom.fn v50_1)).2) (WFrom.fn v36)).2.1
 (let v66_1:Bool:=(WDiv.fn ((WMul.fn ((TExpand.fn x1).1) (WFrom.fn v50_1)).1) ((WMul.fn ((TExpand.fn x1).1) (WFrom.fn v50_1)).2) (WFrom.fn v36)).2.2
 ((!v66_1)=false→(!v66_1)=false)∧((!v66_1)=false→(!v66_1)=false)∧((!v66_1)=false→(!v66_1)=false)∧((!v66_1)=false→WCmp.pre v64_1 x0.2.1)∧((!v66_1)=false→(!v66_1)=false)∧((!v66_1)=false→(!v66_1)=false)∧(let v75_1:Bool:=(bif (!v66_1) then true else(decide ((WCmp.fn v64_1 x0.2.1)>(0:Int))))
 ((v75_1=true→(let v80_2:Bool:=(Ty.beq (.arr 4 (.int .u64)) x0.2.1 (List.replicate 4 (0:Int)))
 ((v80_2=true→WFrom.pre (1:Int)∧TCompact.pre (WFrom.fn (1:Int))∧(Ret2 (TCompact.fn (WFrom.fn (1:Int))) (0:Int) (RAdjust.fn x0 x1 x2 x3)))∧(v80_2=false→TCompact.pre x0.2.1∧(Ret2 (TCompact.fn x0.2.1) (0:Int) (RAdjust.fn x0 x1 x2 x3))))))∧(v75_1=false→(let v80_3:Bool:=(Ty.beq (.arr 4 (.int .u64)) v64_1 (List.replicate 4 (0:Int)))
 ((v80_3=true→WFrom.pre (1:Int)∧TCompact.pre (WFrom.fn (1:Int))∧(Ret2 (TCompact.fn (WFrom.fn (1:Int))) (0:Int) (RAdjust.fn x0 x1 x2 x3)))∧(v80_3=false→TCompact.pre v64_1∧(Ret2 (TCompact.fn v64_1) (0:Int) (RAdjust.fn x0 x1 x2 x3))))))))))))))))))))
theorem due_le {p:Par}(h:validFn p=true):1≤dueN p∧dueN p≤4294967296:=by
 have:=(valid_iff p).1 h
 constructor
 ·exact Nat.mul_pos (by omega) (by omega)
 ·exact Nat.mul_le_mul (show p.2.2.1.toNat≤4096 by omega) (show p.2.2.2.1.toNat≤1048576 by omega)
theorem due_word {p:Par}(h:validFn p=true):IntKind.u64.wrap (IntKind.u64.wrap p.2.2.1*IntKind.u64.wrap p.2.2.2.1)=((dueN p:Nat):Int):=by
 have hv:=(valid_iff p).1 h
 have hd:=due_le h
 rw[u64w (n:=p.2.2.1) (by omega) (by omega),u64w (n:=p.2.2.2.1) (by omega) (by omega)]
 have e:p.2.2.1*p.2.2.2.1=((dueN p:Nat):Int):=by
  unfold dueN
  rw[Int.natCast_mul,Int.toNat_of_nonneg (by omega),Int.toNat_of_nonneg (by omega)]
 rw[e,u64w (by omega) (by omega)]
theorem span_word {due:Nat}(hd:due≤4294967296){a b:Int}(ha:U32 a)(hb:U32 b)(s:Int)(hs:(b>a∧s=IntKind.u64.wrap (IntKind.u32.wrap (b-a)))∨(¬b>a∧s=0)):
 (if IntKind.u64.wrap (4*(due:Int))<(if IntKind.u64.wrap (Int.tdiv (due:Int) 4)>s then IntKind.u64.wrap (Int.tdiv (due:Int) 4) else s) then IntKind.u64.wrap (4*(due:Int)) else(if IntKind.u64.wrap (Int.tdiv (due:Int) 4)>s then IntKind.u64.wrap (Int.tdiv (due:Int) 4) else s))=((spanN due a b:Nat):Int):=by
 have e1:IntKind.u64.wrap (Int.tdiv (due:Int) 4)=((due/4:Nat):Int):=by rw[Int.tdiv_eq_ediv_of_nonneg (by omega),u64w (by omega) (by omega)];omega
 have e2:IntKind.u64.wrap (4*(due:Int))=((4*due:Nat):Int):=by rw[u64w (by omega) (by omega)];omega
 have e3:s=((b.toNat-a.toNat:Nat):Int):=by
  unfold U32 at ha hb
  rcases hs with⟨h,rfl⟩|⟨h,rfl⟩
  ·rw[u32w (by omega) (by omega),u64w (by omega) (by omega)];omega
  ·omega
 rw[e1,e2,e3]
 unfold spanN
 generalize b.toNat-a.toNat=x
 generalize due/4=y
 generalize 4*due=z
 have hmax:(if((y:Nat):Int)>((x:Nat):Int) then((y:Nat):Int) else((x:Nat):Int))=((max x y:Nat):Int):=by
  split
  ·rw[Nat.max_eq_right (by omega)]
  ·rw[Nat.max_eq_left (by omega)]
 rw[hmax]
 split
 ·rw[Nat.min_eq_right (by omega)]
 ·rw[Nat.min_eq_left (by omega)]
theorem quot_cases {t s d L:Nat}(ht:t<Big)(hs:s<Big)(hd:0<d)(hdB:d<Big)(hL:L<Big){a b:List Int}(ha:a=Wn 4 t)(hb:b=Wn 4 s){D:List Int}(hD:D=Wn 4 d):
 ∃q:List Int,∃r:List Int,∃ok:Bool,divFn (mulFn a b).1 (mulFn a b).2 D=(q,r,ok)∧Ok4 q∧(ok=true→N4 q=t*s/d)∧(ok=false→L<t*s/d):=by
 subst ha hb hD
 have hX:t*s<Big*Big:=mul_lt ht hs
 have h1:t*s/Big<Big:=Nat.div_lt_of_lt_mul hX
 simp only[mulFn,N4_W4 ht,N4_W4 hs,divFn,N4_W4 h1,N4_W,N4_W4 hdB]
 have e:t*s/Big*Big+t*s%Big=t*s:=by rw[Nat.mul_comm];exact Nat.div_add_mod _ _
 rw[e]
 split
 ·rename_i h
  have h2:d*Big≤t*s:=Nat.le_trans (Nat.mul_le_mul_right _ h) (Nat.div_mul_le_self _ _)
  have h3:Big≤t*s/d:=(Nat.le_div_iff_mul_le hd).2 (by rw[Nat.mul_comm];exact h2)
  exact⟨Wn 4 0,Wn 4 0,false,rfl,ok4' 0,fun h=>Bool.noConfusion h,fun _=>Nat.lt_of_lt_of_le hL h3⟩
 ·rename_i h
  have h2:t*s/d<Big:=by
   rw[Nat.div_lt_iff_lt_mul hd]
   have:t*s<(t*s/Big+1)*Big:=by
    have h5:=Nat.div_add_mod (t*s) Big
    have h4:=Nat.mod_lt (t*s) (show 0<Big by decide)
    rw[Nat.add_mul,Nat.one_mul,Nat.mul_comm (t*s/Big)]
    generalize Big*(t*s/Big)=A at*
    omega
   refine Nat.lt_of_lt_of_le this ?_
   rw[Nat.mul_comm Big]
   exact Nat.mul_le_mul_right _ (by omega)
  exact⟨_,_,true,rfl,ok4' _,fun _=>N4_W4 h2,fun h=>Bool.noConfusion h⟩
theorem cmp_gt {n m:Nat}:decide (cmpN n m>0)=decide (m<n):=by
 rw[decide_eq_decide];unfold cmpN
 split
 ·constructor<;>intro<;>omega
 ·split
  ·constructor<;>intro<;>omega
  ·constructor<;>intro<;>omega
theorem cmpGt {n m:Nat}:0<cmpN n m↔m<n:=by
 have:=cmp_gt (n:=n) (m:=m);rwa [decide_eq_decide] at this
theorem adj_core {p:Par}{bits a b:Int}(hp:AdjPre p bits a b)(hv:validFn p=true)(he:expandN bits.toNat≠0){sp:Int}(hsp:sp=((spanN (dueN p) a b:Nat):Int)):
 W64 sp∧Ok4 (expandFn bits).1∧Ok4 (Wn 4 sp.toNat)∧W64 ((dueN p:Nat):Int)∧
 ∃q r ok,divFn (mulFn (expandFn bits).1 (Wn 4 sp.toNat)).1 (mulFn (expandFn bits).1 (Wn 4 sp.toNat)).2 (Wn 4 (Int.toNat ((dueN p:Nat):Int)))=(q,r,ok)∧Ok4 q∧
  Ok4 (mulFn (expandFn bits).1 (Wn 4 sp.toNat)).1∧Ok4 (mulFn (expandFn bits).1 (Wn 4 sp.toNat)).2∧Ok4 (Wn 4 (Int.toNat ((dueN p:Nat):Int)))∧
  ((!ok||decide (N4 p.2.1<N4 q))=true→adjFn p bits a b=(compactFn p.2.1,0))∧
  ((!ok||decide (N4 p.2.1<N4 q))=false→adjFn p bits a b=(if N4 q=0 then compactFn (Wn 4 1) else compactFn q,0)):=by
 obtain⟨⟨h1,h2,h3⟩,h4,h5,h6⟩:=hp
 obtain⟨d1,d2⟩:=due_le hv
 have hvv:=(valid_iff p).1 hv
 have hs:spanN (dueN p) a b≤4*dueN p:=Nat.min_le_right _ _
 obtain⟨e1,e2⟩:=expand1 h4
 have hsB:spanN (dueN p) a b<Big:=by unfold Big;omega
 have hdB:dueN p<Big:=by unfold Big;omega
 subst hsp
 rw[Int.toNat_natCast,Int.toNat_natCast]
 obtain⟨q,r,ok,k1,k2,k3,k4⟩:=quot_cases (L:=N4 p.2.1) e1.lt hsB d1 hdB h1.lt e1.W.symm rfl rfl
 rw[e2] at k3 k4
 refine⟨⟨by omega,by omega⟩,e1,ok4' _,⟨by omega,by omega⟩,q,r,ok,k1,k2,ok4' _,ok4' _,ok4' _,fun hc=> ?_,fun hc=> ?_⟩
 ·have hm:adjQ p bits a b=N4 p.2.1:=by
   unfold adjQ
   apply Nat.min_eq_right
   cases ok
   ·have:=k4 rfl;omega
   ·simp only[Bool.not_true,Bool.false_or,decide_eq_true_eq] at hc
    rw[k3 rfl] at hc;omega
  rw[adjFn,if_neg (by rw[hv];simp),if_neg he,hm,if_neg hvv.1];rfl
 ·cases ok
  ·simp at hc
  ·simp only[Bool.not_true,Bool.false_or,decide_eq_false_iff_not] at hc
   have hm:adjQ p bits a b=N4 q:=by
    unfold adjQ
    rw[←k3 rfl]
    exact Nat.min_eq_left (by omega)
   rw[adjFn,if_neg (by rw[hv];simp),if_neg he,hm]
   split
   ·rfl
   ·rfl
theorem expand2n (x:Int):((expandFn x).2 !=0)=decide (expandN x.toNat=0):=by
 unfold expandFn
 split
 ·rename_i h;simp[h]
 ·rename_i h;simp[h]
theorem expand2z {x:Int}(h:expandN x.toNat=0):(expandFn x).2=120:=by unfold expandFn;rw[if_pos h]
theorem RAdjust.vc :RAdjust.VC:=by
 intro p bits a b hp
 simp only[imp_self,true_and,RValid.fn,TExpand.fn,WFrom.fn,WMul.fn,WDiv.fn,WCmp.fn,TCompact.fn,expand2n,ret2,RAdjust.fn,gt_iff_lt,cmpGt,Bool.cond_true_left]
 refine⟨hp.1,fun hv=> ?_,fun hv=> ?_⟩
 ·have hv:validFn p=false:=by simpa using hv
  rw[adjFn,if_pos hv]
 have hv:validFn p=true:=by simpa using hv
 rw[due_word hv]
 refine⟨hp.2.1,fun he=> ?_,fun he=> ?_⟩
 ·have he:expandN bits.toNat=0:=of_decide_eq_true he
  rw[adjFn,if_neg (by rw[hv];simp),if_pos he,expand2z he]
 have he:expandN bits.toNat≠0:=of_decide_eq_false he
 have hlim:Ok4 p.2.1:=hp.1.1
 have fin:∀sp:Int,sp=((spanN (dueN p) a b:Nat):Int)→_:=fun sp hsp=>adj_core hp hv he hsp
 refine⟨fun hc=>⟨by omega, ?_⟩,fun hc=>⟨by omega, ?_⟩⟩
 ·have hspan:=span_word (due_le hv).2 hp.2.2.1 hp.2.2.2 _ (.inl ⟨of_decide_eq_true hc,rfl⟩)
  simp only[hspan]
  obtain⟨g1,g2,g3,g4,q,r,ok,k1,k2,k3,k4,k5,k6,k7⟩:=fin _ rfl
  simp only[k1,zeq hlim,zeq k2]
  refine⟨g1,⟨g2,g3⟩,g4,⟨k3,k4,k5⟩,fun _=>⟨k2,hlim⟩,fun hb=> ?_,fun hb=> ?_⟩
  ·refine⟨fun hz=> ?_,fun hz=>⟨hlim,(k6 hb).symm⟩⟩
   exact absurd (of_decide_eq_true hz) ((valid_iff p).1 hv).1
  ·refine⟨fun hz=>⟨⟨by omega,by omega⟩,ok4' _, ?_⟩,fun hz=>⟨k2, ?_⟩⟩
   ·rw[k7 hb,if_pos (of_decide_eq_true hz)];rfl
   ·rw[k7 hb,if_neg (of_decide_eq_false hz)]
 ·have hspan:=span_word (due_le hv).2 hp.2.2.1 hp.2.2.2 _ (.inr ⟨of_decide_eq_false hc,rfl⟩)
  simp only[hspan]
  obtain⟨g1,g2,g3,g4,q,r,ok,k1,k2,k3,k4,k5,k6,k7⟩:=fin _ rfl
  simp only[k1,zeq hlim,zeq k2]
  refine⟨g1,⟨g2,g3⟩,g4,⟨k3,k4,k5⟩,fun _=>⟨k2,hlim⟩,fun hb=> ?_,fun hb=> ?_⟩
  ·refine⟨fun hz=> ?_,fun hz=>⟨hlim,(k6 hb).symm⟩⟩
   exact absurd (of_decide_eq_true hz) ((valid_iff p).1 hv).1
  ·refine⟨fun hz=>⟨⟨by omega,by omega⟩,ok4' _, ?_⟩,fun hz=>⟨k2, ?_⟩⟩
   ·rw[k7 hb,if_pos (of_decide_eq_true hz)];rfl
   ·rw[k7 hb,if_neg (of_decide_eq_false hz)]
def QAdjust.pre (p:Par)(bits first last:Int):Prop:=AdjPre p bits first last
def QAdjust.fn (p:Par)(bits first last:Int):Int×Int:=adjFn p bits first last
def QAdjust.VC :Prop:=∀(x0:Par) (x1:Int) (x2:Int) (x3:Int),QAdjust.pre x0 x1 x2 x3→QValid.pre x0∧(((!(QValid.fn x0))=true→(Ret2 (0:Int) (6:Int) (QAdjust.fn x0 x1 x2 x3)))∧((!(QValid.fn x0))=false→QExpand.pre x1∧((((QExpand.fn x1).2 !=(0:Int))=true→(Ret2 (0:Int) ((QExpand.fn x1).2) (QAdjust.fn x0 x1 x2 x3)))∧(((QExpand.fn x1).2 !=(0:Int))=false→(let v36:Int:=(IntKind.u64.wrap ((IntKind.u64.wrap x0.2.2.1)*(IntKind.u64.wrap x0.2.2.2.1)))
 (((decide (x3>x2))=true→(4:Int)≠0∧(let v47:Int:=(if(IntKind.u64.wrap (Int.tdiv v36 (4:Int)))>(IntKind.u64.wrap (IntKind.u32.wrap (x3-x2))) then(IntKind.u64.wrap (Int.tdiv v36 (4:Int))) else(IntKind.u64.wrap (IntKind.u32.wrap (x3-x2))))
 (let v50:Int:=(if(IntKind.u64.wrap ((4:Int)*v36))<v47 then(IntKind.u64.wrap ((4:Int)*v36)) else v47)
 QFromUint.pre v50∧QMul.pre ((QExpand.fn x1).1) (QFromUint.fn v50)∧QFromUint.pre v36∧QDiv.pre ((QMul.fn ((QExpand.fn x1).1) (QFromUint.fn v50)).1) ((QMul.fn ((QExpand.fn x1).1) (QFromUint.fn v50)).2) (QFromUint.fn v36)∧(let v64:(List Int):=(QDiv.fn ((QMul.fn ((QExpand.fn x1).1) (QFromUint.fn v50)).1) ((QMul.fn ((QExpand.fn x1).1) (QFromUint.fn v50)).2) (QFromUint.fn v36)).1
 (let v65:(List Int):=(QDiv.fn ((QMul.fn ((QExpand.fn x1).1) (QFromUint.fn v50)).1) ((QMul.fn ((QExpand.fn x1).1) (QFromUint.fn v50)).2) (QFromUint.fn v36)).2.1
 (let v66:Bool:=(QDiv.fn ((QMul.fn ((QExpand.fn x1).1) (QFromUint.fn v50)).1) ((QMul.fn ((QExpand.fn x1).1) (QFromUint.fn v50)).2) (QFromUint.fn v36)).2.2
 ((!v66)=false→(!v66)=false)∧((!v66)=false→(!v66)=false)∧((!v66)=false→(!v66)=false)∧((!v66)=false→QCmp.pre v64 x0.2.1)∧((!v66)=false→(!v66)=false)∧((!v66)=false→(!v66)=false)∧(let v75:Bool:=(bif (!v66) then true else(decide ((QCmp.fn v64 x0.2.1)>(0:Int))))
 ((v75=true→QZero.pre x0.2.1∧(((QZero.fn x0.2.1)=true→QFromUint.pre (1:Int)∧QCompact.pre (QFromUint.fn (1:Int))∧(Ret2 (QCompact.fn (QFromUint.fn (1:Int))) (0:Int) (QAdjust.fn x0 x1 x2 x3)))∧((QZero.fn x0.2.1)=false→QCompact.pre x0.2.1∧(Ret2 (QCompact.fn x0.2.1) (0:Int) (QAdjust.fn x0 x1 x2 x3)))))∧(v75=false→QZero.pre v64∧(((QZero.fn v64)=true→QFromUint.pre (1:Int)∧QCompact.pre (QFromUint.fn (1:Int))∧(Ret2 (QCompact.fn (QFromUint.fn (1:Int))) (0:Int) (QAdjust.fn x0 x1 x2 x3)))∧((QZero.fn v64)=false→QCompact.pre v64∧(Ret2 (QCompact.fn v64) (0:Int) (QAdjust.fn x0 x1 x2 x3)))))))))))))∧((decide (x3>x2))=false→(4:Int)≠0∧(let v47_1:Int:=(if(IntKind.u64.wrap (Int.tdiv v36 (4:Int)))>(0:Int) then(IntKind.u64.wrap (Int.tdiv v36 (4:Int))) else(0:Int))
 (let v50_1:Int:=(if(IntKind.u64.wrap ((4:Int)*v36))<v47_1 then(IntKind.u64.wrap ((4:Int)*v36)) else v47_1)
 QFromUint.pre v50_1∧QMul.pre ((QExpand.fn x1).1) (QFromUint.fn v50_1)∧QFromUint.pre v36∧QDiv.pre ((QMul.fn ((QExpand.fn x1).1) (QFromUint.fn v50_1)).1) ((QMul.fn ((QExpand.fn x1).1) (QFromUint.fn v50_1)).2) (QFromUint.fn v36)∧(let v64_1:(List Int):=(QDiv.fn ((QMul.fn ((QExpand.fn x1).1) (QFromUint.fn v50_1)).1) ((QMul.fn ((QExpand.fn x1).1) (QFromUint.fn v50_1)).2) (QFromUint.fn v36)).1
 (let v65_1:(List Int):=(QDiv.fn ((QMul.fn ((QExpand.fn x1).1) (QFromUint.fn v50_1)).1) ((QMul.fn ((QExpand.fn x1).1) (QFromUint.fn v50_1)).2) (QFromUint.fn v36)).2.1
 (let v66_1:Bool:=(QDiv.fn ((QMul.fn ((QExpand.fn x1).1) (QFromUint.fn v50_1)).1) ((QMul.fn ((QExpand.fn x1).1) (QFromUint.fn v50_1)).2) (QFromUint.fn v36)).2.2
 ((!v66_1)=false→(!v66_1)=false)∧((!v66_1)=false→(!v66_1)=false)∧((!v66_1)=false→(!v66_1)=false)∧((!v66_1)=false→QCmp.pre v64_1 x0.2.1)∧((!v66_1)=false→(!v66_1)=false)∧((!v66_1)=false→(!v66_1)=false)∧(let v75_1:Bool:=(bif (!v66_1) then true else(decide ((QCmp.fn v64_1 x0.2.1)>(0:Int))))
 ((v75_1=true→QZero.pre x0.2.1∧(((QZero.fn x0.2.1)=true→QFromUint.pre (1:Int)∧QCompact.pre (QFromUint.fn (1:Int))∧(Ret2 (QCompact.fn (QFromUint.fn (1:Int))) (0:Int) (QAdjust.fn x0 x1 x2 x3)))∧((QZero.fn x0.2.1)=false→QCompact.pre x0.2.1∧(Ret2 (QCompact.fn x0.2.1) (0:Int) (QAdjust.fn x0 x1 x2 x3)))))∧(v75_1=false→QZero.pre v64_1∧(((QZero.fn v64_1)=true→QFromUint.pre (1:Int)∧QCompact.pre (QFromUint.fn (1:Int))∧(Ret2 (QCompact.fn (QFromUint.fn (1:Int))) (0:Int) (QAdjust.fn x0 x1 x2 x3)))∧((QZero.fn v64_1)=false→QCompact.pre v64_1∧(Ret2 (QCompact.fn v64_1) (0:Int) (QAdjust.fn x0 x1 x2 x3)))))))))))))))))))
theorem QAdjust.vc :QAdjust.VC:=by
 intro p bits a b hp
 simp only[imp_self,true_and,QValid.fn,QExpand.fn,QFromUint.fn,QMul.fn,QDiv.fn,QCmp.fn,QCompact.fn,QZero.fn,expand2n,ret2,QAdjust.fn,gt_iff_lt,cmpGt,Bool.cond_true_left]
 refine⟨hp.1,fun hv=> ?_,fun hv=> ?_⟩
 ·have hv:validFn p=false:=by simpa using hv
  rw[adjFn,if_pos hv]
 have hv:validFn p=true:=by simpa using hv
 rw[due_word hv]
 refine⟨hp.2.1,fun he=> ?_,fun he=> ?_⟩
 ·have he:expandN bits.toNat=0:=of_decide_eq_true he
  rw[adjFn,if_neg (by rw[hv];simp),if_pos he,expand2z he]
 have he:expandN bits.toNat≠0:=of_decide_eq_false he
 have hlim:Ok4 p.2.1:=hp.1.1
 have fin:∀sp:Int,sp=((spanN (dueN p) a b:Nat):Int)→_:=fun sp hsp=>adj_core hp hv he hsp
 refine⟨fun hc=>⟨by omega, ?_⟩,fun hc=>⟨by omega, ?_⟩⟩
 ·have hspan:=span_word (due_le hv).2 hp.2.2.1 hp.2.2.2 _ (.inl ⟨of_decide_eq_true hc,rfl⟩)
  simp only[hspan]
  obtain⟨g1,g2,g3,g4,q,r,ok,k1,k2,k3,k4,k5,k6,k7⟩:=fin _ rfl
  simp only[k1]
  refine⟨g1,⟨g2,g3⟩,g4,⟨k3,k4,k5⟩,fun _=>⟨k2,hlim⟩,fun hb=> ?_,fun hb=> ?_⟩
  ·refine⟨hlim,fun hz=> ?_,fun hz=>⟨hlim,(k6 hb).symm⟩⟩
   exact absurd (of_decide_eq_true hz) ((valid_iff p).1 hv).1
  ·refine⟨k2,fun hz=>⟨⟨by omega,by omega⟩,ok4' _, ?_⟩,fun hz=>⟨k2, ?_⟩⟩
   ·rw[k7 hb,if_pos (of_decide_eq_true hz)];rfl
   ·rw[k7 hb,if_neg (of_decide_eq_false hz)]
 ·have hspan:=span_word (due_le hv).2 hp.2.2.1 hp.2.2.2 _ (.inr ⟨of_decide_eq_false hc,rfl⟩)
  simp only[hspan]
  obtain⟨g1,g2,g3,g4,q,r,ok,k1,k2,k3,k4,k5,k6,k7⟩:=fin _ rfl
  simp only[k1]
  refine⟨g1,⟨g2,g3⟩,g4,⟨k3,k4,k5⟩,fun _=>⟨k2,hlim⟩,fun hb=> ?_,fun hb=> ?_⟩
  ·refine⟨hlim,fun hz=> ?_,fun hz=>⟨hlim,(k6 hb).symm⟩⟩
   exact absurd (of_decide_eq_true hz) ((valid_iff p).1 hv).1
  ·refine⟨k2,fun hz=>⟨⟨by omega,by omega⟩,ok4' _, ?_⟩,fun hz=>⟨k2, ?_⟩⟩
   ·rw[k7 hb,if_pos (of_decide_eq_true hz)];rfl
   ·rw[k7 hb,if_neg (of_decide_eq_false hz)]
def nextBad (p:Par)(c:Cx):Bool:= !validFn p||(decide (c.1<0)||(decide (c.1>16777216)||(decide (c.2.2.2.2.1.length=0)||decide (11<c.2.2.2.2.1.length))))
def nextFn (p:Par)(c:Cx):Int×Int:=
 if nextBad p c=true then(0,6) else if Int.tmod (c.1+1) p.2.2.1=0 then adjFn p c.2.2.1 c.2.2.2.1 (c.2.2.2.2.1.getD (c.2.2.2.2.1.length-1) 0) else(c.2.2.1,0)
def RNext.pre (p:Par)(c:Cx):Prop:=ParOk p∧CxOk c
def RNext.fn (p:Par)(c:Cx):Int×Int:=nextFn p c
def RNext.VC :Prop:=∀(x0:Par) (x1:Cx),RNext.pre x0 x1→RValid.pre x0∧((!(RValid.fn x0))=false→(!(RValid.fn x0))=false)∧((!(RValid.fn x0))=false→(!(RValid.fn x0))=false)∧((!(RValid.fn x0))=false→(!(RValid.fn x0))=false)∧(let v17:Bool:=(bif (!(RValid.fn x0)) then true else(decide (x1.1<(0:Int))))
 (v17=false→v17=false)∧(v17=false→v17=false)∧(v17=false→v17=false)∧((bif v17 then true else(decide (x1.1>(16777216:Int))))=false→(bif v17 then true else(decide (x1.1>(16777216:Int))))=false)∧((bif v17 then true else(decide (x1.1>(16777216:Int))))=false→(bif v17 then true else(decide (x1.1>(16777216:Int))))=false)∧(let v26:Bool:=(bif (bif v17 then true else(decide (x1.1>(16777216:Int)))) then true else((x1.2.2.2.2.1.length:Int)==(0:Int)))
 (v26=false→v26=false)∧(v26=false→v26=false)∧(let v30:Bool:=(bif v26 then true else(decide ((x1.2.2.2.2.1.length:Int)>(11:Int))))
 ((v30=true→(Ret2 (0:Int) (6:Int) (RNext.fn x0 x1)))∧(v30=false→x0.2.2.1≠0∧(let v37:Bool:=((Int.tmod (IntKind.i64.wrap (x1.1+(1:Int))) x0.2.2.1)==(0:Int))
 ((v37=true→(0≤(IntKind.i64.wrap ((x1.2.2.2.2.1.length:Int)-(1:Int)))∧(IntKind.i64.wrap ((x1.2.2.2.2.1.length:Int)-(1:Int)))<(x1.2.2.2.2.1.length:Int))∧(let v48:Int:=(x1.2.2.2.2.1.getD (Int.toNat (IntKind.i64.wrap ((x1.2.2.2.2.1.length:Int)-(1:Int)))) (0:Int))
 RAdjust.pre x0 x1.2.2.1 x1.2.2.2.1 v48∧(Ret2 ((RAdjust.fn x0 x1.2.2.1 x1.2.2.2.1 v48).1) ((RAdjust.fn x0 x1.2.2.1 x1.2.2.2.1 v48).2) (RNext.fn x0 x1))))∧(v37=false→(Ret2 x1.2.2.1 (0:Int) (RNext.fn x0 x1))))))))))
theorem next_core {p:Par}{c:Cx}(hp:ParOk p∧CxOk c)(h:nextBad p c=false):p.2.2.1≠0∧(0≤IntKind.i64.wrap ((c.2.2.2.2.1.length:Int)-1)∧IntKind.i64.wrap ((c.2.2.2.2.1.length:Int)-1)<(c.2.2.2.2.1.length:Int))∧
 (IntKind.i64.wrap ((c.2.2.2.2.1.length:Int)-1)).toNat=c.2.2.2.2.1.length-1∧IntKind.i64.wrap (c.1+1)=c.1+1∧AdjPre p c.2.2.1 c.2.2.2.1 (c.2.2.2.2.1.getD (c.2.2.2.2.1.length-1) 0):=by
 simp only[nextBad,Bool.or_eq_false_iff,Bool.not_eq_false',decide_eq_false_iff_not] at h
 obtain⟨hv,h1,h2,h3,h4⟩:=h
 have hvv:=(valid_iff p).1 hv
 rw[i64w (n:=(c.2.2.2.2.1.length:Int)-1) (by omega) (by omega)]
 refine⟨by omega,⟨by omega,by omega⟩,by omega,i64w (by omega) (by omega),hp.1,hp.2.1,hp.2.2.1,hp.2.2.2 _ ?_⟩
 rw[List.getD_eq_getElem?_getD,List.getElem?_eq_getElem (by omega),Option.getD_some]
 exact List.getElem_mem _
theorem RNext.vc :RNext.VC:=by
 intro p c hp
 simp only[imp_self,true_and,Bool.cond_true_left,RValid.fn,ret2,RNext.fn,RAdjust.fn]
 have e:(((((!validFn p||decide (c.1<0))||decide (c.1>16777216))||((c.2.2.2.2.1.length:Int)==0))||decide ((c.2.2.2.2.1.length:Int)>11)))=nextBad p c:=by
  rw[Bool.eq_iff_iff,nextBad]
  generalize validFn p=vb
  cases vb
  ·simp
  ·simp only[Bool.not_true,Bool.false_or,Bool.or_eq_true,decide_eq_true_eq,beq_iff_eq]
   omega
 rw[e]
 refine⟨hp.1,fun hb=> ?_,fun hb=> ?_⟩
 ·rw[nextFn,if_pos hb]
 ·obtain⟨g1,g2,g3,g4,g5⟩:=next_core hp hb
  rw[g3,g4]
  refine⟨g1,fun hm=>⟨g2,g5, ?_⟩,fun hm=> ?_⟩
  ·rw[nextFn,if_neg (by rw[hb];simp),if_pos (by simpa using hm)]
  ·rw[nextFn,if_neg (by rw[hb];simp),if_neg (by simpa using hm)]
def QNext.pre (p:Par)(c:Cx):Prop:=ParOk p∧CxOk c
def QNext.fn (p:Par)(c:Cx):Int×Int:=nextFn p c
def QNext.VC :Prop:=∀(x0:Par) (x1:Cx),QNext.pre x0 x1→QValid.pre x0∧((!(QValid.fn x0))=false→(!(QValid.fn x0))=false)∧((!(QValid.fn x0))=false→(!(QValid.fn x0))=false)∧((!(QValid.fn x0))=false→(!(QValid.fn x0))=false)∧(let v13:Bool:=(bif (!(QValid.fn x0)) then true else(decide (x1.1<(0:Int))))
 (v13=false→v13=false)∧(v13=false→v13=false)∧(v13=false→v13=false)∧((bif v13 then true else(decide (x1.1>(16777216:Int))))=false→(bif v13 then true else(decide (x1.1>(16777216:Int))))=false)∧((bif v13 then true else(decide (x1.1>(16777216:Int))))=false→(bif v13 then true else(decide (x1.1>(16777216:Int))))=false)∧((bif v13 then true else(decide (x1.1>(16777216:Int))))=false→(bif v13 then true else(decide (x1.1>(16777216:Int))))=false)∧((bif v13 then true else(decide (x1.1>(16777216:Int))))=false→(bif v13 then true else(decide (x1.1>(16777216:Int))))=false)∧(let v24:Bool:=(bif (bif v13 then true else(decide (x1.1>(16777216:Int)))) then true else((x1.2.2.2.2.1.length:Int)==(0:Int)))
 (v24=false→v24=false)∧(v24=false→v24=false)∧(v24=false→v24=false)∧(v24=false→v24=false)∧(let v30:Bool:=(bif v24 then true else(decide ((x1.2.2.2.2.1.length:Int)>(11:Int))))
 ((v30=true→(Ret2 (0:Int) (6:Int) (QNext.fn x0 x1)))∧(v30=false→x0.2.2.1≠0∧(let v37:Bool:=((Int.tmod (IntKind.i64.wrap (x1.1+(1:Int))) x0.2.2.1) !=(0:Int))
 ((v37=true→(Ret2 x1.2.2.1 (0:Int) (QNext.fn x0 x1)))∧(v37=false→(0≤(IntKind.i64.wrap ((x1.2.2.2.2.1.length:Int)-(1:Int)))∧(IntKind.i64.wrap ((x1.2.2.2.2.1.length:Int)-(1:Int)))<(x1.2.2.2.2.1.length:Int))∧(let v52:Int:=(x1.2.2.2.2.1.getD (Int.toNat (IntKind.i64.wrap ((x1.2.2.2.2.1.length:Int)-(1:Int)))) (0:Int))
 QAdjust.pre x0 x1.2.2.1 x1.2.2.2.1 v52∧(Ret2 ((QAdjust.fn x0 x1.2.2.1 x1.2.2.2.1 v52).1) ((QAdjust.fn x0 x1.2.2.1 x1.2.2.2.1 v52).2) (QNext.fn x0 x1)))))))))))
theorem QNext.vc :QNext.VC:=by
 intro p c hp
 simp only[imp_self,true_and,Bool.cond_true_left,QValid.fn,ret2,QNext.fn,QAdjust.fn]
 have e:(((((!validFn p||decide (c.1<0))||decide (c.1>16777216))||((c.2.2.2.2.1.length:Int)==0))||decide ((c.2.2.2.2.1.length:Int)>11)))=nextBad p c:=by
  rw[Bool.eq_iff_iff,nextBad]
  generalize validFn p=vb
  cases vb
  ·simp
  ·simp only[Bool.not_true,Bool.false_or,Bool.or_eq_true,decide_eq_true_eq,beq_iff_eq]
   omega
 rw[e]
 refine⟨hp.1,fun hb=> ?_,fun hb=> ?_⟩
 ·rw[nextFn,if_pos hb]
 ·obtain⟨g1,g2,g3,g4,g5⟩:=next_core hp hb
  rw[g3,g4]
  refine⟨g1,fun hm=> ?_,fun hm=>⟨g2,g5, ?_⟩⟩
  ·rw[nextFn,if_neg (by rw[hb];simp),if_neg (by simpa using hm)]
  ·rw[nextFn,if_neg (by rw[hb];simp),if_pos (by simpa using hm)]
end Lc
set_option maxRecDepth 100000
namespace Lc
open Go
def HOk (h:List Int):Prop:=h.length=32∧Bytes h
theorem HOk.zero :HOk (List.replicate 32 0):=⟨by simp,Bytes.zeros 32⟩
theorem U32.zero :U32 0:=⟨by omega,by omega⟩
def HdrOk (h:Hdr):Prop:=U32 h.1∧HOk h.2.1∧HOk h.2.2.1∧U32 h.2.2.2.1∧U32 h.2.2.2.2.1∧U32 h.2.2.2.2.2.1
def beN (l:List Int):Nat:=l.foldl (fun a b=>256*a+b.toNat) 0
theorem beN_snoc (l:List Int)(x:Int):beN (l++[x])=256*beN l+x.toNat:=by simp[beN,List.foldl_append]
theorem beN_lt :∀(n:Nat) (l:List Int),l.length=n→Bytes l→beN l<256^n:=by
 intro n
 induction n with
 |zero=>intro l h _;rw[List.eq_nil_of_length_eq_zero h];decide
 |succ n ih=>
  intro l h hb
  have hne:l≠[]:=by intro e;subst e;simp at h
  have e:=List.dropLast_concat_getLast hne
  rw[←e,beN_snoc,Nat.pow_succ]
  have h1:=ih l.dropLast (by rw[List.length_dropLast];omega) (fun x hx=>hb x (List.dropLast_subset l hx))
  have h2:=hb (l.getLast hne) (List.getLast_mem hne)
  omega
def wpart (h:List Int)(i w:Nat):List Int:=(h.drop (8*(3-w))).take (min 8 (i-8*(3-w)))
def beWords (h:List Int):List Int:=(List.range 4).map (fun w=>((beN (wpart h 32 w):Nat):Int))
theorem wpart_len {h:List Int}(hl:h.length=32)(i:Nat){w:Nat}(hw:w<4):(wpart h i w).length=min 8 (i-8*(3-w)):=by
 simp only[wpart,List.length_take,List.length_drop];omega
theorem wpart_bytes {h:List Int}(hb:Bytes h)(i w:Nat):Bytes (wpart h i w):=(hb.drop _).take _
theorem wpart_step {h:List Int}(hl:h.length=32){i:Nat}(hi:i<32):wpart h (i+1) (3-i/8)=wpart h i (3-i/8)++[h.getD i 0]:=by
 unfold wpart
 have e1:8*(3-(3-i/8))=8*(i/8):=by omega
 rw[e1,show min 8 (i+1-8*(i/8))=i%8+1 by omega,show min 8 (i-8*(i/8))=i%8 by omega,List.take_add_one]
 congr 1
 rw[List.getElem?_drop,show 8*(i/8)+i%8=i by omega,List.getD_eq_getElem?_getD,List.getElem?_eq_getElem (by omega)]
 rfl
theorem wpart_other {h:List Int}{i w:Nat}(hi:i<32)(hw:w<4)(hne:w≠3-i/8):wpart h (i+1) w=wpart h i w:=by
 unfold wpart
 congr 1
 omega
theorem beWords_ok {h:List Int}(hh:HOk h):Ok4 (beWords h):=by
 refine Ok4.of (by simp[beWords]) (fun x hx=> ?_)
 simp only[beWords,List.mem_map,List.mem_range] at hx
 obtain⟨w,hw,rfl⟩:=hx
 have:=beN_lt _ _ (wpart_len hh.1 32 hw) (wpart_bytes hh.2 32 w)
 have h8:min 8 (32-8*(3-w))=8:=by omega
 rw[h8] at this
 omega
theorem map4_getD {f:Nat→Nat}{w:Nat}(hw:w<4):((List.range 4).map (fun w=>((f w:Nat):Int))).getD w 0=((f w:Nat):Int):=by
 simp[List.getD_eq_getElem?_getD,hw]
theorem map4_set {f g:Nat→Nat}{w:Nat}{x:Int}(hw:w<4)(hx:x=((g w:Nat):Int))(ho:∀j,j<4→j≠w→g j=f j):
 ((List.range 4).map (fun w=>((f w:Nat):Int))).set w x=(List.range 4).map (fun w=>((g w:Nat):Int)):=by
 apply ext_getD (by simp)
 intro i hi
 have hi:i<4:=by simpa using hi
 rw[lget_set,map4_getD hi,map4_getD hi]
 by_cases h:w=i
 ·subst h;rw[if_pos ⟨rfl,by simpa using hi⟩,hx]
 ·rw[if_neg (fun h2=>h h2.1),ho i hi (fun e=>h e.symm)]
def WBytes.pre (h:List Int):Prop:=HOk h
def WBytes.fn (h:List Int):List Int:=beWords h
def WBytes.inv3 (h v2 v3:List Int)(i:Int):Prop:=0≤i∧i≤32∧v3=(List.range 4).map (fun w=>((beN (wpart h i.toNat w):Nat):Int))
def WBytes.mes3 (h v2 v3:List Int)(i:Int):Nat:=(32-i).toNat
def WBytes.VC :Prop:=∀(x0:(List Int)),WBytes.pre x0→(WBytes.inv3 x0 (List.replicate 4 (0:Int)) (List.replicate 4 (0:Int)) (0:Int)∧∀(v2:(List Int)) (v3:(List Int)) (v8:Int),WBytes.inv3 x0 v2 v3 v8→(((decide (v8<(32:Int)))=true→(0≤v8∧v8<32)∧(8:Int)≠0∧(let v14:Int:=(IntKind.i64.wrap ((3:Int)-(IntKind.i64.wrap (Int.tdiv v8 (8:Int)))))
 (0≤v14∧v14<4)∧0≤(8:Int)∧(let v22:Int:=(ior .u64 (ishl .u64 (v3.getD (Int.toNat v14) (0:Int)) (8:Int)) (IntKind.u64.wrap (x0.getD (Int.toNat v8) (0:Int))))
 (0≤v14∧v14<4)∧(WBytes.inv3 x0 v2 (v3.set (Int.toNat v14) v22) (IntKind.i64.wrap (v8+(1:Int)))∧WBytes.mes3 x0 v2 (v3.set (Int.toNat v14) v22) (IntKind.i64.wrap (v8+(1:Int)))<WBytes.mes3 x0 v2 v3 v8))))∧((decide (v8<(32:Int)))=false→(Ret1 v3 (WBytes.fn x0)))))
theorem words_start (h:List Int):List.replicate 4 (0:Int)=(List.range 4).map (fun w=>((beN (wpart h 0 w):Nat):Int)):=by
 have:∀w,beN (wpart h 0 w)=0:=fun w=>by simp[wpart,beN]
 simp[this];rfl
theorem WBytes.vc :WBytes.VC:=by
 intro h hh
 refine⟨⟨by omega,by omega,words_start h⟩, ?_⟩
 rintro v2 v3 i ⟨k1,k2,rfl⟩
 refine⟨fun hc=> ?_,fun hc=> ?_⟩
 ·have hc:i<32:=of_decide_eq_true hc
  obtain⟨n,rfl⟩:=Int.eq_ofNat_of_zero_le k1
  have hn:n<32:=by omega
  have e1:Int.tdiv (n:Int) 8=((n/8:Nat):Int):=by rw[Int.tdiv_eq_ediv_of_nonneg (by omega)];omega
  have e2:IntKind.i64.wrap ((n/8:Nat):Int)=((n/8:Nat):Int):=i64w (by omega) (by omega)
  have e3:IntKind.i64.wrap (3-((n/8:Nat):Int))=((3-n/8:Nat):Int):=by rw[i64w (by omega) (by omega)];omega
  have e4:IntKind.i64.wrap ((n:Int)+1)=((n+1:Nat):Int):=by rw[i64w (by omega) (by omega)];omega
  simp only[e1,e2,e3,e4,Int.toNat_natCast,map4_getD (f:=fun w=>beN (wpart h n w)) (show 3-n/8<4 by omega)]
  have hb:=hh.2.getD n
  have hlt:=beN_lt _ _ (wpart_len hh.1 n (show 3-n/8<4 by omega)) (wpart_bytes hh.2 n (3-n/8))
  have h7:min 8 (n-8*(3-(3-n/8)))≤7:=by omega
  have hlt2:beN (wpart h n (3-n/8))<72057594037927936:=Nat.lt_of_lt_of_le hlt (by
   have:=Nat.pow_le_pow_right (show 0<256 by omega) h7
   exact this)
  obtain⟨x,hx⟩:=Int.eq_ofNat_of_zero_le hb.1
  have hor:ior .u64 (ishl .u64 ((beN (wpart h n (3-n/8)):Nat):Int) 8) (IntKind.u64.wrap (h.getD n 0))=((beN (wpart h (n+1) (3-n/8)):Nat):Int):=by
   rw[wpart_step hh.1 hn,beN_snoc,hx,u64w (by omega) (by omega)]
   have s8:ishl .u64 ((beN (wpart h n (3-n/8)):Nat):Int) 8=((beN (wpart h n (3-n/8))*2^8%18446744073709551616:Nat):Int):=shl64 (k:=8) (by omega)
   rw[s8,Nat.mod_eq_of_lt (by omega),or64 (by omega) (by omega),Int.toNat_natCast,Nat.mul_comm _ (2^8),←Nat.two_pow_add_eq_or_of_lt (by omega)]
  rw[hor]
  refine⟨by omega,by omega,by omega,by omega,by omega,⟨by omega,by omega, ?_⟩,by simp only[WBytes.mes3];omega⟩
  rw[Int.toNat_natCast]
  exact map4_set (f:=fun w=>beN (wpart h n w)) (g:=fun w=>beN (wpart h (n+1) w)) (by omega) rfl (fun j hj hne=>by rw[wpart_other hn hj hne])
 ·have hc:¬i<32:=of_decide_eq_false hc
  rw[ret1,show i.toNat=32 by omega];rfl
def QBytes.pre (h:List Int):Prop:=HOk h
def QBytes.fn (h:List Int):List Int:=beWords h
def qword (h:List Int)(i w:Nat):Nat:=beN (wpart h i w)*2^(8*(8-min 8 (i-8*(3-w))))
def QBytes.inv3 (h v2 v3:List Int)(i:Int):Prop:=0≤i∧i≤32∧v3=(List.range 4).map (fun w=>((qword h i.toNat w:Nat):Int))
def QBytes.mes3 (h v2 v3:List Int)(i:Int):Nat:=(32-i).toNat
def QBytes.VC :Prop:=∀(x0:(List Int)),QBytes.pre x0→(QBytes.inv3 x0 (List.replicate 4 (0:Int)) (List.replicate 4 (0:Int)) (0:Int)∧∀(v2:(List Int)) (v3:(List Int)) (v6:Int),QBytes.inv3 x0 v2 v3 v6→(((decide (v6<(32:Int)))=true→(8:Int)≠0∧(let v12:Int:=(IntKind.i64.wrap (Int.tdiv (IntKind.i64.wrap ((31:Int)-v6)) (8:Int)))
 (0≤v12∧v12<4)∧(0≤v6∧v6<32)∧(8:Int)≠0∧(let v21:Int:=(IntKind.i64.wrap ((8:Int)*(Int.tmod (IntKind.i64.wrap ((31:Int)-v6)) (8:Int))))
 0≤v21∧(let v22:Int:=(ishl .u64 (IntKind.u64.wrap (x0.getD (Int.toNat v6) (0:Int))) v21)
 (0≤v12∧v12<4)∧(let v3_1h:(List Int):=(v3.set (Int.toNat v12) (ior .u64 (v3.getD (Int.toNat v12) (0:Int)) v22))
 (QBytes.inv3 x0 v2 v3_1h (IntKind.i64.wrap (v6+(1:Int)))∧QBytes.mes3 x0 v2 v3_1h (IntKind.i64.wrap (v6+(1:Int)))<QBytes.mes3 x0 v2 v3 v6))))))∧((decide (v6<(32:Int)))=false→(Ret1 v3 (QBytes.fn x0)))))
theorem qword_zero (h:List Int)(w:Nat):qword h 0 w=0:=by simp[qword,wpart,beN]
theorem QBytes.vc :QBytes.VC:=by
 intro h hh
 refine⟨⟨by omega,by omega,by simp[qword_zero];rfl⟩, ?_⟩
 rintro v2 v3 i ⟨k1,k2,rfl⟩
 refine⟨fun hc=> ?_,fun hc=> ?_⟩
 ·have hc:i<32:=of_decide_eq_true hc
  obtain⟨n,rfl⟩:=Int.eq_ofNat_of_zero_le k1
  have hn:n<32:=by omega
  have e0:IntKind.i64.wrap (31-(n:Int))=((31-n:Nat):Int):=by rw[i64w (by omega) (by omega)];omega
  have e1:Int.tdiv ((31-n:Nat):Int) 8=((3-n/8:Nat):Int):=by rw[Int.tdiv_eq_ediv_of_nonneg (by omega)];omega
  have e2:IntKind.i64.wrap ((3-n/8:Nat):Int)=((3-n/8:Nat):Int):=i64w (by omega) (by omega)
  have e3:Int.tmod ((31-n:Nat):Int) 8=((7-n%8:Nat):Int):=by rw[Int.tmod_eq_emod_of_nonneg (by omega)];omega
  have e5:IntKind.i64.wrap (8*((7-n%8:Nat):Int))=((8*(7-n%8):Nat):Int):=by rw[i64w (by omega) (by omega)];omega
  have e4:IntKind.i64.wrap ((n:Int)+1)=((n+1:Nat):Int):=by rw[i64w (by omega) (by omega)];omega
  simp only[e0,e1,e2,e3,e4,e5,Int.toNat_natCast,map4_getD (f:=fun w=>qword h n w) (show 3-n/8<4 by omega)]
  have hb:=hh.2.getD n
  have hlt:=beN_lt _ _ (wpart_len hh.1 n (show 3-n/8<4 by omega)) (wpart_bytes hh.2 n (3-n/8))
  have hmin:min 8 (n-8*(3-(3-n/8)))=n%8:=by omega
  have hmin2:min 8 (n+1-8*(3-(3-n/8)))=n%8+1:=by omega
  rw[hmin] at hlt
  obtain⟨x,hx⟩:=Int.eq_ofNat_of_zero_le hb.1
  have hr:n%8<8:=Nat.mod_lt _ (by omega)
  have hor:ior .u64 ((qword h n (3-n/8):Nat):Int) (ishl .u64 (IntKind.u64.wrap (h.getD n 0)) ((8*(7-n%8):Nat):Int))=((qword h (n+1) (3-n/8):Nat):Int):=by
   unfold qword
   rw[wpart_step hh.1 hn,beN_snoc,hx,u64w (by omega) (by omega),hmin,hmin2,Int.toNat_natCast,shl64 (by omega)]
   generalize hB:beN (wpart h n (3-n/8))=B at*
   generalize n%8=r at*
   have hx256:x<256:=by omega
   have hxs:x*2^(8*(7-r))<2^(8*(8-r)):=by
    rw[show 8*(8-r)=8+8*(7-r) by omega,Nat.pow_add]
    exact Nat.mul_lt_mul_of_pos_right hx256 (Nat.two_pow_pos _)
   have hBs:B*2^(8*(8-r))<18446744073709551616:=by
    have h1:B<2^(8*r):=by rw[Nat.pow_mul];exact hlt
    have h2:=Nat.mul_lt_mul_of_pos_right h1 (Nat.two_pow_pos (8*(8-r)))
    rw[←Nat.pow_add,show 8*r+8*(8-r)=64 by omega] at h2
    exact h2
   have hx64:x*2^(8*(7-r))<18446744073709551616:=by
    refine Nat.lt_of_lt_of_le hxs ?_
    exact Nat.pow_le_pow_right (by omega) (show 8*(8-r)≤64 by omega)
   rw[Nat.mod_eq_of_lt hx64,or64 hBs hx64,Nat.mul_comm B,←Nat.two_pow_add_eq_or_of_lt hxs]
   congr 1
   rw[show 8-(r+1)=7-r by omega,show 8*(8-r)=8+8*(7-r) by omega,Nat.pow_add,Nat.add_mul,show(2:Nat)^8=256 from rfl]
   rw[Nat.mul_assoc,Nat.mul_comm (2^(8*(7-r))) B,←Nat.mul_assoc]
  rw[hor]
  refine⟨by omega,by omega,by omega,by omega,by omega,by omega,⟨by omega,by omega, ?_⟩,by simp only[QBytes.mes3];omega⟩
  rw[Int.toNat_natCast]
  refine map4_set (f:=fun w=>qword h n w) (g:=fun w=>qword h (n+1) w) (by omega) rfl (fun j hj hne=> ?_)
  simp only[qword]
  rw[wpart_other hn hj hne]
  congr 2
  omega
 ·have hc:¬i<32:=of_decide_eq_false hc
  rw[ret1,show i.toNat=32 by omega,QBytes.fn,beWords]
  apply List.map_congr_left
  intro w hw
  have hw:w<4:=by simpa using hw
  simp only[qword]
  rw[show min 8 (32-8*(3-w))=8 by omega];simp
def meetsFn (h:List Int)(bits:Int):Bool:=decide (expandN bits.toNat≠0)&&decide (N4 (beWords h)≤expandN bits.toNat)
def TMeets.pre (h:List Int)(bits:Int):Prop:=HOk h∧U32 bits
def TMeets.fn (h:List Int)(bits:Int):Bool:=meetsFn h bits
def TMeets.VC :Prop:=∀(x0:(List Int)) (x1:Int),TMeets.pre x0 x1→TExpand.pre x1∧(((TExpand.fn x1).2==(0:Int))=true→((TExpand.fn x1).2==(0:Int))=true)∧(((TExpand.fn x1).2==(0:Int))=true→WBytes.pre x0)∧(((TExpand.fn x1).2==(0:Int))=true→((TExpand.fn x1).2==(0:Int))=true)∧(((TExpand.fn x1).2==(0:Int))=true→((TExpand.fn x1).2==(0:Int))=true)∧(((TExpand.fn x1).2==(0:Int))=true→WCmp.pre (WBytes.fn x0) ((TExpand.fn x1).1))∧(((TExpand.fn x1).2==(0:Int))=true→((TExpand.fn x1).2==(0:Int))=true)∧(((TExpand.fn x1).2==(0:Int))=true→((TExpand.fn x1).2==(0:Int))=true)∧(let v20:Bool:=(bif ((TExpand.fn x1).2==(0:Int)) then(decide ((WCmp.fn (WBytes.fn x0) ((TExpand.fn x1).1))≤(0:Int))) else false)
 (Ret1 v20 (TMeets.fn x0 x1)))
theorem TMeets.vc :TMeets.VC:=by
 intro h bits ⟨h1,h2⟩
 obtain⟨q1,q2⟩:=expand1 h2
 simp only[imp_self,true_and,TExpand.fn,WCmp.fn,WBytes.fn,expand2,Bool.cond_false_right,q2,cmp_le]
 exact⟨h2,fun _=>h1,fun _=>⟨beWords_ok h1,q1⟩,ret1.2 rfl⟩
def QMeets.pre (h:List Int)(bits:Int):Prop:=HOk h∧U32 bits
def QMeets.fn (h:List Int)(bits:Int):Bool:=meetsFn h bits
def QMeets.VC :Prop:=∀(x0:(List Int)) (x1:Int),QMeets.pre x0 x1→QExpand.pre x1∧(((QExpand.fn x1).2==(0:Int))=true→((QExpand.fn x1).2==(0:Int))=true)∧(((QExpand.fn x1).2==(0:Int))=true→QBytes.pre x0)∧(((QExpand.fn x1).2==(0:Int))=true→((QExpand.fn x1).2==(0:Int))=true)∧(((QExpand.fn x1).2==(0:Int))=true→((QExpand.fn x1).2==(0:Int))=true)∧(((QExpand.fn x1).2==(0:Int))=true→QCmp.pre (QBytes.fn x0) ((QExpand.fn x1).1))∧(((QExpand.fn x1).2==(0:Int))=true→((QExpand.fn x1).2==(0:Int))=true)∧(((QExpand.fn x1).2==(0:Int))=true→((QExpand.fn x1).2==(0:Int))=true)∧(let v20:Bool:=(bif ((QExpand.fn x1).2==(0:Int)) then(decide ((QCmp.fn (QBytes.fn x0) ((QExpand.fn x1).1))≤(0:Int))) else false)
 (Ret1 v20 (QMeets.fn x0 x1)))
theorem QMeets.vc :QMeets.VC:=by
 intro h bits ⟨h1,h2⟩
 obtain⟨q1,q2⟩:=expand1 h2
 simp only[imp_self,true_and,QExpand.fn,QCmp.fn,QBytes.fn,expand2,Bool.cond_false_right,q2,cmp_le]
 exact⟨h2,fun _=>h1,fun _=>⟨beWords_ok h1,q1⟩,ret1.2 rfl⟩
def CExt.pre (a b:List Int):Prop:=a.length+b.length≤500000000
def CExt.fn (a b:List Int):List Int:=a++b
def CExt.VC :Prop:=∀(x0:(List Int)) (x1:(List Int)),CExt.pre x0 x1→(0≤(0:Int)∧(0:Int)≤(IntKind.i64.wrap ((x0.length:Int)+(x1.length:Int))))∧Room ((IntKind.i64.wrap ((x0.length:Int)+(x1.length:Int)))).toNat 1∧Room ((List.replicate ((0:Int)).toNat (0:Int)).length+x0.length) 1∧Room (((List.replicate ((0:Int)).toNat (0:Int))++x0).length+x1.length) 1∧(Ret1 (((List.replicate ((0:Int)).toNat (0:Int))++x0)++x1) (CExt.fn x0 x1))
theorem CExt.vc :CExt.VC:=by
 intro a b h
 have h:a.length+b.length≤500000000:=h
 rw[i64w (by omega) (by omega)]
 refine⟨by omega,room_of (by omega) (by omega),room_of (by simp;omega) (by omega),room_of (by simp;omega) (by omega), ?_⟩
 simp[Ret1,CExt.fn]
def Joined.pre (a b:List Int):Prop:=a.length+b.length≤500000000
def Joined.fn (a b:List Int):List Int:=a++b
def Joined.VC :Prop:=∀(x0:(List Int)) (x1:(List Int)),Joined.pre x0 x1→(0≤(0:Int)∧(0:Int)≤(IntKind.i64.wrap ((x0.length:Int)+(x1.length:Int))))∧Room ((IntKind.i64.wrap ((x0.length:Int)+(x1.length:Int)))).toNat 1∧Room ((List.replicate ((0:Int)).toNat (0:Int)).length+x0.length) 1∧Room (((List.replicate ((0:Int)).toNat (0:Int))++x0).length+x1.length) 1∧(Ret1 (((List.replicate ((0:Int)).toNat (0:Int))++x0)++x1) (Joined.fn x0 x1))
theorem Joined.vc :Joined.VC:=CExt.vc
def lows (n k:Nat):List Int:=(List.range k).map (fun i=>((n/2^(8*i)%256:Nat):Int))
theorem lows_len (n k:Nat):(lows n k).length=k:=by simp[lows]
theorem lows_get (n:Nat){k i:Nat}(h:i<k):(lows n k).getD i 0=((n/2^(8*i)%256:Nat):Int):=by simp[lows,List.getD_eq_getElem?_getD,h]
theorem lows_bytes (n k:Nat):Bytes (lows n k):=by
 intro x hx
 simp only[lows,List.mem_map] at hx
 obtain⟨i,_,rfl⟩:=hx
 omega
def CLow.pre (n k:Int):Prop:=W64 n∧0≤k∧k≤8
def CLow.fn (n k:Int):List Int:=lows n.toNat k.toNat
def CLow.inv3 (n k:Int)(v:List Int)(i:Int):Prop:=0≤i∧i≤k∧v=mix (lows n.toNat k.toNat) (List.replicate k.toNat 0) i.toNat
def CLow.mes3 (n k:Int)(v:List Int)(i:Int):Nat:=(k-i).toNat
def CLow.VC :Prop:=∀(x0:Int) (x1:Int),CLow.pre x0 x1→(0≤x1∧x1≤x1)∧Room (x1).toNat 1∧(CLow.inv3 x0 x1 (List.replicate (x1).toNat (0:Int)) (0:Int)∧∀(v5:(List Int)) (v10:Int),CLow.inv3 x0 x1 v5 v10→(((decide (v10<x1))=true→0≤(IntKind.i64.wrap ((8:Int)*v10))∧(let v19:Int:=(IntKind.u8.wrap (ishr .u64 x0 (IntKind.i64.wrap ((8:Int)*v10))))
 (0≤v10∧v10<(v5.length:Int))∧(CLow.inv3 x0 x1 (v5.set (Int.toNat v10) v19) (IntKind.i64.wrap (v10+(1:Int)))∧CLow.mes3 x0 x1 (v5.set (Int.toNat v10) v19) (IntKind.i64.wrap (v10+(1:Int)))<CLow.mes3 x0 x1 v5 v10)))∧((decide (v10<x1))=false→(Ret1 v5 (CLow.fn x0 x1)))))
theorem low_step {n k:Int}(hn:W64 n)(hk:0≤k∧k≤8){i:Int}(hi:0≤i)(hik:i<k):
 0≤IntKind.i64.wrap (8*i)∧(mix (lows n.toNat k.toNat) (List.replicate k.toNat 0) i.toNat).set i.toNat (IntKind.u8.wrap (ishr .u64 n (IntKind.i64.wrap (8*i))))=mix (lows n.toNat k.toNat) (List.replicate k.toNat 0) (i+1).toNat∧
 (mix (lows n.toNat k.toNat) (List.replicate k.toNat 0) i.toNat).length=k.toNat:=by
 obtain⟨m,hm,rfl⟩:=W64.nat hn
 have hl:(lows m k.toNat).length=(List.replicate k.toNat (0:Int)).length:=by rw[lows_len,List.length_replicate]
 have e1:IntKind.i64.wrap (8*i)=((8*i.toNat:Nat):Int):=by rw[i64w (by omega) (by omega)];omega
 rw[e1]
 refine⟨by omega, ?_,by rw[Int.toNat_natCast,mix_len hl,lows_len]⟩
 rw[shr64 (by omega),Int.toNat_natCast,mix_set hl (by rw[lows_len];omega),show(i+1).toNat=i.toNat+1 by omega]
 rw[lows_get m (by omega),u8m]
 omega
theorem CLow.vc :CLow.VC:=by
 intro n k ⟨hn,hk0,hk8⟩
 refine⟨⟨hk0,by omega⟩,room_of (by omega) (by omega),⟨by omega,hk0,by rw[Int.toNat_zero,mix_zero]⟩, ?_⟩
 rintro v i ⟨k1,k2,rfl⟩
 refine⟨fun hc=> ?_,fun hc=> ?_⟩
 ·have hc:i<k:=of_decide_eq_true hc
  obtain⟨s1,s2,s3⟩:=low_step hn ⟨hk0,hk8⟩ k1 hc
  simp only[s2,s3,i64w (n:=i+1) (by omega) (by omega)]
  exact⟨s1,⟨k1,by omega⟩,⟨by omega,by omega,rfl⟩,by simp only[CLow.mes3];omega⟩
 ·have hc:¬i<k:=of_decide_eq_false hc
  rw[ret1,show i.toNat=k.toNat by omega,mix_all (by rw[lows_len];omega) (by rw[List.length_replicate];omega)];rfl
def RLit.pre (n k:Int):Prop:=W64 n∧0≤k∧k≤8
def RLit.fn (n k:Int):List Int:=lows n.toNat k.toNat
def RLit.inv3 (n k:Int)(v:List Int)(i:Int):Prop:=0≤i∧i≤k∧v=mix (lows n.toNat k.toNat) (List.replicate k.toNat 0) i.toNat
def RLit.mes3 (n k:Int)(v:List Int)(i:Int):Nat:=(k-i).toNat
def RLit.VC :Prop:=∀(x0:Int) (x1:Int),RLit.pre x0 x1→(0≤x1∧x1≤x1)∧Room (x1).toNat 1∧(RLit.inv3 x0 x1 (List.replicate (x1).toNat (0:Int)) (0:Int)∧∀(v5:(List Int)) (v11:Int),RLit.inv3 x0 x1 v5 v11→(let v12:Bool:=(decide (v11<((List.replicate (x1).toNat (0:Int)).length:Int)))
 ((v12=true→0≤(IntKind.i64.wrap ((8:Int)*v11))∧(let v20:Int:=(IntKind.u8.wrap (ishr .u64 x0 (IntKind.i64.wrap ((8:Int)*v11))))
 (0≤v11∧v11<(v5.length:Int))∧(RLit.inv3 x0 x1 (v5.set (Int.toNat v11) v20) (IntKind.i64.wrap (v11+(1:Int)))∧RLit.mes3 x0 x1 (v5.set (Int.toNat v11) v20) (IntKind.i64.wrap (v11+(1:Int)))<RLit.mes3 x0 x1 v5 v11)))∧(v12=false→(Ret1 v5 (RLit.fn x0 x1))))))
theorem RLit.vc :RLit.VC:=by
 intro n k ⟨hn,hk0,hk8⟩
 simp only[List.length_replicate]
 refine⟨⟨hk0,by omega⟩,room_of (by omega) (by omega),⟨by omega,hk0,by rw[Int.toNat_zero,mix_zero]⟩, ?_⟩
 rintro v i ⟨k1,k2,rfl⟩
 refine⟨fun hc=> ?_,fun hc=> ?_⟩
 ·have hc:=of_decide_eq_true hc
  have hc:i<k:=by omega
  obtain⟨s1,s2,s3⟩:=low_step hn ⟨hk0,hk8⟩ k1 hc
  simp only[s2,s3,i64w (n:=i+1) (by omega) (by omega)]
  exact⟨s1,⟨k1,by omega⟩,⟨by omega,by omega,rfl⟩,by simp only[RLit.mes3];omega⟩
 ·have hc:=of_decide_eq_false hc
  rw[ret1,show i.toNat=k.toNat by omega,mix_all (by rw[lows_len];omega) (by rw[List.length_replicate];omega)];rfl
def le4 (x:Int):List Int:=lows x.toNat 4
theorem le4_len (x:Int):(le4 x).length=4:=lows_len _ _
theorem le4_bytes (x:Int):Bytes (le4 x):=lows_bytes _ _
def CU32.pre (b:List Int)(n:Int):Prop:=b.length≤400000000∧U32 n
def CU32.fn (b:List Int)(n:Int):List Int:=b++le4 n
def CU32.VC :Prop:=∀(x0:(List Int)) (x1:Int),CU32.pre x0 x1→CLow.pre (IntKind.u64.wrap x1) (4:Int)∧CExt.pre x0 (CLow.fn (IntKind.u64.wrap x1) (4:Int))∧(Ret1 (CExt.fn x0 (CLow.fn (IntKind.u64.wrap x1) (4:Int))) (CU32.fn x0 x1))
theorem CU32.vc :CU32.VC:=by
 intro b n ⟨h1,h2⟩
 have e:IntKind.u64.wrap n=n:=u64w h2.1 (by have:=h2.2;omega)
 rw[e]
 have hl:(CLow.fn n 4).length=4:=lows_len _ _
 exact⟨⟨⟨h2.1,by have:=h2.2;omega⟩,by omega,by omega⟩,by show _+_≤_;omega,rfl⟩
def RU32.pre (b:List Int)(n:Int):Prop:=b.length≤400000000∧U32 n
def RU32.fn (b:List Int)(n:Int):List Int:=b++le4 n
def RU32.VC :Prop:=∀(x0:(List Int)) (x1:Int),RU32.pre x0 x1→RLit.pre (IntKind.u64.wrap x1) (4:Int)∧Joined.pre x0 (RLit.fn (IntKind.u64.wrap x1) (4:Int))∧(Ret1 (Joined.fn x0 (RLit.fn (IntKind.u64.wrap x1) (4:Int))) (RU32.fn x0 x1))
theorem RU32.vc :RU32.VC:=by
 intro b n ⟨h1,h2⟩
 have e:IntKind.u64.wrap n=n:=u64w h2.1 (by have:=h2.2;omega)
 rw[e]
 have hl:(RLit.fn n 4).length=4:=lows_len _ _
 exact⟨⟨⟨h2.1,by have:=h2.2;omega⟩,by omega,by omega⟩,by show _+_≤_;omega,rfl⟩
def CHash.pre (b h:List Int):Prop:=b.length≤400000000∧HOk h
def CHash.fn (b h:List Int):List Int:=b++h
def CHash.VC :Prop:=∀(x0:(List Int)) (x1:(List Int)),CHash.pre x0 x1→CExt.pre x0 x1∧(Ret1 (CExt.fn x0 x1) (CHash.fn x0 x1))
theorem CHash.vc :CHash.VC:=by
 intro b h ⟨h1,h2⟩
 exact⟨by have:=h2.1;show _+_≤_;omega,rfl⟩
def RHash.pre (b h:List Int):Prop:=b.length≤400000000∧HOk h
def RHash.fn (b h:List Int):List Int:=b++h
def RHash.VC :Prop:=∀(x0:(List Int)) (x1:(List Int)),RHash.pre x0 x1→Joined.pre x0 x1∧(Ret1 (Joined.fn x0 x1) (RHash.fn x0 x1))
theorem RHash.vc :RHash.VC:=by
 intro b h ⟨h1,h2⟩
 exact⟨by have:=h2.1;show _+_≤_;omega,rfl⟩
def encB (h:Hdr):List Int:=le4 h.1++h.2.1++h.2.2.1
def encH (h:Hdr):List Int:=encB h++le4 h.2.2.2.1++le4 h.2.2.2.2.1++le4 h.2.2.2.2.2.1
theorem encB_len {h:Hdr}(hh:HdrOk h):(encB h).length=68:=by
 simp only[encB,List.length_append,le4_len,hh.2.1.1,hh.2.2.1.1]
theorem encH_len {h:Hdr}(hh:HdrOk h):(encH h).length=80:=by
 simp only[encH,List.length_append,le4_len,encB_len hh]
theorem encH_bytes {h:Hdr}(hh:HdrOk h):Bytes (encH h):=
 ((((le4_bytes _).append hh.2.1.2).append hh.2.2.1.2).append (le4_bytes _)).append (le4_bytes _)|>.append (le4_bytes _)
noncomputable def hashH (h:Hdr):List Int:=sum (sum (encH h))
theorem hashH_ok (h:Hdr):HOk (hashH h):=⟨sum_len _,sum_bytes _⟩
def BEnc.pre (h:Hdr):Prop:=HdrOk h
def BEnc.fn (h:Hdr):List Int:=encH h
def BEnc.VC :Prop:=∀(x0:Hdr),BEnc.pre x0→CU32.pre [] x0.1∧CHash.pre (CU32.fn [] x0.1) x0.2.1∧CHash.pre (CHash.fn (CU32.fn [] x0.1) x0.2.1) x0.2.2.1∧CU32.pre (CHash.fn (CHash.fn (CU32.fn [] x0.1) x0.2.1) x0.2.2.1) x0.2.2.2.1∧(let v18h:(List Int):=(CU32.fn (CHash.fn (CHash.fn (CU32.fn [] x0.1) x0.2.1) x0.2.2.1) x0.2.2.2.1)
 CU32.pre v18h x0.2.2.2.2.1∧CU32.pre (CU32.fn v18h x0.2.2.2.2.1) x0.2.2.2.2.2.1∧(Ret1 (CU32.fn (CU32.fn v18h x0.2.2.2.2.1) x0.2.2.2.2.2.1) (BEnc.fn x0)))
theorem BEnc.vc :BEnc.VC:=by
 intro h hh
 have l1:=encB_len hh
 have e0:CU32.fn [] h.1=le4 h.1:=rfl
 have e1:CHash.fn (CHash.fn (le4 h.1) h.2.1) h.2.2.1=encB h:=rfl
 rw[e0,e1]
 refine⟨⟨by simp,hh.1⟩,⟨by rw[le4_len];omega,hh.2.1⟩,⟨by simp only[CHash.fn,List.length_append,le4_len,hh.2.1.1];omega,hh.2.2.1⟩,⟨by omega,hh.2.2.2.1⟩,⟨?_,hh.2.2.2.2.1⟩,⟨?_,hh.2.2.2.2.2⟩,rfl⟩
 ·simp only[CU32.fn,List.length_append,le4_len,l1];omega
 ·simp only[CU32.fn,List.length_append,le4_len,l1];omega
noncomputable def BHash.fn (h:Hdr):List Int:=hashH h
def BHash.pre (h:Hdr):Prop:=HdrOk h
def BHash.VC :Prop:=∀(x0:Hdr),BHash.pre x0→BEnc.pre x0∧ShaDouble.pre (BEnc.fn x0)∧(Ret1 (ShaDouble.fn (BEnc.fn x0)) (BHash.fn x0))
theorem encH_sum {h:Hdr}(hh:HdrOk h):SumOk (encH h):=⟨by rw[encH_len hh];omega,encH_bytes hh⟩
theorem BHash.vc :BHash.VC:=fun h hh=>⟨hh,encH_sum hh,rfl⟩
def REnc.pre (h:Hdr):Prop:=HdrOk h
def REnc.fn (h:Hdr):List Int:=encH h
def REnc.inv4 (h:Hdr)(v:List Int)(i:Int):Prop:=0≤i∧i≤3∧v=encB h++(([h.2.2.2.1,h.2.2.2.2.1,h.2.2.2.2.2.1].take i.toNat).map le4).flatten
def REnc.mes4 (h:Hdr)(v:List Int)(i:Int):Nat:=(3-i).toNat
def REnc.VC :Prop:=∀(x0:Hdr),REnc.pre x0→RU32.pre [] x0.1∧RHash.pre (RU32.fn [] x0.1) x0.2.1∧RHash.pre (RHash.fn (RU32.fn [] x0.1) x0.2.1) x0.2.2.1∧(REnc.inv4 x0 (RHash.fn (RHash.fn (RU32.fn [] x0.1) x0.2.1) x0.2.2.1) (0:Int)∧∀(v3:(List Int)) (v24:Int),REnc.inv4 x0 v3 v24→(let v25:Bool:=(decide (v24<([x0.2.2.2.1,x0.2.2.2.2.1,x0.2.2.2.2.2.1].length:Int)))
 ((v25=true→(0≤v24∧v24<([x0.2.2.2.1,x0.2.2.2.2.1,x0.2.2.2.2.2.1].length:Int))∧(let v27:Int:=([x0.2.2.2.1,x0.2.2.2.2.1,x0.2.2.2.2.2.1].getD (Int.toNat v24) (0:Int))
 RU32.pre v3 v27∧(REnc.inv4 x0 (RU32.fn v3 v27) (IntKind.i64.wrap (v24+(1:Int)))∧REnc.mes4 x0 (RU32.fn v3 v27) (IntKind.i64.wrap (v24+(1:Int)))<REnc.mes4 x0 v3 v24)))∧(v25=false→(Ret1 v3 (REnc.fn x0))))))
theorem REnc.vc :REnc.VC:=by
 intro h hh
 have l1:=encB_len hh
 have e0:RU32.fn [] h.1=le4 h.1:=rfl
 have e1:RHash.fn (RHash.fn (le4 h.1) h.2.1) h.2.2.1=encB h:=rfl
 rw[e0,e1]
 refine⟨⟨by simp,hh.1⟩,⟨by rw[le4_len];omega,hh.2.1⟩,⟨by simp only[RHash.fn,List.length_append,le4_len,hh.2.1.1];omega,hh.2.2.1⟩,⟨by omega,by omega,by simp⟩, ?_⟩
 rintro v i ⟨k1,k2,rfl⟩
 refine⟨fun hc=> ?_,fun hc=> ?_⟩
 ·have hc:i<3:=of_decide_eq_true hc
  rw[i64w (by omega) (by omega)]
  have hcase:i=0∨i=1∨i=2:=by omega
  rcases hcase with rfl|rfl|rfl
  ·exact⟨⟨by omega,by simp⟩,⟨by simp[l1],hh.2.2.2.1⟩,⟨by omega,by omega,by simp[RU32.fn]⟩,by simp only[REnc.mes4];omega⟩
  ·exact⟨⟨by omega,by simp⟩,⟨by simp[l1,le4_len],hh.2.2.2.2.1⟩,⟨by omega,by omega,by simp[RU32.fn]⟩,by simp only[REnc.mes4];omega⟩
  ·exact⟨⟨by omega,by simp⟩,⟨by simp[l1,le4_len],hh.2.2.2.2.2⟩,⟨by omega,by omega,by simp[RU32.fn]⟩,by simp only[REnc.mes4];omega⟩
 ·have hc:¬i<3:=of_decide_eq_false hc
  have:i=3:=by omega
  subst this
  rw[ret1];simp[REnc.fn,encH]
noncomputable def RHdr.fn (h:Hdr):List Int:=hashH h
def RHdr.pre (h:Hdr):Prop:=HdrOk h
def RHdr.VC :Prop:=∀(x0:Hdr),RHdr.pre x0→REnc.pre x0∧RefDouble.pre (REnc.fn x0)∧(Ret1 (RefDouble.fn (REnc.fn x0)) (RHdr.fn x0))
theorem RHdr.vc :RHdr.VC:=fun h hh=>⟨hh,encH_sum hh,rfl⟩
end Lc
