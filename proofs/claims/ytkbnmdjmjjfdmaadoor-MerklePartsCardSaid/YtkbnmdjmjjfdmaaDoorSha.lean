/- SHA-256: the functions of the program and of the reference as plain functions, and the proofs of their conditions. -/
import Derived.Test.YtkbnmdjmjjfdmaaDoorBase
set_option linter.unusedVariables false
set_option linter.unusedSimpArgs false
namespace Lc
open Go
def ShaK :List Int:=[1116352408,1899447441,3049323471,3921009573,961987163,1508970993,2453635748,2870763221,3624381080,310598401,607225278,1426881987,1925078388,2162078206,2614888103,3248222580,3835390401,4022224774,264347078,604807628,770255983,1249150122,1555081692,1996064986,2554220882,2821834349,2952996808,3210313671,3336571891,3584528711,113926993,338241895,666307205,773529912,1294757372,1396182291,1695183700,1986661051,2177026350,2456956037,2730485921,2820302411,3259730800,3345764771,3516065817,3600352804,4094571909,275423344,430227734,506948616,659060556,883997877,958139571,1322822218,1537002063,1747873779,1955562222,2024104815,2227730452,2361852424,2428436474,2756734187,3204031479,3329325298]
def ShaInitial :List Int:=[1779033703,3144134277,1013904242,2773480762,1359893119,2600822924,528734635,1541459225]
def RotL.pre (x n:Int):Prop:=True
def RotL.fn (x n:Int):Int:=ior .u32 (ishl .u32 x (iand .u64 (IntKind.u64.wrap n) 31)) (ishr .u32 x (IntKind.u64.wrap (32-iand .u64 (IntKind.u64.wrap n) 31)))
def RotL.VC :Prop:=∀(x0:Int) (x1:Int),RotL.pre x0 x1→
 0≤(iand .u64 (IntKind.u64.wrap x1) (31:Int))∧
 (let v14:Int:=(IntKind.u64.wrap ((32:Int)-(iand .u64 (IntKind.u64.wrap x1) (31:Int))))
 0≤v14∧
 (let v16:Int:=(ior .u32 (ishl .u32 x0 (iand .u64 (IntKind.u64.wrap x1) (31:Int))) (ishr .u32 x0 v14))
 (Ret1 v16 (RotL.fn x0 x1))))
theorem iand_u64_pos (a b:Int):0≤iand .u64 a b:=(u64r _).1
theorem RotL.vc :RotL.VC:=fun _ _ _=>⟨iand_u64_pos _ _,(u64r _).1,rfl⟩
def ShaRotr.pre (x n:Int):Prop:=True
def ShaRotr.fn (x n:Int):Int:=RotL.fn x (IntKind.i64.wrap (0-n))
def ShaRotr.VC :Prop:=∀(x0:Int) (x1:Int),ShaRotr.pre x0 x1→
 RotL.pre x0 (IntKind.i64.wrap (0-x1))∧
 (Ret1 (RotL.fn x0 (IntKind.i64.wrap (0-x1))) (ShaRotr.fn x0 x1))
theorem ShaRotr.vc :ShaRotr.VC:=fun _ _ _=>⟨trivial,rfl⟩
def RefRotr.pre (x n:Int):Prop:=True
def RefRotr.fn (x n:Int):Int:=ShaRotr.fn x n
def RefRotr.VC :Prop:=∀(x0:Int) (x1:Int),RefRotr.pre x0 x1→
 RotL.pre x0 (IntKind.i64.wrap (0-x1))∧
 (Ret1 (RotL.fn x0 (IntKind.i64.wrap (0-x1))) (RefRotr.fn x0 x1))
theorem RefRotr.vc :RefRotr.VC:=fun _ _ _=>⟨trivial,rfl⟩
def word4 (x:List Int)(i:Int):Int:=16777216*x.getD (4*i).toNat 0+65536*x.getD (4*i+1).toNat 0+256*x.getD (4*i+2).toNat 0+x.getD (4*i+3).toNat 0
def wordsA (x:List Int):List Int:=(List.range 16).map (fun(i:Nat)=>word4 x (i:Int))++List.replicate 48 0
theorem wordsA_len (x:List Int):(wordsA x).length=64:=by simp[wordsA]
theorem wordsA_get (x:List Int){i:Int}(h:0≤i)(h2:i<16):(wordsA x).getD i.toNat 0=word4 x i:=by
 simp only[wordsA,List.getD_eq_getElem?_getD]
 rw[List.getElem?_append_left (by simp;omega),List.getElem?_map,List.getElem?_range (by omega)]
 simp[Int.toNat_of_nonneg h]
def sig0 (x:Int):Int:=ixor .u32 (ixor .u32 (ShaRotr.fn x 7) (ShaRotr.fn x 18)) (ishr .u32 x 3)
def sig1 (x:Int):Int:=ixor .u32 (ixor .u32 (ShaRotr.fn x 17) (ShaRotr.fn x 19)) (ishr .u32 x 10)
def schedW (w:List Int)(i:Int):Int:=IntKind.u32.wrap (IntKind.u32.wrap (IntKind.u32.wrap (w.getD (i-16).toNat 0+sig0 (w.getD (i-15).toNat 0))+w.getD (i-7).toNat 0)+sig1 (w.getD (i-2).toNat 0))
def schedB (i:Int)(w:List Int):List Int:=w.set i.toNat (schedW w i)
def midA (x:List Int)(i:Int):List Int:=mix (wordsA x) (List.replicate 64 0) i.toNat
def sched (x:List Int):List Int:=up schedB 16 64 (midA x 16)
theorem midA_len (x:List Int)(i:Int):(midA x i).length=64:=by rw[midA,mix_len (by simp[wordsA_len]),wordsA_len]
theorem midA_get (x:List Int){i:Int}(h2:i<64):(midA x i).getD i.toNat 0=0:=by
 rw[midA,mix_get (by rw[wordsA_len];omega)]
 exact zeros_get _ _
theorem midA_succ (x:List Int){i:Int}(h:0≤i)(h2:i<16):(midA x i).set i.toNat (word4 x i)=midA x (i+1):=by
 rw[midA,mix_set (by simp[wordsA_len]) (by rw[wordsA_len];omega) (wordsA_get x h h2).symm,midA,show(i+1).toNat=i.toNat+1 by omega]
theorem set_same {l:List Int}{i:Nat}{x:Int}(h:l.getD i 0=x)(hi:i<l.length):l.set i x=l:=by
 apply List.ext_getElem?
 intro j
 rw[List.getElem?_set]
 by_cases hj:i=j
 ·subst hj
  rw[if_pos rfl,if_pos hi]
  simp[List.getD_eq_getElem?_getD,hi] at h
  simp[hi,h]
 ·rw[if_neg hj]
def ShaSched.pre (x:List Int):Prop:=x.length=64∧Bytes x
def ShaSched.fn (x:List Int):List Int:=sched x
def part4 (x:List Int)(i j:Int):Int:=if j=0 then 0 else if j=1 then x.getD (4*i).toNat 0 else if j=2 then 256*x.getD (4*i).toNat 0+x.getD (4*i+1).toNat 0 else if j=3 then 65536*x.getD (4*i).toNat 0+256*x.getD (4*i+1).toNat 0+x.getD (4*i+2).toNat 0 else word4 x i
def ShaSched.inv3 (x0 v2 v3:List Int)(v9:Int):Prop:=0≤v9∧v9≤16∧v3=midA x0 v9
def ShaSched.mes3 (x0 v2 v3:List Int)(v9:Int):Nat:=(16-v9).toNat
def ShaSched.inv6 (x0:List Int)(i:Int)(v2 v3:List Int)(v12:Int):Prop:=0≤v12∧v12≤4∧v3=(midA x0 i).set i.toNat (part4 x0 i v12)
def ShaSched.mes6 (x0:List Int)(i:Int)(v2 v3:List Int)(v12:Int):Nat:=(4-v12).toNat
def ShaSched.inv12 (x0 v2 v3:List Int)(v6:Int):Prop:=16≤v6∧v6≤64∧v3=up schedB 16 v6 (midA x0 16)
def ShaSched.mes12 (x0 v2 v3:List Int)(v6:Int):Nat:=(64-v6).toNat
def ShaSched.VC :Prop:=∀(x0:(List Int)),ShaSched.pre x0→
 (ShaSched.inv3 x0 (List.replicate 64 (0:Int)) (List.replicate 64 (0:Int)) (0:Int)∧
 ∀(v2:(List Int)) (v3:(List Int)) (v9:Int),ShaSched.inv3 x0 v2 v3 v9→
 (((decide (v9<(16:Int)))=true→
 (ShaSched.inv6 x0 v9 v2 v3 (0:Int)∧
 ∀(v2_1:(List Int)) (v3_1:(List Int)) (v12:Int),ShaSched.inv6 x0 v9 v2_1 v3_1 v12→
 (((decide (v12<(4:Int)))=true→
 (0≤v9∧v9<64)∧
 0≤(8:Int)∧
 (let v23:Int:=(IntKind.i64.wrap ((IntKind.i64.wrap ((4:Int)*v9))+v12))
 (0≤v23∧v23<64)∧
 (let v27:Int:=(ior .u32 (ishl .u32 (v3_1.getD (Int.toNat v9) (0:Int)) (8:Int)) (IntKind.u32.wrap (x0.getD (Int.toNat v23) (0:Int))))
 (0≤v9∧v9<64)∧
 (ShaSched.inv6 x0 v9 v2_1 (v3_1.set (Int.toNat v9) v27) (IntKind.i64.wrap (v12+(1:Int)))∧ShaSched.mes6 x0 v9 v2_1 (v3_1.set (Int.toNat v9) v27) (IntKind.i64.wrap (v12+(1:Int)))<ShaSched.mes6 x0 v9 v2_1 v3_1 v12))))∧
 ((decide (v12<(4:Int)))=false→
 (ShaSched.inv3 x0 v2_1 v3_1 (IntKind.i64.wrap (v9+(1:Int)))∧ShaSched.mes3 x0 v2_1 v3_1 (IntKind.i64.wrap (v9+(1:Int)))<ShaSched.mes3 x0 v2 v3 v9)))))∧
 ((decide (v9<(16:Int)))=false→
 (ShaSched.inv12 x0 v2 v3 (16:Int)∧
 ∀(v2_2:(List Int)) (v3_2:(List Int)) (v6:Int),ShaSched.inv12 x0 v2_2 v3_2 v6→
 (((decide (v6<(64:Int)))=true→
 (0≤(IntKind.i64.wrap (v6-(15:Int)))∧(IntKind.i64.wrap (v6-(15:Int)))<64)∧
 (let v38:Int:=(v3_2.getD (Int.toNat (IntKind.i64.wrap (v6-(15:Int)))) (0:Int))
 ShaRotr.pre v38 (7:Int)∧
 (0≤(IntKind.i64.wrap (v6-(15:Int)))∧(IntKind.i64.wrap (v6-(15:Int)))<64)∧
 (let v43:Int:=(v3_2.getD (Int.toNat (IntKind.i64.wrap (v6-(15:Int)))) (0:Int))
 ShaRotr.pre v43 (18:Int)∧
 (let v45:Int:=(ixor .u32 (ShaRotr.fn v38 (7:Int)) (ShaRotr.fn v43 (18:Int)))
 (0≤(IntKind.i64.wrap (v6-(15:Int)))∧(IntKind.i64.wrap (v6-(15:Int)))<64)∧
 (let v49:Int:=(v3_2.getD (Int.toNat (IntKind.i64.wrap (v6-(15:Int)))) (0:Int))
 0≤(3:Int)∧
 (0≤(IntKind.i64.wrap (v6-(2:Int)))∧(IntKind.i64.wrap (v6-(2:Int)))<64)∧
 (let v55:Int:=(v3_2.getD (Int.toNat (IntKind.i64.wrap (v6-(2:Int)))) (0:Int))
 ShaRotr.pre v55 (17:Int)∧
 (0≤(IntKind.i64.wrap (v6-(2:Int)))∧(IntKind.i64.wrap (v6-(2:Int)))<64)∧
 (let v60:Int:=(v3_2.getD (Int.toNat (IntKind.i64.wrap (v6-(2:Int)))) (0:Int))
 ShaRotr.pre v60 (19:Int)∧
 (let v62:Int:=(ixor .u32 (ShaRotr.fn v55 (17:Int)) (ShaRotr.fn v60 (19:Int)))
 (0≤(IntKind.i64.wrap (v6-(2:Int)))∧(IntKind.i64.wrap (v6-(2:Int)))<64)∧
 (let v66:Int:=(v3_2.getD (Int.toNat (IntKind.i64.wrap (v6-(2:Int)))) (0:Int))
 0≤(10:Int)∧
 (0≤(IntKind.i64.wrap (v6-(16:Int)))∧(IntKind.i64.wrap (v6-(16:Int)))<64)∧
 (let v73:Int:=(v3_2.getD (Int.toNat (IntKind.i64.wrap (v6-(16:Int)))) (0:Int))
 (let v75:Int:=(IntKind.u32.wrap (v73+(ixor .u32 v45 (ishr .u32 v49 (3:Int)))))
 (0≤(IntKind.i64.wrap (v6-(7:Int)))∧(IntKind.i64.wrap (v6-(7:Int)))<64)∧
 (let v79:Int:=(v3_2.getD (Int.toNat (IntKind.i64.wrap (v6-(7:Int)))) (0:Int))
 (let v82:Int:=(IntKind.u32.wrap ((IntKind.u32.wrap (v75+v79))+(ixor .u32 v62 (ishr .u32 v66 (10:Int)))))
 (0≤v6∧v6<64)∧
 (ShaSched.inv12 x0 v2_2 (v3_2.set (Int.toNat v6) v82) (IntKind.i64.wrap (v6+(1:Int)))∧ShaSched.mes12 x0 v2_2 (v3_2.set (Int.toNat v6) v82) (IntKind.i64.wrap (v6+(1:Int)))<ShaSched.mes12 x0 v2_2 v3_2 v6))))))))))))))∧
 ((decide (v6<(64:Int)))=false→
 (Ret1 v3_2 (ShaSched.fn x0))))))))
theorem part4_succ {x:List Int}(hb:Bytes x){i j:Int}(h:0≤j)(h2:j<4):
 ior .u32 (ishl .u32 (part4 x i j) 8) (IntKind.u32.wrap (x.getD (4*i+j).toNat 0))=part4 x i (j+1):=by
 have b0:=hb.getD (4*i).toNat
 have b1:=hb.getD (4*i+1).toNat
 have b2:=hb.getD (4*i+2).toNat
 have b3:=hb.getD (4*i+3).toNat
 have p0:part4 x i 0=0:=rfl
 have p1:part4 x i 1=x.getD (4*i).toNat 0:=rfl
 have p2:part4 x i 2=256*x.getD (4*i).toNat 0+x.getD (4*i+1).toNat 0:=rfl
 have p3:part4 x i 3=65536*x.getD (4*i).toNat 0+256*x.getD (4*i+1).toNat 0+x.getD (4*i+2).toNat 0:=rfl
 have p4:part4 x i 4=word4 x i:=rfl
 obtain rfl|rfl|rfl|rfl:j=0∨j=1∨j=2∨j=3:=by omega
 ·rw[p0,or8 (by omega) (by omega) (hb.getD _),show(0:Int)+1=1 from rfl,p1,show 4*i+0=4*i by omega];omega
 ·rw[p1,or8 (by omega) (by omega) (hb.getD _),show(1:Int)+1=2 from rfl,p2]
 ·rw[p2,or8 (by omega) (by omega) (hb.getD _),show(2:Int)+1=3 from rfl,p3];omega
 ·rw[p3,or8 (by omega) (by omega) (hb.getD _),show(3:Int)+1=4 from rfl,p4,word4];omega
theorem ShaSched.vc :ShaSched.VC:=by
 intro x0 ⟨hl,hb⟩
 dsimp only
 refine⟨⟨by omega,by omega,(mix_zero _ _).symm⟩, ?_⟩
 rintro v2 v3 v9 ⟨h1,h2,rfl⟩
 refine⟨fun hc=> ?_,fun hc=> ?_⟩
 ·have hc:v9<16:=of_decide_eq_true hc
  refine⟨⟨by omega,by omega, ?_⟩, ?_⟩
  ·simp only[part4,if_true];exact(set_same (midA_get x0 (by omega)) (by rw[midA_len];omega)).symm
  rintro w2 w3 v12 ⟨k1,k2,rfl⟩
  refine⟨fun hd=> ?_,fun hd=> ?_⟩
  ·have hd:v12<4:=of_decide_eq_true hd
   have e1:IntKind.i64.wrap (IntKind.i64.wrap (4*v9)+v12)=4*v9+v12:=by rw[i64w (n:=4*v9) (by omega) (by omega),i64w (by omega) (by omega)]
   have e2:IntKind.i64.wrap (v12+1)=v12+1:=i64w (by omega) (by omega)
   rw[e1,e2]
   refine⟨by omega,by omega,by omega,by omega,⟨by omega,by omega, ?_⟩,by simp only[ShaSched.mes6];omega⟩
   rw[List.set_set,lget_set,if_pos ⟨rfl,by rw[midA_len];omega⟩,part4_succ hb k1 hd]
  ·have hd:¬(v12<4):=of_decide_eq_false hd
   have:v12=4:=by omega
   subst this
   rw[i64w (by omega) (by omega)]
   refine⟨⟨by omega,by omega, ?_⟩,by simp only[ShaSched.mes3];omega⟩
   simp only[part4]
   exact midA_succ x0 h1 hc
 ·have hc:¬(v9<16):=of_decide_eq_false hc
  have:v9=16:=by omega
  subst this
  refine⟨⟨by omega,by omega,(up_self _ _ _).symm⟩, ?_⟩
  rintro w2 w3 v6 ⟨k1,k2,rfl⟩
  refine⟨fun hd=> ?_,fun hd=> ?_⟩
  ·have hd:v6<64:=of_decide_eq_true hd
   simp(disch:=omega) only[i64w]
   refine⟨by omega,trivial,by omega,trivial,by omega,by omega,by omega,trivial,by omega,trivial,by omega,by omega,by omega,by omega,by omega,⟨by omega,by omega, ?_⟩,by simp only[ShaSched.mes12];omega⟩
   rw[up_succ k1]
   rfl
  ·have hd:¬(v6<64):=of_decide_eq_false hd
   have:v6=64:=by omega
   subst this
   rfl
def RefSched.pre (x:List Int):Prop:=x.length=64∧Bytes x
def RefSched.fn (x:List Int):List Int:=sched x
def RefSched.inv3 (x0 v2 v3:List Int)(v4:Int):Prop:=0≤v4∧v4≤16∧v3=midA x0 v4
def RefSched.mes3 (x0 v2 v3:List Int)(v4:Int):Nat:=(16-v4).toNat
def RefSched.inv7 (x0 v2 v3:List Int)(v5:Int):Prop:=16≤v5∧v5≤64∧v3=up schedB 16 v5 (midA x0 16)
def RefSched.mes7 (x0 v2 v3:List Int)(v5:Int):Nat:=(64-v5).toNat
def RefSched.VC :Prop:=∀(x0:(List Int)),RefSched.pre x0→
 (RefSched.inv3 x0 (List.replicate 64 (0:Int)) (List.replicate 64 (0:Int)) (0:Int)∧
 ∀(v2:(List Int)) (v3:(List Int)) (v4:Int),RefSched.inv3 x0 v2 v3 v4→
 (((decide (v4<(16:Int)))=true→
 (0≤(IntKind.i64.wrap ((4:Int)*v4))∧(IntKind.i64.wrap ((4:Int)*v4))<64)∧
 (let v16:Int:=(x0.getD (Int.toNat (IntKind.i64.wrap ((4:Int)*v4))) (0:Int))
 0≤(24:Int)∧
 (let v21:Int:=(IntKind.i64.wrap ((IntKind.i64.wrap ((4:Int)*v4))+(1:Int)))
 (0≤v21∧v21<64)∧
 0≤(16:Int)∧
 (let v25:Int:=(ishl .u32 (IntKind.u32.wrap (x0.getD (Int.toNat v21) (0:Int))) (16:Int))
 (let v29:Int:=(IntKind.i64.wrap ((IntKind.i64.wrap ((4:Int)*v4))+(2:Int)))
 (0≤v29∧v29<64)∧
 0≤(8:Int)∧
 (let v33:Int:=(ishl .u32 (IntKind.u32.wrap (x0.getD (Int.toNat v29) (0:Int))) (8:Int))
 (let v34:Int:=(ior .u32 (ior .u32 (ishl .u32 (IntKind.u32.wrap v16) (24:Int)) v25) v33)
 (let v37:Int:=(IntKind.i64.wrap ((IntKind.i64.wrap ((4:Int)*v4))+(3:Int)))
 (0≤v37∧v37<64)∧
 (let v41:Int:=(ior .u32 v34 (IntKind.u32.wrap (x0.getD (Int.toNat v37) (0:Int))))
 (0≤v4∧v4<64)∧
 (RefSched.inv3 x0 v2 (v3.set (Int.toNat v4) v41) (IntKind.i64.wrap (v4+(1:Int)))∧RefSched.mes3 x0 v2 (v3.set (Int.toNat v4) v41) (IntKind.i64.wrap (v4+(1:Int)))<RefSched.mes3 x0 v2 v3 v4))))))))))∧
 ((decide (v4<(16:Int)))=false→
 (RefSched.inv7 x0 v2 v3 (16:Int)∧
 ∀(v2_1:(List Int)) (v3_1:(List Int)) (v5:Int),RefSched.inv7 x0 v2_1 v3_1 v5→
 (((decide (v5<(64:Int)))=true→
 (0≤(IntKind.i64.wrap (v5-(15:Int)))∧(IntKind.i64.wrap (v5-(15:Int)))<64)∧
 (let v50:Int:=(v3_1.getD (Int.toNat (IntKind.i64.wrap (v5-(15:Int)))) (0:Int))
 RefRotr.pre v50 (7:Int)∧
 (0≤(IntKind.i64.wrap (v5-(15:Int)))∧(IntKind.i64.wrap (v5-(15:Int)))<64)∧
 (let v55:Int:=(v3_1.getD (Int.toNat (IntKind.i64.wrap (v5-(15:Int)))) (0:Int))
 RefRotr.pre v55 (18:Int)∧
 (let v57:Int:=(ixor .u32 (RefRotr.fn v50 (7:Int)) (RefRotr.fn v55 (18:Int)))
 (0≤(IntKind.i64.wrap (v5-(15:Int)))∧(IntKind.i64.wrap (v5-(15:Int)))<64)∧
 (let v61:Int:=(v3_1.getD (Int.toNat (IntKind.i64.wrap (v5-(15:Int)))) (0:Int))
 0≤(3:Int)∧
 (0≤(IntKind.i64.wrap (v5-(2:Int)))∧(IntKind.i64.wrap (v5-(2:Int)))<64)∧
 (let v67:Int:=(v3_1.getD (Int.toNat (IntKind.i64.wrap (v5-(2:Int)))) (0:Int))
 RefRotr.pre v67 (17:Int)∧
 (0≤(IntKind.i64.wrap (v5-(2:Int)))∧(IntKind.i64.wrap (v5-(2:Int)))<64)∧
 (let v72:Int:=(v3_1.getD (Int.toNat (IntKind.i64.wrap (v5-(2:Int)))) (0:Int))
 RefRotr.pre v72 (19:Int)∧
 (let v74:Int:=(ixor .u32 (RefRotr.fn v67 (17:Int)) (RefRotr.fn v72 (19:Int)))
 (0≤(IntKind.i64.wrap (v5-(2:Int)))∧(IntKind.i64.wrap (v5-(2:Int)))<64)∧
 (let v78:Int:=(v3_1.getD (Int.toNat (IntKind.i64.wrap (v5-(2:Int)))) (0:Int))
 0≤(10:Int)∧
 (0≤(IntKind.i64.wrap (v5-(16:Int)))∧(IntKind.i64.wrap (v5-(16:Int)))<64)∧
 (let v85:Int:=(v3_1.getD (Int.toNat (IntKind.i64.wrap (v5-(16:Int)))) (0:Int))
 (let v87:Int:=(IntKind.u32.wrap (v85+(ixor .u32 v57 (ishr .u32 v61 (3:Int)))))
 (0≤(IntKind.i64.wrap (v5-(7:Int)))∧(IntKind.i64.wrap (v5-(7:Int)))<64)∧
 (let v91:Int:=(v3_1.getD (Int.toNat (IntKind.i64.wrap (v5-(7:Int)))) (0:Int))
 (let v94:Int:=(IntKind.u32.wrap ((IntKind.u32.wrap (v87+v91))+(ixor .u32 v74 (ishr .u32 v78 (10:Int)))))
 (0≤v5∧v5<64)∧
 (RefSched.inv7 x0 v2_1 (v3_1.set (Int.toNat v5) v94) (IntKind.i64.wrap (v5+(1:Int)))∧RefSched.mes7 x0 v2_1 (v3_1.set (Int.toNat v5) v94) (IntKind.i64.wrap (v5+(1:Int)))<RefSched.mes7 x0 v2_1 v3_1 v5))))))))))))))∧
 ((decide (v5<(64:Int)))=false→
 (Ret1 v3_1 (RefSched.fn x0))))))))
theorem RefSched.vc :RefSched.VC:=by
 intro x0 ⟨hl,hb⟩
 dsimp only
 refine⟨⟨by omega,by omega,(mix_zero _ _).symm⟩, ?_⟩
 rintro v2 v3 v4 ⟨h1,h2,rfl⟩
 refine⟨fun hc=> ?_,fun hc=> ?_⟩
 ·have hc:v4<16:=of_decide_eq_true hc
  simp(disch:=omega) only[i64w]
  refine⟨by omega,by omega,by omega,by omega,by omega,by omega,by omega,by omega,⟨by omega,by omega, ?_⟩,by simp only[RefSched.mes3];omega⟩
  rw[or4 (hb.getD _) (hb.getD _) (hb.getD _) (hb.getD _)]
  exact midA_succ x0 h1 hc
 ·have hc:¬(v4<16):=of_decide_eq_false hc
  have:v4=16:=by omega
  subst this
  refine⟨⟨by omega,by omega,(up_self _ _ _).symm⟩, ?_⟩
  rintro w2 w3 v6 ⟨k1,k2,rfl⟩
  refine⟨fun hd=> ?_,fun hd=> ?_⟩
  ·have hd:v6<64:=of_decide_eq_true hd
   simp(disch:=omega) only[i64w]
   refine⟨by omega,trivial,by omega,trivial,by omega,by omega,by omega,trivial,by omega,trivial,by omega,by omega,by omega,by omega,by omega,⟨by omega,by omega, ?_⟩,by simp only[RefSched.mes7];omega⟩
   rw[up_succ k1]
   rfl
  ·have hd:¬(v6<64):=of_decide_eq_false hd
   have:v6=64:=by omega
   subst this
   rfl
structure S8 where
 a:Int
 b:Int
 c:Int
 d:Int
 e:Int
 f:Int
 g:Int
 h:Int
def t1 (w:List Int)(i:Int)(s:S8):Int:=IntKind.u32.wrap (IntKind.u32.wrap (IntKind.u32.wrap (IntKind.u32.wrap (s.h+ixor .u32 (ixor .u32 (ShaRotr.fn s.e 6) (ShaRotr.fn s.e 11)) (ShaRotr.fn s.e 25))+ixor .u32 (iand .u32 s.e s.f) (iand .u32 (inot .u32 s.e) s.g))+ShaK.getD i.toNat 0)+w.getD i.toNat 0)
def t2 (s:S8):Int:=IntKind.u32.wrap (ixor .u32 (ixor .u32 (ShaRotr.fn s.a 2) (ShaRotr.fn s.a 13)) (ShaRotr.fn s.a 22)+ixor .u32 (ixor .u32 (iand .u32 s.a s.b) (iand .u32 s.a s.c)) (iand .u32 s.b s.c))
def round (w:List Int)(i:Int)(s:S8):S8:=⟨IntKind.u32.wrap (t1 w i s+t2 s),s.a,s.b,s.c,IntKind.u32.wrap (s.d+t1 w i s),s.e,s.f,s.g⟩
def load8 (x:List Int):S8:=⟨x.getD 0 0,x.getD 1 0,x.getD 2 0,x.getD 3 0,x.getD 4 0,x.getD 5 0,x.getD 6 0,x.getD 7 0⟩
def add8 (x:List Int)(s:S8):List Int:=[IntKind.u32.wrap (x.getD 0 0+s.a),IntKind.u32.wrap (x.getD 1 0+s.b),IntKind.u32.wrap (x.getD 2 0+s.c),IntKind.u32.wrap (x.getD 3 0+s.d),IntKind.u32.wrap (x.getD 4 0+s.e),IntKind.u32.wrap (x.getD 5 0+s.f),IntKind.u32.wrap (x.getD 6 0+s.g),IntKind.u32.wrap (x.getD 7 0+s.h)]
def compress (x b:List Int):List Int:=add8 x (up (round (sched b)) 0 64 (load8 x))
def ShaCompress.pre (x b:List Int):Prop:=x.length=8∧b.length=64∧Bytes b
def ShaCompress.fn (x b:List Int):List Int:=compress x b
def ShaCompress.inv5 (x0 x1 v4 v5:List Int)(v6 v7 v8 v9 v10 v11 v12 v13 v35:Int):Prop:=0≤v35∧v35≤64∧v5=sched x1∧(⟨v6,v7,v8,v9,v10,v11,v12,v13⟩:S8)=up (round (sched x1)) 0 v35 (load8 x0)
def ShaCompress.mes5 (x0 x1 v4 v5:List Int)(v6 v7 v8 v9 v10 v11 v12 v13 v35:Int):Nat:=(64-v35).toNat
def ShaCompress.VC :Prop:=∀(x0:(List Int)) (x1:(List Int)),ShaCompress.pre x0 x1→
 ShaSched.pre x1∧
 (0≤(0:Int)∧(0:Int)<8)∧
 (0≤(1:Int)∧(1:Int)<8)∧
 (0≤(2:Int)∧(2:Int)<8)∧
 (0≤(3:Int)∧(3:Int)<8)∧
 (0≤(4:Int)∧(4:Int)<8)∧
 (0≤(5:Int)∧(5:Int)<8)∧
 (0≤(6:Int)∧(6:Int)<8)∧
 (0≤(7:Int)∧(7:Int)<8)∧
 (ShaCompress.inv5 x0 x1 (List.replicate 8 (0:Int)) (ShaSched.fn x1) (x0.getD (Int.toNat (0:Int)) (0:Int)) (x0.getD (Int.toNat (1:Int)) (0:Int)) (x0.getD (Int.toNat (2:Int)) (0:Int)) (x0.getD (Int.toNat (3:Int)) (0:Int)) (x0.getD (Int.toNat (4:Int)) (0:Int)) (x0.getD (Int.toNat (5:Int)) (0:Int)) (x0.getD (Int.toNat (6:Int)) (0:Int)) (x0.getD (Int.toNat (7:Int)) (0:Int)) (0:Int)∧
 ∀(v4:(List Int)) (v5:(List Int)) (v6:Int) (v7:Int) (v8:Int) (v9:Int) (v10:Int) (v11:Int) (v12:Int) (v13:Int) (v35:Int),ShaCompress.inv5 x0 x1 v4 v5 v6 v7 v8 v9 v10 v11 v12 v13 v35→
 (((decide (v35<(64:Int)))=true→
 ShaRotr.pre v10 (6:Int)∧
 ShaRotr.pre v10 (11:Int)∧
 (let v43:Int:=(ixor .u32 (ShaRotr.fn v10 (6:Int)) (ShaRotr.fn v10 (11:Int)))
 ShaRotr.pre v10 (25:Int)∧
 (let v47:Int:=(IntKind.u32.wrap (v13+(ixor .u32 v43 (ShaRotr.fn v10 (25:Int)))))
 (let v55:Int:=(ixor .u32 (iand .u32 v10 v11) (iand .u32 (inot .u32 v10) v12))
 (0≤v35∧v35<64)∧
 (let v60:Int:=(IntKind.u32.wrap ((IntKind.u32.wrap (v47+v55))+(ShaK.getD (Int.toNat v35) (0:Int))))
 (0≤v35∧v35<64)∧
 (let v64:Int:=(IntKind.u32.wrap (v60+(v5.getD (Int.toNat v35) (0:Int))))
 ShaRotr.pre v6 (2:Int)∧
 ShaRotr.pre v6 (13:Int)∧
 (let v69:Int:=(ixor .u32 (ShaRotr.fn v6 (2:Int)) (ShaRotr.fn v6 (13:Int)))
 ShaRotr.pre v6 (22:Int)∧
 (let v83:Int:=(ixor .u32 (ixor .u32 (iand .u32 v6 v7) (iand .u32 v6 v8)) (iand .u32 v7 v8))
 (let v84:Int:=(IntKind.u32.wrap ((ixor .u32 v69 (ShaRotr.fn v6 (22:Int)))+v83))
 (ShaCompress.inv5 x0 x1 v4 v5 (IntKind.u32.wrap (v64+v84)) v6 v7 v8 (IntKind.u32.wrap (v9+v64)) v10 v11 v12 (IntKind.i64.wrap (v35+(1:Int)))∧ShaCompress.mes5 x0 x1 v4 v5 (IntKind.u32.wrap (v64+v84)) v6 v7 v8 (IntKind.u32.wrap (v9+v64)) v10 v11 v12 (IntKind.i64.wrap (v35+(1:Int)))<ShaCompress.mes5 x0 x1 v4 v5 v6 v7 v8 v9 v10 v11 v12 v13 v35))))))))))∧
 ((decide (v35<(64:Int)))=false→
 (0≤(0:Int)∧(0:Int)<8)∧
 (let v101:Int:=(IntKind.u32.wrap ((x0.getD (Int.toNat (0:Int)) (0:Int))+v6))
 (0≤(1:Int)∧(1:Int)<8)∧
 (let v105:Int:=(IntKind.u32.wrap ((x0.getD (Int.toNat (1:Int)) (0:Int))+v7))
 (0≤(2:Int)∧(2:Int)<8)∧
 (let v109:Int:=(IntKind.u32.wrap ((x0.getD (Int.toNat (2:Int)) (0:Int))+v8))
 (0≤(3:Int)∧(3:Int)<8)∧
 (let v113:Int:=(IntKind.u32.wrap ((x0.getD (Int.toNat (3:Int)) (0:Int))+v9))
 (0≤(4:Int)∧(4:Int)<8)∧
 (let v117:Int:=(IntKind.u32.wrap ((x0.getD (Int.toNat (4:Int)) (0:Int))+v10))
 (0≤(5:Int)∧(5:Int)<8)∧
 (let v121:Int:=(IntKind.u32.wrap ((x0.getD (Int.toNat (5:Int)) (0:Int))+v11))
 (0≤(6:Int)∧(6:Int)<8)∧
 (let v125:Int:=(IntKind.u32.wrap ((x0.getD (Int.toNat (6:Int)) (0:Int))+v12))
 (0≤(7:Int)∧(7:Int)<8)∧
 (let v129:Int:=(IntKind.u32.wrap ((x0.getD (Int.toNat (7:Int)) (0:Int))+v13))
 (Ret1 [v101,v105,v109,v113,v117,v121,v125,v129] (ShaCompress.fn x0 x1)))))))))))))
theorem ShaCompress.vc :ShaCompress.VC:=by
 intro x0 x1 ⟨hl,hb⟩
 dsimp only
 refine⟨hb,by omega,by omega,by omega,by omega,by omega,by omega,by omega,by omega,⟨by omega,by omega,rfl,by rw[up_self];rfl⟩, ?_⟩
 rintro v4 v5 v6 v7 v8 v9 v10 v11 v12 v13 v35 ⟨h1,h2,rfl,h3⟩
 refine⟨fun hc=> ?_,fun hc=> ?_⟩
 ·have hc:v35<64:=of_decide_eq_true hc
  simp(disch:=omega) only[i64w]
  refine⟨trivial,trivial,trivial,by omega,by omega,trivial,trivial,trivial,⟨by omega,by omega,rfl, ?_⟩,by simp only[ShaCompress.mes5];omega⟩
  rw[up_succ h1,←h3]
  rfl
 ·have hc:¬(v35<64):=of_decide_eq_false hc
  have:v35=64:=by omega
  subst this
  refine⟨by omega,by omega,by omega,by omega,by omega,by omega,by omega,by omega,ret1.2 ?_⟩
  show _=compress x0 x1
  rw[compress,←h3]
  rfl
def RefConsts.pre :Prop:=True
def RefConsts.fn :List Int:=ShaK
def RefConsts.VC :Prop:=RefConsts.pre→
 (let v1:(List Int):=[(1116352408:Int),(1899447441:Int),(3049323471:Int),(3921009573:Int),(961987163:Int),(1508970993:Int),(2453635748:Int),(2870763221:Int),(3624381080:Int),(310598401:Int),(607225278:Int),(1426881987:Int),(1925078388:Int),(2162078206:Int),(2614888103:Int),(3248222580:Int),(3835390401:Int),(4022224774:Int),(264347078:Int),(604807628:Int),(770255983:Int),(1249150122:Int),(1555081692:Int),(1996064986:Int),(2554220882:Int),(2821834349:Int),(2952996808:Int),(3210313671:Int),(3336571891:Int),(3584528711:Int),(113926993:Int),(338241895:Int),(666307205:Int),(773529912:Int),(1294757372:Int),(1396182291:Int),(1695183700:Int),(1986661051:Int),(2177026350:Int),(2456956037:Int),(2730485921:Int),(2820302411:Int),(3259730800:Int),(3345764771:Int),(3516065817:Int),(3600352804:Int),(4094571909:Int),(275423344:Int),(430227734:Int),(506948616:Int),(659060556:Int),(883997877:Int),(958139571:Int),(1322822218:Int),(1537002063:Int),(1747873779:Int),(1955562222:Int),(2024104815:Int),(2227730452:Int),(2361852424:Int),(2428436474:Int),(2756734187:Int),(3204031479:Int),(3329325298:Int)]
 (Ret1 v1 RefConsts.fn))
theorem RefConsts.vc :RefConsts.VC:=fun _=>rfl
def RefInitial.pre :Prop:=True
def RefInitial.fn :List Int:=ShaInitial
def RefInitial.VC :Prop:=RefInitial.pre→
 (let v1:(List Int):=[(1779033703:Int),(3144134277:Int),(1013904242:Int),(2773480762:Int),(1359893119:Int),(2600822924:Int),(528734635:Int),(1541459225:Int)]
 (Ret1 v1 RefInitial.fn))
theorem RefInitial.vc :RefInitial.VC:=fun _=>rfl
def RefCompress.pre (x b:List Int):Prop:=x.length=8∧b.length=64∧Bytes b
def RefCompress.fn (x b:List Int):List Int:=compress x b
def RefCompress.inv4 (x0 x1 v4 v5 v6:List Int)(v7 v8 v9 v10 v11 v12 v13 v14 v15:Int):Prop:=0≤v15∧v15≤64∧v5=sched x1∧v6=ShaK∧(⟨v7,v8,v9,v10,v11,v12,v13,v14⟩:S8)=up (round (sched x1)) 0 v15 (load8 x0)
def RefCompress.mes4 (x0 x1 v4 v5 v6:List Int)(v7 v8 v9 v10 v11 v12 v13 v14 v15:Int):Nat:=(64-v15).toNat
def RefCompress.VC :Prop:=∀(x0:(List Int)) (x1:(List Int)),RefCompress.pre x0 x1→
 RefSched.pre x1∧
 RefConsts.pre∧
 (0≤(0:Int)∧(0:Int)<8)∧
 (0≤(1:Int)∧(1:Int)<8)∧
 (0≤(2:Int)∧(2:Int)<8)∧
 (0≤(3:Int)∧(3:Int)<8)∧
 (0≤(4:Int)∧(4:Int)<8)∧
 (0≤(5:Int)∧(5:Int)<8)∧
 (0≤(6:Int)∧(6:Int)<8)∧
 (0≤(7:Int)∧(7:Int)<8)∧
 (RefCompress.inv4 x0 x1 (List.replicate 8 (0:Int)) (RefSched.fn x1) (RefConsts.fn) (x0.getD (Int.toNat (0:Int)) (0:Int)) (x0.getD (Int.toNat (1:Int)) (0:Int)) (x0.getD (Int.toNat (2:Int)) (0:Int)) (x0.getD (Int.toNat (3:Int)) (0:Int)) (x0.getD (Int.toNat (4:Int)) (0:Int)) (x0.getD (Int.toNat (5:Int)) (0:Int)) (x0.getD (Int.toNat (6:Int)) (0:Int)) (x0.getD (Int.toNat (7:Int)) (0:Int)) (0:Int)∧
 ∀(v4:(List Int)) (v5:(List Int)) (v6:(List Int)) (v7:Int) (v8:Int) (v9:Int) (v10:Int) (v11:Int) (v12:Int) (v13:Int) (v14:Int) (v15:Int),RefCompress.inv4 x0 x1 v4 v5 v6 v7 v8 v9 v10 v11 v12 v13 v14 v15→
 (((decide (v15<(64:Int)))=true→
 RefRotr.pre v11 (6:Int)∧
 RefRotr.pre v11 (11:Int)∧
 (let v46:Int:=(ixor .u32 (RefRotr.fn v11 (6:Int)) (RefRotr.fn v11 (11:Int)))
 RefRotr.pre v11 (25:Int)∧
 (let v50:Int:=(IntKind.u32.wrap (v14+(ixor .u32 v46 (RefRotr.fn v11 (25:Int)))))
 (let v58:Int:=(ixor .u32 (iand .u32 v11 v12) (iand .u32 (inot .u32 v11) v13))
 (0≤v15∧v15<64)∧
 (let v63:Int:=(IntKind.u32.wrap ((IntKind.u32.wrap (v50+v58))+(v6.getD (Int.toNat v15) (0:Int))))
 (0≤v15∧v15<64)∧
 (let v67:Int:=(IntKind.u32.wrap (v63+(v5.getD (Int.toNat v15) (0:Int))))
 RefRotr.pre v7 (2:Int)∧
 RefRotr.pre v7 (13:Int)∧
 (let v72:Int:=(ixor .u32 (RefRotr.fn v7 (2:Int)) (RefRotr.fn v7 (13:Int)))
 RefRotr.pre v7 (22:Int)∧
 (let v86:Int:=(ixor .u32 (ixor .u32 (iand .u32 v7 v8) (iand .u32 v7 v9)) (iand .u32 v8 v9))
 (let v87:Int:=(IntKind.u32.wrap ((ixor .u32 v72 (RefRotr.fn v7 (22:Int)))+v86))
 (RefCompress.inv4 x0 x1 v4 v5 v6 (IntKind.u32.wrap (v67+v87)) v7 v8 v9 (IntKind.u32.wrap (v10+v67)) v11 v12 v13 (IntKind.i64.wrap (v15+(1:Int)))∧RefCompress.mes4 x0 x1 v4 v5 v6 (IntKind.u32.wrap (v67+v87)) v7 v8 v9 (IntKind.u32.wrap (v10+v67)) v11 v12 v13 (IntKind.i64.wrap (v15+(1:Int)))<RefCompress.mes4 x0 x1 v4 v5 v6 v7 v8 v9 v10 v11 v12 v13 v14 v15))))))))))∧
 ((decide (v15<(64:Int)))=false→
 (0≤(0:Int)∧(0:Int)<8)∧
 (let v103:Int:=(IntKind.u32.wrap ((x0.getD (Int.toNat (0:Int)) (0:Int))+v7))
 (0≤(1:Int)∧(1:Int)<8)∧
 (let v107:Int:=(IntKind.u32.wrap ((x0.getD (Int.toNat (1:Int)) (0:Int))+v8))
 (0≤(2:Int)∧(2:Int)<8)∧
 (let v111:Int:=(IntKind.u32.wrap ((x0.getD (Int.toNat (2:Int)) (0:Int))+v9))
 (0≤(3:Int)∧(3:Int)<8)∧
 (let v115:Int:=(IntKind.u32.wrap ((x0.getD (Int.toNat (3:Int)) (0:Int))+v10))
 (0≤(4:Int)∧(4:Int)<8)∧
 (let v119:Int:=(IntKind.u32.wrap ((x0.getD (Int.toNat (4:Int)) (0:Int))+v11))
 (0≤(5:Int)∧(5:Int)<8)∧
 (let v123:Int:=(IntKind.u32.wrap ((x0.getD (Int.toNat (5:Int)) (0:Int))+v12))
 (0≤(6:Int)∧(6:Int)<8)∧
 (let v127:Int:=(IntKind.u32.wrap ((x0.getD (Int.toNat (6:Int)) (0:Int))+v13))
 (0≤(7:Int)∧(7:Int)<8)∧
 (let v131:Int:=(IntKind.u32.wrap ((x0.getD (Int.toNat (7:Int)) (0:Int))+v14))
 (Ret1 [v103,v107,v111,v115,v119,v123,v127,v131] (RefCompress.fn x0 x1)))))))))))))
theorem RefCompress.vc :RefCompress.VC:=by
 intro x0 x1 ⟨hl,hb⟩
 dsimp only
 refine⟨hb,trivial,by omega,by omega,by omega,by omega,by omega,by omega,by omega,by omega,⟨by omega,by omega,rfl,rfl,by rw[up_self];rfl⟩, ?_⟩
 rintro v4 v5 v6 v7 v8 v9 v10 v11 v12 v13 v14 v15 ⟨h1,h2,rfl,rfl,h3⟩
 refine⟨fun hc=> ?_,fun hc=> ?_⟩
 ·have hc:v15<64:=of_decide_eq_true hc
  simp(disch:=omega) only[i64w]
  refine⟨trivial,trivial,trivial,by omega,by omega,trivial,trivial,trivial,⟨by omega,by omega,rfl,rfl, ?_⟩,by simp only[RefCompress.mes4];omega⟩
  rw[up_succ h1,←h3]
  rfl
 ·have hc:¬(v15<64):=of_decide_eq_false hc
  have:v15=64:=by omega
  subst this
  refine⟨by omega,by omega,by omega,by omega,by omega,by omega,by omega,by omega,ret1.2 ?_⟩
  show _=compress x0 x1
  rw[compress,←h3]
  rfl
theorem compress_len (x b:List Int):(compress x b).length=8:=rfl
end Lc
