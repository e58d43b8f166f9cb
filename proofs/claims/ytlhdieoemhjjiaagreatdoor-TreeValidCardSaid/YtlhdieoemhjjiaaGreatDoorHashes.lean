/- SHA-256: the functions of the program and of the reference as plain functions, and the proofs of their conditions. -/
import Derived.Test.YtlhdieoemhjjiaaGreatDoorBase
set_option linter.unusedVariables false
set_option linter.unusedSimpArgs false
namespace Lc
open Go
def ShaK :List Int:=[1116352408,1899447441,3049323471,3921009573,961987163,1508970993,2453635748,2870763221,3624381080,310598401,607225278,1426881987,1925078388,2162078206,2614888103,3248222580,3835390401,4022224774,264347078,604807628,770255983,1249150122,1555081692,1996064986,2554220882,2821834349,2952996808,3210313671,3336571891,3584528711,113926993,338241895,666307205,773529912,1294757372,1396182291,1695183700,1986661051,2177026350,2456956037,2730485921,2820302411,3259730800,3345764771,3516065817,3600352804,4094571909,275423344,430227734,506948616,659060556,883997877,958139571,1322822218,1537002063,1747873779,1955562222,2024104815,2227730452,2361852424,2428436474,2756734187,3204031479,3329325298]
def ShaInitial :List Int:=[1779033703,3144134277,1013904242,2773480762,1359893119,2600822924,528734635,1541459225]
def RotL.pre (x n:Int):Prop:=True
def RotL.fn (x n:Int):Int:=ior .u32 (ishl .u32 x (iand .u64 (IntKind.u64.wrap n) 31)) (ishr .u32 x (IntKind.u64.wrap (32-iand .u64 (IntKind.u64.wrap n) 31)))
def RotL.VC :Prop:=∀(x0:Int) (x1:Int),RotL.pre x0 x1→
 0≤(iand .u64 (IntKind.u64.wrap x1) (31:Int))∧
 (let v14:Int:=(IntKind.u64.wrap ((32:Int)-(iand .u64 (IntKind.u64.wrap x1) (31:Int))))
 0≤v14∧
 (let v16:Int:=(ior .u32 (ishl .u32 x0 (iand .u64 (IntKind.u64.wrap x1) (31:Int))) (ishr .u32 x0 v14))
 (Ret1 v16 (RotL.fn x0 x1))))
theorem iand_u64_pos (a b:Int):0≤iand .u64 a b:=(u64r _).1
theorem RotL.vc :RotL.VC:=fun _ _ _=>⟨iand_u64_pos _ _,(u64r _).1,rfl⟩
def ShaRotr.pre (x n:Int):Prop:=True
def ShaRotr.fn (x n:Int):Int:=RotL.fn x (IntKind.i64.wrap (0-n))
def ShaRotr.VC :Prop:=∀(x0:Int) (x1:Int),ShaRotr.pre x0 x1→
 RotL.pre x0 (IntKind.i64.wrap (0-x1))∧
 (Ret1 (RotL.fn x0 (IntKind.i64.wrap (0-x1))) (ShaRotr.fn x0 x1))
theorem ShaRotr.vc :ShaRotr.VC:=fun _ _ _=>⟨trivial,rfl⟩
def RefRotr.pre (x n:Int):Prop:=True
def RefRotr.fn (x n:Int):Int:=ShaRotr.fn x n
def RefRotr.VC :Prop:=∀(x0:Int) (x1:Int),RefRotr.pre x0 x1→
 RotL.pre x0 (IntKind.i64.wrap (0-x1))∧
 (Ret1 (RotL.fn x0 (IntKind.i64.wrap (0-x1))) (RefRotr.fn x0 x1))
theorem RefRotr.vc :RefRotr.VC:=fun _ _ _=>⟨trivial,rfl⟩
def word4 (x:List Int)(i:Int):Int:=16777216*x.getD (4*i).toNat 0+65536*x.getD (4*i+1).toNat 0+256*x.getD (4*i+2).toNat 0+x.getD (4*i+3).toNat 0
def wordsA (x:List Int):List Int:=(List.range 16).map (fun(i:Nat)=>word4 x (i:Int))++List.replicate 48 0
theorem wordsA_len (x:List Int):(wordsA x).length=64:=by simp[wordsA]
theorem wordsA_get (x:List Int){i:Int}(h:0≤i)(h2:i<16):(wordsA x).getD i.toNat 0=word4 x i:=by
 simp only[wordsA,List.getD_eq_getElem?_getD]
 rw[List.getElem?_append_left (by simp;omega),List.getElem?_map,List.getElem?_range (by omega)]
 simp[Int.toNat_of_nonneg h]
def sig0 (x:Int):Int:=ixor .u32 (ixor .u32 (ShaRotr.fn x 7) (ShaRotr.fn x 18)) (ishr .u32 x 3)
def sig1 (x:Int):Int:=ixor .u32 (ixor .u32 (ShaRotr.fn x 17) (ShaRotr.fn x 19)) (ishr .u32 x 10)
def schedW (w:List Int)(i:Int):Int:=IntKind.u32.wrap (IntKind.u32.wrap (IntKind.u32.wrap (w.getD (i-16).toNat 0+sig0 (w.getD (i-15).toNat 0))+w.getD (i-7).toNat 0)+sig1 (w.getD (i-2).toNat 0))
def schedB (i:Int)(w:List Int):List Int:=w.set i.toNat (schedW w i)
def midA (x:List Int)(i:Int):List Int:=mix (wordsA x) (List.replicate 64 0) i.toNat
def sched (x:List Int):List Int:=up schedB 16 64 (midA x 16)
theorem midA_len (x:List Int)(i:Int):(midA x i).length=64:=by rw[midA,mix_len (by simp[wordsA_len]),wordsA_len]
theorem midA_get (x:List Int){i:Int}(h2:i<64):(midA x i).getD i.toNat 0=0:=by
 rw[midA,mix_get (by rw[wordsA_len];omega)]
 exact zeros_get _ _
theorem midA_succ (x:List Int){i:Int}(h:0≤i)(h2:i<16):(midA x i).set i.toNat (word4 x i)=midA x (i+1):=by
 rw[midA,mix_set (by simp[wordsA_len]) (by rw[wordsA_len];omega) (wordsA_get x h h2).symm,midA,show(i+1).toNat=i.toNat+1 by omega]
theorem set_same {l:List Int}{i:Nat}{x:Int}(h:l.getD i 0=x)(hi:i<l.length):l.set i x=l:=by
 apply List.ext_getElem?
 intro j
 rw[List.getElem?_set]
 by_cases hj:i=j
 ·subst hj
  rw[if_pos rfl,if_pos hi]
  simp[List.getD_eq_getElem?_getD,hi] at h
  simp[hi,h]
 ·rw[if_neg hj]
def ShaSched.pre (x:List Int):Prop:=x.length=64∧Bytes x
def ShaSched.fn (x:List Int):List Int:=sched x
def part4 (x:List Int)(i j:Int):Int:=if j=0 then 0 else if j=1 then x.getD (4*i).toNat 0 else if j=2 then 256*x.getD (4*i).toNat 0+x.getD (4*i+1).toNat 0 else if j=3 then 65536*x.getD (4*i).toNat 0+256*x.getD (4*i+1).toNat 0+x.getD (4*i+2).toNat 0 else word4 x i
def ShaSched.inv3 (x0 v2 v3:List Int)(v9:Int):Prop:=0≤v9∧v9≤16∧v3=midA x0 v9
def ShaSched.mes3 (x0 v2 v3:List Int)(v9:Int):Nat:=(16-v9).toNat
def ShaSched.inv6 (x0:List Int)(i:Int)(v2 v3:List Int)(v12:Int):Prop:=0≤v12∧v12≤4∧v3=(midA x0 i).set i.toNat (part4 x0 i v12)
def ShaSched.mes6 (x0:List Int)(i:Int)(v2 v3:List Int)(v12:Int):Nat:=(4-v12).toNat
def ShaSched.inv12 (x0 v2 v3:List Int)(v6:Int):Prop:=16≤v6∧v6≤64∧v3=up schedB 16 v6 (midA x0 16)
def ShaSched.mes12 (x0 v2 v3:List Int)(v6:Int):Nat:=(64-v6).toNat
def ShaSched.VC :Prop:=∀(x0:(List Int)),ShaSched.pre x0→
 (ShaSched.inv3 x0 (List.replicate 64 (0:Int)) (List.replicate 64 (0:Int)) (0:Int)∧
 ∀(v2:(List Int)) (v3:(List Int)) (v9:Int),ShaSched.inv3 x0 v2 v3 v9→
 (((decide (v9<(16:Int)))=true→
 (ShaSched.inv6 x0 v9 v2 v3 (0:Int)∧
 ∀(v2_1:(List Int)) (v3_1:(List Int)) (v12:Int),ShaSched.inv6 x0 v9 v2_1 v3_1 v12→
 (((decide (v12<(4:Int)))=true→
 (0≤v9∧v9<64)∧
 0≤(8:Int)∧
 (let v23:Int:=(IntKind.i64.wrap ((IntKind.i64.wrap ((4:Int)*v9))+v12))
 (0≤v23∧v23<64)∧
 (let v27:Int:=(ior .u32 (ishl .u32 (v3_1.getD (Int.toNat v9) (0:Int)) (8:Int)) (IntKind.u32.wrap (x0.getD (Int.toNat v23) (0:Int))))
 (0≤v9∧v9<64)∧
 (ShaSched.inv6 x0 v9 v2_1 (v3_1.set (Int.toNat v9) v27) (IntKind.i64.wrap (v12+(1:Int)))∧ShaSched.mes6 x0 v9 v2_1 (v3_1.set (Int.toNat v9) v27) (IntKind.i64.wrap (v12+(1:Int)))<ShaSched.mes6 x0 v9 v2_1 v3_1 v12))))∧
 ((decide (v12<(4:Int)))=false→
 (ShaSched.inv3 x0 v2_1 v3_1 (IntKind.i64.wrap (v9+(1:Int)))∧ShaSched.mes3 x0 v2_1 v3_1 (IntKind.i64.wrap (v9+(1:Int)))<ShaSched.mes3 x0 v2 v3 v9)))))∧
 ((decide (v9<(16:Int)))=false→
 (ShaSched.inv12 x0 v2 v3 (16:Int)∧
 ∀(v2_2:(List Int)) (v3_2:(List Int)) (v6:Int),ShaSched.inv12 x0 v2_2 v3_2 v6→
 (((decide (v6<(64:Int)))=true→
 (0≤(IntKind.i64.wrap (v6-(15:Int)))∧(IntKind.i64.wrap (v6-(15:Int)))<64)∧
 (let v38:Int:=(v3_2.getD (Int.toNat (IntKind.i64.wrap (v6-(15:Int)))) (0:Int))
 ShaRotr.pre v38 (7:Int)∧
 (0≤(IntKind.i64.wrap (v6-(15:Int)))∧(IntKind.i64.wrap (v6-(15:Int)))<64)∧
 (let v43:Int:=(v3_2.getD (Int.toNat (IntKind.i64.wrap (v6-(15:Int)))) (0:Int))
 ShaRotr.pre v43 (18:Int)∧
 (let v45:Int:=(ixor .u32 (ShaRotr.fn v38 (7:Int)) (ShaRotr.fn v43 (18:Int)))
 (0≤(IntKind.i64.wrap (v6-(15:Int)))∧(IntKind.i64.wrap (v6-(15:Int)))<64)∧
 (let v49:Int:=(v3_2.getD (Int.toNat (IntKind.i64.wrap (v6-(15:Int)))) (0:Int))
 0≤(3:Int)∧
 (0≤(IntKind.i64.wrap (v6-(2:Int)))∧(IntKind.i64.wrap (v6-(2:Int)))<64)∧
 (let v55:Int:=(v3_2.getD (Int.toNat (IntKind.i64.wrap (v6-(2:Int)))) (0:Int))
 ShaRotr.pre v55 (17:Int)∧
 (0≤(IntKind.i64.wrap (v6-(2:Int)))∧(IntKind.i64.wrap (v6-(2:Int)))<64)∧
 (let v60:Int:=(v3_2.getD (Int.toNat (IntKind.i64.wrap (v6-(2:Int)))) (0:Int))
 ShaRotr.pre v60 (19:Int)∧
 (let v62:Int:=(ixor .u32 (ShaRotr.fn v55 (17:Int)) (ShaRotr.fn v60 (19:Int)))
 (0≤(IntKind.i64.wrap (v6-(2:Int)))∧(IntKind.i64.wrap (v6-(2:Int)))<64)∧
 (let v66:Int:=(v3_2.getD (Int.toNat (IntKind.i64.wrap (v6-(2:Int)))) (0:Int))
 0≤(10:Int)∧
 (0≤(IntKind.i64.wrap (v6-(16:Int)))∧(IntKind.i64.wrap (v6-(16:Int)))<64)∧
 (let v73:Int:=(v3_2.getD (Int.toNat (IntKind.i64.wrap (v6-(16:Int)))) (0:Int))
 (let v75:Int:=(IntKind.u32.wrap (v73+(ixor .u32 v45 (ishr .u32 v49 (3:Int)))))
 (0≤(IntKind.i64.wrap (v6-(7:Int)))∧(IntKind.i64.wrap (v6-(7:Int)))<64)∧
 (let v79:Int:=(v3_2.getD (Int.toNat (IntKind.i64.wrap (v6-(7:Int)))) (0:Int))
 (let v82:Int:=(IntKind.u32.wrap ((IntKind.u32.wrap (v75+v79))+(ixor .u32 v62 (ishr .u32 v66 (10:Int)))))
 (0≤v6∧v6<64)∧
 (ShaSched.inv12 x0 v2_2 (v3_2.set (Int.toNat v6) v82) (IntKind.i64.wrap (v6+(1:Int)))∧ShaSched.mes12 x0 v2_2 (v3_2.set (Int.toNat v6) v82) (IntKind.i64.wrap (v6+(1:Int)))<ShaSched.mes12 x0 v2_2 v3_2 v6))))))))))))))∧
 ((decide (v6<(64:Int)))=false→
 (Ret1 v3_2 (ShaSched.fn x0))))))))
theorem part4_succ {x:List Int}(hb:Bytes x){i j:Int}(h:0≤j)(h2:j<4):
 ior .u32 (ishl .u32 (part4 x i j) 8) (IntKind.u32.wrap (x.getD (4*i+j).toNat 0))=part4 x i (j+1):=by
 have b0:=hb.getD (4*i).toNat
 have b1:=hb.getD (4*i+1).toNat
 have b2:=hb.getD (4*i+2).toNat
 have b3:=hb.getD (4*i+3).toNat
 have p0:part4 x i 0=0:=rfl
 have p1:part4 x i 1=x.getD (4*i).toNat 0:=rfl
 have p2:part4 x i 2=256*x.getD (4*i).toNat 0+x.getD (4*i+1).toNat 0:=rfl
 have p3:part4 x i 3=65536*x.getD (4*i).toNat 0+256*x.getD (4*i+1).toNat 0+x.getD (4*i+2).toNat 0:=rfl
 have p4:part4 x i 4=word4 x i:=rfl
 obtain rfl|rfl|rfl|rfl:j=0∨j=1∨j=2∨j=3:=by omega
 ·rw[p0,or8 (by omega) (by omega) (hb.getD _),show(0:Int)+1=1 from rfl,p1,show 4*i+0=4*i by omega];omega
 ·rw[p1,or8 (by omega) (by omega) (hb.getD _),show(1:Int)+1=2 from rfl,p2]
 ·rw[p2,or8 (by omega) (by omega) (hb.getD _),show(2:Int)+1=3 from rfl,p3];omega
 ·rw[p3,or8 (by omega) (by omega) (hb.getD _),show(3:Int)+1=4 from rfl,p4,word4];omega
theorem ShaSched.vc :ShaSched.VC:=by
 intro x0 ⟨hl,hb⟩
 dsimp only
 refine⟨⟨by omega,by omega,(mix_zero _ _).symm⟩, ?_⟩
 rintro v2 v3 v9 ⟨h1,h2,rfl⟩
 refine⟨fun hc=> ?_,fun hc=> ?_⟩
 ·have hc:v9<16:=of_decide_eq_true hc
  refine⟨⟨by omega,by omega, ?_⟩, ?_⟩
  ·simp only[part4,if_true];exact(set_same (midA_get x0 (by omega)) (by rw[midA_len];omega)).symm
  rintro w2 w3 v12 ⟨k1,k2,rfl⟩
  refine⟨fun hd=> ?_,fun hd=> ?_⟩
  ·have hd:v12<4:=of_decide_eq_true hd
   have e1:IntKind.i64.wrap (IntKind.i64.wrap (4*v9)+v12)=4*v9+v12:=by rw[i64w (n:=4*v9) (by omega) (by omega),i64w (by omega) (by omega)]
   have e2:IntKind.i64.wrap (v12+1)=v12+1:=i64w (by omega) (by omega)
   rw[e1,e2]
   refine⟨by omega,by omega,by omega,by omega,⟨by omega,by omega, ?_⟩,by simp only[ShaSched.mes6];omega⟩
   rw[List.set_set,lget_set,if_pos ⟨rfl,by rw[midA_len];omega⟩,part4_succ hb k1 hd]
  ·have hd:¬(v12<4):=of_decide_eq_false hd
   have:v12=4:=by omega
   subst this
   rw[i64w (by omega) (by omega)]
   refine⟨⟨by omega,by omega, ?_⟩,by simp only[ShaSched.mes3];omega⟩
   simp only[part4]
   exact midA_succ x0 h1 hc
 ·have hc:¬(v9<16):=of_decide_eq_false hc
  have:v9=16:=by omega
  subst this
  refine⟨⟨by omega,by omega,(up_self _ _ _).symm⟩, ?_⟩
  rintro w2 w3 v6 ⟨k1,k2,rfl⟩
  refine⟨fun hd=> ?_,fun hd=> ?_⟩
  ·have hd:v6<64:=of_decide_eq_true hd
   simp(disch:=omega) only[i64w]
   refine⟨by omega,trivial,by omega,trivial,by omega,by omega,by omega,trivial,by omega,trivial,by omega,by omega,by omega,by omega,by omega,⟨by omega,by omega, ?_⟩,by simp only[ShaSched.mes12];omega⟩
   rw[up_succ k1]
   rfl
  ·have hd:¬(v6<64):=of_decide_eq_false hd
   have:v6=64:=by omega
   subst this
   rfl
def RefSched.pre (x:List Int):Prop:=x.length=64∧Bytes x
def RefSched.fn (x:List Int):List Int:=sched x
def RefSched.inv3 (x0 v2 v3:List Int)(v4:Int):Prop:=0≤v4∧v4≤16∧v3=midA x0 v4
def RefSched.mes3 (x0 v2 v3:List Int)(v4:Int):Nat:=(16-v4).toNat
def RefSched.inv7 (x0 v2 v3:List Int)(v5:Int):Prop:=16≤v5∧v5≤64∧v3=up schedB 16 v5 (midA x0 16)
def RefSched.mes7 (x0 v2 v3:List Int)(v5:Int):Nat:=(64-v5).toNat
def RefSched.VC :Prop:=∀(x0:(List Int)),RefSched.pre x0→
 (RefSched.inv3 x0 (List.replicate 64 (0:Int)) (List.replicate 64 (0:Int)) (0:Int)∧
 ∀(v2:(List Int)) (v3:(List Int)) (v4:Int),RefSched.inv3 x0 v2 v3 v4→
 (((decide (v4<(16:Int)))=true→
 (0≤(IntKind.i64.wrap ((4:Int)*v4))∧(IntKind.i64.wrap ((4:Int)*v4))<64)∧
 (let v16:Int:=(x0.getD (Int.toNat (IntKind.i64.wrap ((4:Int)*v4))) (0:Int))
 0≤(24:Int)∧
 (let v21:Int:=(IntKind.i64.wrap ((IntKind.i64.wrap ((4:Int)*v4))+(1:Int)))
 (0≤v21∧v21<64)∧
 0≤(16:Int)∧
 (let v25:Int:=(ishl .u32 (IntKind.u32.wrap (x0.getD (Int.toNat v21) (0:Int))) (16:Int))
 (let v29:Int:=(IntKind.i64.wrap ((IntKind.i64.wrap ((4:Int)*v4))+(2:Int)))
 (0≤v29∧v29<64)∧
 0≤(8:Int)∧
 (let v33:Int:=(ishl .u32 (IntKind.u32.wrap (x0.getD (Int.toNat v29) (0:Int))) (8:Int))
 (let v34:Int:=(ior .u32 (ior .u32 (ishl .u32 (IntKind.u32.wrap v16) (24:Int)) v25) v33)
 (let v37:Int:=(IntKind.i64.wrap ((IntKind.i64.wrap ((4:Int)*v4))+(3:Int)))
 (0≤v37∧v37<64)∧
 (let v41:Int:=(ior .u32 v34 (IntKind.u32.wrap (x0.getD (Int.toNat v37) (0:Int))))
 (0≤v4∧v4<64)∧
 (RefSched.inv3 x0 v2 (v3.set (Int.toNat v4) v41) (IntKind.i64.wrap (v4+(1:Int)))∧RefSched.mes3 x0 v2 (v3.set (Int.toNat v4) v41) (IntKind.i64.wrap (v4+(1:Int)))<RefSched.mes3 x0 v2 v3 v4))))))))))∧
 ((decide (v4<(16:Int)))=false→
 (RefSched.inv7 x0 v2 v3 (16:Int)∧
 ∀(v2_1:(List Int)) (v3_1:(List Int)) (v5:Int),RefSched.inv7 x0 v2_1 v3_1 v5→
 (((decide (v5<(64:Int)))=true→
 (0≤(IntKind.i64.wrap (v5-(15:Int)))∧(IntKind.i64.wrap (v5-(15:Int)))<64)∧
 (let v50:Int:=(v3_1.getD (Int.toNat (IntKind.i64.wrap (v5-(15:Int)))) (0:Int))
 RefRotr.pre v50 (7:Int)∧
 (0≤(IntKind.i64.wrap (v5-(15:Int)))∧(IntKind.i64.wrap (v5-(15:Int)))<64)∧
 (let v55:Int:=(v3_1.getD (Int.toNat (IntKind.i64.wrap (v5-(15:Int)))) (0:Int))
 RefRotr.pre v55 (18:Int)∧
 (let v57:Int:=(ixor .u32 (RefRotr.fn v50 (7:Int)) (RefRotr.fn v55 (18:Int)))
 (0≤(IntKind.i64.wrap (v5-(15:Int)))∧(IntKind.i64.wrap (v5-(15:Int)))<64)∧
 (let v61:Int:=(v3_1.getD (Int.toNat (IntKind.i64.wrap (v5-(15:Int)))) (0:Int))
 0≤(3:Int)∧
 (0≤(IntKind.i64.wrap (v5-(2:Int)))∧(IntKind.i64.wrap (v5-(2:Int)))<64)∧
 (let v67:Int:=(v3_1.getD (Int.toNat (IntKind.i64.wrap (v5-(2:Int)))) (0:Int))
 RefRotr.pre v67 (17:Int)∧
 (0≤(IntKind.i64.wrap (v5-(2:Int)))∧(IntKind.i64.wrap (v5-(2:Int)))<64)∧
 (let v72:Int:=(v3_1.getD (Int.toNat (IntKind.i64.wrap (v5-(2:Int)))) (0:Int))
 RefRotr.pre v72 (19:Int)∧
 (let v74:Int:=(ixor .u32 (RefRotr.fn v67 (17:Int)) (RefRotr.fn v72 (19:Int)))
 (0≤(IntKind.i64.wrap (v5-(2:Int)))∧(IntKind.i64.wrap (v5-(2:Int)))<64)∧
 (let v78:Int:=(v3_1.getD (Int.toNat (IntKind.i64.wrap (v5-(2:Int)))) (0:Int))
 0≤(10:Int)∧
 (0≤(IntKind.i64.wrap (v5-(16:Int)))∧(IntKind.i64.wrap (v5-(16:Int)))<64)∧
 (let v85:Int:=(v3_1.getD (Int.toNat (IntKind.i64.wrap (v5-(16:Int)))) (0:Int))
 (let v87:Int:=(IntKind.u32.wrap (v85+(ixor .u32 v57 (ishr .u32 v61 (3:Int)))))
 (0≤(IntKind.i64.wrap (v5-(7:Int)))∧(IntKind.i64.wrap (v5-(7:Int)))<64)∧
 (let v91:Int:=(v3_1.getD (Int.toNat (IntKind.i64.wrap (v5-(7:Int)))) (0:Int))
 (let v94:Int:=(IntKind.u32.wrap ((IntKind.u32.wrap (v87+v91))+(ixor .u32 v74 (ishr .u32 v78 (10:Int)))))
 (0≤v5∧v5<64)∧
 (RefSched.inv7 x0 v2_1 (v3_1.set (Int.toNat v5) v94) (IntKind.i64.wrap (v5+(1:Int)))∧RefSched.mes7 x0 v2_1 (v3_1.set (Int.toNat v5) v94) (IntKind.i64.wrap (v5+(1:Int)))<RefSched.mes7 x0 v2_1 v3_1 v5))))))))))))))∧
 ((decide (v5<(64:Int)))=false→
 (Ret1 v3_1 (RefSched.fn x0))))))))
theorem RefSched.vc :RefSched.VC:=by
 intro x0 ⟨hl,hb⟩
 dsimp only
 refine⟨⟨by omega,by omega,(mix_zero _ _).symm⟩, ?_⟩
 rintro v2 v3 v4 ⟨h1,h2,rfl⟩
 refine⟨fun hc=> ?_,fun hc=> ?_⟩
 ·have hc:v4<16:=of_decide_eq_true hc
  simp(disch:=omega) only[i64w]
  refine⟨by omega,by omega,by omega,by omega,by omega,by omega,by omega,by omega,⟨by omega,by omega, ?_⟩,by simp only[RefSched.mes3];omega⟩
  rw[or4 (hb.getD _) (hb.getD _) (hb.getD _) (hb.getD _)]
  exact midA_succ x0 h1 hc
 ·have hc:¬(v4<16):=of_decide_eq_false hc
  have:v4=16:=by omega
  subst this
  refine⟨⟨by omega,by omega,(up_self _ _ _).symm⟩, ?_⟩
  rintro w2 w3 v6 ⟨k1,k2,rfl⟩
  refine⟨fun hd=> ?_,fun hd=> ?_⟩
  ·have hd:v6<64:=of_decide_eq_true hd
   simp(disch:=omega) only[i64w]
   refine⟨by omega,trivial,by omega,trivial,by omega,by omega,by omega,trivial,by omega,trivial,by omega,by omega,by omega,by omega,by omega,⟨by omega,by omega, ?_⟩,by simp only[RefSched.mes7];omega⟩
   rw[up_succ k1]
   rfl
  ·have hd:¬(v6<64):=of_decide_eq_false hd
   have:v6=64:=by omega
   subst this
   rfl
structure S8 where
 a:Int
 b:Int
 c:Int
 d:Int
 e:Int
 f:Int
 g:Int
 h:Int
def t1 (w:List Int)(i:Int)(s:S8):Int:=IntKind.u32.wrap (IntKind.u32.wrap (IntKind.u32.wrap (IntKind.u32.wrap (s.h+ixor .u32 (ixor .u32 (ShaRotr.fn s.e 6) (ShaRotr.fn s.e 11)) (ShaRotr.fn s.e 25))+ixor .u32 (iand .u32 s.e s.f) (iand .u32 (inot .u32 s.e) s.g))+ShaK.getD i.toNat 0)+w.getD i.toNat 0)
def t2 (s:S8):Int:=IntKind.u32.wrap (ixor .u32 (ixor .u32 (ShaRotr.fn s.a 2) (ShaRotr.fn s.a 13)) (ShaRotr.fn s.a 22)+ixor .u32 (ixor .u32 (iand .u32 s.a s.b) (iand .u32 s.a s.c)) (iand .u32 s.b s.c))
def round (w:List Int)(i:Int)(s:S8):S8:=⟨IntKind.u32.wrap (t1 w i s+t2 s),s.a,s.b,s.c,IntKind.u32.wrap (s.d+t1 w i s),s.e,s.f,s.g⟩
def load8 (x:List Int):S8:=⟨x.getD 0 0,x.getD 1 0,x.getD 2 0,x.getD 3 0,x.getD 4 0,x.getD 5 0,x.getD 6 0,x.getD 7 0⟩
def add8 (x:List Int)(s:S8):List Int:=[IntKind.u32.wrap (x.getD 0 0+s.a),IntKind.u32.wrap (x.getD 1 0+s.b),IntKind.u32.wrap (x.getD 2 0+s.c),IntKind.u32.wrap (x.getD 3 0+s.d),IntKind.u32.wrap (x.getD 4 0+s.e),IntKind.u32.wrap (x.getD 5 0+s.f),IntKind.u32.wrap (x.getD 6 0+s.g),IntKind.u32.wrap (x.getD 7 0+s.h)]
def compress (x b:List Int):List Int:=add8 x (up (round (sched b)) 0 64 (load8 x))
def ShaCompress.pre (x b:List Int):Prop:=x.length=8∧b.length=64∧Bytes b
def ShaCompress.fn (x b:List Int):List Int:=compress x b
def ShaCompress.inv5 (x0 x1 v4 v5:List Int)(v6 v7 v8 v9 v10 v11 v12 v13 v35:Int):Prop:=0≤v35∧v35≤64∧v5=sched x1∧(⟨v6,v7,v8,v9,v10,v11,v12,v13⟩:S8)=up (round (sched x1)) 0 v35 (load8 x0)
def ShaCompress.mes5 (x0 x1 v4 v5:List Int)(v6 v7 v8 v9 v10 v11 v12 v13 v35:Int):Nat:=(64-v35).toNat
def ShaCompress.VC :Prop:=∀(x0:(List Int)) (x1:(List Int)),ShaCompress.pre x0 x1→
 ShaSched.pre x1∧
 (0≤(0:Int)∧(0:Int)<8)∧
 (0≤(1:Int)∧(1:Int)<8)∧
 (0≤(2:Int)∧(2:Int)<8)∧
 (0≤(3:Int)∧(3:Int)<8)∧
 (0≤(4:Int)∧(4:Int)<8)∧
 (0≤(5:Int)∧(5:Int)<8)∧
 (0≤(6:Int)∧(6:Int)<8)∧
 (0≤(7:Int)∧(7:Int)<8)∧
 (ShaCompress.inv5 x0 x1 (List.replicate 8 (0:Int)) (ShaSched.fn x1) (x0.getD (Int.toNat (0:Int)) (0:Int)) (x0.getD (Int.toNat (1:Int)) (0:Int)) (x0.getD (Int.toNat (2:Int)) (0:Int)) (x0.getD (Int.toNat (3:Int)) (0:Int)) (x0.getD (Int.toNat (4:Int)) (0:Int)) (x0.getD (Int.toNat (5:Int)) (0:Int)) (x0.getD (Int.toNat (6:Int)) (0:Int)) (x0.getD (Int.toNat (7:Int)) (0:Int)) (0:Int)∧
 ∀(v4:(List Int)) (v5:(List Int)) (v6:Int) (v7:Int) (v8:Int) (v9:Int) (v10:Int) (v11:Int) (v12:Int) (v13:Int) (v35:Int),ShaCompress.inv5 x0 x1 v4 v5 v6 v7 v8 v9 v10 v11 v12 v13 v35→
 (((decide (v35<(64:Int)))=true→
 ShaRotr.pre v10 (6:Int)∧
 ShaRotr.pre v10 (11:Int)∧
 (let v43:Int:=(ixor .u32 (ShaRotr.fn v10 (6:Int)) (ShaRotr.fn v10 (11:Int)))
 ShaRotr.pre v10 (25:Int)∧
 (let v47:Int:=(IntKind.u32.wrap (v13+(ixor .u32 v43 (ShaRotr.fn v10 (25:Int)))))
 (let v55:Int:=(ixor .u32 (iand .u32 v10 v11) (iand .u32 (inot .u32 v10) v12))
 (0≤v35∧v35<64)∧
 (let v60:Int:=(IntKind.u32.wrap ((IntKind.u32.wrap (v47+v55))+(ShaK.getD (Int.toNat v35) (0:Int))))
 (0≤v35∧v35<64)∧
 (let v64:Int:=(IntKind.u32.wrap (v60+(v5.getD (Int.toNat v35) (0:Int))))
 ShaRotr.pre v6 (2:Int)∧
 ShaRotr.pre v6 (13:Int)∧
 (let v69:Int:=(ixor .u32 (ShaRotr.fn v6 (2:Int)) (ShaRotr.fn v6 (13:Int)))
 ShaRotr.pre v6 (22:Int)∧
 (let v83:Int:=(ixor .u32 (ixor .u32 (iand .u32 v6 v7) (iand .u32 v6 v8)) (iand .u32 v7 v8))
 (let v84:Int:=(IntKind.u32.wrap ((ixor .u32 v69 (ShaRotr.fn v6 (22:Int)))+v83))
 (ShaCompress.inv5 x0 x1 v4 v5 (IntKind.u32.wrap (v64+v84)) v6 v7 v8 (IntKind.u32.wrap (v9+v64)) v10 v11 v12 (IntKind.i64.wrap (v35+(1:Int)))∧ShaCompress.mes5 x0 x1 v4 v5 (IntKind.u32.wrap (v64+v84)) v6 v7 v8 (IntKind.u32.wrap (v9+v64)) v10 v11 v12 (IntKind.i64.wrap (v35+(1:Int)))<ShaCompress.mes5 x0 x1 v4 v5 v6 v7 v8 v9 v10 v11 v12 v13 v35))))))))))∧
 ((decide (v35<(64:Int)))=false→
 (0≤(0:Int)∧(0:Int)<8)∧
 (let v101:Int:=(IntKind.u32.wrap ((x0.getD (Int.toNat (0:Int)) (0:Int))+v6))
 (0≤(1:Int)∧(1:Int)<8)∧
 (let v105:Int:=(IntKind.u32.wrap ((x0.getD (Int.toNat (1:Int)) (0:Int))+v7))
 (0≤(2:Int)∧(2:Int)<8)∧
 (let v109:Int:=(IntKind.u32.wrap ((x0.getD (Int.toNat (2:Int)) (0:Int))+v8))
 (0≤(3:Int)∧(3:Int)<8)∧
 (let v113:Int:=(IntKind.u32.wrap ((x0.getD (Int.toNat (3:Int)) (0:Int))+v9))
 (0≤(4:Int)∧(4:Int)<8)∧
 (let v117:Int:=(IntKind.u32.wrap ((x0.getD (Int.toNat (4:Int)) (0:Int))+v10))
 (0≤(5:Int)∧(5:Int)<8)∧
 (let v121:Int:=(IntKind.u32.wrap ((x0.getD (Int.toNat (5:Int)) (0:Int))+v11))
 (0≤(6:Int)∧(6:Int)<8)∧
 (let v125:Int:=(IntKind.u32.wrap ((x0.getD (Int.toNat (6:Int)) (0:Int))+v12))
 (0≤(7:Int)∧(7:Int)<8)∧
 (let v129:Int:=(IntKind.u32.wrap ((x0.getD (Int.toNat (7:Int)) (0:Int))+v13))
 (Ret1 [v101,v105,v109,v113,v117,v121,v125,v129] (ShaCompress.fn x0 x1)))))))))))))
theorem ShaCompress.vc :ShaCompress.VC:=by
 intro x0 x1 ⟨hl,hb⟩
 dsimp only
 refine⟨hb,by omega,by omega,by omega,by omega,by omega,by omega,by omega,by omega,⟨by omega,by omega,rfl,by rw[up_self];rfl⟩, ?_⟩
 rintro v4 v5 v6 v7 v8 v9 v10 v11 v12 v13 v35 ⟨h1,h2,rfl,h3⟩
 refine⟨fun hc=> ?_,fun hc=> ?_⟩
 ·have hc:v35<64:=of_decide_eq_true hc
  simp(disch:=omega) only[i64w]
  refine⟨trivial,trivial,trivial,by omega,by omega,trivial,trivial,trivial,⟨by omega,by omega,rfl, ?_⟩,by simp only[ShaCompress.mes5];omega⟩
  rw[up_succ h1,←h3]
  rfl
 ·have hc:¬(v35<64):=of_decide_eq_false hc
  have:v35=64:=by omega
  subst this
  refine⟨by omega,by omega,by omega,by omega,by omega,by omega,by omega,by omega,ret1.2 ?_⟩
  show _=compress x0 x1
  rw[compress,←h3]
  rfl
def RefConsts.pre :Prop:=True
def RefConsts.fn :List Int:=ShaK
def RefConsts.VC :Prop:=RefConsts.pre→
 (let v1:(List Int):=[(1116352408:Int),(1899447441:Int),(3049323471:Int),(3921009573:Int),(961987163:Int),(1508970993:Int),(2453635748:Int),(2870763221:Int),(3624381080:Int),(310598401:Int),(607225278:Int),(1426881987:Int),(1925078388:Int),(2162078206:Int),(2614888103:Int),(3248222580:Int),(3835390401:Int),(4022224774:Int),(264347078:Int),(604807628:Int),(770255983:Int),(1249150122:Int),(1555081692:Int),(1996064986:Int),(2554220882:Int),(2821834349:Int),(2952996808:Int),(3210313671:Int),(3336571891:Int),(3584528711:Int),(113926993:Int),(338241895:Int),(666307205:Int),(773529912:Int),(1294757372:Int),(1396182291:Int),(1695183700:Int),(1986661051:Int),(2177026350:Int),(2456956037:Int),(2730485921:Int),(2820302411:Int),(3259730800:Int),(3345764771:Int),(3516065817:Int),(3600352804:Int),(4094571909:Int),(275423344:Int),(430227734:Int),(506948616:Int),(659060556:Int),(883997877:Int),(958139571:Int),(1322822218:Int),(1537002063:Int),(1747873779:Int),(1955562222:Int),(2024104815:Int),(2227730452:Int),(2361852424:Int),(2428436474:Int),(2756734187:Int),(3204031479:Int),(3329325298:Int)]
 (Ret1 v1 RefConsts.fn))
theorem RefConsts.vc :RefConsts.VC:=fun _=>rfl
def RefInitial.pre :Prop:=True
def RefInitial.fn :List Int:=ShaInitial
def RefInitial.VC :Prop:=RefInitial.pre→
 (let v1:(List Int):=[(1779033703:Int),(3144134277:Int),(1013904242:Int),(2773480762:Int),(1359893119:Int),(2600822924:Int),(528734635:Int),(1541459225:Int)]
 (Ret1 v1 RefInitial.fn))
theorem RefInitial.vc :RefInitial.VC:=fun _=>rfl
def RefCompress.pre (x b:List Int):Prop:=x.length=8∧b.length=64∧Bytes b
def RefCompress.fn (x b:List Int):List Int:=compress x b
def RefCompress.inv4 (x0 x1 v4 v5 v6:List Int)(v7 v8 v9 v10 v11 v12 v13 v14 v15:Int):Prop:=0≤v15∧v15≤64∧v5=sched x1∧v6=ShaK∧(⟨v7,v8,v9,v10,v11,v12,v13,v14⟩:S8)=up (round (sched x1)) 0 v15 (load8 x0)
def RefCompress.mes4 (x0 x1 v4 v5 v6:List Int)(v7 v8 v9 v10 v11 v12 v13 v14 v15:Int):Nat:=(64-v15).toNat
def RefCompress.VC :Prop:=∀(x0:(List Int)) (x1:(List Int)),RefCompress.pre x0 x1→
 RefSched.pre x1∧
 RefConsts.pre∧
 (0≤(0:Int)∧(0:Int)<8)∧
 (0≤(1:Int)∧(1:Int)<8)∧
 (0≤(2:Int)∧(2:Int)<8)∧
 (0≤(3:Int)∧(3:Int)<8)∧
 (0≤(4:Int)∧(4:Int)<8)∧
 (0≤(5:Int)∧(5:Int)<8)∧
 (0≤(6:Int)∧(6:Int)<8)∧
 (0≤(7:Int)∧(7:Int)<8)∧
 (RefCompress.inv4 x0 x1 (List.replicate 8 (0:Int)) (RefSched.fn x1) (RefConsts.fn) (x0.getD (Int.toNat (0:Int)) (0:Int)) (x0.getD (Int.toNat (1:Int)) (0:Int)) (x0.getD (Int.toNat (2:Int)) (0:Int)) (x0.getD (Int.toNat (3:Int)) (0:Int)) (x0.getD (Int.toNat (4:Int)) (0:Int)) (x0.getD (Int.toNat (5:Int)) (0:Int)) (x0.getD (Int.toNat (6:Int)) (0:Int)) (x0.getD (Int.toNat (7:Int)) (0:Int)) (0:Int)∧
 ∀(v4:(List Int)) (v5:(List Int)) (v6:(List Int)) (v7:Int) (v8:Int) (v9:Int) (v10:Int) (v11:Int) (v12:Int) (v13:Int) (v14:Int) (v15:Int),RefCompress.inv4 x0 x1 v4 v5 v6 v7 v8 v9 v10 v11 v12 v13 v14 v15→
 (((decide (v15<(64:Int)))=true→
 RefRotr.pre v11 (6:Int)∧
 RefRotr.pre v11 (11:Int)∧
 (let v46:Int:=(ixor .u32 (RefRotr.fn v11 (6:Int)) (RefRotr.fn v11 (11:Int)))
 RefRotr.pre v11 (25:Int)∧
 (let v50:Int:=(IntKind.u32.wrap (v14+(ixor .u32 v46 (RefRotr.fn v11 (25:Int)))))
 (let v58:Int:=(ixor .u32 (iand .u32 v11 v12) (iand .u32 (inot .u32 v11) v13))
 (0≤v15∧v15<64)∧
 (let v63:Int:=(IntKind.u32.wrap ((IntKind.u32.wrap (v50+v58))+(v6.getD (Int.toNat v15) (0:Int))))
 (0≤v15∧v15<64)∧
 (let v67:Int:=(IntKind.u32.wrap (v63+(v5.getD (Int.toNat v15) (0:Int))))
 RefRotr.pre v7 (2:Int)∧
 RefRotr.pre v7 (13:Int)∧
 (let v72:Int:=(ixor .u32 (RefRotr.fn v7 (2:Int)) (RefRotr.fn v7 (13:Int)))
 RefRotr.pre v7 (22:Int)∧
 (let v86:Int:=(ixor .u32 (ixor .u32 (iand .u32 v7 v8) (iand .u32 v7 v9)) (iand .u32 v8 v9))
 (let v87:Int:=(IntKind.u32.wrap ((ixor .u32 v72 (RefRotr.fn v7 (22:Int)))+v86))
 (RefCompress.inv4 x0 x1 v4 v5 v6 (IntKind.u32.wrap (v67+v87)) v7 v8 v9 (IntKind.u32.wrap (v10+v67)) v11 v12 v13 (IntKind.i64.wrap (v15+(1:Int)))∧RefCompress.mes4 x0 x1 v4 v5 v6 (IntKind.u32.wrap (v67+v87)) v7 v8 v9 (IntKind.u32.wrap (v10+v67)) v11 v12 v13 (IntKind.i64.wrap (v15+(1:Int)))<RefCompress.mes4 x0 x1 v4 v5 v6 v7 v8 v9 v10 v11 v12 v13 v14 v15))))))))))∧
 ((decide (v15<(64:Int)))=false→
 (0≤(0:Int)∧(0:Int)<8)∧
 (let v103:Int:=(IntKind.u32.wrap ((x0.getD (Int.toNat (0:Int)) (0:Int))+v7))
 (0≤(1:Int)∧(1:Int)<8)∧
 (let v107:Int:=(IntKind.u32.wrap ((x0.getD (Int.toNat (1:Int)) (0:Int))+v8))
 (0≤(2:Int)∧(2:Int)<8)∧
 (let v111:Int:=(IntKind.u32.wrap ((x0.getD (Int.toNat (2:Int)) (0:Int))+v9))
 (0≤(3:Int)∧(3:Int)<8)∧
 (let v115:Int:=(IntKind.u32.wrap ((x0.getD (Int.toNat (3:Int)) (0:Int))+v10))
 (0≤(4:Int)∧(4:Int)<8)∧
 (let v119:Int:=(IntKind.u32.wrap ((x0.getD (Int.toNat (4:Int)) (0:Int))+v11))
 (0≤(5:Int)∧(5:Int)<8)∧
 (let v123:Int:=(IntKind.u32.wrap ((x0.getD (Int.toNat (5:Int)) (0:Int))+v12))
 (0≤(6:Int)∧(6:Int)<8)∧
 (let v127:Int:=(IntKind.u32.wrap ((x0.getD (Int.toNat (6:Int)) (0:Int))+v13))
 (0≤(7:Int)∧(7:Int)<8)∧
 (let v131:Int:=(IntKind.u32.wrap ((x0.getD (Int.toNat (7:Int)) (0:Int))+v14))
 (Ret1 [v103,v107,v111,v115,v119,v123,v127,v131] (RefCompress.fn x0 x1)))))))))))))
theorem RefCompress.vc :RefCompress.VC:=by
 intro x0 x1 ⟨hl,hb⟩
 dsimp only
 refine⟨hb,trivial,by omega,by omega,by omega,by omega,by omega,by omega,by omega,by omega,⟨by omega,by omega,rfl,rfl,by rw[up_self];rfl⟩, ?_⟩
 rintro v4 v5 v6 v7 v8 v9 v10 v11 v12 v13 v14 v15 ⟨h1,h2,rfl,rfl,h3⟩
 refine⟨fun hc=> ?_,fun hc=> ?_⟩
 ·have hc:v15<64:=of_decide_eq_true hc
  simp(disch:=omega) only[i64w]
  refine⟨trivial,trivial,trivial,by omega,by omega,trivial,trivial,trivial,⟨by omega,by omega,rfl,rfl, ?_⟩,by simp only[RefCompress.mes4];omega⟩
  rw[up_succ h1,←h3]
  rfl
 ·have hc:¬(v15<64):=of_decide_eq_false hc
  have:v15=64:=by omega
  subst this
  refine⟨by omega,by omega,by omega,by omega,by omega,by omega,by omega,by omega,ret1.2 ?_⟩
  show _=compress x0 x1
  rw[compress,←h3]
  rfl
theorem compress_len (x b:List Int):(compress x b).length=8:=rfl
end Lc
namespace Lc
open Go
def padZ (n:Int):Int:=(64-(n+9)%64)%64
def padByte (n:Int)(i:Int)(l:List Int):List Int:=l++[IntKind.u8.wrap (ishr .u64 (IntKind.u64.wrap (8*n)) (56-8*i))]
def pad (n:Int):List Int:=up (padByte n) 0 8 (128::List.replicate (padZ n).toNat 0)
def U64 (n:Int):Prop:=0≤n∧n≤18446744073709551615
theorem padUp_len (n:Int)(l:List Int){v:Int}(h:0≤v):((up (padByte n) 0 v l).length:Int)=l.length+v:=by
 have:∀k:Nat,((up (padByte n) 0 (k:Int) l).length:Int)=l.length+k:=by
  intro k
  induction k with
  |zero=>rw[show((0:Nat):Int)=0 from rfl,up_self];simp
  |succ k ih=>rw[Int.natCast_succ,up_succ (by omega)];simp only[padByte,List.length_append,List.length_singleton];omega
 have:=this v.toNat
 rwa [Int.toNat_of_nonneg h] at this
theorem pad_len (n:Int):((pad n).length:Int)=9+padZ n:=by
 rw[pad,padUp_len _ _ (by omega)]
 simp only[List.length_cons,List.length_replicate]
 have:0≤padZ n:=by unfold padZ;omega
 omega
theorem pad_bytes (n:Int):Bytes (pad n):=by
 refine up_keeps Bytes ?_ (fun i x _ hx=>hx.append ?_) 8
 ·intro x hx
  rcases List.mem_cons.1 hx with rfl|hx
  ·omega
  ·rw[List.eq_of_mem_replicate hx];omega
 ·intro x hx
  rw[List.mem_singleton.1 hx];exact u8r _
def ShaPad.pre (n:Int):Prop:=U64 n
def ShaPad.fn (n:Int):List Int:=pad n
def ShaPad.inv5 (n:Int)(v4:List Int)(v18:Int):Prop:=0≤v18∧v18≤8∧v4=up (padByte n) 0 v18 (128::List.replicate (padZ n).toNat 0)
def ShaPad.mes5 (n:Int)(v4:List Int)(v18:Int):Nat:=(8-v18).toNat
def ShaPad.VC :Prop:=∀(x0:Int),ShaPad.pre x0→
 (64:Int)≠0∧
 (let v9:Int:=(IntKind.u64.wrap ((64:Int)-(Int.tmod (IntKind.u64.wrap (x0+(9:Int))) (64:Int))))
 (64:Int)≠0∧
 (0≤(IntKind.u64.wrap ((1:Int)+(Int.tmod v9 (64:Int))))∧(IntKind.u64.wrap ((1:Int)+(Int.tmod v9 (64:Int))))≤(IntKind.u64.wrap ((9:Int)+(Int.tmod v9 (64:Int)))))∧
 Room ((IntKind.u64.wrap ((9:Int)+(Int.tmod v9 (64:Int))))).toNat 1∧
 (let v15h:(List Int):=(List.replicate ((IntKind.u64.wrap ((1:Int)+(Int.tmod v9 (64:Int))))).toNat (0:Int))
 (0≤(0:Int)∧(0:Int)<(v15h.length:Int))∧
 (ShaPad.inv5 x0 (v15h.set (Int.toNat (0:Int)) (128:Int)) (0:Int)∧
 ∀(v4:(List Int)) (v18:Int),ShaPad.inv5 x0 v4 v18→
 (((decide (v18<(8:Int)))=true→
 (let v26:Int:=(IntKind.i64.wrap ((56:Int)-(IntKind.i64.wrap ((8:Int)*v18))))
 0≤v26∧
 (let v28:Int:=(IntKind.u8.wrap (ishr .u64 (IntKind.u64.wrap ((8:Int)*x0)) v26))
 Room (v4.length+[v28].length) 1∧
 (ShaPad.inv5 x0 (v4++[v28]) (IntKind.i64.wrap (v18+(1:Int)))∧ShaPad.mes5 x0 (v4++[v28]) (IntKind.i64.wrap (v18+(1:Int)))<ShaPad.mes5 x0 v4 v18))))∧
 ((decide (v18<(8:Int)))=false→
 (Ret1 v4 (ShaPad.fn x0)))))))
theorem tmod_of_nonneg {a b:Int}(h:0≤a):Int.tmod a b=a%b:=Int.tmod_eq_emod_of_nonneg h
theorem tdiv_of_nonneg {a b:Int}(h:0≤a):Int.tdiv a b=a/b:=Int.tdiv_eq_ediv_of_nonneg h
theorem ShaPad.vc :ShaPad.VC:=by
 intro n ⟨h1,h2⟩
 dsimp only
 have e1:Int.tmod (IntKind.u64.wrap (n+9)) 64=(n+9)%64:=by rw[tmod_of_nonneg (u64r _).1,u64m];omega
 have e2:IntKind.u64.wrap (64-(n+9)%64)=64-(n+9)%64:=u64w (by omega) (by omega)
 have e3:Int.tmod (64-(n+9)%64) 64=padZ n:=tmod_of_nonneg (by omega)
 have hz:0≤padZ n∧padZ n<64:=by unfold padZ;omega
 rw[e1,e2,e3,u64w (n:=1+padZ n) (by omega) (by omega),u64w (n:=9+padZ n) (by omega) (by omega)]
 have e4:(1+padZ n).toNat=(padZ n).toNat+1:=by omega
 refine⟨by omega,by omega,by omega,room_of (by omega) (by omega),by rw[e4];simp only[List.length_replicate];omega,⟨by omega,by omega, ?_⟩, ?_⟩
 ·rw[up_self,e4,List.replicate_succ];rfl
 rintro v4 v18 ⟨k1,k2,rfl⟩
 refine⟨fun hc=> ?_,fun hc=> ?_⟩
 ·have hc:v18<8:=of_decide_eq_true hc
  have hl:=padUp_len n (128::List.replicate (padZ n).toNat 0) k1
  simp only[List.length_cons,List.length_replicate] at hl
  simp(disch:=omega) only[i64w]
  refine⟨by omega,room_of (by simp only[List.length_singleton];omega) (by omega),⟨by omega,by omega, ?_⟩,by simp only[ShaPad.mes5];omega⟩
  rw[up_succ k1];rfl
 ·have hc:¬(v18<8):=of_decide_eq_false hc
  have:v18=8:=by omega
  subst this
  rfl
def RefPad.pre (n:Int):Prop:=U64 n
def RefPad.fn (n:Int):List Int:=pad n
def RefPad.inv2 (n:Int)(v3:List Int):Prop:=∃j:Nat,(j:Int)≤padZ n∧v3=128::List.replicate j 0
def RefPad.mes2 (n:Int)(v3:List Int):Nat:=100-v3.length
def RefPad.inv5 (n:Int)(v3:List Int)(v4:Int):Prop:= -1≤v4∧v4≤7∧v3=up (padByte n) 0 (7-v4) (128::List.replicate (padZ n).toNat 0)
def RefPad.mes5 (n:Int)(v3:List Int)(v4:Int):Nat:=(v4+1).toNat
def RefPad.VC :Prop:=∀(x0:Int),RefPad.pre x0→
 (RefPad.inv2 x0 [(128:Int)]∧
 ∀(v3:(List Int)),RefPad.inv2 x0 v3→
 (let v10:Int:=(IntKind.u64.wrap (x0+(IntKind.u64.wrap (v3.length:Int))))
 (64:Int)≠0∧
 (let v13:Bool:=((Int.tmod (IntKind.u64.wrap (v10+(8:Int))) (64:Int)) !=(0:Int))
 ((v13=true→
 Room (v3.length+[(0:Int)].length) 1∧
 (RefPad.inv2 x0 (v3++[(0:Int)])∧RefPad.mes2 x0 (v3++[(0:Int)])<RefPad.mes2 x0 v3))∧
 (v13=false→
 (RefPad.inv5 x0 v3 (7:Int)∧
 ∀(v3_1:(List Int)) (v4:Int),RefPad.inv5 x0 v3_1 v4→
 (((decide (v4≥(0:Int)))=true→
 0≤(IntKind.i64.wrap ((8:Int)*v4))∧
 (let v26:Int:=(ishr .u64 (IntKind.u64.wrap ((8:Int)*x0)) (IntKind.i64.wrap ((8:Int)*v4)))
 Room (v3_1.length+[(IntKind.u8.wrap v26)].length) 1∧
 (RefPad.inv5 x0 (v3_1++[(IntKind.u8.wrap v26)]) (IntKind.i64.wrap (v4-(1:Int)))∧RefPad.mes5 x0 (v3_1++[(IntKind.u8.wrap v26)]) (IntKind.i64.wrap (v4-(1:Int)))<RefPad.mes5 x0 v3_1 v4)))∧
 ((decide (v4≥(0:Int)))=false→
 (Ret1 v3_1 (RefPad.fn x0))))))))))
theorem RefPad.vc :RefPad.VC:=by
 intro n ⟨h1,h2⟩
 dsimp only
 have hz:0≤padZ n∧padZ n<64:=by unfold padZ;omega
 have hz2:(n+padZ n+9)%64=0:=by unfold padZ;omega
 refine⟨⟨0,by omega,rfl⟩, ?_⟩
 rintro v3 ⟨j,j1,rfl⟩
 have hlen:(128::List.replicate j (0:Int)).length=j+1:=by simp
 have e1:Int.tmod (IntKind.u64.wrap (IntKind.u64.wrap (n+IntKind.u64.wrap ((128::List.replicate j (0:Int)).length:Int))+8)) 64=(n+j+9)%64:=by
  rw[tmod_of_nonneg (u64r _).1,hlen,u64m,u64m,u64m];omega
 rw[e1]
 refine⟨by omega,fun hc=> ?_,fun hc=> ?_⟩
 ·have hc:(n+j+9)%64≠0:=by simpa using hc
  have hj:(j:Int)≠padZ n:=by intro h;rw[h] at hc;omega
  refine⟨room_of (by rw[hlen];simp only[List.length_singleton];omega) (by omega),⟨j+1,by omega, ?_⟩,by simp only[RefPad.mes2,List.length_append,hlen,List.length_singleton];omega⟩
  rw[List.replicate_succ'];rfl
 ·have hc:(n+j+9)%64=0:=by simpa using hc
  have hj:(j:Int)=padZ n:=by omega
  have hj2:(padZ n).toNat=j:=by omega
  refine⟨⟨by omega,by omega, ?_⟩, ?_⟩
  ·rw[show(7:Int)-7=0 from rfl,up_self,hj2]
  rintro w3 v4 ⟨k1,k2,rfl⟩
  refine⟨fun hd=> ?_,fun hd=> ?_⟩
  ·have hd:v4≥0:=of_decide_eq_true hd
   have hl:=padUp_len n (128::List.replicate (padZ n).toNat 0) (v:=7-v4) (by omega)
   simp only[List.length_cons,List.length_replicate] at hl
   simp(disch:=omega) only[i64w]
   refine⟨by omega,room_of (by simp only[List.length_singleton];omega) (by omega),⟨by omega,by omega, ?_⟩,by simp only[RefPad.mes5];omega⟩
   rw[show 7-(v4-1)=(7-v4)+1 by omega,up_succ (by omega),padByte,show 56-8*(7-v4)=8*v4 by omega]
  ·have hd:¬(v4≥0):=of_decide_eq_false hd
   have:v4= -1:=by omega
   subst this
   rfl
def ShaRow.pre (x:List (List Int)):Prop:=x.length≤1000∧x.flatten.length≤500000000
def ShaRow.fn (x:List (List Int)):List Int:=x.flatten
def ShaRow.inv3 (x:List (List Int))(v3:List Int)(v8:Int):Prop:=0≤v8∧v8≤x.length∧v3=(x.take v8.toNat).flatten
def ShaRow.mes3 (x:List (List Int))(v3:List Int)(v8:Int):Nat:=(x.length-v8).toNat
def ShaRow.VC :Prop:=∀(x0:(List (List Int))),ShaRow.pre x0→
 (ShaRow.inv3 x0 [] (0:Int)∧
 ∀(v3:(List Int)) (v8:Int),ShaRow.inv3 x0 v3 v8→
 (((decide (v8<(x0.length:Int)))=true→
 (0≤v8∧v8<(x0.length:Int))∧
 Room (v3.length+(x0.getD (Int.toNat v8) []).length) 1∧
 (ShaRow.inv3 x0 (v3++(x0.getD (Int.toNat v8) [])) (IntKind.i64.wrap (v8+(1:Int)))∧ShaRow.mes3 x0 (v3++(x0.getD (Int.toNat v8) [])) (IntKind.i64.wrap (v8+(1:Int)))<ShaRow.mes3 x0 v3 v8))∧
 ((decide (v8<(x0.length:Int)))=false→
 (Ret1 v3 (ShaRow.fn x0)))))
theorem flatten_le {α:Type}(x:List (List α))(k:Nat):(x.take k).flatten.length≤x.flatten.length:=by
 conv=>rhs;rw[←List.take_append_drop k x,List.flatten_append,List.length_append]
 omega
theorem take_step {α:Type}(x:List (List α)){v:Int}(h:0≤v)(h2:v<x.length):(x.take (v+1).toNat).flatten=(x.take v.toNat).flatten++x.getD v.toNat []:=by
 rw[show(v+1).toNat=v.toNat+1 by omega,List.take_succ_eq_append_getElem (by omega),List.flatten_append]
 simp[List.getD_eq_getElem?_getD,show v.toNat<x.length by omega]
theorem ShaRow.vc :ShaRow.VC:=by
 intro x ⟨h1,h2⟩
 refine⟨⟨by omega,by omega,by simp⟩, ?_⟩
 rintro v3 v8 ⟨k1,k2,rfl⟩
 refine⟨fun hc=> ?_,fun hc=> ?_⟩
 ·have hc:v8<x.length:=of_decide_eq_true hc
  have hs:=take_step x k1 hc
  have hl:((x.take v8.toNat).flatten++x.getD v8.toNat []).length≤x.flatten.length:=by rw[←hs];exact flatten_le _ _
  rw[i64w (by omega) (by omega)]
  refine⟨by omega,room_of (by rw[List.length_append] at hl;omega) (by omega),⟨by omega,by omega,hs.symm⟩,by simp only[ShaRow.mes3];omega⟩
 ·have hc:¬(v8<x.length):=of_decide_eq_false hc
  rw[List.take_of_length_le (by omega)]
  rfl
def blockStep (m:List Int)(i:Int)(s:List Int):List Int:=compress s ((m.drop (64*i).toNat).take 64)
def chain (m:List Int)(k:Int):List Int:=up (blockStep m) 0 k ShaInitial
def digByte (s:List Int)(i:Int):Int:=IntKind.u8.wrap (ishr .u32 (s.getD (i/4).toNat 0) (24-i%4*8))
def digest (s:List Int):List Int:=(List.range 32).map (fun(i:Nat)=>digByte s (i:Int))
def message (x:List Int):List Int:=x++pad x.length
def sumC (x:List Int):List Int:=digest (chain (message x) ((message x).length/64))
theorem sum_ex :∃f:List Int→List Int,f=sumC:=⟨sumC,rfl⟩
noncomputable def sum :List Int→List Int:=Classical.choose sum_ex
theorem sum_def (x:List Int):sum x=digest (chain (message x) ((message x).length/64)):=congrFun (Classical.choose_spec sum_ex) x
theorem sum_comp (x:List Int):sum x=sumC x:=sum_def x
theorem digest_len (s:List Int):(digest s).length=32:=by simp[digest]
theorem digest_get (s:List Int){i:Int}(h:0≤i)(h2:i<32):(digest s).getD i.toNat 0=digByte s i:=by
 simp only[digest,List.getD_eq_getElem?_getD]
 rw[List.getElem?_map,List.getElem?_range (by omega)]
 simp[Int.toNat_of_nonneg h]
theorem digest_bytes (s:List Int):Bytes (digest s):=by
 intro y hy
 simp only[digest,List.mem_map] at hy
 obtain⟨i,_,rfl⟩:=hy
 exact u8r _
def digAt (s:List Int)(i:Int):List Int:=mix (digest s) (List.replicate 32 0) i.toNat
theorem digAt_succ (s:List Int){i:Int}(h:0≤i)(h2:i<32):(digAt s i).set i.toNat (digByte s i)=digAt s (i+1):=by
 rw[digAt,mix_set (by simp[digest_len]) (by rw[digest_len];omega) (digest_get s h h2).symm,digAt,show(i+1).toNat=i.toNat+1 by omega]
theorem chain_len (m:List Int)(k:Int):(chain m k).length=8:=up_keeps (fun(s:List Int)=>s.length=8) rfl (fun i x _ _=>compress_len _ _) k
theorem message_len (x:List Int):((message x).length:Int)=x.length+9+padZ x.length:=by
 simp only[message,List.length_append]
 have:=pad_len x.length
 omega
theorem message_bytes {x:List Int}(h:Bytes x):Bytes (message x):=h.append (pad_bytes _)
def SumOk (x:List Int):Prop:=x.length≤100000000∧Bytes x
theorem sum_len (x:List Int):(sum x).length=32:=by rw[sum_def];exact digest_len _
theorem sum_bytes (x:List Int):Bytes (sum x):=by rw[sum_def];exact digest_bytes _
theorem sum_ok (x:List Int):SumOk (sum x):=⟨by rw[sum_len];omega,sum_bytes x⟩
theorem SumOk.append {x y:List Int}(hx:Bytes x)(hy:Bytes y)(h:x.length+y.length≤100000000):SumOk (x++y):=⟨by rw[List.length_append];exact h,hx.append hy⟩
attribute [irreducible] digest chain
def ShaSum.pre (x:List Int):Prop:=SumOk x
noncomputable def ShaSum.fn (x:List Int):List Int:=sum x
def ShaSum.inv4 (x v2 v4:List Int)(v19:Int):Prop:=0≤v19∧v19≤((message x).length:Int)/64∧v4=chain (message x) v19
def ShaSum.mes4 (x v2 v4:List Int)(v19:Int):Nat:=(((message x).length:Int)/64-v19).toNat
def ShaSum.inv10 (x v2 v4 v6:List Int)(v31:Int):Prop:=0≤v31∧v31≤32∧v4=chain (message x) (((message x).length:Int)/64)∧v6=digAt v4 v31
def ShaSum.mes10 (x v2 v4 v6:List Int)(v31:Int):Nat:=(32-v31).toNat
def ShaSum.VC :Prop:=∀(x0:(List Int)),ShaSum.pre x0→
 ShaPad.pre (IntKind.u64.wrap (x0.length:Int))∧
 ShaRow.pre [x0,(ShaPad.fn (IntKind.u64.wrap (x0.length:Int)))]∧
 (let v14h:(List Int):=(ShaRow.fn [x0,(ShaPad.fn (IntKind.u64.wrap (x0.length:Int)))])
 (64:Int)≠0∧
 (ShaSum.inv4 x0 (List.replicate 32 (0:Int)) ShaInitial (0:Int)∧
 ∀(v2:(List Int)) (v4:(List Int)) (v19:Int),ShaSum.inv4 x0 v2 v4 v19→
 (let v20:Bool:=(decide (v19<(IntKind.i64.wrap (Int.tdiv (v14h.length:Int) (64:Int)))))
 ((v20=true→
 (0≤(IntKind.i64.wrap ((64:Int)*v19))∧(IntKind.i64.wrap ((64:Int)*v19))≤(v14h.length:Int)∧(v14h.length:Int)≤(v14h.length:Int))∧
 (let v26:(List Int):=((v14h.drop (Int.toNat (IntKind.i64.wrap ((64:Int)*v19)))).take ((Int.toNat (v14h.length:Int))-(Int.toNat (IntKind.i64.wrap ((64:Int)*v19)))))
 64≤v26.length∧
 ShaCompress.pre v4 (v26.take 64)∧
 (ShaSum.inv4 x0 v2 (ShaCompress.fn v4 (v26.take 64)) (IntKind.i64.wrap (v19+(1:Int)))∧ShaSum.mes4 x0 v2 (ShaCompress.fn v4 (v26.take 64)) (IntKind.i64.wrap (v19+(1:Int)))<ShaSum.mes4 x0 v2 v4 v19)))∧
 (v20=false→
 (ShaSum.inv10 x0 v2 v4 (List.replicate 32 (0:Int)) (0:Int)∧
 ∀(v2_1:(List Int)) (v4_1:(List Int)) (v6:(List Int)) (v31:Int),ShaSum.inv10 x0 v2_1 v4_1 v6 v31→
 (((decide (v31<(32:Int)))=true→
 (4:Int)≠0∧
 (0≤(IntKind.i64.wrap (Int.tdiv v31 (4:Int)))∧(IntKind.i64.wrap (Int.tdiv v31 (4:Int)))<8)∧
 (let v38:Int:=(v4_1.getD (Int.toNat (IntKind.i64.wrap (Int.tdiv v31 (4:Int)))) (0:Int))
 (4:Int)≠0∧
 (let v42:Int:=(IntKind.i64.wrap ((24:Int)-(IntKind.i64.wrap ((Int.tmod v31 (4:Int))*(8:Int)))))
 0≤v42∧
 (0≤v31∧v31<32)∧
 (let v6_1h:(List Int):=(v6.set (Int.toNat v31) (IntKind.u8.wrap (ishr .u32 v38 v42)))
 (ShaSum.inv10 x0 v2_1 v4_1 v6_1h (IntKind.i64.wrap (v31+(1:Int)))∧ShaSum.mes10 x0 v2_1 v4_1 v6_1h (IntKind.i64.wrap (v31+(1:Int)))<ShaSum.mes10 x0 v2_1 v4_1 v6 v31)))))∧
 ((decide (v31<(32:Int)))=false→
 (Ret1 v6 (ShaSum.fn x0))))))))))
theorem chain_succ (m:List Int){k:Int}(h:0≤k):chain m (k+1)=compress (chain m k) ((m.drop (64*k).toNat).take 64):=by
 unfold chain;rw[up_succ h];rfl
theorem chain_zero (m:List Int):chain m 0=ShaInitial:=by unfold chain;exact up_self _ _ _
theorem ShaSum.vc :ShaSum.VC:=by
 intro x ⟨h1,h2⟩
 have hm:=message_len x
 have hz:0≤padZ x.length∧padZ x.length<64:=by unfold padZ;omega
 have hb:=message_bytes h2
 dsimp only
 rw[u64w (n:=(x.length:Int)) (by omega) (by omega)]
 have er:ShaRow.fn [x,ShaPad.fn (x.length:Int)]=message x:=by simp[ShaRow.fn,ShaPad.fn,message]
 rw[er]
 generalize hM:message x=m at*
 have e1:IntKind.i64.wrap (Int.tdiv (m.length:Int) 64)=(m.length:Int)/64:=by rw[tdiv_of_nonneg (by omega),i64w (by omega) (by omega)]
 rw[e1]
 refine⟨⟨by omega,by omega⟩,⟨by simp, ?_⟩,by omega,⟨by omega,by omega,by rw[chain_zero]⟩, ?_⟩
 ·have:([x,ShaPad.fn (x.length:Int)].flatten).length=m.length:=by rw[←hM];simp[ShaPad.fn,message]
  rw[this];omega
 rintro v2 v4 v19 ⟨k1,k2,rfl⟩
 rw[hM] at k2
 refine⟨fun hc=> ?_,fun hc=> ?_⟩
 ·have hc:v19<(m.length:Int)/64:=of_decide_eq_true hc
  have e2:(m.drop (64*v19).toNat).take ((m.length:Int).toNat-(64*v19).toNat)=m.drop (64*v19).toNat:=List.take_of_length_le (by rw[List.length_drop];omega)
  rw[i64w (n:=64*v19) (by omega) (by omega),e2,i64w (n:=v19+1) (by omega) (by omega)]
  refine⟨by omega,by rw[List.length_drop];omega,⟨chain_len _ _,by rw[List.length_take,List.length_drop];omega,(hb.drop _).take _⟩,⟨by omega,by rw[hM];omega, ?_⟩,by simp only[ShaSum.mes4,hM];omega⟩
  rw[hM,chain_succ _ k1];rfl
 ·have hc:¬(v19<(m.length:Int)/64):=of_decide_eq_false hc
  have hk:v19=(m.length:Int)/64:=by omega
  refine⟨⟨by omega,by omega,by rw[hM,hk],by rw[digAt];exact(mix_zero _ _).symm⟩, ?_⟩
  rintro w2 w4 w6 v31 ⟨q1,q2,q3,rfl⟩
  rw[hM] at q3
  refine⟨fun hd=> ?_,fun hd=> ?_⟩
  ·have hd:v31<32:=of_decide_eq_true hd
   have e3:IntKind.i64.wrap (Int.tdiv v31 4)=v31/4:=by rw[tdiv_of_nonneg q1,i64w (by omega) (by omega)]
   have e4:IntKind.i64.wrap (24-IntKind.i64.wrap (Int.tmod v31 4*8))=24-v31%4*8:=by rw[tmod_of_nonneg q1,i64w (n:=v31%4*8) (by omega) (by omega),i64w (by omega) (by omega)]
   rw[e3,e4,i64w (n:=v31+1) (by omega) (by omega)]
   refine⟨by omega,by omega,by omega,by omega,by omega,⟨by omega,by omega,by rw[hM];exact q3, ?_⟩,by simp only[ShaSum.mes10];omega⟩
   exact digAt_succ w4 q1 hd
  ·have hd:¬(v31<32):=of_decide_eq_false hd
   have:v31=32:=by omega
   subst this
   refine ret1.2 ?_
   show _=sum x
   rw[sum_def,hM,←q3,digAt,mix_all (by rw[digest_len];decide) (by simp)]
def RefSum.pre (x:List Int):Prop:=SumOk x
noncomputable def RefSum.fn (x:List Int):List Int:=sum x
def RefSum.inv4 (x v2 v4:List Int)(v5:Int):Prop:=0≤v5∧v5≤(message x).length∧v5%64=0∧v4=chain (message x) (v5/64)
def RefSum.mes4 (x v2 v4:List Int)(v5:Int):Nat:=((message x).length-v5).toNat
def RefSum.inv11 (x s v2 v7:List Int)(v34:Int):Prop:=0≤v34∧v34≤8∧v7=digAt s (4*v34)
def RefSum.mes11 (x s v2 v7:List Int)(v34:Int):Nat:=(8-v34).toNat
def RefSum.VC :Prop:=∀(x0:(List Int)),RefSum.pre x0→
 Room x0.length 1∧
 RefPad.pre (IntKind.u64.wrap (x0.length:Int))∧
 Room (x0.length+(RefPad.fn (IntKind.u64.wrap (x0.length:Int))).length) 1∧
 RefInitial.pre∧
 (RefSum.inv4 x0 (List.replicate 32 (0:Int)) (RefInitial.fn) (0:Int)∧
 ∀(v2:(List Int)) (v4:(List Int)) (v5:Int),RefSum.inv4 x0 v2 v4 v5→
 (let v21:Int:=((x0++(RefPad.fn (IntKind.u64.wrap (x0.length:Int)))).length:Int)
 (((decide ((IntKind.i64.wrap (v5+(64:Int)))≤v21))=true→
 (0≤v5∧v5≤((x0++(RefPad.fn (IntKind.u64.wrap (x0.length:Int)))).length:Int)∧((x0++(RefPad.fn (IntKind.u64.wrap (x0.length:Int)))).length:Int)≤((x0++(RefPad.fn (IntKind.u64.wrap (x0.length:Int)))).length:Int))∧
 (let v28:(List Int):=(((x0++(RefPad.fn (IntKind.u64.wrap (x0.length:Int)))).drop (Int.toNat v5)).take ((Int.toNat ((x0++(RefPad.fn (IntKind.u64.wrap (x0.length:Int)))).length:Int))-(Int.toNat v5)))
 (let v29:Int:=((min v28.length (List.replicate 64 (0:Int)).length:Nat):Int)
 (let v6h:(List Int):=(v28.take (List.replicate 64 (0:Int)).length++(List.replicate 64 (0:Int)).drop v28.length)
 RefCompress.pre v4 v6h∧
 (RefSum.inv4 x0 v2 (RefCompress.fn v4 v6h) (IntKind.i64.wrap (v5+(64:Int)))∧RefSum.mes4 x0 v2 (RefCompress.fn v4 v6h) (IntKind.i64.wrap (v5+(64:Int)))<RefSum.mes4 x0 v2 v4 v5)))))∧
 ((decide ((IntKind.i64.wrap (v5+(64:Int)))≤v21))=false→
 (RefSum.inv11 x0 v4 v2 (List.replicate 32 (0:Int)) (0:Int)∧
 ∀(v2_1:(List Int)) (v7:(List Int)) (v34:Int),RefSum.inv11 x0 v4 v2_1 v7 v34→
 (((decide (v34<(8:Int)))=true→
 (0≤v34∧v34<8)∧
 (let v42:Int:=(IntKind.i64.wrap ((IntKind.i64.wrap ((4:Int)*v34))+(1:Int)))
 (let v45:Int:=(IntKind.i64.wrap ((IntKind.i64.wrap ((4:Int)*v34))+(2:Int)))
 (let v48:Int:=(IntKind.i64.wrap ((IntKind.i64.wrap ((4:Int)*v34))+(3:Int)))
 0≤(24:Int)∧
 (let v51:Int:=(IntKind.u8.wrap (ishr .u32 (v4.getD (Int.toNat v34) (0:Int)) (24:Int)))
 0≤(16:Int)∧
 (let v54:Int:=(IntKind.u8.wrap (ishr .u32 (v4.getD (Int.toNat v34) (0:Int)) (16:Int)))
 0≤(8:Int)∧
 (let v57:Int:=(IntKind.u8.wrap (ishr .u32 (v4.getD (Int.toNat v34) (0:Int)) (8:Int)))
 (0≤(IntKind.i64.wrap ((4:Int)*v34))∧(IntKind.i64.wrap ((4:Int)*v34))<32)∧
 (let v7_1h:(List Int):=(v7.set (Int.toNat (IntKind.i64.wrap ((4:Int)*v34))) v51)
 (0≤v42∧v42<32)∧
 (0≤v45∧v45<32)∧
 (0≤v48∧v48<32)∧
 (let v7_2h:(List Int):=(((v7_1h.set (Int.toNat v42) v54).set (Int.toNat v45) v57).set (Int.toNat v48) (IntKind.u8.wrap (v4.getD (Int.toNat v34) (0:Int))))
 (RefSum.inv11 x0 v4 v2_1 v7_2h (IntKind.i64.wrap (v34+(1:Int)))∧RefSum.mes11 x0 v4 v2_1 v7_2h (IntKind.i64.wrap (v34+(1:Int)))<RefSum.mes11 x0 v4 v2_1 v7 v34))))))))))∧
 ((decide (v34<(8:Int)))=false→
 (Ret1 v7 (RefSum.fn x0)))))))))
theorem ishr0 (x:Int):ishr .u32 x 0=x:=by
 simp[ishr,IntKind.bits]
theorem take64 {l:List Int}(h:64≤l.length):l.take (List.replicate 64 (0:Int)).length++(List.replicate 64 (0:Int)).drop l.length=l.take 64:=by
 rw[List.drop_eq_nil_of_le (by rw[List.length_replicate];exact h),List.append_nil,List.length_replicate]
theorem RefSum.vc :RefSum.VC:=by
 intro x ⟨h1,h2⟩
 have hm:=message_len x
 have hz:0≤padZ x.length∧padZ x.length<64:=by unfold padZ;omega
 have hb:=message_bytes h2
 dsimp only
 rw[u64w (n:=(x.length:Int)) (by omega) (by omega)]
 have er:x++RefPad.fn (x.length:Int)=message x:=rfl
 rw[er]
 have hp:=pad_len x.length
 generalize hM:message x=m at*
 refine⟨room_of (by omega) (by omega),⟨by omega,by omega⟩,room_of (by simp only[RefPad.fn];omega) (by omega),trivial,⟨by omega,by omega,by omega, ?_⟩, ?_⟩
 ·rw[show(0:Int)/64=0 from rfl,chain_zero];rfl
 rintro v2 v4 v5 ⟨k1,k2,k3,rfl⟩
 rw[hM] at k2
 refine⟨fun hc=> ?_,fun hc=> ?_⟩
 ·rw[i64w (n:=v5+64) (by omega) (by omega)] at hc⊢
  have hc:v5+64≤(m.length:Int):=of_decide_eq_true hc
  have e2:(m.drop v5.toNat).take ((m.length:Int).toNat-v5.toNat)=m.drop v5.toNat:=List.take_of_length_le (by rw[List.length_drop];omega)
  have hl:64≤(m.drop v5.toNat).length:=by rw[List.length_drop];omega
  rw[e2,take64 hl]
  refine⟨by omega,⟨chain_len _ _,by rw[List.length_take];omega,(hb.drop _).take _⟩,⟨by omega,by rw[hM];omega,by omega, ?_⟩,by simp only[RefSum.mes4,hM];omega⟩
  rw[hM,show(v5+64)/64=v5/64+1 by omega,chain_succ _ (by omega),show 64*(v5/64)=v5 by omega];rfl
 ·rw[i64w (n:=v5+64) (by omega) (by omega)] at hc
  have hc:¬(v5+64≤(m.length:Int)):=of_decide_eq_false hc
  refine⟨⟨by omega,by omega,by rw[digAt];exact(mix_zero _ _).symm⟩, ?_⟩
  rintro w2 w7 v34 ⟨q1,q2,rfl⟩
  rw[hM]
  generalize hs:chain m (v5/64)=s at*
  refine⟨fun hd=> ?_,fun hd=> ?_⟩
  ·have hd:v34<8:=of_decide_eq_true hd
   simp(disch:=omega) only[i64w]
   refine⟨by omega,by omega,by omega,by omega,by omega,by omega,by omega,by omega,⟨by omega,by omega, ?_⟩,by simp only[RefSum.mes11];omega⟩
   have d0:digByte s (4*v34)=IntKind.u8.wrap (ishr .u32 (s.getD v34.toNat 0) 24):=by rw[digByte,show 4*v34/4=v34 by omega,show 24-4*v34%4*8=24 by omega]
   have d1:digByte s (4*v34+1)=IntKind.u8.wrap (ishr .u32 (s.getD v34.toNat 0) 16):=by rw[digByte,show(4*v34+1)/4=v34 by omega,show 24-(4*v34+1)%4*8=16 by omega]
   have d2:digByte s (4*v34+2)=IntKind.u8.wrap (ishr .u32 (s.getD v34.toNat 0) 8):=by rw[digByte,show(4*v34+2)/4=v34 by omega,show 24-(4*v34+2)%4*8=8 by omega]
   have d3:digByte s (4*v34+3)=IntKind.u8.wrap (s.getD v34.toNat 0):=by rw[digByte,show(4*v34+3)/4=v34 by omega,show 24-(4*v34+3)%4*8=0 by omega,ishr0]
   rw[←d0,←d1,←d2,←d3,digAt_succ s (by omega) (by omega),digAt_succ s (by omega) (by omega),show 4*v34+1+1=4*v34+2 by omega,digAt_succ s (by omega) (by omega),show 4*v34+2+1=4*v34+3 by omega,digAt_succ s (by omega) (by omega),show 4*v34+3+1=4*(v34+1) by omega]
  ·have hd:¬(v34<8):=of_decide_eq_false hd
   have:v34=8:=by omega
   subst this
   refine ret1.2 ?_
   show _=sum x
   rw[sum_def,hM,show((m.length:Int)/64)=v5/64 by omega,hs,digAt,mix_all (by rw[digest_len];decide) (by simp)]
def ShaDouble.pre (x:List Int):Prop:=SumOk x
noncomputable def ShaDouble.fn (x:List Int):List Int:=sum (sum x)
def ShaDouble.VC :Prop:=∀(x0:(List Int)),ShaDouble.pre x0→
 ShaSum.pre x0∧
 ShaSum.pre (ShaSum.fn x0)∧
 (Ret1 (ShaSum.fn (ShaSum.fn x0)) (ShaDouble.fn x0))
theorem ShaDouble.vc :ShaDouble.VC:=fun x h=>⟨h,sum_ok x,rfl⟩
def RefDouble.pre (x:List Int):Prop:=SumOk x
noncomputable def RefDouble.fn (x:List Int):List Int:=sum (sum x)
def RefDouble.VC :Prop:=∀(x0:(List Int)),RefDouble.pre x0→
 RefSum.pre x0∧
 RefSum.pre (RefSum.fn x0)∧
 (Ret1 (RefSum.fn (RefSum.fn x0)) (RefDouble.fn x0))
theorem RefDouble.vc :RefDouble.VC:=fun x h=>⟨h,sum_ok x,rfl⟩
noncomputable def tagged (t:ByteArray)(b:List Int):List Int:=sum (sum (bytesOf t)++sum (bytesOf t)++b)
def TagOk (t:ByteArray)(b:List Int):Prop:=t.size≤10000000∧b.length≤10000000∧Bytes b
theorem tag_ok (t:ByteArray)(h:t.size≤10000000):SumOk (bytesOf t):=⟨by rw[bytesOf_len];omega,Bytes.of⟩
def ShaTagged.pre (t:ByteArray)(b:List Int):Prop:=TagOk t b
noncomputable def ShaTagged.fn (t:ByteArray)(b:List Int):List Int:=tagged t b
def ShaTagged.VC :Prop:=∀(x0:ByteArray) (x1:(List Int)),ShaTagged.pre x0 x1→
 ShaSum.pre (bytesOf x0)∧
 ShaRow.pre [(ShaSum.fn (bytesOf x0)),(ShaSum.fn (bytesOf x0)),x1]∧
 (let v13h:(List Int):=(ShaRow.fn [(ShaSum.fn (bytesOf x0)),(ShaSum.fn (bytesOf x0)),x1])
 ShaSum.pre v13h∧
 (Ret1 (ShaSum.fn v13h) (ShaTagged.fn x0 x1)))
theorem ShaTagged.vc :ShaTagged.VC:=by
 intro t b ⟨h1,h2,h3⟩
 dsimp only
 have e:ShaRow.fn [ShaSum.fn (bytesOf t),ShaSum.fn (bytesOf t),b]=sum (bytesOf t)++sum (bytesOf t)++b:=by simp[ShaRow.fn,ShaSum.fn]
 have hl:(sum (bytesOf t)++sum (bytesOf t)++b).length=64+b.length:=by simp only[List.length_append,sum_len]
 rw[e]
 refine⟨tag_ok t h1,⟨by simp, ?_⟩,SumOk.append ((sum_bytes _).append (sum_bytes _)) h3 (by simp only[List.length_append,sum_len];omega),rfl⟩
 simp only[ShaSum.fn,List.flatten_cons,List.flatten_nil,List.append_nil,List.length_append,sum_len];omega
def RefTagged.pre (t:ByteArray)(b:List Int):Prop:=TagOk t b
noncomputable def RefTagged.fn (t:ByteArray)(b:List Int):List Int:=tagged t b
def RefTagged.VC :Prop:=∀(x0:ByteArray) (x1:(List Int)),RefTagged.pre x0 x1→
 RefSum.pre (bytesOf x0)∧
 Room (RefSum.fn (bytesOf x0)).length 1∧
 Room ((RefSum.fn (bytesOf x0)).length+(RefSum.fn (bytesOf x0)).length) 1∧
 Room (((RefSum.fn (bytesOf x0))++(RefSum.fn (bytesOf x0))).length+x1.length) 1∧
 (let v14h:(List Int):=(((RefSum.fn (bytesOf x0))++(RefSum.fn (bytesOf x0)))++x1)
 RefSum.pre v14h∧
 (Ret1 (RefSum.fn v14h) (RefTagged.fn x0 x1)))
theorem RefTagged.vc :RefTagged.VC:=by
 intro t b ⟨h1,h2,h3⟩
 dsimp only
 simp only[RefSum.fn]
 refine⟨tag_ok t h1,room_of (by rw[sum_len];omega) (by omega),room_of (by rw[sum_len];omega) (by omega),room_of (by simp only[List.length_append,sum_len];omega) (by omega),SumOk.append ((sum_bytes _).append (sum_bytes _)) h3 (by simp only[List.length_append,sum_len];omega),rfl⟩
noncomputable def shortKey (k:List Int):List Int:=if(k.length:Int)>64 then sum k else k
def key64 (k:List Int):List Int:=k.take (List.replicate 64 (0:Int)).length++(List.replicate 64 (0:Int)).drop k.length
def xorAll (c:Int)(l:List Int):List Int:=l.map (fun v=>ixor .u8 v c)
noncomputable def hmac (k b:List Int):List Int:=sum (xorAll 92 (key64 (shortKey k))++sum (xorAll 54 (key64 (shortKey k))++b))
theorem key64_len (k:List Int):(key64 k).length=64:=by simp only[key64,List.length_append,List.length_take,List.length_drop,List.length_replicate];omega
theorem xorAll_len (c:Int)(l:List Int):(xorAll c l).length=l.length:=by simp[xorAll]
theorem xorAll_bytes (c:Int)(l:List Int):Bytes (xorAll c l):=by
 intro y hy
 simp only[xorAll,List.mem_map] at hy
 obtain⟨i,_,rfl⟩:=hy
 exact u8r _
theorem xorAll_get (c:Int)(l:List Int){i:Nat}(h:i<l.length):(xorAll c l).getD i 0=ixor .u8 (l.getD i 0) c:=by
 simp[xorAll,List.getD_eq_getElem?_getD,h]
def KeyOk (k b:List Int):Prop:=SumOk k∧b.length≤10000000∧Bytes b
def ShaHmac.pre (k b:List Int):Prop:=KeyOk k b
noncomputable def ShaHmac.fn (k b:List Int):List Int:=hmac k b
def ShaHmac.inv8 (x0 x1 v4 v6 v7:List Int)(v22:Int):Prop:=0≤v22∧v22≤64∧v6=mix (xorAll 54 (key64 (shortKey x0))) (key64 (shortKey x0)) v22.toNat∧v7=mix (xorAll 92 (key64 (shortKey x0))) (key64 (shortKey x0)) v22.toNat
def ShaHmac.mes8 (x0 x1 v4 v6 v7:List Int)(v22:Int):Nat:=(64-v22).toNat
def ShaHmac.VC :Prop:=∀(x0:(List Int)) (x1:(List Int)),ShaHmac.pre x0 x1→
 (((decide ((x0.length:Int)>(64:Int)))=true→
 ShaSum.pre x0∧
 (let v18:Int:=((min (ShaSum.fn x0).length (List.replicate 64 (0:Int)).length:Nat):Int)
 (let v6h:(List Int):=((ShaSum.fn x0).take (List.replicate 64 (0:Int)).length++(List.replicate 64 (0:Int)).drop (ShaSum.fn x0).length)
 (let v21:Int:=((min (ShaSum.fn x0).length (List.replicate 64 (0:Int)).length:Nat):Int)
 (let v7h:(List Int):=((ShaSum.fn x0).take (List.replicate 64 (0:Int)).length++(List.replicate 64 (0:Int)).drop (ShaSum.fn x0).length)
 (ShaHmac.inv8 x0 x1 (List.replicate 32 (0:Int)) v6h v7h (0:Int)∧
 ∀(v4:(List Int)) (v6_1:(List Int)) (v7_1:(List Int)) (v22:Int),ShaHmac.inv8 x0 x1 v4 v6_1 v7_1 v22→
 (((decide (v22<(64:Int)))=true→
 (0≤v22∧v22<64)∧
 (0≤v22∧v22<64)∧
 (let v6_2h:(List Int):=(v6_1.set (Int.toNat v22) (ixor .u8 (v6_1.getD (Int.toNat v22) (0:Int)) (54:Int)))
 (0≤v22∧v22<64)∧
 (0≤v22∧v22<64)∧
 (let v7_2h:(List Int):=(v7_1.set (Int.toNat v22) (ixor .u8 (v7_1.getD (Int.toNat v22) (0:Int)) (92:Int)))
 (ShaHmac.inv8 x0 x1 v4 v6_2h v7_2h (IntKind.i64.wrap (v22+(1:Int)))∧ShaHmac.mes8 x0 x1 v4 v6_2h v7_2h (IntKind.i64.wrap (v22+(1:Int)))<ShaHmac.mes8 x0 x1 v4 v6_1 v7_1 v22))))∧
 ((decide (v22<(64:Int)))=false→
 ShaRow.pre [v6_1,x1]∧
 ShaSum.pre (ShaRow.fn [v6_1,x1])∧
 ShaRow.pre [v7_1,(ShaSum.fn (ShaRow.fn [v6_1,x1]))]∧
 ShaSum.pre (ShaRow.fn [v7_1,(ShaSum.fn (ShaRow.fn [v6_1,x1]))])∧
 (let v45:(List Int):=(ShaSum.fn (ShaRow.fn [v7_1,(ShaSum.fn (ShaRow.fn [v6_1,x1]))]))
 (Ret1 v45 (ShaHmac.fn x0 x1)))))))))))∧
 ((decide ((x0.length:Int)>(64:Int)))=false→
 (let v18_1:Int:=((min x0.length (List.replicate 64 (0:Int)).length:Nat):Int)
 (let v6_3h:(List Int):=(x0.take (List.replicate 64 (0:Int)).length++(List.replicate 64 (0:Int)).drop x0.length)
 (let v21_1:Int:=((min x0.length (List.replicate 64 (0:Int)).length:Nat):Int)
 (let v7_3h:(List Int):=(x0.take (List.replicate 64 (0:Int)).length++(List.replicate 64 (0:Int)).drop x0.length)
 (ShaHmac.inv8 x0 x1 (List.replicate 32 (0:Int)) v6_3h v7_3h (0:Int)∧
 ∀(v4_1:(List Int)) (v6_4:(List Int)) (v7_4:(List Int)) (v22_1:Int),ShaHmac.inv8 x0 x1 v4_1 v6_4 v7_4 v22_1→
 (((decide (v22_1<(64:Int)))=true→
 (0≤v22_1∧v22_1<64)∧
 (let v28:Int:=(ixor .u8 (v6_4.getD (Int.toNat v22_1) (0:Int)) (54:Int))
 (0≤v22_1∧v22_1<64)∧
 (0≤v22_1∧v22_1<64)∧
 (let v33:Int:=(ixor .u8 (v7_4.getD (Int.toNat v22_1) (0:Int)) (92:Int))
 (0≤v22_1∧v22_1<64)∧
 (ShaHmac.inv8 x0 x1 v4_1 (v6_4.set (Int.toNat v22_1) v28) (v7_4.set (Int.toNat v22_1) v33) (IntKind.i64.wrap (v22_1+(1:Int)))∧ShaHmac.mes8 x0 x1 v4_1 (v6_4.set (Int.toNat v22_1) v28) (v7_4.set (Int.toNat v22_1) v33) (IntKind.i64.wrap (v22_1+(1:Int)))<ShaHmac.mes8 x0 x1 v4_1 v6_4 v7_4 v22_1))))∧
 ((decide (v22_1<(64:Int)))=false→
 ShaRow.pre [v6_4,x1]∧
 ShaSum.pre (ShaRow.fn [v6_4,x1])∧
 ShaRow.pre [v7_4,(ShaSum.fn (ShaRow.fn [v6_4,x1]))]∧
 ShaSum.pre (ShaRow.fn [v7_4,(ShaSum.fn (ShaRow.fn [v6_4,x1]))])∧
 (let v45_1:(List Int):=(ShaSum.fn (ShaRow.fn [v7_4,(ShaSum.fn (ShaRow.fn [v6_4,x1]))]))
 (Ret1 v45_1 (ShaHmac.fn x0 x1))))))))))))
theorem mixAll {A B:List Int}(h:A.length=64)(h2:B.length=64):mix A B (64:Int).toNat=A:=mix_all (by rw[h];decide) (by rw[h2];decide)
theorem hmac_end {x0 x1:List Int}(h2:x1.length≤10000000)(h3:Bytes x1):
 ShaRow.pre [xorAll 54 (key64 (shortKey x0)),x1]∧ShaSum.pre (ShaRow.fn [xorAll 54 (key64 (shortKey x0)),x1])∧ShaRow.pre [xorAll 92 (key64 (shortKey x0)),ShaSum.fn (ShaRow.fn [xorAll 54 (key64 (shortKey x0)),x1])]∧
 ShaSum.pre (ShaRow.fn [xorAll 92 (key64 (shortKey x0)),ShaSum.fn (ShaRow.fn [xorAll 54 (key64 (shortKey x0)),x1])])∧Ret1 (ShaSum.fn (ShaRow.fn [xorAll 92 (key64 (shortKey x0)),ShaSum.fn (ShaRow.fn [xorAll 54 (key64 (shortKey x0)),x1])])) (ShaHmac.fn x0 x1):=by
 have e:∀a b:List Int,ShaRow.fn [a,b]=a++b:=fun a b=>by simp[ShaRow.fn]
 have l1:∀c,(xorAll c (key64 (shortKey x0))).length=64:=fun c=>by rw[xorAll_len,key64_len]
 rw[e,e]
 simp only[ShaSum.fn]
 refine⟨⟨by simp, ?_⟩,SumOk.append (xorAll_bytes _ _) h3 (by rw[l1];omega),⟨by simp, ?_⟩,SumOk.append (xorAll_bytes _ _) (sum_bytes _) (by rw[l1,sum_len];omega),rfl⟩
 ·simp only[List.flatten_cons,List.flatten_nil,List.append_nil,List.length_append,l1];omega
 ·simp only[List.flatten_cons,List.flatten_nil,List.append_nil,List.length_append,l1,sum_len];omega
theorem mixx (c:Int)(k:List Int){v:Int}(h:0≤v)(h2:v<64):(mix (xorAll c (key64 k)) (key64 k) v.toNat).set v.toNat (ixor .u8 ((mix (xorAll c (key64 k)) (key64 k) v.toNat).getD v.toNat 0) c)=mix (xorAll c (key64 k)) (key64 k) (v+1).toNat:=by
 have l1:(xorAll c (key64 k)).length=64:=by rw[xorAll_len,key64_len]
 rw[mix_get (by rw[l1];omega),mix_set (by rw[l1,key64_len]) (by rw[l1];omega) (xorAll_get c _ (by rw[key64_len];omega)).symm,show(v+1).toNat=v.toNat+1 by omega]
theorem ShaHmac.vc :ShaHmac.VC:=by
 intro x0 x1 ⟨h1,h2,h3⟩
 dsimp only
 have l1:∀c,(xorAll c (key64 (shortKey x0))).length=64:=fun c=>by rw[xorAll_len,key64_len]
 have fin:=hmac_end (x0:=x0) h2 h3
 refine⟨fun hc=> ?_,fun hc=> ?_⟩
 ·have hs:shortKey x0=sum x0:=by rw[shortKey,if_pos (of_decide_eq_true hc)]
  refine⟨h1,⟨by omega,by omega, ?_, ?_⟩, ?_⟩
  ·rw[hs];exact(mix_zero _ _).symm
  ·rw[hs];exact(mix_zero _ _).symm
  rintro v4 v6 v7 v22 ⟨k1,k2,rfl,rfl⟩
  refine⟨fun hd=> ?_,fun hd=> ?_⟩
  ·have hd:v22<64:=of_decide_eq_true hd
   rw[i64w (by omega) (by omega)]
   exact⟨by omega,by omega,by omega,by omega,⟨by omega,by omega,mixx 54 _ k1 hd,mixx 92 _ k1 hd⟩,by simp only[ShaHmac.mes8];omega⟩
  ·have hd:¬(v22<64):=of_decide_eq_false hd
   have:v22=64:=by omega
   subst this
   rw[mixAll (l1 _) (key64_len _),mixAll (l1 _) (key64_len _)]
   exact fin
 ·have hs:shortKey x0=x0:=by rw[shortKey,if_neg (of_decide_eq_false hc)]
  refine⟨⟨by omega,by omega, ?_, ?_⟩, ?_⟩
  ·rw[hs];exact(mix_zero _ _).symm
  ·rw[hs];exact(mix_zero _ _).symm
  rintro v4 v6 v7 v22 ⟨k1,k2,rfl,rfl⟩
  refine⟨fun hd=> ?_,fun hd=> ?_⟩
  ·have hd:v22<64:=of_decide_eq_true hd
   rw[i64w (by omega) (by omega)]
   exact⟨by omega,by omega,by omega,by omega,⟨by omega,by omega,mixx 54 _ k1 hd,mixx 92 _ k1 hd⟩,by simp only[ShaHmac.mes8];omega⟩
  ·have hd:¬(v22<64):=of_decide_eq_false hd
   have:v22=64:=by omega
   subst this
   rw[mixAll (l1 _) (key64_len _),mixAll (l1 _) (key64_len _)]
   exact fin
def RefHmac.pre (k b:List Int):Prop:=KeyOk k b
noncomputable def RefHmac.fn (k b:List Int):List Int:=hmac k b
def RefHmac.inv6 (x0 x1 v4 v6 v7:List Int)(v21:Int):Prop:=0≤v21∧v21≤64∧v6=mix (xorAll 54 (key64 (shortKey x0))) (List.replicate 64 0) v21.toNat∧v7=mix (xorAll 92 (key64 (shortKey x0))) (List.replicate 64 0) v21.toNat
def RefHmac.mes6 (x0 x1 v4 v6 v7:List Int)(v21:Int):Nat:=(64-v21).toNat
def RefHmac.VC :Prop:=∀(x0:(List Int)) (x1:(List Int)),RefHmac.pre x0 x1→
 (((decide ((x0.length:Int)>(64:Int)))=true→
 RefSum.pre x0∧
 (0≤(64:Int)∧(64:Int)≤(64:Int))∧
 Room ((64:Int)).toNat 1∧
 (0≤(64:Int)∧(64:Int)≤(64:Int))∧
 Room ((64:Int)).toNat 1∧
 (RefHmac.inv6 x0 x1 (List.replicate 32 (0:Int)) (List.replicate ((64:Int)).toNat (0:Int)) (List.replicate ((64:Int)).toNat (0:Int)) (0:Int)∧
 ∀(v4:(List Int)) (v6:(List Int)) (v7:(List Int)) (v21:Int),RefHmac.inv6 x0 x1 v4 v6 v7 v21→
 (let v22:Bool:=(decide (v21<((List.replicate ((64:Int)).toNat (0:Int)).length:Int)))
 ((v22=true→
 (((decide (v21<((RefSum.fn x0).length:Int)))=true→
 (0≤v21∧v21<((RefSum.fn x0).length:Int))∧
 (let v37:Int:=(ixor .u8 ((RefSum.fn x0).getD (Int.toNat v21) (0:Int)) (54:Int))
 (let v39:Int:=(ixor .u8 ((RefSum.fn x0).getD (Int.toNat v21) (0:Int)) (92:Int))
 (0≤v21∧v21<(v6.length:Int))∧
 (0≤v21∧v21<(v7.length:Int))∧
 (RefHmac.inv6 x0 x1 v4 (v6.set (Int.toNat v21) v37) (v7.set (Int.toNat v21) v39) (IntKind.i64.wrap (v21+(1:Int)))∧RefHmac.mes6 x0 x1 v4 (v6.set (Int.toNat v21) v37) (v7.set (Int.toNat v21) v39) (IntKind.i64.wrap (v21+(1:Int)))<RefHmac.mes6 x0 x1 v4 v6 v7 v21))))∧
 ((decide (v21<((RefSum.fn x0).length:Int)))=false→
 (0≤v21∧v21<(v6.length:Int))∧
 (0≤v21∧v21<(v7.length:Int))∧
 (RefHmac.inv6 x0 x1 v4 (v6.set (Int.toNat v21) (ixor .u8 (0:Int) (54:Int))) (v7.set (Int.toNat v21) (ixor .u8 (0:Int) (92:Int))) (IntKind.i64.wrap (v21+(1:Int)))∧RefHmac.mes6 x0 x1 v4 (v6.set (Int.toNat v21) (ixor .u8 (0:Int) (54:Int))) (v7.set (Int.toNat v21) (ixor .u8 (0:Int) (92:Int))) (IntKind.i64.wrap (v21+(1:Int)))<RefHmac.mes6 x0 x1 v4 v6 v7 v21))))∧
 (v22=false→
 Room (v6.length+x1.length) 1∧
 RefSum.pre (v6++x1)∧
 Room (v7.length+(RefSum.fn (v6++x1)).length) 1∧
 RefSum.pre (v7++(RefSum.fn (v6++x1)))∧
 (Ret1 (RefSum.fn (v7++(RefSum.fn (v6++x1)))) (RefHmac.fn x0 x1)))))))∧
 ((decide ((x0.length:Int)>(64:Int)))=false→
 (0≤(64:Int)∧(64:Int)≤(64:Int))∧
 Room ((64:Int)).toNat 1∧
 (0≤(64:Int)∧(64:Int)≤(64:Int))∧
 Room ((64:Int)).toNat 1∧
 (RefHmac.inv6 x0 x1 (List.replicate 32 (0:Int)) (List.replicate ((64:Int)).toNat (0:Int)) (List.replicate ((64:Int)).toNat (0:Int)) (0:Int)∧
 ∀(v4_1:(List Int)) (v6_1:(List Int)) (v7_1:(List Int)) (v21_1:Int),RefHmac.inv6 x0 x1 v4_1 v6_1 v7_1 v21_1→
 (let v22_1:Bool:=(decide (v21_1<((List.replicate ((64:Int)).toNat (0:Int)).length:Int)))
 ((v22_1=true→
 (((decide (v21_1<(x0.length:Int)))=true→
 (0≤v21_1∧v21_1<(x0.length:Int))∧
 (0≤v21_1∧v21_1<(v6_1.length:Int))∧
 (let v6_2h:(List Int):=(v6_1.set (Int.toNat v21_1) (ixor .u8 (x0.getD (Int.toNat v21_1) (0:Int)) (54:Int)))
 (0≤v21_1∧v21_1<(v7_1.length:Int))∧
 (let v7_2h:(List Int):=(v7_1.set (Int.toNat v21_1) (ixor .u8 (x0.getD (Int.toNat v21_1) (0:Int)) (92:Int)))
 (RefHmac.inv6 x0 x1 v4_1 v6_2h v7_2h (IntKind.i64.wrap (v21_1+(1:Int)))∧RefHmac.mes6 x0 x1 v4_1 v6_2h v7_2h (IntKind.i64.wrap (v21_1+(1:Int)))<RefHmac.mes6 x0 x1 v4_1 v6_1 v7_1 v21_1))))∧
 ((decide (v21_1<(x0.length:Int)))=false→
 (0≤v21_1∧v21_1<(v6_1.length:Int))∧
 (0≤v21_1∧v21_1<(v7_1.length:Int))∧
 (RefHmac.inv6 x0 x1 v4_1 (v6_1.set (Int.toNat v21_1) (ixor .u8 (0:Int) (54:Int))) (v7_1.set (Int.toNat v21_1) (ixor .u8 (0:Int) (92:Int))) (IntKind.i64.wrap (v21_1+(1:Int)))∧RefHmac.mes6 x0 x1 v4_1 (v6_1.set (Int.toNat v21_1) (ixor .u8 (0:Int) (54:Int))) (v7_1.set (Int.toNat v21_1) (ixor .u8 (0:Int) (92:Int))) (IntKind.i64.wrap (v21_1+(1:Int)))<RefHmac.mes6 x0 x1 v4_1 v6_1 v7_1 v21_1))))∧
 (v22_1=false→
 Room (v6_1.length+x1.length) 1∧
 RefSum.pre (v6_1++x1)∧
 Room (v7_1.length+(RefSum.fn (v6_1++x1)).length) 1∧
 RefSum.pre (v7_1++(RefSum.fn (v6_1++x1)))∧
 (Ret1 (RefSum.fn (v7_1++(RefSum.fn (v6_1++x1)))) (RefHmac.fn x0 x1))))))))
theorem key64_get (k:List Int)(h:k.length≤64){i:Nat}(hi:i<64):(key64 k).getD i 0=if i<k.length then k.getD i 0 else 0:=by
 simp only[key64,List.length_replicate,List.take_of_length_le h,List.getD_eq_getElem?_getD]
 split
 ·rename_i hh;rw[List.getElem?_append_left hh]
 ·rename_i hh
  rw[List.getElem?_append_right (by omega),List.getElem?_drop,List.getElem?_replicate,if_pos (by omega)];rfl
theorem rmix (c:Int)(k:List Int)(hk:k.length≤64){v x:Int}(h:0≤v)(h2:v<64)(hx:x=if v.toNat<k.length then k.getD v.toNat 0 else 0):
 (mix (xorAll c (key64 k)) (List.replicate 64 0) v.toNat).set v.toNat (ixor .u8 x c)=mix (xorAll c (key64 k)) (List.replicate 64 0) (v+1).toNat:=by
 have l1:(xorAll c (key64 k)).length=64:=by rw[xorAll_len,key64_len]
 rw[show(v+1).toNat=v.toNat+1 by omega,mix_set (by rw[l1];simp) (by rw[l1];omega)]
 rw[xorAll_get c _ (by rw[key64_len];omega),key64_get k hk (by omega),hx]
theorem short_le (k:List Int):(shortKey k).length≤64:=by
 unfold shortKey
 split
 ·rw[sum_len];omega
 ·omega
theorem RefHmac.vc :RefHmac.VC:=by
 intro x0 x1 ⟨h1,h2,h3⟩
 dsimp only
 have l1:∀c,(xorAll c (key64 (shortKey x0))).length=64:=fun c=>by rw[xorAll_len,key64_len]
 have lz:(List.replicate (64:Int).toNat (0:Int))=List.replicate 64 0:=rfl
 have lr:((List.replicate 64 (0:Int)).length:Int)=64:=by simp
 have lm:∀c (v:Int),((mix (xorAll c (key64 (shortKey x0))) (List.replicate 64 0) v.toNat).length:Int)=64:=fun c v=>by rw[mix_len (by rw[l1];simp),l1];rfl
 have fin:Room ((xorAll 54 (key64 (shortKey x0))).length+x1.length) 1∧RefSum.pre (xorAll 54 (key64 (shortKey x0))++x1)∧Room ((xorAll 92 (key64 (shortKey x0))).length+(RefSum.fn (xorAll 54 (key64 (shortKey x0))++x1)).length) 1∧
  RefSum.pre (xorAll 92 (key64 (shortKey x0))++RefSum.fn (xorAll 54 (key64 (shortKey x0))++x1))∧Ret1 (RefSum.fn (xorAll 92 (key64 (shortKey x0))++RefSum.fn (xorAll 54 (key64 (shortKey x0))++x1))) (RefHmac.fn x0 x1):=by
  simp only[RefSum.fn]
  exact⟨room_of (by rw[l1];omega) (by omega),SumOk.append (xorAll_bytes _ _) h3 (by rw[l1];omega),room_of (by rw[l1,sum_len];omega) (by omega),SumOk.append (xorAll_bytes _ _) (sum_bytes _) (by rw[l1,sum_len];omega),rfl⟩
 simp only[lz,lr]
 have body:∀v21:Int,0≤v21→v21<64→∀x:Int,(x=if v21.toNat<(shortKey x0).length then(shortKey x0).getD v21.toNat 0 else 0)→∀w4,
  RefHmac.inv6 x0 x1 w4 ((mix (xorAll 54 (key64 (shortKey x0))) (List.replicate 64 0) v21.toNat).set v21.toNat (ixor .u8 x 54)) ((mix (xorAll 92 (key64 (shortKey x0))) (List.replicate 64 0) v21.toNat).set v21.toNat (ixor .u8 x 92)) (v21+1):=by
  intro v21 k1 k2 x hx w4
  exact⟨by omega,by omega,rmix 54 _ (short_le _) k1 k2 hx,rmix 92 _ (short_le _) k1 k2 hx⟩
 refine⟨fun hc=> ?_,fun hc=> ?_⟩
 ·have hs:shortKey x0=sum x0:=by rw[shortKey,if_pos (of_decide_eq_true hc)]
  refine⟨h1,by omega,room_of (by decide) (by omega),by omega,room_of (by decide) (by omega),⟨by omega,by omega,(mix_zero _ _).symm,(mix_zero _ _).symm⟩, ?_⟩
  rintro v4 v6 v7 v21 ⟨k1,k2,rfl,rfl⟩
  refine⟨fun hd=> ?_,fun hd=> ?_⟩
  ·have hd:v21<64:=of_decide_eq_true hd
   rw[i64w (by omega) (by omega),lm,lm]
   refine⟨fun he=> ?_,fun he=> ?_⟩
   ·have he:v21<((RefSum.fn x0).length:Int):=of_decide_eq_true he
    refine⟨by omega,by omega,by omega,body v21 k1 hd _ ?_ _,by simp only[RefHmac.mes6];omega⟩
    rw[hs,if_pos (by simp only[RefSum.fn] at he;omega)];rfl
   ·have he:¬(v21<((RefSum.fn x0).length:Int)):=of_decide_eq_false he
    refine⟨by omega,by omega,body v21 k1 hd _ ?_ _,by simp only[RefHmac.mes6];omega⟩
    rw[hs,if_neg (by simp only[RefSum.fn] at he;omega)]
  ·have hd:¬(v21<64):=of_decide_eq_false hd
   have:v21=64:=by omega
   subst this
   rw[mixAll (l1 _) (by simp),mixAll (l1 _) (by simp)]
   exact fin
 ·have hs:shortKey x0=x0:=by rw[shortKey,if_neg (of_decide_eq_false hc)]
  refine⟨by omega,room_of (by decide) (by omega),by omega,room_of (by decide) (by omega),⟨by omega,by omega,(mix_zero _ _).symm,(mix_zero _ _).symm⟩, ?_⟩
  rintro v4 v6 v7 v21 ⟨k1,k2,rfl,rfl⟩
  refine⟨fun hd=> ?_,fun hd=> ?_⟩
  ·have hd:v21<64:=of_decide_eq_true hd
   rw[i64w (by omega) (by omega),lm,lm]
   refine⟨fun he=> ?_,fun he=> ?_⟩
   ·have he:v21<(x0.length:Int):=of_decide_eq_true he
    refine⟨by omega,by omega,by omega,body v21 k1 hd _ ?_ _,by simp only[RefHmac.mes6];omega⟩
    rw[hs,if_pos (by omega)]
   ·have he:¬(v21<(x0.length:Int)):=of_decide_eq_false he
    refine⟨by omega,by omega,body v21 k1 hd _ ?_ _,by simp only[RefHmac.mes6];omega⟩
    rw[hs,if_neg (by omega)]
  ·have hd:¬(v21<64):=of_decide_eq_false hd
   have:v21=64:=by omega
   subst this
   rw[mixAll (l1 _) (by simp),mixAll (l1 _) (by simp)]
   exact fin
end Lc
