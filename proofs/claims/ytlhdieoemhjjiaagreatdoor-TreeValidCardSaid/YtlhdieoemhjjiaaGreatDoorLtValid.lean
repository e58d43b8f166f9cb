/- The law TreeValid: the proof of its condition. -/
import Derived.Test.YtlhdieoemhjjiaaGreatDoorMades
import Derived.Test.YtlhdieoemhjjiaaGreatDoorRngs
set_option linter.unusedVariables false
set_option linter.unusedSimpArgs false
set_option maxRecDepth 100000
namespace Lc
open Go
abbrev ndTy :Ty:= .pair hdrTy (.pair (.arr 32 (.int .u8)) (.pair (.int .i64) (.pair (.int .i64) (.pair (.arr 4 (.int .u64)) .unit))))
theorem rngNd {n:Nd}(h:Rng ndTy n):NdOk n:=⟨rngHdr h.1,rngHash14 h.2.1,rngU256 h.2.2.2.2.1⟩
theorem rngTre {t:Tre}(h:Rng (.pair (.slc ndTy) (.pair (.int .i64) .unit)) t):∀n,n∈t.1→NdOk n:=fun n hn=>rngNd (h.1.2 n hn)
def TreeValid.pre (p:Par)(t:Tre)(v:Int)(seeds:List Int)(what n:Int):Prop:=PRng p∧(∀n,n∈t.1→NdOk n)∧(0≤v∧v≤255)∧Bytes seeds∧(0≤what∧what≤255)∧(0≤n∧n≤255)
def TreeValid.fn (p:Par)(t:Tre)(v:Int)(seeds:List Int)(what n:Int):Bool:=true
def TreeValid.VC :Prop:=∀(x0:Par) (x1:Tre) (x2:Int) (x3:(List Int)) (x4:Int) (x5:Int),TreeValid.pre x0 x1 x2 x3 x4 x5→ESane.pre∧(((!(ESane.fn))=true→(Ret1 false (TreeValid.fn x0 x1 x2 x3 x4 x5)))∧((!(ESane.fn))=false→KParams.pre x0∧((!(KParams.fn x0))=false→(!(KParams.fn x0))=false)∧((!(KParams.fn x0))=false→KTree.pre x1 (12:Int))∧((!(KParams.fn x0))=false→(!(KParams.fn x0))=false)∧((!(KParams.fn x0))=false→(!(KParams.fn x0))=false)∧(let v29:Bool:=(bif (!(KParams.fn x0)) then true else(!(KTree.fn x1 (12:Int))))
 ((v29=true→(Ret1 true (TreeValid.fn x0 x1 x2 x3 x4 x5)))∧(v29=false→NStart.pre x0∧YStart.pre x0∧(((NStart.fn x0).2 !=(YStart.fn x0).2)=false→((NStart.fn x0).2 !=(YStart.fn x0).2)=false)∧(((NStart.fn x0).2 !=(YStart.fn x0).2)=false→((NStart.fn x0).2 !=(YStart.fn x0).2)=false)∧(((NStart.fn x0).2 !=(YStart.fn x0).2)=false→YSame.pre ((NStart.fn x0).1) ((YStart.fn x0).1))∧(((NStart.fn x0).2 !=(YStart.fn x0).2)=false→((NStart.fn x0).2 !=(YStart.fn x0).2)=false)∧(((NStart.fn x0).2 !=(YStart.fn x0).2)=false→((NStart.fn x0).2 !=(YStart.fn x0).2)=false)∧(let v48:Bool:=(bif ((NStart.fn x0).2 !=(YStart.fn x0).2) then true else(!(YSame.fn ((NStart.fn x0).1) ((YStart.fn x0).1))))
 (v48=false→v48=false)∧(v48=false→v48=false)∧(v48=false→NValid.pre x0 x1)∧(v48=false→v48=false)∧(v48=false→v48=false)∧(v48=false→YValid.pre x0 x1)∧(v48=false→v48=false)∧(v48=false→v48=false)∧(v48=false→v48=false)∧(let v57:Bool:=(bif v48 then true else(!(Ty.beq (.bool) (NValid.fn x0 x1) (YValid.fn x0 x1))))
 ((v57=true→(Ret1 false (TreeValid.fn x0 x1 x2 x3 x4 x5)))∧(v57=false→EMade.pre x2 x3∧(let v17h:Par:=(hz,((List.replicate 4 (0:Int)),((0:Int),((0:Int),((0:Int),((0:Int),([],((0:Int),((0:Int),((0:Int),()))))))))))
 Room (EMade.fn x2 x3).2.1.length 160∧((EMade.fn x2 x3).2.1.length:Int)≠0∧(let v75:Int:=(Int.tmod (IntKind.i64.wrap x5) ((EMade.fn x2 x3).2.1.length:Int))
 (0≤v75∧v75<((EMade.fn x2 x3).2.1.length:Int))∧(8:Int)≠0∧((((Int.tmod x4 (8:Int))==(0:Int))=true→(let v84:Int:=((EMade.fn x2 x3).2.1.getD (Int.toNat v75) zn).2.2.2.1
 (let v66h:(List Nd):=((EMade.fn x2 x3).2.1.set (Int.toNat v75) (((EMade.fn x2 x3).2.1.getD (Int.toNat v75) zn).1,(((EMade.fn x2 x3).2.1.getD (Int.toNat v75) zn).2.1,(((EMade.fn x2 x3).2.1.getD (Int.toNat v75) zn).2.2.1,((IntKind.i64.wrap (v84+(1:Int))),((EMade.fn x2 x3).2.1.getD (Int.toNat v75) zn).2.2.2.2)))))
 NValid.pre ((EMade.fn x2 x3).1) (v66h,(EMade.fn x2 x3).2.2)∧(let v154:Bool:=(NValid.fn ((EMade.fn x2 x3).1) (v66h,(EMade.fn x2 x3).2.2))
 YValid.pre ((EMade.fn x2 x3).1) (v66h,(EMade.fn x2 x3).2.2)∧(let v157:Bool:=(YValid.fn ((EMade.fn x2 x3).1) (v66h,(EMade.fn x2 x3).2.2))
 (Ret1 (Ty.beq (.bool) v154 v157) (TreeValid.fn x0 x1 x2 x3 x4 x5)))))))∧(((Int.tmod x4 (8:Int))==(0:Int))=false→((((Int.tmod x4 (8:Int))==(1:Int))=true→(let v93:Int:=((EMade.fn x2 x3).2.1.getD (Int.toNat v75) zn).2.2.1
 (let v66_1h:(List Nd):=((EMade.fn x2 x3).2.1.set (Int.toNat v75) (((EMade.fn x2 x3).2.1.getD (Int.toNat v75) zn).1,(((EMade.fn x2 x3).2.1.getD (Int.toNat v75) zn).2.1,((IntKind.i64.wrap (v93-(1:Int))),((EMade.fn x2 x3).2.1.getD (Int.toNat v75) zn).2.2.2))))
 NValid.pre ((EMade.fn x2 x3).1) (v66_1h,(EMade.fn x2 x3).2.2)∧(let v154_1:Bool:=(NValid.fn ((EMade.fn x2 x3).1) (v66_1h,(EMade.fn x2 x3).2.2))
 YValid.pre ((EMade.fn x2 x3).1) (v66_1h,(EMade.fn x2 x3).2.2)∧(let v157_1:Bool:=(YValid.fn ((EMade.fn x2 x3).1) (v66_1h,(EMade.fn x2 x3).2.2))
 (Ret1 (Ty.beq (.bool) v154_1 v157_1) (TreeValid.fn x0 x1 x2 x3 x4 x5)))))))∧(((Int.tmod x4 (8:Int))==(1:Int))=false→((((Int.tmod x4 (8:Int))==(2:Int))=true→(let v104:(List Int):=((EMade.fn x2 x3).2.1.getD (Int.toNat v75) zn).2.2.2.2.1
 QAdd.pre v104 ((List.replicate 4 (0:Int)).set 0 (1:Int))∧(let v107:(List Int):=(QAdd.fn v104 ((List.replicate 4 (0:Int)).set 0 (1:Int))).1
 (let v108:Bool:=(QAdd.fn v104 ((List.replicate 4 (0:Int)).set 0 (1:Int))).2
 (let v66_2h:(List Nd):=((EMade.fn x2 x3).2.1.set (Int.toNat v75) (((EMade.fn x2 x3).2.1.getD (Int.toNat v75) zn).1,(((EMade.fn x2 x3).2.1.getD (Int.toNat v75) zn).2.1,(((EMade.fn x2 x3).2.1.getD (Int.toNat v75) zn).2.2.1,(((EMade.fn x2 x3).2.1.getD (Int.toNat v75) zn).2.2.2.1,(v107,((EMade.fn x2 x3).2.1.getD (Int.toNat v75) zn).2.2.2.2.2))))))
 NValid.pre ((EMade.fn x2 x3).1) (v66_2h,(EMade.fn x2 x3).2.2)∧(let v154_2:Bool:=(NValid.fn ((EMade.fn x2 x3).1) (v66_2h,(EMade.fn x2 x3).2.2))
 YValid.pre ((EMade.fn x2 x3).1) (v66_2h,(EMade.fn x2 x3).2.2)∧(let v157_2:Bool:=(YValid.fn ((EMade.fn x2 x3).1) (v66_2h,(EMade.fn x2 x3).2.2))
 (Ret1 (Ty.beq (.bool) v154_2 v157_2) (TreeValid.fn x0 x1 x2 x3 x4 x5)))))))))∧(((Int.tmod x4 (8:Int))==(2:Int))=false→((((Int.tmod x4 (8:Int))==(3:Int))=true→(0≤(0:Int)∧(0:Int)<32)∧(let v117:Int:=(((EMade.fn x2 x3).2.1.getD (Int.toNat v75) zn).2.1.getD (Int.toNat (0:Int)) (0:Int))
 (0≤(0:Int)∧(0:Int)<32)∧(let v66_3h:(List Nd):=((EMade.fn x2 x3).2.1.set (Int.toNat v75) (((EMade.fn x2 x3).2.1.getD (Int.toNat v75) zn).1,((((EMade.fn x2 x3).2.1.getD (Int.toNat v75) zn).2.1.set (Int.toNat (0:Int)) (IntKind.u8.wrap (v117+(1:Int)))),((EMade.fn x2 x3).2.1.getD (Int.toNat v75) zn).2.2)))
 NValid.pre ((EMade.fn x2 x3).1) (v66_3h,(EMade.fn x2 x3).2.2)∧(let v154_3:Bool:=(NValid.fn ((EMade.fn x2 x3).1) (v66_3h,(EMade.fn x2 x3).2.2))
 YValid.pre ((EMade.fn x2 x3).1) (v66_3h,(EMade.fn x2 x3).2.2)∧(let v157_3:Bool:=(YValid.fn ((EMade.fn x2 x3).1) (v66_3h,(EMade.fn x2 x3).2.2))
 (Ret1 (Ty.beq (.bool) v154_3 v157_3) (TreeValid.fn x0 x1 x2 x3 x4 x5)))))))∧(((Int.tmod x4 (8:Int))==(3:Int))=false→((((Int.tmod x4 (8:Int))==(4:Int))=true→((EMade.fn x2 x3).2.1.length:Int)≠0∧(let v129:Int:=(Int.tmod (IntKind.i64.wrap x5) ((EMade.fn x2 x3).2.1.length:Int))
 NValid.pre ((EMade.fn x2 x3).1) ((EMade.fn x2 x3).2.1,(v129,(EMade.fn x2 x3).2.2.2))∧(let v154_4:Bool:=(NValid.fn ((EMade.fn x2 x3).1) ((EMade.fn x2 x3).2.1,(v129,(EMade.fn x2 x3).2.2.2)))
 YValid.pre ((EMade.fn x2 x3).1) ((EMade.fn x2 x3).2.1,(v129,(EMade.fn x2 x3).2.2.2))∧(let v157_4:Bool:=(YValid.fn ((EMade.fn x2 x3).1) ((EMade.fn x2 x3).2.1,(v129,(EMade.fn x2 x3).2.2.2)))
 (Ret1 (Ty.beq (.bool) v154_4 v157_4) (TreeValid.fn x0 x1 x2 x3 x4 x5))))))∧(((Int.tmod x4 (8:Int))==(4:Int))=false→((((Int.tmod x4 (8:Int))==(5:Int))=true→(let v137:Int:=((EMade.fn x2 x3).2.1.getD (Int.toNat v75) zn).1.2.2.2.1
 (let v66_4h:(List Nd):=((EMade.fn x2 x3).2.1.set (Int.toNat v75) ((((EMade.fn x2 x3).2.1.getD (Int.toNat v75) zn).1.1,(((EMade.fn x2 x3).2.1.getD (Int.toNat v75) zn).1.2.1,(((EMade.fn x2 x3).2.1.getD (Int.toNat v75) zn).1.2.2.1,((IntKind.u32.wrap (v137+(1:Int))),((EMade.fn x2 x3).2.1.getD (Int.toNat v75) zn).1.2.2.2.2)))),((EMade.fn x2 x3).2.1.getD (Int.toNat v75) zn).2))
 NValid.pre ((EMade.fn x2 x3).1) (v66_4h,(EMade.fn x2 x3).2.2)∧(let v154_5:Bool:=(NValid.fn ((EMade.fn x2 x3).1) (v66_4h,(EMade.fn x2 x3).2.2))
 YValid.pre ((EMade.fn x2 x3).1) (v66_4h,(EMade.fn x2 x3).2.2)∧(let v157_5:Bool:=(YValid.fn ((EMade.fn x2 x3).1) (v66_4h,(EMade.fn x2 x3).2.2))
 (Ret1 (Ty.beq (.bool) v154_5 v157_5) (TreeValid.fn x0 x1 x2 x3 x4 x5)))))))∧(((Int.tmod x4 (8:Int))==(5:Int))=false→((((Int.tmod x4 (8:Int))==(6:Int))=true→(let v148:Nd:=((EMade.fn x2 x3).2.1.getD (Int.toNat v75) zn)
 Room ((EMade.fn x2 x3).2.1.length+[v148].length) 160∧NValid.pre ((EMade.fn x2 x3).1) (((EMade.fn x2 x3).2.1++[v148]),(EMade.fn x2 x3).2.2)∧(let v154_6:Bool:=(NValid.fn ((EMade.fn x2 x3).1) (((EMade.fn x2 x3).2.1++[v148]),(EMade.fn x2 x3).2.2))
 YValid.pre ((EMade.fn x2 x3).1) (((EMade.fn x2 x3).2.1++[v148]),(EMade.fn x2 x3).2.2)∧(let v157_6:Bool:=(YValid.fn ((EMade.fn x2 x3).1) (((EMade.fn x2 x3).2.1++[v148]),(EMade.fn x2 x3).2.2))
 (Ret1 (Ty.beq (.bool) v154_6 v157_6) (TreeValid.fn x0 x1 x2 x3 x4 x5))))))∧(((Int.tmod x4 (8:Int))==(6:Int))=false→NValid.pre ((EMade.fn x2 x3).1) ((EMade.fn x2 x3).2.1,(EMade.fn x2 x3).2.2)∧(let v154_7:Bool:=(NValid.fn ((EMade.fn x2 x3).1) ((EMade.fn x2 x3).2.1,(EMade.fn x2 x3).2.2))
 YValid.pre ((EMade.fn x2 x3).1) ((EMade.fn x2 x3).2.1,(EMade.fn x2 x3).2.2)∧(let v157_7:Bool:=(YValid.fn ((EMade.fn x2 x3).1) ((EMade.fn x2 x3).2.1,(EMade.fn x2 x3).2.2))
 (Ret1 (Ty.beq (.bool) v154_7 v157_7) (TreeValid.fn x0 x1 x2 x3 x4 x5)))))))))))))))))))))))))))))
theorem treOk_set {l:List Nd}{b:Int}{i:Nat}{x:Nd}(h:TreOk (l,b,()))(hx:NdOk x):TreOk (l.set i x,b,()):=
 ⟨fun n hn=>(List.mem_or_eq_of_mem_set hn).elim (h.1 n) (fun e=>e▸hx),by rw[show(l.set i x,b,()).1=l.set i x from rfl,List.length_set];exact h.2⟩
theorem TreeValid.vc :TreeValid.VC:=by
 rintro p t v seeds what n ⟨hp,ht,hv,hb,hw,hn⟩
 obtain⟨htm,hval⟩:=madeT_ok hv hb
 have hpm:=made_ok hv
 obtain⟨cs,c1,c2,c3⟩:=valid_of hval
 have h1:1≤(madeT v seeds).1.length:=c2.fit.2.1
 have h2:(madeT v seeds).1.length≤4096:=c2.fit.2.2.1
 simp only[imp_self,true_and,esane,KParams.fn,KTree.fn,NStart.fn,YStart.fn,same_tree,NValid.fn,YValid.fn,EMade.fn,bne_self_eq_false,NValid.pre,YValid.pre,NStart.pre,YStart.pre,EMade.pre,TreeValid.fn,Bool.not_true,ret1,beq_self,cond_false]
 have hi:0≤(IntKind.i64.wrap n).tmod ((madeT v seeds).1.length:Int)∧(IntKind.i64.wrap n).tmod ((madeT v seeds).1.length:Int)<(madeT v seeds).1.length:=by
  rw[i64w (by omega) (by omega)]
  exact⟨Int.tmod_nonneg _ hn.1,Int.tmod_lt_of_pos _ (by omega)⟩
 have hx:NdOk ((madeT v seeds).1.getD ((IntKind.i64.wrap n).tmod ((madeT v seeds).1.length:Int)).toNat zn):=htm.get (by omega)
 have hs:∀x,NdOk x→PGood (madeParams v)∧TreOk ((madeT v seeds).1.set ((IntKind.i64.wrap n).tmod ((madeT v seeds).1.length:Int)).toNat x,(madeT v seeds).2):=fun x h=>⟨hpm,treOk_set htm h⟩
 have hone:Ok4 ((List.replicate 4 (0:Int)).set 0 1):=by rw[show(1:Int)=((1:Nat):Int) from rfl,set0 (by decide)];exact ok4' _
 refine⟨trivial,fun _=>⟨trivial,fun _=>trivial,fun _=>trivial,fun hk=> ?_⟩⟩
 have hk1:p.2.2.2.2.2.2.1.length≤8∧(t.1.length:Int)≤12:=by
  by_cases h8:p.2.2.2.2.2.2.1.length≤8
  ·simp only[h8,decide_true,Bool.not_true,cond_false] at hk
   exact⟨h8,by simpa using hk⟩
  ·simp[h8] at hk
 have hg:PGood p:=hp.good hk1.1
 have hto:TreOk t:=⟨ht,by have:=hk1.2;omega⟩
 refine⟨hg,hg,fun _=>(startT_ok hg).2,fun _=>⟨hg,hto⟩,fun _=>⟨hg,hto⟩,fun _=>⟨⟨hv,hb⟩,⟨by omega,by omega⟩,by omega,hi,by decide, ?_⟩⟩
 generalize hl:(madeT v seeds).1=l at*
 generalize hb2:(madeT v seeds).2=b at*
 have hu:TreOk (l,b):=by rw[←hl,←hb2];exact htm
 generalize (IntKind.i64.wrap n).tmod (l.length:Int)=k at*
 generalize hxx:l.getD k.toNat zn=x at*
 have go:∀{u:Tre},TreOk u→(PGood (madeParams v)∧TreOk u)∧(PGood (madeParams v)∧TreOk u)∧True:=fun h=>⟨⟨hpm,h⟩,⟨hpm,h⟩,trivial⟩
 have gs:∀{y:Nd},NdOk y→(PGood (madeParams v)∧TreOk (l.set k.toNat y,b))∧(PGood (madeParams v)∧TreOk (l.set k.toNat y,b))∧True:=fun h=>go (hs _ h).2
 refine⟨fun _=>gs ⟨hx.1,hx.2.1,hx.2.2⟩,fun _=>⟨fun _=>gs ⟨hx.1,hx.2.1,hx.2.2⟩,fun _=>⟨fun _=>⟨⟨hx.2.2,hone⟩,gs ⟨hx.1,hx.2.1,ok4' _⟩⟩,fun _=>⟨fun _=>⟨⟨by omega,by omega⟩,⟨by omega,by omega⟩,gs ⟨hx.1,⟨by rw[List.length_set];exact hx.2.1.1,hx.2.1.2.set _ (u8rT _)⟩,hx.2.2⟩⟩,
  fun _=>⟨fun _=>⟨by omega,go hu⟩,fun _=>⟨fun _=>gs ⟨⟨hx.1.1,hx.1.2.1,hx.1.2.2.1,u32r _,hx.1.2.2.2.2⟩,hx.2⟩,fun _=>⟨fun _=>⟨⟨by simp;omega,by simp;omega⟩,go ⟨fun y hy=> ?_, ?_⟩⟩,fun _=>go hu⟩⟩⟩⟩⟩⟩⟩
 ·rcases List.mem_append.1 hy with h|h
  ·exact hu.1 y h
  ·rw[List.mem_singleton.1 h];exact hx
 ·show(l++[x]).length≤_
  simp;omega
end Lc
