/- The law TreeInserts: the proof of its condition. -/
import Derived.Test.YtlabkmpegbnilaaGreatDoorMades
set_option linter.unusedVariables false
set_option linter.unusedSimpArgs false
set_option maxRecDepth 100000
namespace Lc
open Go
def TreeInserts.pre (v:Int)(seeds:List Int)(n s what by' now:Int):Prop:=(0≤v∧v≤255)∧Bytes seeds∧(0≤s∧s≤255)∧U32 now
def TreeInserts.fn (v:Int)(seeds:List Int)(n s what by' now:Int):Bool:=true
def TreeInserts.inv16 (v:Int)(seeds:List Int)(n s what by' now:Int)(p:Par)(t:Tre)(h:Hdr)(i:Int):Prop:=0≤i∧i≤2∧p=madeParams v∧t=madeT v seeds∧HdrOk h
def TreeInserts.mes16 (v:Int)(seeds:List Int)(n s what by' now:Int)(p:Par)(t:Tre)(h:Hdr)(i:Int):Nat:=(2-i).toNat
def TreeInserts.VC :Prop:=∀(x0:Int) (x1:(List Int)) (x2:Int) (x3:Int) (x4:Int) (x5:Int) (x6:Int),TreeInserts.pre x0 x1 x2 x3 x4 x5 x6→ESane.pre∧(((!(ESane.fn))=true→(Ret1 false (TreeInserts.fn x0 x1 x2 x3 x4 x5 x6)))∧((!(ESane.fn))=false→EMade.pre x0 x1∧(let v15h:Par:=(hz,((List.replicate 4 (0:Int)),((0:Int),((0:Int),((0:Int),((0:Int),([],((0:Int),((0:Int),((0:Int),()))))))))))
 ((EMade.fn x0 x1).2.1.length:Int)≠0∧(let v44:Int:=(Int.tmod (IntKind.i64.wrap x2) ((EMade.fn x0 x1).2.1.length:Int))
 YContext.pre ((EMade.fn x0 x1).1) ((EMade.fn x0 x1).2) v44∧(let v46:Cx:=(YContext.fn ((EMade.fn x0 x1).1) ((EMade.fn x0 x1).2) v44).1
 (let v47:Int:=(YContext.fn ((EMade.fn x0 x1).1) ((EMade.fn x0 x1).2) v44).2
 (let v17h:Cx:=zcx
 MMine.pre ((EMade.fn x0 x1).1) v46 (((List.replicate 32 (0:Int)).set 0 x3).set 1 (77:Int)) (IntKind.u32.wrap x3)∧(let v54:Hdr:=(MMine.fn ((EMade.fn x0 x1).1) v46 (((List.replicate 32 (0:Int)).set 0 x3).set 1 (77:Int)) (IntKind.u32.wrap x3))
 (let v19h:Hdr:=hz
 (6:Int)≠0∧((((Int.tmod x4 (6:Int))==(0:Int))=true→(let v19_1h:Hdr:=(v54.1,(v54.2.1,(v54.2.2.1,(v54.2.2.2.1,(v54.2.2.2.2.1,((IntKind.u32.wrap (v54.2.2.2.2.2.1+(IntKind.u32.wrap x5))),v54.2.2.2.2.2.2))))))
 (TreeInserts.inv16 x0 x1 x2 x3 x4 x5 x6 ((EMade.fn x0 x1).1) ((EMade.fn x0 x1).2) v19_1h (0:Int)∧∀(v15_1:Par) (v16:Tre) (v19_2:Hdr) (v98:Int),TreeInserts.inv16 x0 x1 x2 x3 x4 x5 x6 v15_1 v16 v19_2 v98→(((decide (v98<([x6,(1073741824:Int)].length:Int)))=true→(0≤v98∧v98<([x6,(1073741824:Int)].length:Int))∧NInsert.pre v15_1 v16 v19_2 ([x6,(1073741824:Int)].getD (Int.toNat v98) (0:Int))∧(let v108:Tre:=(NInsert.fn v15_1 v16 v19_2 ([x6,(1073741824:Int)].getD (Int.toNat v98) (0:Int))).1
 (let v109:Int:=(NInsert.fn v15_1 v16 v19_2 ([x6,(1073741824:Int)].getD (Int.toNat v98) (0:Int))).2.1
 (let v110:Int:=(NInsert.fn v15_1 v16 v19_2 ([x6,(1073741824:Int)].getD (Int.toNat v98) (0:Int))).2.2
 YInsert.pre v15_1 v16 v19_2 ([x6,(1073741824:Int)].getD (Int.toNat v98) (0:Int))∧(let v117:Tre:=(YInsert.fn v15_1 v16 v19_2 ([x6,(1073741824:Int)].getD (Int.toNat v98) (0:Int))).1
 (let v118:Int:=(YInsert.fn v15_1 v16 v19_2 ([x6,(1073741824:Int)].getD (Int.toNat v98) (0:Int))).2.1
 (let v119:Int:=(YInsert.fn v15_1 v16 v19_2 ([x6,(1073741824:Int)].getD (Int.toNat v98) (0:Int))).2.2
 ((v110 !=v119)=false→(v110 !=v119)=false)∧((v110 !=v119)=false→(v110 !=v119)=false)∧((v110 !=v119)=false→(v110 !=v119)=false)∧((bif (v110 !=v119) then true else(v109 !=v118))=false→(bif (v110 !=v119) then true else(v109 !=v118))=false)∧((bif (v110 !=v119) then true else(v109 !=v118))=false→(bif (v110 !=v119) then true else(v109 !=v118))=false)∧((bif (v110 !=v119) then true else(v109 !=v118))=false→YSame.pre v108 v117)∧((bif (v110 !=v119) then true else(v109 !=v118))=false→(bif (v110 !=v119) then true else(v109 !=v118))=false)∧((bif (v110 !=v119) then true else(v109 !=v118))=false→(bif (v110 !=v119) then true else(v109 !=v118))=false)∧(let v133:Bool:=(bif (bif (v110 !=v119) then true else(v109 !=v118)) then true else(!(YSame.fn v108 v117)))
 ((v133=true→(Ret1 false (TreeInserts.fn x0 x1 x2 x3 x4 x5 x6)))∧(v133=false→(TreeInserts.inv16 x0 x1 x2 x3 x4 x5 x6 v15_1 v16 v19_2 (IntKind.i64.wrap (v98+(1:Int)))∧TreeInserts.mes16 x0 x1 x2 x3 x4 x5 x6 v15_1 v16 v19_2 (IntKind.i64.wrap (v98+(1:Int)))<TreeInserts.mes16 x0 x1 x2 x3 x4 x5 x6 v15_1 v16 v19_2 v98)))))))))))∧((decide (v98<([x6,(1073741824:Int)].length:Int)))=false→(Ret1 true (TreeInserts.fn x0 x1 x2 x3 x4 x5 x6)))))))∧(((Int.tmod x4 (6:Int))==(0:Int))=false→((((Int.tmod x4 (6:Int))==(1:Int))=true→((EMade.fn x0 x1).2.1.length:Int)≠0∧(let v74:Int:=(Int.tmod (IntKind.i64.wrap x3) ((EMade.fn x0 x1).2.1.length:Int))
 (0≤v74∧v74<((EMade.fn x0 x1).2.1.length:Int))∧(let v77:Hdr:=((EMade.fn x0 x1).2.1.getD (Int.toNat v74) zn).1
 (TreeInserts.inv16 x0 x1 x2 x3 x4 x5 x6 ((EMade.fn x0 x1).1) ((EMade.fn x0 x1).2) v77 (0:Int)∧∀(v15_2:Par) (v16_1:Tre) (v19_3:Hdr) (v98_1:Int),TreeInserts.inv16 x0 x1 x2 x3 x4 x5 x6 v15_2 v16_1 v19_3 v98_1→(((decide (v98_1<([x6,(1073741824:Int)].length:Int)))=true→(0≤v98_1∧v98_1<([x6,(1073741824:Int)].length:Int))∧NInsert.pre v15_2 v16_1 v19_3 ([x6,(1073741824:Int)].getD (Int.toNat v98_1) (0:Int))∧(let v108_1:Tre:=(NInsert.fn v15_2 v16_1 v19_3 ([x6,(1073741824:Int)].getD (Int.toNat v98_1) (0:Int))).1
 (let v109_1:Int:=(NInsert.fn v15_2 v16_1 v19_3 ([x6,(1073741824:Int)].getD (Int.toNat v98_1) (0:Int))).2.1
 (let v110_1:Int:=(NInsert.fn v15_2 v16_1 v19_3 ([x6,(1073741824:Int)].getD (Int.toNat v98_1) (0:Int))).2.2
 YInsert.pre v15_2 v16_1 v19_3 ([x6,(1073741824:Int)].getD (Int.toNat v98_1) (0:Int))∧(let v117_1:Tre:=(YInsert.fn v15_2 v16_1 v19_3 ([x6,(1073741824:Int)].getD (Int.toNat v98_1) (0:Int))).1
 (let v118_1:Int:=(YInsert.fn v15_2 v16_1 v19_3 ([x6,(1073741824:Int)].getD (Int.toNat v98_1) (0:Int))).2.1
 (let v119_1:Int:=(YInsert.fn v15_2 v16_1 v19_3 ([x6,(1073741824:Int)].getD (Int.toNat v98_1) (0:Int))).2.2
 ((v110_1 !=v119_1)=false→(v110_1 !=v119_1)=false)∧((v110_1 !=v119_1)=false→(v110_1 !=v119_1)=false)∧((v110_1 !=v119_1)=false→(v110_1 !=v119_1)=false)∧((bif (v110_1 !=v119_1) then true else(v109_1 !=v118_1))=false→(bif (v110_1 !=v119_1) then true else(v109_1 !=v118_1))=false)∧((bif (v110_1 !=v119_1) then true else(v109_1 !=v118_1))=false→(bif (v110_1 !=v119_1) then true else(v109_1 !=v118_1))=false)∧((bif (v110_1 !=v119_1) then true else(v109_1 !=v118_1))=false→YSame.pre v108_1 v117_1)∧((bif (v110_1 !=v119_1) then true else(v109_1 !=v118_1))=false→(bif (v110_1 !=v119_1) then true else(v109_1 !=v118_1))=false)∧((bif (v110_1 !=v119_1) then true else(v109_1 !=v118_1))=false→(bif (v110_1 !=v119_1) then true else(v109_1 !=v118_1))=false)∧(let v133_1:Bool:=(bif (bif (v110_1 !=v119_1) then true else(v109_1 !=v118_1)) then true else(!(YSame.fn v108_1 v117_1)))
 ((v133_1=true→(Ret1 false (TreeInserts.fn x0 x1 x2 x3 x4 x5 x6)))∧(v133_1=false→(TreeInserts.inv16 x0 x1 x2 x3 x4 x5 x6 v15_2 v16_1 v19_3 (IntKind.i64.wrap (v98_1+(1:Int)))∧TreeInserts.mes16 x0 x1 x2 x3 x4 x5 x6 v15_2 v16_1 v19_3 (IntKind.i64.wrap (v98_1+(1:Int)))<TreeInserts.mes16 x0 x1 x2 x3 x4 x5 x6 v15_2 v16_1 v19_3 v98_1)))))))))))∧((decide (v98_1<([x6,(1073741824:Int)].length:Int)))=false→(Ret1 true (TreeInserts.fn x0 x1 x2 x3 x4 x5 x6))))))))∧(((Int.tmod x4 (6:Int))==(1:Int))=false→((((Int.tmod x4 (6:Int))==(2:Int))=true→(0≤(3:Int)∧(3:Int)<32)∧(let v84:Int:=(IntKind.u8.wrap ((v54.2.1.getD (Int.toNat (3:Int)) (0:Int))+x5))
 (0≤(3:Int)∧(3:Int)<32)∧(TreeInserts.inv16 x0 x1 x2 x3 x4 x5 x6 ((EMade.fn x0 x1).1) ((EMade.fn x0 x1).2) (v54.1,((v54.2.1.set (Int.toNat (3:Int)) v84),v54.2.2)) (0:Int)∧∀(v15_3:Par) (v16_2:Tre) (v19_4:Hdr) (v98_2:Int),TreeInserts.inv16 x0 x1 x2 x3 x4 x5 x6 v15_3 v16_2 v19_4 v98_2→(((decide (v98_2<([x6,(1073741824:Int)].length:Int)))=true→(0≤v98_2∧v98_2<([x6,(1073741824:Int)].length:Int))∧NInsert.pre v15_3 v16_2 v19_4 ([x6,(1073741824:Int)].getD (Int.toNat v98_2) (0:Int))∧(let v108_2:Tre:=(NInsert.fn v15_3 v16_2 v19_4 ([x6,(1073741824:Int)].getD (Int.toNat v98_2) (0:Int))).1
 (let v109_2:Int:=(NInsert.fn v15_3 v16_2 v19_4 ([x6,(1073741824:Int)].getD (Int.toNat v98_2) (0:Int))).2.1
 (let v110_2:Int:=(NInsert.fn v15_3 v16_2 v19_4 ([x6,(1073741824:Int)].getD (Int.toNat v98_2) (0:Int))).2.2
 YInsert.pre v15_3 v16_2 v19_4 ([x6,(1073741824:Int)].getD (Int.toNat v98_2) (0:Int))∧(let v117_2:Tre:=(YInsert.fn v15_3 v16_2 v19_4 ([x6,(1073741824:Int)].getD (Int.toNat v98_2) (0:Int))).1
 (let v118_2:Int:=(YInsert.fn v15_3 v16_2 v19_4 ([x6,(1073741824:Int)].getD (Int.toNat v98_2) (0:Int))).2.1
 (let v119_2:Int:=(YInsert.fn v15_3 v16_2 v19_4 ([x6,(1073741824:Int)].getD (Int.toNat v98_2) (0:Int))).2.2
 ((v110_2 !=v119_2)=false→(v110_2 !=v119_2)=false)∧((v110_2 !=v119_2)=false→(v110_2 !=v119_2)=false)∧((v110_2 !=v119_2)=false→(v110_2 !=v119_2)=false)∧((bif (v110_2 !=v119_2) then true else(v109_2 !=v118_2))=false→(bif (v110_2 !=v119_2) then true else(v109_2 !=v118_2))=false)∧((bif (v110_2 !=v119_2) then true else(v109_2 !=v118_2))=false→(bif (v110_2 !=v119_2) then true else(v109_2 !=v118_2))=false)∧((bif (v110_2 !=v119_2) then true else(v109_2 !=v118_2))=false→YSame.pre v108_2 v117_2)∧((bif (v110_2 !=v119_2) then true else(v109_2 !=v118_2))=false→(bif (v110_2 !=v119_2) then true else(v109_2 !=v118_2))=false)∧((bif (v110_2 !=v119_2) then true else(v109_2 !=v118_2))=false→(bif (v110_2 !=v119_2) then true else(v109_2 !=v118_2))=false)∧(let v133_2:Bool:=(bif (bif (v110_2 !=v119_2) then true else(v109_2 !=v118_2)) then true else(!(YSame.fn v108_2 v117_2)))
 ((v133_2=true→(Ret1 false (TreeInserts.fn x0 x1 x2 x3 x4 x5 x6)))∧(v133_2=false→(TreeInserts.inv16 x0 x1 x2 x3 x4 x5 x6 v15_3 v16_2 v19_4 (IntKind.i64.wrap (v98_2+(1:Int)))∧TreeInserts.mes16 x0 x1 x2 x3 x4 x5 x6 v15_3 v16_2 v19_4 (IntKind.i64.wrap (v98_2+(1:Int)))<TreeInserts.mes16 x0 x1 x2 x3 x4 x5 x6 v15_3 v16_2 v19_4 v98_2)))))))))))∧((decide (v98_2<([x6,(1073741824:Int)].length:Int)))=false→(Ret1 true (TreeInserts.fn x0 x1 x2 x3 x4 x5 x6)))))))∧(((Int.tmod x4 (6:Int))==(2:Int))=false→((((Int.tmod x4 (6:Int))==(3:Int))=true→(let v19_5h:Hdr:=(v54.1,(v54.2.1,(v54.2.2.1,((IntKind.u32.wrap (v54.2.2.2.1+(IntKind.u32.wrap x5))),v54.2.2.2.2))))
 (TreeInserts.inv16 x0 x1 x2 x3 x4 x5 x6 ((EMade.fn x0 x1).1) ((EMade.fn x0 x1).2) v19_5h (0:Int)∧∀(v15_4:Par) (v16_3:Tre) (v19_6:Hdr) (v98_3:Int),TreeInserts.inv16 x0 x1 x2 x3 x4 x5 x6 v15_4 v16_3 v19_6 v98_3→(((decide (v98_3<([x6,(1073741824:Int)].length:Int)))=true→(0≤v98_3∧v98_3<([x6,(1073741824:Int)].length:Int))∧NInsert.pre v15_4 v16_3 v19_6 ([x6,(1073741824:Int)].getD (Int.toNat v98_3) (0:Int))∧(let v108_3:Tre:=(NInsert.fn v15_4 v16_3 v19_6 ([x6,(1073741824:Int)].getD (Int.toNat v98_3) (0:Int))).1
 (let v109_3:Int:=(NInsert.fn v15_4 v16_3 v19_6 ([x6,(1073741824:Int)].getD (Int.toNat v98_3) (0:Int))).2.1
 (let v110_3:Int:=(NInsert.fn v15_4 v16_3 v19_6 ([x6,(1073741824:Int)].getD (Int.toNat v98_3) (0:Int))).2.2
 YInsert.pre v15_4 v16_3 v19_6 ([x6,(1073741824:Int)].getD (Int.toNat v98_3) (0:Int))∧(let v117_3:Tre:=(YInsert.fn v15_4 v16_3 v19_6 ([x6,(1073741824:Int)].getD (Int.toNat v98_3) (0:Int))).1
 (let v118_3:Int:=(YInsert.fn v15_4 v16_3 v19_6 ([x6,(1073741824:Int)].getD (Int.toNat v98_3) (0:Int))).2.1
 (let v119_3:Int:=(YInsert.fn v15_4 v16_3 v19_6 ([x6,(1073741824:Int)].getD (Int.toNat v98_3) (0:Int))).2.2
 ((v110_3 !=v119_3)=false→(v110_3 !=v119_3)=false)∧((v110_3 !=v119_3)=false→(v110_3 !=v119_3)=false)∧((v110_3 !=v119_3)=false→(v110_3 !=v119_3)=false)∧((bif (v110_3 !=v119_3) then true else(v109_3 !=v118_3))=false→(bif (v110_3 !=v119_3) then true else(v109_3 !=v118_3))=false)∧((bif (v110_3 !=v119_3) then true else(v109_3 !=v118_3))=false→(bif (v110_3 !=v119_3) then true else(v109_3 !=v118_3))=false)∧((bif (v110_3 !=v119_3) then true else(v109_3 !=v118_3))=false→YSame.pre v108_3 v117_3)∧((bif (v110_3 !=v119_3) then true else(v109_3 !=v118_3))=false→(bif (v110_3 !=v119_3) then true else(v109_3 !=v118_3))=false)∧((bif (v110_3 !=v119_3) then true else(v109_3 !=v118_3))=false→(bif (v110_3 !=v119_3) then true else(v109_3 !=v118_3))=false)∧(let v133_3:Bool:=(bif (bif (v110_3 !=v119_3) then true else(v109_3 !=v118_3)) then true else(!(YSame.fn v108_3 v117_3)))
 ((v133_3=true→(Ret1 false (TreeInserts.fn x0 x1 x2 x3 x4 x5 x6)))∧(v133_3=false→(TreeInserts.inv16 x0 x1 x2 x3 x4 x5 x6 v15_4 v16_3 v19_6 (IntKind.i64.wrap (v98_3+(1:Int)))∧TreeInserts.mes16 x0 x1 x2 x3 x4 x5 x6 v15_4 v16_3 v19_6 (IntKind.i64.wrap (v98_3+(1:Int)))<TreeInserts.mes16 x0 x1 x2 x3 x4 x5 x6 v15_4 v16_3 v19_6 v98_3)))))))))))∧((decide (v98_3<([x6,(1073741824:Int)].length:Int)))=false→(Ret1 true (TreeInserts.fn x0 x1 x2 x3 x4 x5 x6)))))))∧(((Int.tmod x4 (6:Int))==(3:Int))=false→(TreeInserts.inv16 x0 x1 x2 x3 x4 x5 x6 ((EMade.fn x0 x1).1) ((EMade.fn x0 x1).2) v54 (0:Int)∧∀(v15_5:Par) (v16_4:Tre) (v19_7:Hdr) (v98_4:Int),TreeInserts.inv16 x0 x1 x2 x3 x4 x5 x6 v15_5 v16_4 v19_7 v98_4→(((decide (v98_4<([x6,(1073741824:Int)].length:Int)))=true→(0≤v98_4∧v98_4<([x6,(1073741824:Int)].length:Int))∧NInsert.pre v15_5 v16_4 v19_7 ([x6,(1073741824:Int)].getD (Int.toNat v98_4) (0:Int))∧(let v108_4:Tre:=(NInsert.fn v15_5 v16_4 v19_7 ([x6,(1073741824:Int)].getD (Int.toNat v98_4) (0:Int))).1
 (let v109_4:Int:=(NInsert.fn v15_5 v16_4 v19_7 ([x6,(1073741824:Int)].getD (Int.toNat v98_4) (0:Int))).2.1
 (let v110_4:Int:=(NInsert.fn v15_5 v16_4 v19_7 ([x6,(1073741824:Int)].getD (Int.toNat v98_4) (0:Int))).2.2
 YInsert.pre v15_5 v16_4 v19_7 ([x6,(1073741824:Int)].getD (Int.toNat v98_4) (0:Int))∧(let v117_4:Tre:=(YInsert.fn v15_5 v16_4 v19_7 ([x6,(1073741824:Int)].getD (Int.toNat v98_4) (0:Int))).1
 (let v118_4:Int:=(YInsert.fn v15_5 v16_4 v19_7 ([x6,(1073741824:Int)].getD (Int.toNat v98_4) (0:Int))).2.1
 (let v119_4:Int:=(YInsert.fn v15_5 v16_4 v19_7 ([x6,(1073741824:Int)].getD (Int.toNat v98_4) (0:Int))).2.2
 ((v110_4 !=v119_4)=false→(v110_4 !=v119_4)=false)∧((v110_4 !=v119_4)=false→(v110_4 !=v119_4)=false)∧((v110_4 !=v119_4)=false→(v110_4 !=v119_4)=false)∧((bif (v110_4 !=v119_4) then true else(v109_4 !=v118_4))=false→(bif (v110_4 !=v119_4) then true else(v109_4 !=v118_4))=false)∧((bif (v110_4 !=v119_4) then true else(v109_4 !=v118_4))=false→(bif (v110_4 !=v119_4) then true else(v109_4 !=v118_4))=false)∧((bif (v110_4 !=v119_4) then true else(v109_4 !=v118_4))=false→YSame.pre v108_4 v117_4)∧((bif (v110_4 !=v119_4) then true else(v109_4 !=v118_4))=false→(bif (v110_4 !=v119_4) then true else(v109_4 !=v118_4))=false)∧((bif (v110_4 !=v119_4) then true else(v109_4 !=v118_4))=false→(bif (v110_4 !=v119_4) then true else(v109_4 !=v118_4))=false)∧(let v133_4:Bool:=(bif (bif (v110_4 !=v119_4) then true else(v109_4 !=v118_4)) then true else(!(YSame.fn v108_4 v117_4)))
 ((v133_4=true→(Ret1 false (TreeInserts.fn x0 x1 x2 x3 x4 x5 x6)))∧(v133_4=false→(TreeInserts.inv16 x0 x1 x2 x3 x4 x5 x6 v15_5 v16_4 v19_7 (IntKind.i64.wrap (v98_4+(1:Int)))∧TreeInserts.mes16 x0 x1 x2 x3 x4 x5 x6 v15_5 v16_4 v19_7 (IntKind.i64.wrap (v98_4+(1:Int)))<TreeInserts.mes16 x0 x1 x2 x3 x4 x5 x6 v15_5 v16_4 v19_7 v98_4)))))))))))∧((decide (v98_4<([x6,(1073741824:Int)].length:Int)))=false→(Ret1 true (TreeInserts.fn x0 x1 x2 x3 x4 x5 x6))))))))))))))))))))))
theorem two_get {a b:Int}(ha:U32 a)(hb:U32 b){i:Int}(h0:0≤i)(h1:i<2):U32 ([a,b].getD i.toNat 0):=by
 obtain rfl|rfl:i=0∨i=1:=by omega
 ·exact ha
 ·exact hb
theorem TreeInserts.vc :TreeInserts.VC:=by
 rintro v seeds n s what by' now ⟨hv,hb,hs,hnow⟩
 obtain⟨ht,hval⟩:=madeT_ok hv hb
 have hp:=made_ok hv
 have hlen:=ht.2
 obtain⟨cs,c1,c2,c3⟩:=valid_of hval
 have hpos:=c2.fit.2.1
 have hroot:HOk (((List.replicate 32 (0:Int)).set 0 s).set 1 (77:Int)):=⟨by simp,((Bytes.zeros 32).set 0 hs).set 1 (by omega)⟩
 have hlate:U32 1073741824:=⟨by decide,by decide⟩
 simp only[imp_self,true_and,esane,EMade.fn,YContext.fn,MMine.fn,NInsert.fn,YInsert.fn,same_tree,bne_self_eq_false,cond_false,ret1,TreeInserts.fn,Bool.not_true]
 have hm:∀k:Int,HdrOk (mineFn (madeParams v) (contextT (madeParams v) (madeT v seeds) k).1 (((List.replicate 32 (0:Int)).set 0 s).set 1 (77:Int)) (IntKind.u32.wrap s)):=fun k=>mine_ok ⟨hp,context_good hp ht,hroot⟩
 refine⟨trivial,fun _=>⟨⟨hv,hb⟩,by omega,⟨hp,ht⟩,⟨hp,context_good hp ht,hroot⟩,by decide, ?_⟩⟩
 generalize hg:mineFn (madeParams v) (contextT (madeParams v) (madeT v seeds) _).1 _ _=m
 have hm:HdrOk m:=by rw[←hg];exact hm _
 clear hg
 have loop:∀(p:Par) (t:Tre) (h:Hdr) (i:Int),TreeInserts.inv16 v seeds n s what by' now p t h i→
  (decide (i<(([now,(1073741824:Int)]:List Int).length:Int))=true→(0≤i∧i<(([now,(1073741824:Int)]:List Int).length:Int))∧NInsert.pre p t h ([now,(1073741824:Int)].getD i.toNat 0)∧YInsert.pre p t h ([now,(1073741824:Int)].getD i.toNat 0)∧
    (True→YSame.pre (insertT p t h ([now,(1073741824:Int)].getD i.toNat 0)).1 (insertT p t h ([now,(1073741824:Int)].getD i.toNat 0)).1)∧
    (True→TreeInserts.inv16 v seeds n s what by' now p t h (IntKind.i64.wrap (i+1))∧TreeInserts.mes16 v seeds n s what by' now p t h (IntKind.i64.wrap (i+1))<TreeInserts.mes16 v seeds n s what by' now p t h i))∧
  (decide (i<(([now,(1073741824:Int)]:List Int).length:Int))=false→True):=by
  rintro p t h i ⟨k1,k2,rfl,rfl,k5⟩
  refine⟨fun hc=> ?_,fun _=>trivial⟩
  have hc:i<2:=of_decide_eq_true hc
  have hpre:InsPre (madeParams v) (madeT v seeds) h ([now,(1073741824:Int)].getD i.toNat 0):=⟨⟨hp,ht⟩,k5,two_get hnow hlate k1 hc⟩
  rw[i64w (n:=i+1) (by omega) (by omega)]
  exact⟨⟨k1,hc⟩,hpre,hpre,fun _=>(insert_ok hpre).2,fun _=>⟨⟨by omega,by omega,rfl,rfl,k5⟩,by simp only[TreeInserts.mes16];omega⟩⟩
 have i0:∀h,HdrOk h→TreeInserts.inv16 v seeds n s what by' now (madeParams v) (madeT v seeds) h 0:=fun h hh=>⟨by omega,by omega,rfl,rfl,hh⟩
 refine⟨fun _=>⟨i0 _ ⟨hm.1,hm.2.1,hm.2.2.1,hm.2.2.2.1,hm.2.2.2.2.1,u32r _⟩,loop⟩,fun _=>⟨fun _=> ?_,fun _=>⟨fun _=>⟨⟨by decide,by decide⟩,⟨by decide,by decide⟩,i0 _ ⟨hm.1,⟨by rw[List.length_set];exact hm.2.1.1,hm.2.1.2.set 3 (u8rT _)⟩,hm.2.2⟩,loop⟩,fun _=>⟨fun _=>⟨i0 _ ⟨hm.1,hm.2.1,hm.2.2.1,u32r _,hm.2.2.2.2⟩,loop⟩,fun _=>⟨i0 _ hm,loop⟩⟩⟩⟩⟩
 have h1:0≤(IntKind.i64.wrap s).tmod ((madeT v seeds).1.length:Int):=by rw[i64w (by omega) (by omega)];exact Int.tmod_nonneg _ hs.1
 have h2:(IntKind.i64.wrap s).tmod ((madeT v seeds).1.length:Int)<(madeT v seeds).1.length:=Int.tmod_lt_of_pos _ (by omega)
 exact⟨by omega,⟨h1,h2⟩,i0 _ (get_at zn ht.1 (by omega)).1,loop⟩
end Lc
