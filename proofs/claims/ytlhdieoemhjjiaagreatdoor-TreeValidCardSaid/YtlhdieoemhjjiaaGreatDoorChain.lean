import Derived.RangeFuncNested
import Derived.RangeFuncBound
import Derived.RangeFuncCalls
import Derived.RangeFuncLeaves
import Derived.Shelf.Abstract
import Derived.Shelf.RegionOpen
import Derived.WalkKit
import Derived.OwnWalkIn
import Derived.TacticsInMore
import Derived.LoopNIn
import Derived.LoopIn
import Derived.Laws.EntriesVeiled
import Derived.Test.YtlhdieoemhjjiaaGreatDoorChecked
import Derived.Test.YtlhdieoemhjjiaaGreatDoorTrees
import Derived.Test.YtlhdieoemhjjiaaGreatDoorEngSV
set_option linter.unusedVariables false
set_option linter.unusedSimpArgs false
namespace Go.Proofs
open Go.RowKit Go.Shelf
attribute [local go_sem] Oper.semAt_some
namespace YtlhdieoemhjjiaaGreatDoor
set_option maxRecDepth 100000 in
set_option maxHeartbeats 4000000 in
theorem mark_in (F:Fence)(n:Nat)(h:F.fn 69)(hro:F.round=none)(B0 B1 g m len cap:Nat)(side:Int)(W:World)(hm:m<len)
 (hc0:W.cell? ⟨B0,0,none⟩=some (.slice (some ⟨g,0,none⟩) len cap)) (hc1:W.cell? ⟨B1,0,none⟩=some (.int .i64 side)) (hf1:W.frozen? ⟨B1,0,none⟩=false)
 (hg:∃b,W.cell? ⟨g,m,none⟩=some (.bool b)) (hgf:W.frozen? ⟨g,m,none⟩=false) (hne:g≠B1) (hs:1≤side) (hs2:side≤1000000):
 CallsIn F n Tryz.prog 69 #[.int .i64 m,.pointer (some ⟨B0,0,none⟩),.pointer (some ⟨B1,0,none⟩)] W fun e W'=>(∃v,e= .returned v)∧W'=(W.setCell ⟨g,m,none⟩ (.bool true)).setCell ⟨B1,0,none⟩ (.int .i64 (side-1)):=by
 obtain⟨b,hg⟩:=hg
 refine callsIn_of_wp Tryz.func69 rfl h ?_ hro
 simp only[Tryz.ntmps69,List.size_toArray,List.length_cons,List.length_nil,Nat.reduceAdd,Nat.reduceSub,Array.replicate_succ,Array.replicate_zero,List.push_toArray,List.append_toArray,List.nil_append,List.cons_append]
 gi_wp2
 go_end0
 exact⟨⟨_,rfl⟩,rfl⟩
/--A node's number. -/
abbrev Num (len:Nat):Type:={x:Int//0≤x∧x<len}
def Goes (par:Nat→Int)(len:Nat):Int→List (Num len)→Prop
 |cur,[]=>cur= -1
 |cur,x::r=>cur=x.1∧par x.1.toNat<x.1∧-1≤par x.1.toNat∧Goes par len (par x.1.toNat) r
def Kp2 (n₀ B1:Nat)(A B:World):Prop:=Below n₀ A B∧B.cell? ⟨B1,0,none⟩=A.cell? ⟨B1,0,none⟩
set_option maxRecDepth 100000 in
set_option maxHeartbeats 4000000 in
theorem anc1_in (F:Fence)(n:Nat)(h:F.fn 94)(hro:F.round=none)(hn:1≤n)(l B0 B1 n₀ b off len cap:Nat)(hb:b<n₀)(hl:len≤1000000)(best:Int)(par:Nat→Int)(path:List (Num len))(hpath:Goes par len best path)(J Jx:List (Num len)→World→Prop)
 (hY:∀pre x W,J pre W→pre.length<path.length→YieldAt F (n-1) Tryz.prog l #[.int .i64 x.1] W fun e W'=>
   (e= .returned (.bool true)∧J (pre++[x]) W'∧Kp2 n₀ B1 W W')∨(e= .returned (.bool false)∧Jx (pre++[x]) W'))
 (W:World) (hB0:W.cell? ⟨B0,0,none⟩=some (.int .i64 best)) (hB1:W.cell? ⟨B1,0,none⟩=some (.slice (some ⟨b,off,none⟩) len cap))
 (hP:∀i,i<len→W.cell? ⟨b,off+i*106+100,none⟩=some (.int .i64 (par i))) (h0:J [] W):
 CallsIn F n Tryz.prog 94 #[.func (.yield l) #[] #[],.pointer (some ⟨B0,0,none⟩),.pointer (some ⟨B1,0,none⟩)] W fun e W'=>(∃v,e= .returned v)∧
  ((∃ys,ys=path∧J ys W')∨(∃pre,pre<+:path∧Jx pre W')):=by
 refine callsIn_of_wp Tryz.func94 rfl h ?_ hro
 simp only[Tryz.ntmps94,List.size_toArray,List.length_cons,List.length_nil,Nat.reduceAdd,Nat.reduceSub,Array.replicate_succ,Array.replicate_zero,List.push_toArray,List.append_toArray,List.nil_append,List.cons_append]
 gi_wp2
 gi_loopw [4] (fun p wr=>∃(pre rest:List (Num len)) (cur:Int),p= .int .i64 cur∧path=pre++rest∧Goes par len cur rest∧J pre wr∧wr.cell? ⟨B1,0,none⟩=some (.slice (some ⟨b,off,none⟩) len cap)∧(∀i,i<len→wr.cell? ⟨b,off+i*106+100,none⟩=some (.int .i64 (par i))))
  (fun p _=>(intOf p+1).toNat)
 case atStart=>
  exact⟨[],path,best,rfl,rfl,hpath,h0,hB1,hP⟩
 case round=>
  obtain⟨pre,rest,cur,rfl,hx,hg,hJs,hb1,hp1⟩:=hrel
  cases rest with
  |nil=>
   obtain rfl:cur= -1:=hg
   gi_wp2
   refine⟨fun _ h=>(by cases h), ?_⟩
   gi_wp2
   go_end0
   exact⟨⟨_,rfl⟩,.inl ⟨pre,by simp[hx],hJs⟩⟩
  |cons x rest=>
   obtain⟨rfl,g3,g4,g5⟩:=hg
   obtain⟨g1,g2⟩:=x.2
   obtain⟨fn,tmps,assign,body,hy,hR⟩:=hY pre x wr hJs (by rw[hx];simp)
   gi_wp2
   refine hR.mono ?_
   rintro e W3 (⟨rfl,hJ3,hk3⟩|⟨rfl,hJx3⟩)
   ·have hb3:W3.cell? ⟨B1,0,none⟩=some (.slice (some ⟨b,off,none⟩) len cap):=hk3.2.trans hb1
    have hp3:∀i,i<len→W3.cell? ⟨b,off+i*106+100,none⟩=some (.int .i64 (par i)):=fun i hi=>(hk3.1.cell (p:=⟨b,off+i*106+100,none⟩) hb).trans (hp1 i hi)
    have hp2:=hp3 x.1.toNat (by omega)
    gi_wp2
    refine⟨⟨pre++[x],rest,par x.1.toNat,rfl,by simp[hx],g5,hJ3,hb3,hp3⟩, ?_⟩
    show(par x.1.toNat+1).toNat<(x.1+1).toNat
    omega
   ·gi_wp2
    go_end0
    exact⟨⟨_,rfl⟩,.inr ⟨pre++[x],⟨rest,by simp[hx]⟩,hJx3⟩⟩
set_option maxRecDepth 100000 in
set_option maxHeartbeats 4000000 in
theorem anc_in (F:Fence)(n:Nat)(h:F.fn 70)(hro:F.round=none)(v:Value)(best:Int)(w:World):
 CallsIn F n Tryz.prog 70 #[.agg #[v,.int .i64 best],.int .i64 best] w fun e W'=>e= .returned (.func (.func 94) #[] #[.pointer (some ⟨w.heap.size+1,0,none⟩),.pointer (some ⟨w.heap.size,0,none⟩)])∧
  W'=(w.alloc (.cells #[v,.int .i64 best] 35)).alloc (.cells #[.int .i64 best] 3):=by
 refine callsIn_of_wp Tryz.func70 rfl h ?_ hro
 simp only[Tryz.ntmps70,List.size_toArray,List.length_cons,List.length_nil,Nat.reduceAdd,Nat.reduceSub,Array.replicate_succ,Array.replicate_zero,List.push_toArray,List.append_toArray,List.nil_append,List.cons_append]
 gi_wp2
 go_ret
 exact⟨rfl,rfl⟩
theorem anc_stops (F:Fence)(n:Nat)(h:F.fn 94)(hro:F.round=none)(hn:1≤n)(B0 B1 n₀ b off len cap:Nat)(hb:b<n₀)(hl:len≤1000000)(best:Int)(par:Nat→Int)(path:List (Num len))(hpath:Goes par len best path)
 (w:World) (h0:B0<w.heap.size) (h1:B1<w.heap.size) (h2:b<w.heap.size) (hB0:w.cell? ⟨B0,0,none⟩=some (.int .i64 best)) (hB1:w.cell? ⟨B1,0,none⟩=some (.slice (some ⟨b,off,none⟩) len cap))
 (hP:∀i,i<len→w.cell? ⟨b,off+i*106+100,none⟩=some (.int .i64 (par i))):
 SeqStopsK F n Tryz.prog 94 #[.pointer (some ⟨B0,0,none⟩),.pointer (some ⟨B1,0,none⟩)] (fun x:Num len=> #[.int .i64 x.1]) (Kp2 n₀ B1) (fun ys=>ys=path) (fun pre=>pre<+:path) path.length w:=
 fun l J Jx W hW _ _ hY hj=>anc1_in F n h hro hn l B0 B1 n₀ b off len cap hb hl best par path hpath J Jx hY W ((hW.cell (p:=⟨B0,0,none⟩) h0).trans hB0) ((hW.cell (p:=⟨B1,0,none⟩) h1).trans hB1)
  (fun i hi=>(hW.cell (p:=⟨b,off+i*106+100,none⟩) h2).trans (hP i hi)) hj
theorem info4 :(Tryz.prog.info? 4).map (fun i=>(i.zero,i.size,i.bytes))=some (some (.bool false),1,1):=by kernel_rfl
theorem und77 :Tryz.prog.underlying 85=some (.slice 4):=by kernel_rfl
theorem mk77 (len:Nat)(hl:len≤1000000)(w:World):(Instr.makeSlice 85 (.int .i64 (len:Int)) (.int .i64 (len:Int))).run Tryz.prog w= .ok (.slice (some ⟨w.heap.size,0,none⟩) len len) (w.alloc (.cells (madeCells #[.bool false] len) 4)):=by
 obtain⟨i,hi,hz,h1,h2⟩:=info_parts info4
 have h:=run_make (P:=Tryz.prog) (w:=w) 85 4 i (.bool false) und77 hi hz .i64 .i64 len len (by omega) (Int.le_refl _) (by rw[h2];omega) (by omega)
 rw[h,h1]
 simp[Value.cells]
def rowA (len:Nat)(pre:List (Num len)):Array Value:=pre.foldl (fun(c:Array Value) x=>c.setIfInBounds x.1.toNat (.bool true)) (madeCells #[.bool false] len)
theorem rowA_snoc (len:Nat)(pre:List (Num len))(x:Num len):rowA len (pre++[x])=(rowA len pre).setIfInBounds x.1.toNat (.bool true):=by unfold rowA;rw[List.foldl_append];rfl
theorem rowA_size (len:Nat)(pre:List (Num len)):(rowA len pre).size=len:=by
 unfold rowA
 have:∀(l:List (Num len)) (c:Array Value),(l.foldl (fun(c:Array Value) x=>c.setIfInBounds x.1.toNat (.bool true)) c).size=c.size:=by
  intro l
  induction l with
  |nil=>intro c;rfl
  |cons x r ih=>intro c;rw[List.foldl_cons,ih];simp
 rw[this,size_madeCells]
def isB (v:Value):Prop:=∃q,v= .bool q
theorem rowA_bool (len:Nat)(pre:List (Num len))(i:Nat)(h:i<len):∃q,(rowA len pre)[i]? =some (.bool q):=by
 have key:∀(l:List (Num len)) (c:Array Value),(∃q,c[i]? =some (.bool q))→∃q,(l.foldl (fun(c:Array Value) x=>c.setIfInBounds x.1.toNat (.bool true)) c)[i]? =some (.bool q):=by
  intro l
  induction l with
  |nil=>intro c h;exact h
  |cons x r ih=>
   rintro c ⟨q,hq⟩
   rw[List.foldl_cons]
   refine ih _ ?_
   rw[Array.getElem?_setIfInBounds]
   split
   ·rename_i e
    rw[if_pos (by have:=(Array.getElem?_eq_some_iff.1 hq).1;omega)]
    exact⟨true,rfl⟩
   ·exact⟨q,hq⟩
 exact key pre _ ⟨false,by simp[madeCells,h,Nat.mod_one]⟩
theorem goes_len {par:Nat→Int}{len:Nat}:∀(path:List (Num len)) (cur:Int),Goes par len cur path→(path.length:Int)≤cur+1∧cur<len
 |[],cur,h=>by
  obtain rfl:cur= -1:=h
  exact⟨by simp,by omega⟩
 |x::r,cur,h=>by
  obtain⟨rfl,g3,g4,g5⟩:=h
  obtain⟨i1,i2⟩:=goes_len r _ g5
  have:=x.2
  exact⟨by rw[List.length_cons];omega,by omega⟩
theorem cell_of {W:World}{l k:Nat}{c:Array Value}{e:TypeId}{fr:Nat×Nat}{v:Value}(h:W.heap[l]? =some (.cells c e fr))(hk:c[k]? =some v):W.cell? ⟨l,k,none⟩=some v:=by simp[World.cell?,h,hk]
theorem frozen_of {W:World}{l k:Nat}{c:Array Value}{e:TypeId}(h:W.heap[l]? =some (.cells c e (0,0))):W.frozen? ⟨l,k,none⟩=false:=by simp[World.frozen?,h]
def ChI (s len:Nat)(pre:List (Num len))(W:World):Prop:=
 W.heap[s+1]? =some (.cells (rowA len pre) 4 (0,0))∧W.heap[s+2]? =some (.cells #[.slice (some ⟨s+1,0,none⟩) len len] 85 (0,0))∧
 W.heap[s+3]? =some (.cells #[.int .i64 ((len:Int)-pre.length)] 3 (0,0))∧W.heap[s+4]? =some (.cells #[.func (.func 69) #[] #[.pointer (some ⟨s+2,0,none⟩),.pointer (some ⟨s+3,0,none⟩)]] 111 (0,0))
theorem chI_own (s len:Nat):Own (ChI s len):=fun pre A B row h hg hr=>
 ⟨(grownBy_keeps_cells hg hr h.1 rfl).trans h.1,(grownBy_keeps_cells hg hr h.2.1 rfl).trans h.2.1,(grownBy_keeps_cells hg hr h.2.2.1 rfl).trans h.2.2.1,(grownBy_keeps_cells hg hr h.2.2.2 rfl).trans h.2.2.2⟩
theorem heap_old {W:World}{o x:Obj}{k:Nat}(h:W.heap[k]? =some x):(W.alloc o).heap[k]? =some x:=(Below.heap_alloc W o k (Array.getElem?_eq_some_iff.1 h).1).trans h
theorem heap_new (W:World)(o:Obj){k:Nat}(h:W.heap.size=k):(W.alloc o).heap[k]? =some o:=by rw[←h];exact World.alloc_heap_new W o
theorem seven (w:World)(o0 o1 o2 o3 o4 o5 o6:Obj){s:Nat}(hs:w.heap.size=s){W:World}(hW:((((((w.alloc o0).alloc o1).alloc o2).alloc o3).alloc o4).alloc o5).alloc o6=W):
 W.heap[s+1]? =some o1∧W.heap[s+2]? =some o2∧W.heap[s+3]? =some o3∧W.heap[s+4]? =some o4∧W.heap[s+5]? =some o5∧W.heap[s+6]? =some o6∧W.heap.size=s+7∧Below s w W:=by
 subst hW
 subst hs
 exact⟨heap_old (heap_old (heap_old (heap_old (heap_old (heap_new _ _ (by simp)))))),heap_old (heap_old (heap_old (heap_old (heap_new _ _ (by simp))))),heap_old (heap_old (heap_old (heap_new _ _ (by simp)))),heap_old (heap_old (heap_new _ _ (by simp))),
  heap_old (heap_new _ _ (by simp)),heap_new _ _ (by simp),by simp,(((((((Below.refl _ w).alloc (Nat.le_refl _) _).alloc (by simp) _).alloc (by simp;omega) _).alloc (by simp;omega) _).alloc (by simp;omega) _).alloc (by simp;omega) _).alloc (by simp;omega) _⟩
set_option maxRecDepth 100000 in
set_option maxHeartbeats 4000000 in
theorem chain_in (F:Fence)(n:Nat)(h78:F.fn 42)(h114:F.fn 70)(h151:F.fn 94)(h113:F.fn 69)(hro:F.round=none)(hn:6≤n)(b off len cap:Nat)(hl:len≤1000000)(hl1:1≤len)(best:Int)(par:Nat→Int)(path:List (Num len))(hpath:Goes par len best path)
 (w:World) (hb:b<w.heap.size) (hP:∀i,i<len→w.cell? ⟨b,off+i*106+100,none⟩=some (.int .i64 (par i))):
 CallsIn F n Tryz.prog 42 #[.agg #[.slice (some ⟨b,off,none⟩) len cap,.int .i64 best]] w fun e W'=>
  e= .returned (.tuple #[.slice (some ⟨w.heap.size+1,0,none⟩) len len,.int .i64 ((len:Int)-path.length)])∧W'.heap[w.heap.size+1]? =some (.cells (rowA len path) 4 (0,0))∧Below w.heap.size w W':=by
 have hn1:1≤n:=by omega
 have hmk:=mk77 len hl
 obtain⟨gl1,gl2⟩:=goes_len path best hpath
 refine callsIn_of_wp_marks Tryz.func42 rfl h78 ?_ hro
 simp only[Tryz.ntmps42,List.size_toArray,List.length_cons,List.length_nil,Nat.reduceAdd,Nat.reduceSub,Array.replicate_succ,Array.replicate_zero,List.push_toArray,List.append_toArray,List.nil_append,List.cons_append]
 gi_wp2_with (gi_at_call 70;refine(anc_in F (n-1) h114 hro _ _ _).mono ?_;rintro e w' ⟨rfl,rfl⟩)
 obtain⟨s,hs⟩:∃s,w.heap.size=s:=⟨_,rfl⟩
 rw[hs] at hb⊢
 generalize hW0:((((((w.alloc _).alloc _).alloc _).alloc _).alloc _).alloc _).alloc _=W0
 obtain⟨e1,e2,e3,e4,e5,e6,hsz,hB0⟩:=seven w _ _ _ _ _ _ _ hs hW0
 have hI0:ChI s len [] W0:=⟨e1,e2,e3.trans (by simp),e4⟩
 have c5:W0.cell? ⟨s+5,0,none⟩=some (.slice (some ⟨b,off,none⟩) len cap):=cell_of e5 rfl
 have c6:W0.cell? ⟨s+6,0,none⟩=some (.int .i64 best):=cell_of e6 rfl
 have hP0:∀i,i<len→W0.cell? ⟨b,off+i*106+100,none⟩=some (.int .i64 (par i)):=fun i hi=>(hB0.cell (p:=⟨b,off+i*106+100,none⟩) hb).trans (hP i hi)
 clear hW0 e1 e2 e3 e4 e5 e6
 refine wpIn_rangeFunc_ownF hro hn1 (gf:=94) (lb:= #[.pointer (some ⟨s+6,0,none⟩),.pointer (some ⟨s+5,0,none⟩)]) rfl h151 (enters_of Tryz.func94 (by kernel_rfl) rfl)
  (anc_stops F (n-1) h151 hro (by omega) (s+6) (s+5) s b off len cap hb hl best par path hpath W0 (by omega) (by omega) (by omega) c6 c5 hP0) (fun{A B C} h k=>⟨h.1.trans k.1,k.2.trans h.2⟩)
  (fun W l o o' hll ho hc hw=>⟨belowK_b (w:=W0) (by omega) W l o o' hll ho hc hw, ?keep⟩) (Below.refl _ _) (fun _=>rfl)
  (fun pre W=>ChI s len pre W∧Below s w W) (fun _ _ _=>False)
  (OwnFrom.and (Own.from (chI_own s len) _) (ownFrom_below (by omega) (by omega))) (fun _ _ _ _ _ hs _ _=>hs) ⟨hI0,hB0⟩
  (fun x=>{tmps:= #[.agg #[.slice (some ⟨b,off,none⟩) len cap,.int .i64 best],.pointer (some ⟨s,0,none⟩),.slice none 0 0,.int .i64 0,.pointer (some ⟨s+2,0,none⟩),.pointer (some ⟨s+3,0,none⟩),.pointer (some ⟨s+4,0,none⟩),.int .i64 x.1,.pointer (some ⟨s,0,none⟩),
    .slice (some ⟨b,off,none⟩) len cap,.int .i64 len,.slice (some ⟨s+1,0,none⟩) len len,.pointer (some ⟨s,0,none⟩),.slice (some ⟨b,off,none⟩) len cap,.int .i64 len,.func (.func 69) #[] #[.pointer (some ⟨s+2,0,none⟩),.pointer (some ⟨s+3,0,none⟩)],
    .agg #[.slice (some ⟨b,off,none⟩) len cap,.int .i64 best],.pointer (some ⟨s,1,none⟩),.int .i64 best,.func (.func 94) #[] #[.pointer (some ⟨s+6,0,none⟩),.pointer (some ⟨s+5,0,none⟩)],.int .i64 x.1,undef,undef,undef,undef,undef],defers:=[]}) ?assign ?body ?done ?stop
 case assign=>
  intro l x W K hK
  gi_wp2
  exact hK
 case body=>
  rintro l pre x W ⟨⟨i1,i2,i3,i4⟩,hB⟩ hpl
  obtain⟨x,x0,x1⟩:=x
  obtain⟨m,rfl⟩:∃m:Nat,x=m:=⟨x.toNat,by omega⟩
  have c4:=cell_of (k:=0) i4 rfl
  have c3:=cell_of (k:=0) i3 rfl
  have c2:=cell_of (k:=0) i2 rfl
  have f3:=frozen_of (k:=0) i3
  have f1:=frozen_of (k:=m) i1
  obtain⟨q,hq⟩:=rowA_bool len pre m (by omega)
  have c1:=cell_of i1 hq
  gi_wp2
  refine⟨fun _=>by omega,(CallsIn.inRound l (mark_in F (n-1-1-1) h113 hro (s+2) (s+3) (s+1) m len len ((len:Int)-pre.length) W (by omega) c2 c3 f3 ⟨q,c1⟩ f1 (by omega) (by omega) (by omega))).mono ?_⟩
  rintro e W' ⟨⟨v,rfl⟩,rfl⟩
  gi_wp2
  have n1:((W.setCell ⟨s+1,m,none⟩ (.bool true)).setCell ⟨s+3,0,none⟩ (.int .i64 ((len:Int)-pre.length-1))).heap[s+1]? =some (.cells (rowA len (pre++[⟨(m:Int),x0,x1⟩])) 4 (0,0)):=by
   rw[heap_setCell_other _ _ _ _ (by simp),heap_setCell_same _ _ _ _ _ _ i1,rowA_snoc];rfl
  have n2:∀k,k≠s+1→k≠s+3→((W.setCell ⟨s+1,m,none⟩ (.bool true)).setCell ⟨s+3,0,none⟩ (.int .i64 ((len:Int)-pre.length-1))).heap[k]? =W.heap[k]? :=fun k h1 h2=>by
   rw[heap_setCell_other _ _ _ _ h2,heap_setCell_other _ _ _ _ h1]
  have n3:((W.setCell ⟨s+1,m,none⟩ (.bool true)).setCell ⟨s+3,0,none⟩ (.int .i64 ((len:Int)-pre.length-1))).heap[s+3]? =some (.cells #[.int .i64 ((len:Int)-(pre++[(⟨(m:Int),x0,x1⟩:Num len)]).length)] 3 (0,0)):=by
   rw[heap_setCell_same _ _ _ _ _ _ ((heap_setCell_other _ _ _ _ (by simp)).trans i3)]
   simp
   omega
  have nb:∀A,Below s A W→Below s A ((W.setCell ⟨s+1,m,none⟩ (.bool true)).setCell ⟨s+3,0,none⟩ (.int .i64 ((len:Int)-pre.length-1))):=fun A hA=>(hA.setCell (p:=⟨s+1,m,none⟩) (by simp) _).setCell (p:=⟨s+3,0,none⟩) (by simp) _
  exact⟨(KeepsOthers.setCell _ _ _).trans (KeepsOthers.setCell _ _ _),⟨nb W (Below.refl _ _),World.cell?_of_block (n2 (s+5) (by omega) (by omega))⟩,⟨n1,(n2 _ (by omega) (by omega)).trans i2,n3,(n2 _ (by omega) (by omega)).trans i4⟩,nb w hB⟩
 case done=>
  rintro D ys W hD rfl ⟨⟨i1,i2,i3,i4⟩,hB⟩ hK
  have c3:W.cell? ⟨s+1+1+1,0,none⟩=_:=cell_of (k:=0) i3 rfl
  have c2:W.cell? ⟨s+1+1,0,none⟩=_:=cell_of (k:=0) i2 rfl
  have hfo:Tryz.prog.follows .mixedOrders=true:=by kernel_rfl
  gi_wp2
  gi_region_o
  all_goals gi_wp2
  all_goals
   refine⟨by simp,.inl ⟨_,_,rfl,run_takeDeferred hK, ?_⟩⟩
   subst hs
   have hDl:=(Array.getElem?_eq_some_iff.1 hK).1
   have hi1:=(Array.getElem?_eq_some_iff.1 i1).1
   refine⟨.tuple #[.slice (some ⟨w.heap.size+1,0,none⟩) len len,.int .i64 ((len:Int)-ys.length)], ?_,rfl,((grownBy_putObj' W.drew D (.deferred none)).block (w.heap.size+1) hi1 (fun e=>by cases e;omega)).trans i1,hB.drew.trans (belowK_b (w:=w) (Nat.le_refl _) W.drew D (.deferred (some [])) _ (by omega) hK rfl rfl)⟩
   simp[results,Tryz.f42,go_sem]
 case stop=>
  rintro D c pre W _ _ h _
  exact h.elim
 case keep=>
  have hlt:=(Array.getElem?_eq_some_iff.1 ho).1
  exact World.cell?_of_block ((grownBy_putObj' W l o').block (s+5) (by omega) (fun e=>by cases e;omega))
section
open Lc
theorem goes_path {l:List Nd}(hk:Linked l)(h0:(l.getD 0 zn).2.2.1= -1):∀n:Nat,n<l.length→∃path:List (Num l.length),Goes (fun i=>(l.getD i zn).2.2.1) l.length n path∧path.map (fun x=>x.1.toNat)=pathFn l n:=by
 intro n
 induction n using Nat.strongRecOn with
 |_ n ih=>
  intro hn
  by_cases hz:n=0
  ·subst hz
   refine⟨[⟨0,by omega,by omega⟩],⟨rfl, ?_, ?_,h0⟩,rfl⟩
   ·show(l.getD 0 zn).2.2.1<0
    omega
   ·show-1≤(l.getD 0 zn).2.2.1
    omega
  ·obtain⟨p1,p2⟩:=hk n (by omega) hn
   obtain⟨path,g1,g2⟩:=ih (l.getD n zn).2.2.1.toNat (by omega) (by omega)
   rw[Int.toNat_of_nonneg p1] at g1
   refine⟨⟨(n:Int),by omega,by omega⟩::path,⟨rfl, ?_, ?_, ?_⟩, ?_⟩
   ·show(l.getD (n:Int).toNat zn).2.2.1<n
    rw[Int.toNat_natCast];exact p2
   ·show-1≤(l.getD (n:Int).toNat zn).2.2.1
    rw[Int.toNat_natCast];omega
   ·show Goes _ _ (l.getD (n:Int).toNat zn).2.2.1 path
    rw[Int.toNat_natCast];exact g1
   ·rw[List.map_cons,g2,path_step hk (by omega) hn];rfl
theorem rowA_list {len:Nat}(path:List (Num len)):(rowA len path).toList=((path.map (fun x=>x.1.toNat)).foldl (fun ms i=>ms.set i true) (List.replicate len false)).map Value.bool:=by
 have key:∀(path:List (Num len)) (c:Array Value) (ms:List Bool),c.toList=ms.map Value.bool→
  (path.foldl (fun(c:Array Value) x=>c.setIfInBounds x.1.toNat (.bool true)) c).toList=((path.map (fun x=>x.1.toNat)).foldl (fun ms i=>ms.set i true) ms).map Value.bool:=by
  intro path
  induction path with
  |nil=>intro c ms h;exact h
  |cons x r ih=>
   intro c ms h
   rw[List.foldl_cons,List.map_cons,List.foldl_cons]
   refine ih _ _ ?_
   rw[Array.toList_setIfInBounds,h,List.map_set]
 refine key path _ _ ?_
 refine List.ext_getElem (by simp[madeCells]) (fun i h1 h2=> ?_)
 simp[madeCells,Nat.mod_one]
theorem chainSound (G:Nat→Option TV):Sound Tryz.prog G 42 {params:=[.pair (.slc NodeT) (.pair (.int .i64) .unit)],rets:=[.ownw .bool,.deep (.int .i64)],pre:=fun x=>NChain.pre x.1,fn:=fun x=>((NChain.fn x.1).1,(NChain.fn x.1).2,())}:=by
 refine⟨⟨Tryz.f42,Tryz.func42,by kernel_rfl,by kernel_rfl⟩, ?_⟩
 intro F w xs vs hF hG hargs hpre
 obtain⟨v,r,rfl,hv,rfl⟩:=hargs
 obtain⟨ho,hlen⟩:NChain.pre xs.1:=hpre
 obtain⟨cs0,rfl,hrep⟩:∃cs,v= .agg cs.toArray∧Rep F (.pair (.slc NodeT) (.pair (.int .i64) .unit)) xs.1 cs:=by simpa[RepV,Ty.isAgg] using hv
 obtain⟨c1,c2,rfl,⟨sv,rfl,hs⟩,c3,c4,rfl,h3,h4⟩:=hrep
 have h3:c3=[.int .i64 xs.1.2.1]:=h3
 have h4:c4=[]:=h4
 subst h3 h4
 have hl1:1≤List.length xs.1.1:=by have:=ho.1;have:=ho.2.1;omega
 have hbest:xs.1.2.1.toNat<List.length xs.1.1:=by have:=ho.1;have:=ho.2.1;omega
 rcases hs with⟨_,hn,_⟩|⟨b,off,cap,cs,rfl,hcap,hr,hat⟩
 ·omega
 ·have hcell:∀i,i<List.length xs.1.1→w.cell? ⟨b,off+i*106+100,none⟩=some (.int .i64 (xs.1.1.getD i zn).2.2.1):=fun i hi=>by
   rw[cell?_eq]
   have:=hF _ _ _ (hat _ _ (nodes_par xs.1.1 cs hr i hi))
   rwa [←Nat.add_assoc] at this
  have hb:b<w.heap.size:=by
   have:=hcell 0 (by omega)
   rw[cell?_eq] at this
   exact cellAt_lt this
  obtain⟨path,g1,g2⟩:=goes_path ho.2.2.2 ho.2.2.1 _ hbest
  rw[Int.toNat_of_nonneg ho.1] at g1
  have h:=(callsIn_wide (n:=6)).1 (chain_in _ 6 trivial trivial trivial trivial rfl (Nat.le_refl _) b off _ cap hlen hl1 _ _ path g1 w hb hcell)
  refine h.mono ?_
  rintro e w' ⟨rfl,hH,hB⟩
  have hml:(marksT xs.1).length=List.length xs.1.1:=marks_len _
  have hside:(List.length xs.1.1:Int)-path.length=(sideN xs.1:Int):=by rw[side_path ho,←g2,List.length_map]
  have hlist:(rowA (List.length xs.1.1) path).toList=(marksT xs.1).map Value.bool:=by rw[rowA_list,g2];rfl
  have hFg:∀i,F (w.heap.size+1) i=none:=by
   intro i
   cases hq:F (w.heap.size+1) i with
   |none=>rfl
   |some y=>have:=cellAt_lt (hF _ i y hq);omega
  refine⟨_,F,[.slice (some ⟨w.heap.size+1,0,none⟩) (List.length xs.1.1) (List.length xs.1.1),.int .i64 (sideN xs.1)],[w.heap.size+1],rfl,FH.le.rfl,fun _ _=>rfl,fun b i v hb=> ?_,⟨_,_,rfl,.inr ⟨w.heap.size+1,[],rfl,⟨(List.length xs.1.1,0),rowA _ path,4,(0,0),[],(marksT xs.1).map Value.bool,[], ?_,by omega,hH, ?_,⟨rfl,by rw[hlist];simp⟩,repL_bool _, ?_, ?_,⟨rfl,hFg⟩⟩,⟨_,_,rfl, ?_,rfl,rfl⟩⟩⟩,by simp,.inr ⟨by simp,by rw[hside]⟩,hB⟩
  ·have h1:=hF _ _ _ hb
   have hlt:=cellAt_lt h1
   simp only[cellAt] at h1⊢
   rw[hB.block _ hlt];exact h1
  ·show _=Value.slice _ (marksT xs.1).length _
   rw[hml]
  ·intro i _ h;simp at h
  ·rw[rowA_size];simp[Ty.size]
  ·show(marksT xs.1).length≤_
   rw[hml];exact Nat.le_refl _
  ·show RepV F (.int .i64) (sideN xs.1:Int) _
   simp[RepV,Ty.isAgg,Rep]
end
end YtlhdieoemhjjiaaGreatDoor
end Go.Proofs
