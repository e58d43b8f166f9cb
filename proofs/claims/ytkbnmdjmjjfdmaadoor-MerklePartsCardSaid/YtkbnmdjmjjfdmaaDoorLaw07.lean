/- Chapter 07: pairs, made leaves, and the laws' conditions. -/
import Derived.Test.YtkbnmdjmjjfdmaaDoorMerkle
import Derived.Test.YtkbnmdjmjjfdmaaDoorEngSV
import Derived.KernelRfl
set_option linter.unusedVariables false
set_option linter.unusedSimpArgs false
set_option maxRecDepth 100000
namespace Lc
open Go
def one32 (k:Int):H32:=(List.replicate 32 (0:Int)).set 0 k
theorem one32_ok {k:Int}(h:0≤k∧k≤255):HashOk (one32 k):=⟨by simp[one32],(Bytes.zeros 32).set 0 h⟩
theorem node12 :node (one32 1) (one32 2)=[127,80,117,78,227,143,160,51,23,237,95,254,79,42,217,20,128,133,79,170,249,85,136,108,215,128,243,116,250,101,130,246]:=by rw[node,sum_comp];kernel_rfl
theorem node21 :node (one32 2) (one32 1)=[163,238,182,60,160,144,36,128,135,158,91,56,22,34,208,51,241,179,121,34,168,240,72,97,209,239,117,185,222,141,188,26]:=by rw[node,sum_comp];kernel_rfl
def MSane.pre :Prop:=True
def MSane.fn :Bool:=true
def MSane.VC :Prop:=MSane.pre→MRoot.pre [((List.replicate 32 (0:Int)).set 0 (1:Int))]∧(let v11:Bool:=(Ty.beq (.arr 32 (.int .u8)) (MRoot.fn [((List.replicate 32 (0:Int)).set 0 (1:Int))]) ((List.replicate 32 (0:Int)).set 0 (1:Int)))
 (v11=true→v11=true)∧(v11=true→v11=true)∧(v11=true→v11=true)∧(let v16h:(List (List Int)):=[((List.replicate 32 (0:Int)).set 0 (1:Int)),((List.replicate 32 (0:Int)).set 0 (2:Int)),((List.replicate 32 (0:Int)).set 0 (3:Int))]
 (v11=true→v11=true)∧(v11=true→MRoot.pre v16h)∧(v11=true→v11=true)∧(v11=true→v11=true)∧(v11=true→MNode.pre ((List.replicate 32 (0:Int)).set 0 (1:Int)) ((List.replicate 32 (0:Int)).set 0 (2:Int)))∧(v11=true→v11=true)∧(v11=true→v11=true)∧(v11=true→MNode.pre (MNode.fn ((List.replicate 32 (0:Int)).set 0 (1:Int)) ((List.replicate 32 (0:Int)).set 0 (2:Int))) ((List.replicate 32 (0:Int)).set 0 (3:Int)))∧(v11=true→v11=true)∧(v11=true→v11=true)∧(v11=true→v11=true)∧(let v24:Bool:=(bif v11 then(Ty.beq (.arr 32 (.int .u8)) (MRoot.fn v16h) (MNode.fn (MNode.fn ((List.replicate 32 (0:Int)).set 0 (1:Int)) ((List.replicate 32 (0:Int)).set 0 (2:Int))) ((List.replicate 32 (0:Int)).set 0 (3:Int)))) else false)
 (v24=true→v24=true)∧(v24=true→v24=true)∧(v24=true→MNode.pre ((List.replicate 32 (0:Int)).set 0 (1:Int)) ((List.replicate 32 (0:Int)).set 0 (2:Int)))∧(v24=true→v24=true)∧(v24=true→v24=true)∧(v24=true→MNode.pre ((List.replicate 32 (0:Int)).set 0 (2:Int)) ((List.replicate 32 (0:Int)).set 0 (1:Int)))∧(v24=true→v24=true)∧(v24=true→v24=true)∧(v24=true→v24=true)∧(let v33:Bool:=(bif v24 then(!(Ty.beq (.arr 32 (.int .u8)) (MNode.fn ((List.replicate 32 (0:Int)).set 0 (1:Int)) ((List.replicate 32 (0:Int)).set 0 (2:Int))) (MNode.fn ((List.replicate 32 (0:Int)).set 0 (2:Int)) ((List.replicate 32 (0:Int)).set 0 (1:Int))))) else false)
 (Ret1 v33 MSane.fn)))))
theorem MSane.vc :MSane.VC:=by
 intro _
 have o1:HashOk (one32 1):=one32_ok (by omega)
 have o2:HashOk (one32 2):=one32_ok (by omega)
 have o3:HashOk (one32 3):=one32_ok (by omega)
 have e1:MRoot.fn [one32 1]=one32 1:=by
  show rootOf _=_
  rw[rootOf,if_neg (by simp),root_small (by simp)];rfl
 have e2:MRoot.fn [one32 1,one32 2,one32 3]=node (node (one32 1) (one32 2)) (one32 3):=by
  show rootOf _=_
  rw[rootOf,if_neg (by simp),root_big (by simp)]
  simp only[mlevel]
  rw[root_big (by simp)]
  simp only[mlevel]
  rw[root_small (by simp)];rfl
 have b1:Ty.beq (.arr 32 (.int .u8)) (MRoot.fn [one32 1]) (one32 1)=true:=by rw[e1];exact beq_self _ _
 have b2:Ty.beq (.arr 32 (.int .u8)) (MRoot.fn [one32 1,one32 2,one32 3]) (MNode.fn (MNode.fn (one32 1) (one32 2)) (one32 3))=true:=by rw[e2];exact beq_self _ _
 have b3:Ty.beq (.arr 32 (.int .u8)) (MNode.fn (one32 1) (one32 2)) (MNode.fn (one32 2) (one32 1))=false:=by
  show Ty.beq (.arr 32 (.int .u8)) (node (one32 1) (one32 2)) (node (one32 2) (one32 1))=false
  rw[node12,node21];rfl
 simp only[one32] at b1 b2 b3 o1 o2 o3
 simp only[b1,b2,b3,forall_const,true_and,cond_true]
 refine⟨⟨HashesOk.one o1,by simp⟩,⟨?_,by simp⟩,⟨o1,o2⟩,⟨node_ok _ _,o3⟩,⟨o1,o2⟩,⟨o2,o1⟩,rfl⟩
 intro x hx
 simp only[List.mem_cons,List.not_mem_nil,or_false] at hx
 rcases hx with rfl|rfl|rfl
 ·exact o1
 ·exact o2
 ·exact o3
theorem rngHash {h:H32}(hr:Rng (.arr 32 (.int .u8)) h):HashOk h:=⟨hr.1,fun x hx=>by
 have:=hr.2 x hx
 simpa[Rng,IntKind.min,IntKind.max,IntKind.signed,IntKind.bits] using this⟩
theorem rngHashes {l:List H32}(hr:Rng (.slc (.arr 32 (.int .u8))) l):HashesOk l:=fun h hh=>rngHash (hr.2 h hh)
def MerkleRoots.pre (l:List H32)(a b:H32):Prop:=HashesOk l∧HashOk a∧HashOk b
def MerkleRoots.fn (l:List H32)(a b:H32):Bool:=true
def MerkleFollows.pre (p:PathT)(leaf:H32):Prop:=HashesOk p.2.2.1∧HashOk leaf
def MerkleFollows.fn (p:PathT)(leaf:H32):Bool:=true
def MPairs.pre (p:PathT)(h:H32):Prop:=PathOk p.1 p.2.1∧HashesOk p.2.2.1∧(p.2.2.1.length:Int)=others p.1 p.2.1∧HashOk h
noncomputable def MPairs.fn (p:PathT)(h:H32):List (List H32):=ways p.1 p.2.1 h p.2.2.1
def MPairs.inv4 (p:PathT)(h v3:H32)(v5:List (List H32))(v6 v7 v8:Int):Prop:=PathOk v8 v6∧HashOk v3∧0≤v7∧v7+others v8 v6=p.2.2.1.length∧v5++ways v8 v6 v3 (p.2.2.1.drop v7.toNat)=ways p.1 p.2.1 h p.2.2.1∧(v5.length:Int)≤2000-v8
def MPairs.mes4 (p:PathT)(h v3:H32)(v5:List (List H32))(v6 v7 v8:Int):Nat:=v8.toNat
theorem ways_odd {c i:Int}{d:H32}{hs:List H32}(h:c>1)(h2:i%2=1):ways c i d hs=[hs.getD 0 zeroH,d]::ways ((c+1)/2) (i/2) (node (hs.getD 0 zeroH) d) (hs.drop 1):=by rw[ways,dif_neg (by omega),if_pos h2]
theorem ways_even {c i:Int}{d:H32}{hs:List H32}(h:c>1)(h2:¬i%2=1)(h3:i+1<c):ways c i d hs=[d,hs.getD 0 zeroH]::ways ((c+1)/2) (i/2) (node d (hs.getD 0 zeroH)) (hs.drop 1):=by rw[ways,dif_neg (by omega),if_neg h2,if_pos h3]
theorem ways_none {c i:Int}{d:H32}{hs:List H32}(h:c>1)(h2:¬i%2=1)(h3:¬i+1<c):ways c i d hs=ways ((c+1)/2) (i/2) d hs:=by rw[ways,dif_neg (by omega),if_neg h2,if_neg h3]
def Clash (s t:List H32):Prop:=s≠t∧node (s.getD 0 zeroH) (s.getD 1 zeroH)=node (t.getD 0 zeroH) (t.getD 1 zeroH)
theorem binds :∀(n:Nat) (c i:Int) (a b:H32) (l m:List H32),c.toNat≤n→climb c i a l=climb c i b m→a≠b→∃k,k<(ways c i a l).length∧Clash ((ways c i a l).getD k (List.replicate 2 (List.replicate 32 0))) ((ways c i b m).getD k (List.replicate 2 (List.replicate 32 0))):=by
 intro n
 induction n with
 |zero=>intro c i a b l m h e hab;rw[climb_end (by omega),climb_end (by omega)] at e;exact absurd e hab
 |succ n ih=>
  intro c i a b l m h e hab
  by_cases hc:c≤1
  ·rw[climb_end hc,climb_end hc] at e;exact absurd e hab
  ·by_cases h2:i%2=1
   ·rw[climb_odd (by omega) h2,climb_odd (by omega) h2] at e
    rw[ways_odd (by omega) h2,ways_odd (by omega) h2]
    by_cases hn:node (l.getD 0 zeroH) a=node (m.getD 0 zeroH) b
    ·exact⟨0,by simp,fun h=>hab (by injection h with _ h;injection h),hn⟩
    ·obtain⟨k,k1,k2⟩:=ih _ _ _ _ _ _ (by omega) e hn
     exact⟨k+1,by simpa using k1,by simpa using k2⟩
   ·by_cases h3:i+1<c
    ·rw[climb_even (by omega) h2 h3,climb_even (by omega) h2 h3] at e
     rw[ways_even (by omega) h2 h3,ways_even (by omega) h2 h3]
     by_cases hn:node a (l.getD 0 zeroH)=node b (m.getD 0 zeroH)
     ·exact⟨0,by simp,fun h=>hab (by injection h),hn⟩
     ·obtain⟨k,k1,k2⟩:=ih _ _ _ _ _ _ (by omega) e hn
      exact⟨k+1,by simpa using k1,by simpa using k2⟩
    ·rw[climb_none (by omega) h2 h3,climb_none (by omega) h2 h3] at e
     rw[ways_none (by omega) h2 h3,ways_none (by omega) h2 h3]
     exact ih _ _ _ _ _ _ (by omega) e hab
def MerkleBinds.pre (c i:Int)(l m:List H32)(a b:H32):Prop:=HashesOk l∧HashesOk m∧HashOk a∧HashOk b
def MerkleBinds.fn (c i:Int)(l m:List H32)(a b:H32):Bool:=true
def pw (l:List (List H32))(k:Nat):List H32:=l.getD k (List.replicate 2 (List.replicate 32 0))
def MerkleBinds.inv12 (c i:Int)(l m:List H32)(a b:H32)(v:Int):Prop:=0≤v∧v≤(ways c i a l).length∧∀k:Nat,(k:Int)<v→¬Clash (pw (ways c i a l) k) (pw (ways c i b m) k)
noncomputable def MerkleBinds.mes12 (c i:Int)(l m:List H32)(a b:H32)(v:Int):Nat:=((ways c i a l).length-v).toNat
def hashAt (x:List Int)(i:Nat):H32:=(((List.replicate 32 (0:Int)).set 0 (x.getD i 0)).set 1 (IntKind.u8.wrap (Int.tmod (i:Int) 3))).set 2 7
def MHashes.pre (x:List Int):Prop:=x.length≤100000000∧Bytes x
def MHashes.fn (x:List Int):List H32:=(List.range x.length).map (hashAt x)
def MHashes.inv3 (x:List Int)(v3:List H32)(v8:Int):Prop:=0≤v8∧v8≤x.length∧v3=(List.range v8.toNat).map (hashAt x)
def MHashes.mes3 (x:List Int)(v3:List H32)(v8:Int):Nat:=(x.length-v8).toNat
def MerkleGrows.pre (x:List Int)(h:H32):Prop:=x.length≤100000000∧Bytes x∧HashOk h
def MerkleGrows.fn (x:List Int)(h:H32):Bool:=true
def MerkleGrows.inv5 (x:List Int)(h:H32)(v:Int):Prop:=∃k:Nat,k≤5∧v=2^k
def MerkleGrows.mes5 (x:List Int)(h:H32)(v:Int):Nat:=(64-v).toNat
end Lc
