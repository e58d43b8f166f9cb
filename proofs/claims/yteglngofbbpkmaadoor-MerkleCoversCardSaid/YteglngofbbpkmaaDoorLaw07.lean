/- Chapter 07: pairs, made leaves, and the laws' conditions. -/
import Derived.Test.YteglngofbbpkmaaDoorMerkle
import Derived.Test.YteglngofbbpkmaaDoorEngV
import Derived.KernelRfl
set_option linter.unusedVariables false
set_option maxRecDepth 100000
namespace Lc
open Go

def one32 (k : Int) : H32 := (List.replicate 32 (0 : Int)).set 0 k
theorem one32_ok {k : Int} (h : 0 ≤ k ∧ k ≤ 255) : HashOk (one32 k) := ⟨by simp [one32], (Bytes.zeros 32).set 0 h⟩
theorem node12 : node (one32 1) (one32 2) = [127, 80, 117, 78, 227, 143, 160, 51, 23, 237, 95, 254, 79, 42, 217, 20, 128, 133, 79, 170, 249, 85, 136, 108, 215, 128, 243, 116, 250, 101, 130, 246] := by rw [node, sum_comp]; kernel_rfl
theorem node21 : node (one32 2) (one32 1) = [163, 238, 182, 60, 160, 144, 36, 128, 135, 158, 91, 56, 22, 34, 208, 51, 241, 179, 121, 34, 168, 240, 72, 97, 209, 239, 117, 185, 222, 141, 188, 26] := by rw [node, sum_comp]; kernel_rfl

def MSane.pre : Prop := True
def MSane.fn : Bool := true
def MSane.VC : Prop := MSane.pre →
 MRoot.pre [((List.replicate 32 (0 : Int)).set 0 (1 : Int))] ∧
 (let v11 : Bool := (Ty.beq (.arr 32 (.int .u8)) (MRoot.fn [((List.replicate 32 (0 : Int)).set 0 (1 : Int))]) ((List.replicate 32 (0 : Int)).set 0 (1 : Int)))
 (v11 = true → v11 = true) ∧
 (v11 = true → v11 = true) ∧
 (v11 = true → v11 = true) ∧
 (let v16h : (List (List Int)) := [((List.replicate 32 (0 : Int)).set 0 (1 : Int)), ((List.replicate 32 (0 : Int)).set 0 (2 : Int)), ((List.replicate 32 (0 : Int)).set 0 (3 : Int))]
 (v11 = true → v11 = true) ∧
 (v11 = true → MRoot.pre v16h) ∧
 (v11 = true → v11 = true) ∧
 (v11 = true → v11 = true) ∧
 (v11 = true → MNode.pre ((List.replicate 32 (0 : Int)).set 0 (1 : Int)) ((List.replicate 32 (0 : Int)).set 0 (2 : Int))) ∧
 (v11 = true → v11 = true) ∧
 (v11 = true → v11 = true) ∧
 (v11 = true → MNode.pre (MNode.fn ((List.replicate 32 (0 : Int)).set 0 (1 : Int)) ((List.replicate 32 (0 : Int)).set 0 (2 : Int))) ((List.replicate 32 (0 : Int)).set 0 (3 : Int))) ∧
 (v11 = true → v11 = true) ∧
 (v11 = true → v11 = true) ∧
 (v11 = true → v11 = true) ∧
 (let v24 : Bool := (bif v11 then (Ty.beq (.arr 32 (.int .u8)) (MRoot.fn v16h) (MNode.fn (MNode.fn ((List.replicate 32 (0 : Int)).set 0 (1 : Int)) ((List.replicate 32 (0 : Int)).set 0 (2 : Int))) ((List.replicate 32 (0 : Int)).set 0 (3 : Int)))) else false)
 (v24 = true → v24 = true) ∧
 (v24 = true → v24 = true) ∧
 (v24 = true → MNode.pre ((List.replicate 32 (0 : Int)).set 0 (1 : Int)) ((List.replicate 32 (0 : Int)).set 0 (2 : Int))) ∧
 (v24 = true → v24 = true) ∧
 (v24 = true → v24 = true) ∧
 (v24 = true → MNode.pre ((List.replicate 32 (0 : Int)).set 0 (2 : Int)) ((List.replicate 32 (0 : Int)).set 0 (1 : Int))) ∧
 (v24 = true → v24 = true) ∧
 (v24 = true → v24 = true) ∧
 (v24 = true → v24 = true) ∧
 (let v33 : Bool := (bif v24 then (!(Ty.beq (.arr 32 (.int .u8)) (MNode.fn ((List.replicate 32 (0 : Int)).set 0 (1 : Int)) ((List.replicate 32 (0 : Int)).set 0 (2 : Int))) (MNode.fn ((List.replicate 32 (0 : Int)).set 0 (2 : Int)) ((List.replicate 32 (0 : Int)).set 0 (1 : Int))))) else false)
 (Ret1 v33 MSane.fn)))))
theorem MSane.vc : MSane.VC := by
  intro _
  have o1 : HashOk (one32 1) := one32_ok (by omega)
  have o2 : HashOk (one32 2) := one32_ok (by omega)
  have o3 : HashOk (one32 3) := one32_ok (by omega)
  have e1 : MRoot.fn [one32 1] = one32 1 := by
    show rootOf _ = _
    rw [rootOf, if_neg (by simp), root_small (by simp)]; rfl
  have e2 : MRoot.fn [one32 1, one32 2, one32 3] = node (node (one32 1) (one32 2)) (one32 3) := by
    show rootOf _ = _
    rw [rootOf, if_neg (by simp), root_big (by simp)]
    simp only [mlevel]
    rw [root_big (by simp)]
    simp only [mlevel]
    rw [root_small (by simp)]; rfl
  have b1 : Ty.beq (.arr 32 (.int .u8)) (MRoot.fn [one32 1]) (one32 1) = true := by rw [e1]; exact beq_self _ _
  have b2 : Ty.beq (.arr 32 (.int .u8)) (MRoot.fn [one32 1, one32 2, one32 3]) (MNode.fn (MNode.fn (one32 1) (one32 2)) (one32 3)) = true := by rw [e2]; exact beq_self _ _
  have b3 : Ty.beq (.arr 32 (.int .u8)) (MNode.fn (one32 1) (one32 2)) (MNode.fn (one32 2) (one32 1)) = false := by
    show Ty.beq (.arr 32 (.int .u8)) (node (one32 1) (one32 2)) (node (one32 2) (one32 1)) = false
    rw [node12, node21]; rfl
  simp only [one32] at b1 b2 b3 o1 o2 o3
  simp only [b1, b2, b3, forall_const, true_and, cond_true]
  refine ⟨⟨HashesOk.one o1, by simp⟩, ⟨?_, by simp⟩, ⟨o1, o2⟩, ⟨node_ok _ _, o3⟩, ⟨o1, o2⟩, ⟨o2, o1⟩, rfl⟩
  intro x hx
  simp only [List.mem_cons, List.not_mem_nil, or_false] at hx
  rcases hx with rfl | rfl | rfl
  · exact o1
  · exact o2
  · exact o3

theorem rngHash {h : H32} (hr : Rng (.arr 32 (.int .u8)) h) : HashOk h := ⟨hr.1, fun x hx => by
  have := hr.2 x hx
  simpa [Rng, IntKind.min, IntKind.max, IntKind.signed, IntKind.bits] using this⟩
theorem rngHashes {l : List H32} (hr : Rng (.slc (.arr 32 (.int .u8))) l) : HashesOk l := fun h hh => rngHash (hr.2 h hh)

def MerkleRoots.pre (l : List H32) (a b : H32) : Prop := HashesOk l ∧ HashOk a ∧ HashOk b
def MerkleRoots.fn (l : List H32) (a b : H32) : Bool := true
def MerkleRoots.VC : Prop := ∀ (x0 : (List (List Int))) (x1 : (List Int)) (x2 : (List Int)), MerkleRoots.pre x0 x1 x2 →
 MSane.pre ∧
 (((!(MSane.fn)) = true →
 (Ret1 false (MerkleRoots.fn x0 x1 x2))) ∧
 ((!(MSane.fn)) = false →
 Kept.pre x0 ∧
 ((!(Kept.fn x0)) = false → (!(Kept.fn x0)) = false) ∧
 ((!(Kept.fn x0)) = false → (!(Kept.fn x0)) = false) ∧
 ((!(Kept.fn x0)) = false → MNode.pre x1 x2) ∧
 ((!(Kept.fn x0)) = false → (!(Kept.fn x0)) = false) ∧
 ((!(Kept.fn x0)) = false → (!(Kept.fn x0)) = false) ∧
 ((!(Kept.fn x0)) = false → RNode.pre x1 x2) ∧
 ((!(Kept.fn x0)) = false → (!(Kept.fn x0)) = false) ∧
 ((!(Kept.fn x0)) = false → (!(Kept.fn x0)) = false) ∧
 ((!(Kept.fn x0)) = false → (!(Kept.fn x0)) = false) ∧
 (((!(Kept.fn x0)) = false ∧ (Ty.beq (.arr 32 (.int .u8)) (MNode.fn x1 x2) (RNode.fn x1 x2)) = true) → ((!(Kept.fn x0)) = false ∧ (Ty.beq (.arr 32 (.int .u8)) (MNode.fn x1 x2) (RNode.fn x1 x2)) = true)) ∧
 (((!(Kept.fn x0)) = false ∧ (Ty.beq (.arr 32 (.int .u8)) (MNode.fn x1 x2) (RNode.fn x1 x2)) = true) → MRoot.pre x0) ∧
 (((!(Kept.fn x0)) = false ∧ (Ty.beq (.arr 32 (.int .u8)) (MNode.fn x1 x2) (RNode.fn x1 x2)) = true) → ((!(Kept.fn x0)) = false ∧ (Ty.beq (.arr 32 (.int .u8)) (MNode.fn x1 x2) (RNode.fn x1 x2)) = true)) ∧
 (((!(Kept.fn x0)) = false ∧ (Ty.beq (.arr 32 (.int .u8)) (MNode.fn x1 x2) (RNode.fn x1 x2)) = true) → RRoot.pre x0) ∧
 (((!(Kept.fn x0)) = false ∧ (Ty.beq (.arr 32 (.int .u8)) (MNode.fn x1 x2) (RNode.fn x1 x2)) = true) → ((!(Kept.fn x0)) = false ∧ (Ty.beq (.arr 32 (.int .u8)) (MNode.fn x1 x2) (RNode.fn x1 x2)) = true)) ∧
 (((!(Kept.fn x0)) = false ∧ (Ty.beq (.arr 32 (.int .u8)) (MNode.fn x1 x2) (RNode.fn x1 x2)) = true) → ((!(Kept.fn x0)) = false ∧ (Ty.beq (.arr 32 (.int .u8)) (MNode.fn x1 x2) (RNode.fn x1 x2)) = true)) ∧
 ((!(Kept.fn x0)) = false → (!(Kept.fn x0)) = false) ∧
 ((!(Kept.fn x0)) = false → ((Ty.beq (.arr 32 (.int .u8)) (MNode.fn x1 x2) (RNode.fn x1 x2)) = true → ((!(Kept.fn x0)) = false ∧ (Ty.beq (.arr 32 (.int .u8)) (MNode.fn x1 x2) (RNode.fn x1 x2)) = true))) ∧
 ((!(Kept.fn x0)) = false → (!(Kept.fn x0)) = false) ∧
 (let v27 : Bool := (bif (!(Kept.fn x0)) then true else (bif (Ty.beq (.arr 32 (.int .u8)) (MNode.fn x1 x2) (RNode.fn x1 x2)) then (Ty.beq (.arr 32 (.int .u8)) (MRoot.fn x0) (RRoot.fn x0)) else false))
 (Ret1 v27 (MerkleRoots.fn x0 x1 x2)))))
theorem MerkleRoots.vc : MerkleRoots.VC := by
  intro l a b ⟨hl, ha, hb⟩
  have e1 : Ty.beq (.arr 32 (.int .u8)) (MNode.fn a b) (RNode.fn a b) = true := beq_self _ _
  have e2 : Ty.beq (.arr 32 (.int .u8)) (MRoot.fn l) (RRoot.fn l) = true := beq_self _ _
  refine ⟨trivial, fun h0 => by simp [MSane.fn] at h0, fun _ => ?_⟩
  simp only [e1, e2, and_true, cond_true]
  have ok : (!Kept.fn l) = false → HashesOk l ∧ l.length ≤ 1000000000 := fun h => ⟨hl, by
    have : Kept.fn l = true := by simpa using h
    have := of_decide_eq_true this
    omega⟩
  refine ⟨trivial, id, id, fun _ => ⟨ha, hb⟩, id, id, fun _ => ⟨ha, hb⟩, id, id, id, id, ok, id, ok, id, id, id, fun h _ => h, id, ?_⟩
  cases (!Kept.fn l) <;> rfl

def MerkleFollows.pre (p : PathT) (leaf : H32) : Prop := HashesOk p.2.2.1 ∧ HashOk leaf
def MerkleFollows.fn (p : PathT) (leaf : H32) : Bool := true
def MerkleFollows.VC : Prop := ∀ (x0 : (Int × (Int × ((List (List Int)) × Unit)))) (x1 : (List Int)), MerkleFollows.pre x0 x1 →
 MSane.pre ∧
 (((!(MSane.fn)) = true →
 (Ret1 false (MerkleFollows.fn x0 x1))) ∧
 ((!(MSane.fn)) = false →
 Kept.pre x0.2.2.1 ∧
 (((!(Kept.fn x0.2.2.1)) = true →
 (Ret1 true (MerkleFollows.fn x0 x1))) ∧
 ((!(Kept.fn x0.2.2.1)) = false →
 MFollow.pre x0 x1 ∧
 RFollow.pre x0 x1 ∧
 (let v29 : Bool := (Ty.beq (.arr 32 (.int .u8)) (MFollow.fn x0 x1).1 (RFollow.fn x0 x1).1)
 (v29 = true → v29 = true) ∧
 (v29 = true → v29 = true) ∧
 (v29 = true → v29 = true) ∧
 (let v34 : Bool := (bif v29 then ((MFollow.fn x0 x1).2 == (RFollow.fn x0 x1).2) else false)
 (Ret1 v34 (MerkleFollows.fn x0 x1))))))))
theorem MerkleFollows.vc : MerkleFollows.VC := by
  intro p leaf ⟨h1, h2⟩
  refine ⟨trivial, fun h0 => by simp [MSane.fn] at h0, fun _ => ⟨trivial, fun _ => rfl, fun hk => ?_⟩⟩
  have hk : Kept.fn p.2.2.1 = true := by simpa using hk
  have hk := of_decide_eq_true hk
  have ok : FollowOk p leaf := ⟨h1, by omega, h2⟩
  have e1 : Ty.beq (.arr 32 (.int .u8)) (MFollow.fn p leaf).1 (RFollow.fn p leaf).1 = true := beq_self _ _
  have e2 : ((MFollow.fn p leaf).2 == (RFollow.fn p leaf).2) = true := beq_self_eq_true _
  simp only [e1, e2, forall_const, true_and, cond_true]
  exact ⟨ok, ok, rfl⟩

/-! ## Pairs -/
def MPairs.pre (p : PathT) (h : H32) : Prop := PathOk p.1 p.2.1 ∧ HashesOk p.2.2.1 ∧ (p.2.2.1.length : Int) = others p.1 p.2.1 ∧ HashOk h
noncomputable def MPairs.fn (p : PathT) (h : H32) : List (List H32) := ways p.1 p.2.1 h p.2.2.1
def MPairs.inv4 (p : PathT) (h v3 : H32) (v5 : List (List H32)) (v6 v7 v8 : Int) : Prop := PathOk v8 v6 ∧ HashOk v3 ∧ 0 ≤ v7 ∧ v7 + others v8 v6 = p.2.2.1.length ∧ v5 ++ ways v8 v6 v3 (p.2.2.1.drop v7.toNat) = ways p.1 p.2.1 h p.2.2.1 ∧ (v5.length : Int) ≤ 2000 - v8
def MPairs.mes4 (p : PathT) (h v3 : H32) (v5 : List (List H32)) (v6 v7 v8 : Int) : Nat := v8.toNat
def MPairs.VC : Prop := ∀ (x0 : (Int × (Int × ((List (List Int)) × Unit)))) (x1 : (List Int)), MPairs.pre x0 x1 →
 (MPairs.inv4 x0 x1 x1 [] x0.2.1 (0 : Int) x0.1 ∧
 ∀ (v3 : (List Int)) (v5 : (List (List (List Int)))) (v6 : Int) (v7 : Int) (v8 : Int), MPairs.inv4 x0 x1 v3 v5 v6 v7 v8 →
 (((decide (v8 > (1 : Int))) = true →
 ((decide ((ixor .i64 v6 (1 : Int)) < v8)) = true → (decide ((ixor .i64 v6 (1 : Int)) < v8)) = true) ∧
 ((decide ((ixor .i64 v6 (1 : Int)) < v8)) = true → (decide ((ixor .i64 v6 (1 : Int)) < v8)) = true) ∧
 ((decide ((ixor .i64 v6 (1 : Int)) < v8)) = true → (decide ((ixor .i64 v6 (1 : Int)) < v8)) = true) ∧
 ((decide ((ixor .i64 v6 (1 : Int)) < v8)) = true → (decide ((ixor .i64 v6 (1 : Int)) < v8)) = true) ∧
 ((decide ((ixor .i64 v6 (1 : Int)) < v8)) = true → (decide ((ixor .i64 v6 (1 : Int)) < v8)) = true) ∧
 (let v31 : Bool := (bif (decide ((ixor .i64 v6 (1 : Int)) < v8)) then (decide (v7 < (x0.2.2.1.length : Int))) else false)
 ((v31 = true →
 (0 ≤ v7 ∧ v7 < (x0.2.2.1.length : Int)) ∧
 (let v38 : (List (List Int)) := [v3, (x0.2.2.1.getD (Int.toNat v7) (List.replicate 32 (0 : Int)))]
 (((decide ((ixor .i64 v6 (1 : Int)) < v6)) = true →
 (0 ≤ v7 ∧ v7 < (x0.2.2.1.length : Int)) ∧
 (let v48 : (List (List Int)) := [(x0.2.2.1.getD (Int.toNat v7) (List.replicate 32 (0 : Int))), v3]
 Room (v5.length + [v48].length) 64 ∧
 (0 ≤ (0 : Int) ∧ (0 : Int) < 2) ∧
 (let v54 : (List Int) := (v48.getD (Int.toNat (0 : Int)) (List.replicate 32 (0 : Int)))
 (0 ≤ (1 : Int) ∧ (1 : Int) < 2) ∧
 (let v56 : (List Int) := (v48.getD (Int.toNat (1 : Int)) (List.replicate 32 (0 : Int)))
 MNode.pre v54 v56 ∧
 (2 : Int) ≠ 0 ∧
 (2 : Int) ≠ 0 ∧
 (let v19 : Int := (IntKind.i64.wrap (Int.tdiv (IntKind.i64.wrap (v8 + (1 : Int))) (2 : Int)))
 (MPairs.inv4 x0 x1 (MNode.fn v54 v56) (v5 ++ [v48]) (IntKind.i64.wrap (Int.tdiv v6 (2 : Int))) (IntKind.i64.wrap (v7 + (1 : Int))) v19 ∧ MPairs.mes4 x0 x1 (MNode.fn v54 v56) (v5 ++ [v48]) (IntKind.i64.wrap (Int.tdiv v6 (2 : Int))) (IntKind.i64.wrap (v7 + (1 : Int))) v19 < MPairs.mes4 x0 x1 v3 v5 v6 v7 v8)))))) ∧
 ((decide ((ixor .i64 v6 (1 : Int)) < v6)) = false →
 Room (v5.length + [v38].length) 64 ∧
 (0 ≤ (0 : Int) ∧ (0 : Int) < 2) ∧
 (let v54_1 : (List Int) := (v38.getD (Int.toNat (0 : Int)) (List.replicate 32 (0 : Int)))
 (0 ≤ (1 : Int) ∧ (1 : Int) < 2) ∧
 (let v56_1 : (List Int) := (v38.getD (Int.toNat (1 : Int)) (List.replicate 32 (0 : Int)))
 MNode.pre v54_1 v56_1 ∧
 (2 : Int) ≠ 0 ∧
 (2 : Int) ≠ 0 ∧
 (let v19_1 : Int := (IntKind.i64.wrap (Int.tdiv (IntKind.i64.wrap (v8 + (1 : Int))) (2 : Int)))
 (MPairs.inv4 x0 x1 (MNode.fn v54_1 v56_1) (v5 ++ [v38]) (IntKind.i64.wrap (Int.tdiv v6 (2 : Int))) (IntKind.i64.wrap (v7 + (1 : Int))) v19_1 ∧ MPairs.mes4 x0 x1 (MNode.fn v54_1 v56_1) (v5 ++ [v38]) (IntKind.i64.wrap (Int.tdiv v6 (2 : Int))) (IntKind.i64.wrap (v7 + (1 : Int))) v19_1 < MPairs.mes4 x0 x1 v3 v5 v6 v7 v8)))))))) ∧
 (v31 = false →
 (2 : Int) ≠ 0 ∧
 (2 : Int) ≠ 0 ∧
 (let v19_2 : Int := (IntKind.i64.wrap (Int.tdiv (IntKind.i64.wrap (v8 + (1 : Int))) (2 : Int)))
 (MPairs.inv4 x0 x1 v3 v5 (IntKind.i64.wrap (Int.tdiv v6 (2 : Int))) v7 v19_2 ∧ MPairs.mes4 x0 x1 v3 v5 (IntKind.i64.wrap (Int.tdiv v6 (2 : Int))) v7 v19_2 < MPairs.mes4 x0 x1 v3 v5 v6 v7 v8)))))) ∧
 ((decide (v8 > (1 : Int))) = false →
 (Ret1 v5 (MPairs.fn x0 x1)))))
theorem ways_odd {c i : Int} {d : H32} {hs : List H32} (h : c > 1) (h2 : i % 2 = 1) : ways c i d hs = [hs.getD 0 zeroH, d] :: ways ((c + 1) / 2) (i / 2) (node (hs.getD 0 zeroH) d) (hs.drop 1) := by rw [ways, dif_neg (by omega), if_pos h2]
theorem ways_even {c i : Int} {d : H32} {hs : List H32} (h : c > 1) (h2 : ¬ i % 2 = 1) (h3 : i + 1 < c) : ways c i d hs = [d, hs.getD 0 zeroH] :: ways ((c + 1) / 2) (i / 2) (node d (hs.getD 0 zeroH)) (hs.drop 1) := by rw [ways, dif_neg (by omega), if_neg h2, if_pos h3]
theorem ways_none {c i : Int} {d : H32} {hs : List H32} (h : c > 1) (h2 : ¬ i % 2 = 1) (h3 : ¬ i + 1 < c) : ways c i d hs = ways ((c + 1) / 2) (i / 2) d hs := by rw [ways, dif_neg (by omega), if_neg h2, if_neg h3]
theorem ways_end {c i : Int} {d : H32} {hs : List H32} (h : c ≤ 1) : ways c i d hs = [] := by rw [ways, dif_pos h]
theorem MPairs.vc : MPairs.VC := by
  intro p h ⟨hp, hh, hn, hok⟩
  refine ⟨⟨hp, hok, by omega, by omega, by simp, by have := hp.2.1; simp; omega⟩, ?_⟩
  rintro v3 v5 v6 v7 v8 ⟨⟨g1, g2, g3, g4⟩, k2, k3, k4, k5, k6⟩
  rw [sib_lt ⟨g1, g2, g3, g4⟩, sib_self ⟨g1, g2, g3, g4⟩, half1 ⟨g1, g2⟩, half2 ⟨g3, by omega⟩]
  have hob0 := others_bound _ v8 v6 (Nat.le_refl _)
  have hob1 := others_bound _ p.1 p.2.1 (Nat.le_refl _)
  have hp2 := hp.2.1
  rw [i64w (n := v7 + 1) (by omega) (by omega)]
  refine ⟨fun hc => ?_, fun hc => ?_⟩
  · have hc : v8 > 1 := of_decide_eq_true hc
    have hup := PathOk.up ⟨g1, g2, g3, g4⟩ hc
    have hob := (others_bound _ ((v8 + 1) / 2) (v6 / 2) (Nat.le_refl _)).1
    rw [others_big (by omega)] at k4
    refine ⟨id, id, id, id, id, fun hd => ?_, fun hd => ?_⟩
    · have hd' : (v6 % 2 = 1 ∨ v6 + 1 < v8) ∧ v7 < (p.2.2.1.length : Int) := by
        cases h1 : decide (v6 % 2 = 1 ∨ v6 + 1 < v8) <;> rw [h1] at hd
        · cases hd
        · exact ⟨of_decide_eq_true h1, of_decide_eq_true hd⟩
      obtain ⟨hd1, hd2⟩ := hd'
      rw [if_pos hd1] at k4
      refine ⟨by omega, fun he => ?_, fun he => ?_⟩
      · have he := of_decide_eq_true he
        refine ⟨by omega, room_of (by simp only [List.length_singleton]; omega) (by omega), by omega, by omega, ⟨hh.getD _, k2⟩, by omega, by omega, ⟨hup, node_ok _ _, by omega, by omega, ?_, ?_⟩, by simp only [MPairs.mes4]; omega⟩
        · rw [← k5, ways_odd hc he, drop_get _ k3, drop_next _ k3]; simp only [List.append_assoc, List.cons_append, List.nil_append]; rfl
        · rw [List.length_append, List.length_singleton]; omega
      · have he := of_decide_eq_false he
        refine ⟨room_of (by simp only [List.length_singleton]; omega) (by omega), by omega, by omega, ⟨k2, hh.getD _⟩, by omega, by omega, ⟨hup, node_ok _ _, by omega, by omega, ?_, ?_⟩, by simp only [MPairs.mes4]; omega⟩
        · rw [← k5, ways_even hc he (by omega), drop_get _ k3, drop_next _ k3]; simp only [List.append_assoc, List.cons_append, List.nil_append]; rfl
        · rw [List.length_append, List.length_singleton]; omega
    · have hd' : ¬ (v6 % 2 = 1 ∨ v6 + 1 < v8) := by
        intro h1
        rw [decide_eq_true h1, cond_true] at hd
        rw [if_pos h1] at k4
        have := of_decide_eq_false hd
        omega
      rw [if_neg hd'] at k4
      refine ⟨by omega, by omega, ⟨hup, k2, by omega, by omega, ?_, by omega⟩, by simp only [MPairs.mes4]; omega⟩
      rw [← k5, ways_none hc (fun h => hd' (.inl h)) (fun h => hd' (.inr h))]
  · have hc : ¬ (v8 > 1) := of_decide_eq_false hc
    refine ret1.2 ?_
    show _ = ways p.1 p.2.1 h p.2.2.1
    rw [← k5, ways_end (by omega), List.append_nil]

def Clash (s t : List H32) : Prop := s ≠ t ∧ node (s.getD 0 zeroH) (s.getD 1 zeroH) = node (t.getD 0 zeroH) (t.getD 1 zeroH)
theorem ways_len : ∀ (n : Nat) (c i : Int) (a b : H32) (l m : List H32), c.toNat ≤ n → (ways c i a l).length = (ways c i b m).length := by
  intro n
  induction n with
  | zero => intro c i a b l m h; rw [ways_end (by omega), ways_end (by omega)]
  | succ n ih =>
    intro c i a b l m h
    by_cases hc : c ≤ 1
    · rw [ways_end hc, ways_end hc]
    · by_cases h2 : i % 2 = 1
      · rw [ways_odd (by omega) h2, ways_odd (by omega) h2, List.length_cons, List.length_cons, ih ((c + 1) / 2) _ _ _ _ _ (by omega)]
      · by_cases h3 : i + 1 < c
        · rw [ways_even (by omega) h2 h3, ways_even (by omega) h2 h3, List.length_cons, List.length_cons, ih ((c + 1) / 2) _ _ _ _ _ (by omega)]
        · rw [ways_none (by omega) h2 h3, ways_none (by omega) h2 h3]; exact ih ((c + 1) / 2) _ _ _ _ _ (by omega)
theorem binds : ∀ (n : Nat) (c i : Int) (a b : H32) (l m : List H32), c.toNat ≤ n → climb c i a l = climb c i b m → a ≠ b → ∃ k, k < (ways c i a l).length ∧ Clash ((ways c i a l).getD k (List.replicate 2 (List.replicate 32 0))) ((ways c i b m).getD k (List.replicate 2 (List.replicate 32 0))) := by
  intro n
  induction n with
  | zero => intro c i a b l m h e hab; rw [climb_end (by omega), climb_end (by omega)] at e; exact absurd e hab
  | succ n ih =>
    intro c i a b l m h e hab
    by_cases hc : c ≤ 1
    · rw [climb_end hc, climb_end hc] at e; exact absurd e hab
    · by_cases h2 : i % 2 = 1
      · rw [climb_odd (by omega) h2, climb_odd (by omega) h2] at e
        rw [ways_odd (by omega) h2, ways_odd (by omega) h2]
        by_cases hn : node (l.getD 0 zeroH) a = node (m.getD 0 zeroH) b
        · exact ⟨0, by simp, fun h => hab (by injection h with _ h; injection h), hn⟩
        · obtain ⟨k, k1, k2⟩ := ih _ _ _ _ _ _ (by omega) e hn
          exact ⟨k + 1, by simpa using k1, by simpa using k2⟩
      · by_cases h3 : i + 1 < c
        · rw [climb_even (by omega) h2 h3, climb_even (by omega) h2 h3] at e
          rw [ways_even (by omega) h2 h3, ways_even (by omega) h2 h3]
          by_cases hn : node a (l.getD 0 zeroH) = node b (m.getD 0 zeroH)
          · exact ⟨0, by simp, fun h => hab (by injection h), hn⟩
          · obtain ⟨k, k1, k2⟩ := ih _ _ _ _ _ _ (by omega) e hn
            exact ⟨k + 1, by simpa using k1, by simpa using k2⟩
        · rw [climb_none (by omega) h2 h3, climb_none (by omega) h2 h3] at e
          rw [ways_none (by omega) h2 h3, ways_none (by omega) h2 h3]
          exact ih _ _ _ _ _ _ (by omega) e hab
theorem ways_hash : ∀ (n : Nat) (c i : Int) (a : H32) (l : List H32), c.toNat ≤ n → HashOk a → HashesOk l → ∀ x, x ∈ ways c i a l → HashOk (x.getD 0 zeroH) ∧ HashOk (x.getD 1 zeroH) := by
  intro n
  induction n with
  | zero => intro c i a l h _ _ x hx; rw [ways_end (by omega)] at hx; cases hx
  | succ n ih =>
    intro c i a l h ha hl x hx
    by_cases hc : c ≤ 1
    · rw [ways_end hc] at hx; cases hx
    · by_cases h2 : i % 2 = 1
      · rw [ways_odd (by omega) h2] at hx
        rcases List.mem_cons.1 hx with rfl | hx
        · exact ⟨hl.getD 0, ha⟩
        · exact ih _ _ _ _ (by omega) (node_ok _ _) (hl.drop 1) x hx
      · by_cases h3 : i + 1 < c
        · rw [ways_even (by omega) h2 h3] at hx
          rcases List.mem_cons.1 hx with rfl | hx
          · exact ⟨ha, hl.getD 0⟩
          · exact ih _ _ _ _ (by omega) (node_ok _ _) (hl.drop 1) x hx
        · rw [ways_none (by omega) h2 h3] at hx
          exact ih _ _ _ _ (by omega) ha hl x hx
theorem ways_small (n : Nat) : ∀ (c i : Int) (a : H32) (l : List H32), c.toNat ≤ n → (ways c i a l).length ≤ n := by
  induction n with
  | zero => intro c i a l h; rw [ways_end (by omega)]; simp
  | succ n ih =>
    intro c i a l h
    by_cases hc : c ≤ 1
    · rw [ways_end hc]; simp
    · by_cases h2 : i % 2 = 1
      · rw [ways_odd (by omega) h2, List.length_cons]; have := ih ((c + 1) / 2) (i / 2) (node (l.getD 0 zeroH) a) (l.drop 1) (by omega); omega
      · by_cases h3 : i + 1 < c
        · rw [ways_even (by omega) h2 h3, List.length_cons]; have := ih ((c + 1) / 2) (i / 2) (node a (l.getD 0 zeroH)) (l.drop 1) (by omega); omega
        · rw [ways_none (by omega) h2 h3]; have := ih ((c + 1) / 2) (i / 2) a l (by omega); omega

def MerkleBinds.pre (c i : Int) (l m : List H32) (a b : H32) : Prop := HashesOk l ∧ HashesOk m ∧ HashOk a ∧ HashOk b
def MerkleBinds.fn (c i : Int) (l m : List H32) (a b : H32) : Bool := true
def pw (l : List (List H32)) (k : Nat) : List H32 := l.getD k (List.replicate 2 (List.replicate 32 0))
def MerkleBinds.inv12 (c i : Int) (l m : List H32) (a b : H32) (v : Int) : Prop := 0 ≤ v ∧ v ≤ (ways c i a l).length ∧ ∀ k : Nat, (k : Int) < v → ¬ Clash (pw (ways c i a l) k) (pw (ways c i b m) k)
noncomputable def MerkleBinds.mes12 (c i : Int) (l m : List H32) (a b : H32) (v : Int) : Nat := ((ways c i a l).length - v).toNat
def MerkleBinds.VC : Prop := ∀ (x0 : Int) (x1 : Int) (x2 : (List (List Int))) (x3 : (List (List Int))) (x4 : (List Int)) (x5 : (List Int)), MerkleBinds.pre x0 x1 x2 x3 x4 x5 →
 MSane.pre ∧
 (((!(MSane.fn)) = true →
 (Ret1 false (MerkleBinds.fn x0 x1 x2 x3 x4 x5))) ∧
 ((!(MSane.fn)) = false →
 Kept.pre x2 ∧
 ((!(Kept.fn x2)) = false → (!(Kept.fn x2)) = false) ∧
 ((!(Kept.fn x2)) = false → Kept.pre x3) ∧
 ((!(Kept.fn x2)) = false → (!(Kept.fn x2)) = false) ∧
 ((!(Kept.fn x2)) = false → (!(Kept.fn x2)) = false) ∧
 (((bif (!(Kept.fn x2)) then true else (!(Kept.fn x3))) = true →
 (Ret1 true (MerkleBinds.fn x0 x1 x2 x3 x4 x5))) ∧
 ((bif (!(Kept.fn x2)) then true else (!(Kept.fn x3))) = false →
 MFollow.pre (x0, (x1, (x2, ()))) x4 ∧
 MFollow.pre (x0, (x1, (x3, ()))) x5 ∧
 (((MFollow.fn (x0, (x1, (x2, ()))) x4).2 != (0 : Int)) = false → ((MFollow.fn (x0, (x1, (x2, ()))) x4).2 != (0 : Int)) = false) ∧
 (((MFollow.fn (x0, (x1, (x2, ()))) x4).2 != (0 : Int)) = false → ((MFollow.fn (x0, (x1, (x2, ()))) x4).2 != (0 : Int)) = false) ∧
 (let v57 : Bool := (bif ((MFollow.fn (x0, (x1, (x2, ()))) x4).2 != (0 : Int)) then true else ((MFollow.fn (x0, (x1, (x3, ()))) x5).2 != (0 : Int)))
 (v57 = false → v57 = false) ∧
 (v57 = false → v57 = false) ∧
 (v57 = false → v57 = false) ∧
 (let v62 : Bool := (bif v57 then true else (!(Ty.beq (.arr 32 (.int .u8)) (MFollow.fn (x0, (x1, (x2, ()))) x4).1 (MFollow.fn (x0, (x1, (x3, ()))) x5).1)))
 (v62 = false → v62 = false) ∧
 (v62 = false → v62 = false) ∧
 (v62 = false → v62 = false) ∧
 (((bif v62 then true else (Ty.beq (.arr 32 (.int .u8)) x4 x5)) = true →
 (Ret1 true (MerkleBinds.fn x0 x1 x2 x3 x4 x5))) ∧
 ((bif v62 then true else (Ty.beq (.arr 32 (.int .u8)) x4 x5)) = false →
 MPairs.pre (x0, (x1, (x2, ()))) x4 ∧
 MPairs.pre (x0, (x1, (x3, ()))) x5 ∧
 (MerkleBinds.inv12 x0 x1 x2 x3 x4 x5 (0 : Int) ∧
 ∀ (v76 : Int), MerkleBinds.inv12 x0 x1 x2 x3 x4 x5 v76 →
 (let v77 : Bool := (decide (v76 < ((MPairs.fn (x0, (x1, (x2, ()))) x4).length : Int)))
 ((v77 = true →
 (let v82 : Bool := (decide (v76 < ((MPairs.fn (x0, (x1, (x3, ()))) x5).length : Int)))
 (v82 = true → v82 = true) ∧
 (v82 = true → v82 = true) ∧
 (v82 = true → (0 ≤ v76 ∧ v76 < ((MPairs.fn (x0, (x1, (x2, ()))) x4).length : Int))) ∧
 (v82 = true → v82 = true) ∧
 (v82 = true → v82 = true) ∧
 (v82 = true → v82 = true) ∧
 (v82 = true → (0 ≤ v76 ∧ v76 < ((MPairs.fn (x0, (x1, (x3, ()))) x5).length : Int))) ∧
 (v82 = true → v82 = true) ∧
 (v82 = true → v82 = true) ∧
 (v82 = true → v82 = true) ∧
 (v82 = true → v82 = true) ∧
 (let v93 : Bool := (bif v82 then (!(Ty.beq (.arr 2 (.arr 32 (.int .u8))) ((MPairs.fn (x0, (x1, (x2, ()))) x4).getD (Int.toNat v76) (List.replicate 2 (List.replicate 32 (0 : Int)))) ((MPairs.fn (x0, (x1, (x3, ()))) x5).getD (Int.toNat v76) (List.replicate 2 (List.replicate 32 (0 : Int)))))) else false)
 (v93 = true → v93 = true) ∧
 (v93 = true → v93 = true) ∧
 (v93 = true → (0 ≤ v76 ∧ v76 < ((MPairs.fn (x0, (x1, (x2, ()))) x4).length : Int))) ∧
 (v93 = true → v93 = true) ∧
 (v93 = true → (0 ≤ (0 : Int) ∧ (0 : Int) < 2)) ∧
 (v93 = true → v93 = true) ∧
 (v93 = true → v93 = true) ∧
 (v93 = true → v93 = true) ∧
 (v93 = true → (0 ≤ v76 ∧ v76 < ((MPairs.fn (x0, (x1, (x2, ()))) x4).length : Int))) ∧
 (v93 = true → v93 = true) ∧
 (v93 = true → (0 ≤ (1 : Int) ∧ (1 : Int) < 2)) ∧
 (v93 = true → v93 = true) ∧
 (v93 = true → v93 = true) ∧
 (v93 = true → v93 = true) ∧
 (v93 = true → MNode.pre (((MPairs.fn (x0, (x1, (x2, ()))) x4).getD (Int.toNat v76) (List.replicate 2 (List.replicate 32 (0 : Int)))).getD (Int.toNat (0 : Int)) (List.replicate 32 (0 : Int))) (((MPairs.fn (x0, (x1, (x2, ()))) x4).getD (Int.toNat v76) (List.replicate 2 (List.replicate 32 (0 : Int)))).getD (Int.toNat (1 : Int)) (List.replicate 32 (0 : Int)))) ∧
 (v93 = true → v93 = true) ∧
 (v93 = true → v93 = true) ∧
 (v93 = true → (0 ≤ v76 ∧ v76 < ((MPairs.fn (x0, (x1, (x3, ()))) x5).length : Int))) ∧
 (v93 = true → v93 = true) ∧
 (v93 = true → (0 ≤ (0 : Int) ∧ (0 : Int) < 2)) ∧
 (v93 = true → v93 = true) ∧
 (v93 = true → v93 = true) ∧
 (v93 = true → v93 = true) ∧
 (v93 = true → (0 ≤ v76 ∧ v76 < ((MPairs.fn (x0, (x1, (x3, ()))) x5).length : Int))) ∧
 (v93 = true → v93 = true) ∧
 (v93 = true → (0 ≤ (1 : Int) ∧ (1 : Int) < 2)) ∧
 (v93 = true → v93 = true) ∧
 (v93 = true → v93 = true) ∧
 (v93 = true → v93 = true) ∧
 (v93 = true → MNode.pre (((MPairs.fn (x0, (x1, (x3, ()))) x5).getD (Int.toNat v76) (List.replicate 2 (List.replicate 32 (0 : Int)))).getD (Int.toNat (0 : Int)) (List.replicate 32 (0 : Int))) (((MPairs.fn (x0, (x1, (x3, ()))) x5).getD (Int.toNat v76) (List.replicate 2 (List.replicate 32 (0 : Int)))).getD (Int.toNat (1 : Int)) (List.replicate 32 (0 : Int)))) ∧
 (v93 = true → v93 = true) ∧
 (v93 = true → v93 = true) ∧
 (v93 = true → v93 = true) ∧
 (let v118 : Bool := (bif v93 then (Ty.beq (.arr 32 (.int .u8)) (MNode.fn (((MPairs.fn (x0, (x1, (x2, ()))) x4).getD (Int.toNat v76) (List.replicate 2 (List.replicate 32 (0 : Int)))).getD (Int.toNat (0 : Int)) (List.replicate 32 (0 : Int))) (((MPairs.fn (x0, (x1, (x2, ()))) x4).getD (Int.toNat v76) (List.replicate 2 (List.replicate 32 (0 : Int)))).getD (Int.toNat (1 : Int)) (List.replicate 32 (0 : Int)))) (MNode.fn (((MPairs.fn (x0, (x1, (x3, ()))) x5).getD (Int.toNat v76) (List.replicate 2 (List.replicate 32 (0 : Int)))).getD (Int.toNat (0 : Int)) (List.replicate 32 (0 : Int))) (((MPairs.fn (x0, (x1, (x3, ()))) x5).getD (Int.toNat v76) (List.replicate 2 (List.replicate 32 (0 : Int)))).getD (Int.toNat (1 : Int)) (List.replicate 32 (0 : Int))))) else false)
 ((v118 = true →
 (Ret1 true (MerkleBinds.fn x0 x1 x2 x3 x4 x5))) ∧
 (v118 = false →
 (MerkleBinds.inv12 x0 x1 x2 x3 x4 x5 (IntKind.i64.wrap (v76 + (1 : Int))) ∧ MerkleBinds.mes12 x0 x1 x2 x3 x4 x5 (IntKind.i64.wrap (v76 + (1 : Int))) < MerkleBinds.mes12 x0 x1 x2 x3 x4 x5 v76))))))) ∧
 (v77 = false →
 (Ret1 false (MerkleBinds.fn x0 x1 x2 x3 x4 x5))))))))))))))
theorem follow_fst {p : PathT} {leaf : H32} (h : (follow p leaf).2 = 0) : PathOk p.1 p.2.1 ∧ (p.2.2.1.length : Int) = others p.1 p.2.1 ∧ (follow p leaf).1 = climb p.1 p.2.1 leaf p.2.2.1 := by
  cases hb : badPath p
  · by_cases h2 : (p.2.2.1.length : Int) = others p.1 p.2.1
    · rw [follow_ok hb h2]; exact ⟨badPath_ok hb, h2, rfl⟩
    · rw [follow_arity hb h2] at h; simp at h
  · rw [follow_bad hb] at h; simp at h
theorem MerkleBinds.vc : MerkleBinds.VC := by
  intro c i l m a b ⟨hl, hm, ha, hb⟩
  refine ⟨trivial, fun h0 => by simp [MSane.fn] at h0, fun _ => ⟨trivial, id, fun _ => trivial, id, id, fun _ => rfl, fun hk => ?_⟩⟩
  have hkk : l.length ≤ 40 ∧ m.length ≤ 40 := by
    cases h1 : Kept.fn l <;> cases h2 : Kept.fn m <;> simp [h1, h2] at hk
    have := of_decide_eq_true h1
    have := of_decide_eq_true h2
    omega
  refine ⟨⟨hl, by simp only; omega, ha⟩, ⟨hm, by simp only; omega, hb⟩, id, id, ?_⟩
  simp only [MFollow.fn]
  refine ⟨id, id, id, id, id, id, fun _ => rfl, fun hc => ?_⟩
  have hcc : (follow (c, i, l, ()) a).2 = 0 ∧ (follow (c, i, m, ()) b).2 = 0 ∧ (follow (c, i, l, ()) a).1 = (follow (c, i, m, ()) b).1 ∧ a ≠ b := by
    cases h1 : ((follow (c, i, l, ()) a).2 != 0) <;> cases h2 : ((follow (c, i, m, ()) b).2 != 0) <;> cases h3 : Ty.beq (.arr 32 (.int .u8)) (follow (c, i, l, ()) a).1 (follow (c, i, m, ()) b).1 <;> cases h4 : Ty.beq (.arr 32 (.int .u8)) a b <;> simp [h1, h2, h3, h4] at hc
    refine ⟨by simpa using h1, by simpa using h2, (beq_iff (.arr 32 (.int .u8)) _ _).1 h3, fun h => ?_⟩
    rw [(beq_iff (.arr 32 (.int .u8)) _ _).2 h] at h4; cases h4
  obtain ⟨e1, e2, e3, hab⟩ := hcc
  obtain ⟨p1, p2, p3⟩ := follow_fst e1
  obtain ⟨_, q2, q3⟩ := follow_fst e2
  simp only at p1 p2 p3 q2 q3
  have hwl := ways_len _ c i a b l m (Nat.le_refl _)
  have hws := ways_small _ c i a l (Nat.le_refl _)
  have hp12 := p1.2.1
  refine ⟨⟨p1, hl, p2, ha⟩, ⟨p1, hm, q2, hb⟩, ⟨by omega, by omega, fun k hk => by omega⟩, ?_⟩
  have hA : (MPairs.fn (c, i, l, ()) a).length = (ways c i a l).length := rfl
  have hB : (MPairs.fn (c, i, m, ()) b).length = (ways c i b m).length := rfl
  rintro v ⟨k1, k2, k3⟩
  refine ⟨fun hd => ?_, fun hd => ?_⟩
  · have hd : v < ((ways c i a l).length : Int) := of_decide_eq_true hd
    have g1 := ways_hash _ c i a l (Nat.le_refl _) ha hl (pw (ways c i a l) v.toNat) (by
      unfold pw; rw [List.getD_eq_getElem?_getD, List.getElem?_eq_getElem (by omega), Option.getD_some]; exact List.getElem_mem _)
    have g2 := ways_hash _ c i b m (Nat.le_refl _) hb hm (pw (ways c i b m) v.toNat) (by
      unfold pw; rw [List.getD_eq_getElem?_getD, List.getElem?_eq_getElem (by omega), Option.getD_some]; exact List.getElem_mem _)
    have hdt : decide (v < ((MPairs.fn (c, i, m, ()) b).length : Int)) = true := decide_eq_true (by omega)
    rw [i64w (n := v + 1) (by omega) (by omega)]
    simp only [hdt, forall_const, true_and, cond_true, imp_self]
    refine ⟨by omega, by omega, fun _ => by omega, fun _ => by omega, fun _ => by omega, fun _ => by omega, fun _ => ⟨g1.1, g1.2⟩, fun _ => by omega, fun _ => by omega, fun _ => by omega, fun _ => by omega, fun _ => ⟨g2.1, g2.2⟩, fun _ => rfl, fun he => ⟨⟨by omega, by omega, fun k hk => ?_⟩, by simp only [MerkleBinds.mes12]; omega⟩⟩
    by_cases hkv : (k : Int) < v
    · exact k3 k hkv
    · have : k = v.toNat := by omega
      subst this
      rintro ⟨c1, c2⟩
      have x1 : Ty.beq (.arr 2 (.arr 32 (.int .u8))) (pw (ways c i a l) v.toNat) (pw (ways c i b m) v.toNat) = false := by
        cases hq : Ty.beq (.arr 2 (.arr 32 (.int .u8))) (pw (ways c i a l) v.toNat) (pw (ways c i b m) v.toNat)
        · rfl
        · exact absurd ((beq_iff (.arr 2 (.arr 32 (.int .u8))) _ _).1 hq) c1
      have x2 : Ty.beq (.arr 32 (.int .u8)) (node ((pw (ways c i a l) v.toNat).getD 0 zeroH) ((pw (ways c i a l) v.toNat).getD 1 zeroH)) (node ((pw (ways c i b m) v.toNat).getD 0 zeroH) ((pw (ways c i b m) v.toNat).getD 1 zeroH)) = true := (beq_iff (.arr 32 (.int .u8)) _ _).2 c2
      have y : (bif !(Ty.beq (.arr 2 (.arr 32 (.int .u8))) (pw (ways c i a l) v.toNat) (pw (ways c i b m) v.toNat)) then Ty.beq (.arr 32 (.int .u8)) (node ((pw (ways c i a l) v.toNat).getD 0 zeroH) ((pw (ways c i a l) v.toNat).getD 1 zeroH)) (node ((pw (ways c i b m) v.toNat).getD 0 zeroH) ((pw (ways c i b m) v.toNat).getD 1 zeroH)) else false) = false := he
      rw [x1, x2] at y
      cases y
  · have hd : ¬ (v < ((ways c i a l).length : Int)) := of_decide_eq_false hd
    exfalso
    obtain ⟨k, kk1, kk2⟩ := binds _ c i a b l m (Nat.le_refl _) (by rw [← p3, ← q3]; exact e3) hab
    exact k3 k (by omega) kk2

/-! ## Growing -/
def hashAt (x : List Int) (i : Nat) : H32 := (((List.replicate 32 (0 : Int)).set 0 (x.getD i 0)).set 1 (IntKind.u8.wrap (Int.tmod (i : Int) 3))).set 2 7
def MHashes.pre (x : List Int) : Prop := x.length ≤ 100000000 ∧ Bytes x
def MHashes.fn (x : List Int) : List H32 := (List.range x.length).map (hashAt x)
def MHashes.inv3 (x : List Int) (v3 : List H32) (v8 : Int) : Prop := 0 ≤ v8 ∧ v8 ≤ x.length ∧ v3 = (List.range v8.toNat).map (hashAt x)
def MHashes.mes3 (x : List Int) (v3 : List H32) (v8 : Int) : Nat := (x.length - v8).toNat
def MHashes.VC : Prop := ∀ (x0 : (List Int)), MHashes.pre x0 →
 (MHashes.inv3 x0 [] (0 : Int) ∧
 ∀ (v3 : (List (List Int))) (v8 : Int), MHashes.inv3 x0 v3 v8 →
 (((decide (v8 < (x0.length : Int))) = true →
 (0 ≤ v8 ∧ v8 < (x0.length : Int)) ∧
 (3 : Int) ≠ 0 ∧
 (let v18 : (List Int) := ((((List.replicate 32 (0 : Int)).set 0 (x0.getD (Int.toNat v8) (0 : Int))).set 1 (IntKind.u8.wrap (Int.tmod v8 (3 : Int)))).set 2 (7 : Int))
 Room (v3.length + [v18].length) 32 ∧
 (MHashes.inv3 x0 (v3 ++ [v18]) (IntKind.i64.wrap (v8 + (1 : Int))) ∧ MHashes.mes3 x0 (v3 ++ [v18]) (IntKind.i64.wrap (v8 + (1 : Int))) < MHashes.mes3 x0 v3 v8))) ∧
 ((decide (v8 < (x0.length : Int))) = false →
 (Ret1 v3 (MHashes.fn x0)))))
theorem MHashes.vc : MHashes.VC := by
  intro x ⟨h1, h2⟩
  refine ⟨⟨by omega, by omega, by simp⟩, ?_⟩
  rintro v3 v8 ⟨k1, k2, rfl⟩
  refine ⟨fun hc => ?_, fun hc => ?_⟩
  · have hc : v8 < x.length := of_decide_eq_true hc
    rw [i64w (by omega) (by omega)]
    refine ⟨by omega, by omega, room_of (by simp; omega) (by omega), ⟨by omega, by omega, ?_⟩, by simp only [MHashes.mes3]; omega⟩
    rw [show (v8 + 1).toNat = v8.toNat + 1 by omega, List.range_succ, List.map_append]
    simp only [List.map_cons, List.map_nil, hashAt, Int.toNat_of_nonneg k1]
  · have hc : ¬ (v8 < x.length) := of_decide_eq_false hc
    rw [show v8.toNat = x.length by omega]
    rfl
theorem hashes_ok {x : List Int} (h : Bytes x) : HashesOk (MHashes.fn x) := by
  intro y hy
  simp only [MHashes.fn, List.mem_map] at hy
  obtain ⟨i, _, rfl⟩ := hy
  exact ⟨by simp [hashAt], (((Bytes.zeros 32).set 0 (h.getD i)).set 1 (u8r _)).set 2 (by omega)⟩
theorem grows : ∀ (k : Nat) (A : List H32) (x : H32), A.length = 2 ^ k → root (A ++ [x]) = node (root A) x := by
  intro k
  induction k with
  | zero =>
    intro A x h
    obtain ⟨a, rfl⟩ := List.length_eq_one_iff.1 h
    rw [root_big (by simp), root_small (l := [a]) (by simp)]
    simp only [List.cons_append, List.nil_append, mlevel]
    rw [root_small (by simp)]; rfl
  | succ k ih =>
    intro A x h
    have h2 : A.length = 2 * 2 ^ k := by rw [h, Nat.pow_succ]; omega
    have hpos : 0 < 2 ^ k := Nat.two_pow_pos k
    rw [root_big (by rw [List.length_append, List.length_singleton]; omega), mlevel_append _ _ (by omega)]
    have e : mlevel [x] = [x] := by simp [mlevel]
    rw [e, ih (mlevel A) x (by rw [mlevel_len]; omega), root_big (l := A) (by omega)]

def MerkleGrows.pre (x : List Int) (h : H32) : Prop := x.length ≤ 100000000 ∧ Bytes x ∧ HashOk h
def MerkleGrows.fn (x : List Int) (h : H32) : Bool := true
def MerkleGrows.inv5 (x : List Int) (h : H32) (v : Int) : Prop := ∃ k : Nat, k ≤ 5 ∧ v = 2 ^ k
def MerkleGrows.mes5 (x : List Int) (h : H32) (v : Int) : Nat := (64 - v).toNat
def MerkleGrows.VC : Prop := ∀ (x0 : (List Int)) (x1 : (List Int)), MerkleGrows.pre x0 x1 →
 MSane.pre ∧
 (((!(MSane.fn)) = true →
 (Ret1 false (MerkleGrows.fn x0 x1))) ∧
 ((!(MSane.fn)) = false →
 MHashes.pre x0 ∧
 (MerkleGrows.inv5 x0 x1 (1 : Int) ∧
 ∀ (v6 : Int), MerkleGrows.inv5 x0 x1 v6 →
 ((decide (v6 ≤ (16 : Int))) = true → (decide (v6 ≤ (16 : Int))) = true) ∧
 ((decide (v6 ≤ (16 : Int))) = true → (decide (v6 ≤ (16 : Int))) = true) ∧
 ((decide (v6 ≤ (16 : Int))) = true → (decide (v6 ≤ (16 : Int))) = true) ∧
 ((decide (v6 ≤ (16 : Int))) = true → (decide (v6 ≤ (16 : Int))) = true) ∧
 (let v18 : Bool := (bif (decide (v6 ≤ (16 : Int))) then (decide (v6 ≤ ((MHashes.fn x0).length : Int))) else false)
 ((v18 = true →
 (0 ≤ (0 : Int) ∧ (0 : Int) ≤ v6 ∧ v6 ≤ ((MHashes.fn x0).length : Int)) ∧
 (let v23 : (List (List Int)) := (((MHashes.fn x0).drop (Int.toNat (0 : Int))).take ((Int.toNat v6) - (Int.toNat (0 : Int))))
 Room v23.length 32 ∧
 Room (v23.length + [x1].length) 32 ∧
 MRoot.pre (v23 ++ [x1]) ∧
 (0 ≤ (0 : Int) ∧ (0 : Int) ≤ v6 ∧ v6 ≤ ((MHashes.fn x0).length : Int)) ∧
 (let v31 : (List (List Int)) := (((MHashes.fn x0).drop (Int.toNat (0 : Int))).take ((Int.toNat v6) - (Int.toNat (0 : Int))))
 MRoot.pre v31 ∧
 MNode.pre (MRoot.fn v31) x1 ∧
 (let v35 : Bool := (!(Ty.beq (.arr 32 (.int .u8)) (MRoot.fn (v23 ++ [x1])) (MNode.fn (MRoot.fn v31) x1)))
 ((v35 = true →
 (Ret1 false (MerkleGrows.fn x0 x1))) ∧
 (v35 = false →
 (MerkleGrows.inv5 x0 x1 (IntKind.i64.wrap (v6 * (2 : Int))) ∧ MerkleGrows.mes5 x0 x1 (IntKind.i64.wrap (v6 * (2 : Int))) < MerkleGrows.mes5 x0 x1 v6))))))) ∧
 (v18 = false →
 MRoot.pre [] ∧
 (let v38 : Bool := (Ty.beq (.arr 32 (.int .u8)) (MRoot.fn []) (List.replicate 32 (0 : Int)))
 (Ret1 v38 (MerkleGrows.fn x0 x1)))))))))
theorem MerkleGrows.vc : MerkleGrows.VC := by
  intro x h ⟨h1, h2, h3⟩
  refine ⟨trivial, fun h0 => by simp [MSane.fn] at h0, fun _ => ⟨⟨h1, h2⟩, ⟨0, by omega, rfl⟩, ?_⟩⟩
  rintro v ⟨k, k1, rfl⟩
  have hok := hashes_ok h2
  refine ⟨id, id, id, id, fun hc => ?_, fun hc => ?_⟩
  · have hcc : (2 : Int) ^ k ≤ 16 ∧ (2 : Int) ^ k ≤ ((MHashes.fn x).length : Int) := by
      cases h4 : decide ((2 : Int) ^ k ≤ 16) <;> rw [h4] at hc
      · cases hc
      · exact ⟨of_decide_eq_true h4, of_decide_eq_true hc⟩
    obtain ⟨c1, c2⟩ := hcc
    have hk : k ≤ 4 := by
      rcases Nat.lt_or_ge k 5 with h5 | h5
      · omega
      · have : k = 5 := by omega
        subst this; simp at c1
    have hpos : (0 : Int) < 2 ^ k := by exact_mod_cast Nat.two_pow_pos k
    have hnat : ((2 : Int) ^ k).toNat = 2 ^ k := by
      have : (2 : Int) ^ k = ((2 ^ k : Nat) : Int) := by simp
      rw [this, Int.toNat_natCast]
    have hle : 2 ^ k ≤ 16 := by
      have : ((2 ^ k : Nat) : Int) ≤ 16 := by simpa using c1
      omega
    have et : ((MHashes.fn x).drop (Int.toNat 0)).take (((2 : Int) ^ k).toNat - Int.toNat 0) = (MHashes.fn x).take (2 ^ k) := by rw [hnat]; rfl
    rw [et, i64w (n := 2 ^ k * 2) (by omega) (by omega)]
    have hl : ((MHashes.fn x).take (2 ^ k)).length = 2 ^ k := by rw [List.length_take]; have : ((2 ^ k : Nat) : Int) ≤ ((MHashes.fn x).length : Int) := by simpa using c2
                                                                 omega
    have e : MRoot.fn ((MHashes.fn x).take (2 ^ k) ++ [h]) = MNode.fn (MRoot.fn ((MHashes.fn x).take (2 ^ k))) h := by
      show rootOf _ = node (rootOf _) h
      have hpn := Nat.two_pow_pos k
      rw [rootOf, if_neg (by rw [List.length_append, List.length_singleton, hl]; omega), rootOf, if_neg (by rw [hl]; omega)]
      exact grows k _ h hl
    dsimp only
    rw [e, beq_self]
    refine ⟨by omega, room_of (by rw [hl]; omega) (by omega), room_of (by rw [hl, List.length_singleton]; omega) (by omega), ⟨(hok.take _).append (HashesOk.one h3), by rw [List.length_append, List.length_singleton, hl]; omega⟩, by omega, ⟨hok.take _, by rw [hl]; omega⟩, ⟨rootOf_ok (hok.take _), h3⟩, (fun he => by cases he), fun _ => ⟨⟨k + 1, by omega, by rw [Int.pow_succ]⟩, by simp only [MerkleGrows.mes5]; omega⟩⟩
  · have e : MRoot.fn [] = List.replicate 32 0 := by
      show rootOf [] = _
      rw [rootOf, if_pos (.inl rfl)]; rfl
    refine ⟨⟨fun y hy => (by cases hy), by simp⟩, ?_⟩
    rw [e, beq_self]; rfl
end Lc
