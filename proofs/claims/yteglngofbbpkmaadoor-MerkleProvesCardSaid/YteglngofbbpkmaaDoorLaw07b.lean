/- Chapter 07: the paths of leaves, and the conditions of the laws about them. -/
import Derived.Test.YteglngofbbpkmaaDoorLaw07
set_option linter.unusedVariables false
set_option maxRecDepth 100000
namespace Lc
open Go

theorem rngU8 {x : Int} (h : Rng (.int .u8) x) : 0 ≤ x ∧ x ≤ 255 := by
  have h : IntKind.u8.min ≤ x ∧ x ≤ IntKind.u8.max := h
  simpa [IntKind.min, IntKind.max, IntKind.signed, IntKind.bits] using h

/-- The other kid. -/
def sibI (i : Int) : Int := if i % 2 = 0 then i + 1 else i - 1
noncomputable def sibs (l : List H32) (i : Int) : List H32 :=
  if h : l.length ≤ 1 then []
  else (if i % 2 = 1 ∨ i + 1 < (l.length : Int) then [l.getD (sibI i).toNat zeroH] else []) ++ sibs (mlevel l) (i / 2)
termination_by l.length
decreasing_by rw [mlevel_len]; omega
theorem sibs_small {l : List H32} {i : Int} (h : l.length ≤ 1) : sibs l i = [] := by rw [sibs, dif_pos h]
theorem sibs_big {l : List H32} {i : Int} (h : ¬ l.length ≤ 1) : sibs l i = (if i % 2 = 1 ∨ i + 1 < (l.length : Int) then [l.getD (sibI i).toNat zeroH] else []) ++ sibs (mlevel l) (i / 2) := by rw [sibs, dif_neg h]

noncomputable def path (l : List H32) (i : Int) : PathT × Int :=
  if (l.length : Int) > 1024 then ((0, 0, [], ()), 4) else if i < 0 ∨ i ≥ l.length then ((0, 0, [], ()), 5) else (((l.length : Int), i, sibs l i, ()), 0)

def PathPre (l : List H32) (i : Int) : Prop := HashesOk l ∧ l.length ≤ 1000000000
/-- What holds while the levels are gone through: at level v, with the number w there. -/
def PathInv (l : List H32) (i w : Int) (p : PathT) (v : Int) : Prop :=
  0 ≤ v ∧ p.1 = l.length ∧ p.2.1 = i ∧ ∃ m : List H32, (levels l).drop v.toNat = levels m ∧ HashesOk m ∧ 0 ≤ w ∧ w < (m.length : Int) ∧ m.length ≤ 1024 ∧ p.2.2.1 ++ sibs m w = sibs l i ∧ p.2.2.1.length + m.length ≤ 1024
theorem levels_len (n : Nat) : ∀ (l : List H32), l.length ≤ n → 1 ≤ (levels l).length ∧ (levels l).length ≤ n + 1 := by
  induction n with
  | zero => intro l h; rw [levels_small (by omega)]; simp
  | succ n ih =>
    intro l h
    by_cases h1 : l.length ≤ 1
    · rw [levels_small h1]; simp
    · rw [levels_big h1, List.length_cons]
      have := ih (mlevel l) (by rw [mlevel_len]; omega)
      omega
theorem PathInv.start {l : List H32} {i : Int} (h : HashesOk l) (h1 : l.length ≤ 1024) (h2 : 0 ≤ i) (h3 : i < l.length) : PathInv l i i ((l.length : Int), i, [], ()) 0 :=
  ⟨by omega, rfl, rfl, l, by simp, h, h2, h3, h1, by simp, by simp; omega⟩
theorem drop_head {α : Type} {L : List α} {v : Nat} {a : α} {r : List α} (h : L.drop v = a :: r) (d : α) : L.getD v d = a ∧ L.drop (v + 1) = r ∧ v < L.length := by
  have h1 : L[v]? = some a := by
    have := List.getElem?_drop (xs := L) (i := v) (j := 0)
    rw [h] at this; simpa using this.symm
  refine ⟨by simp [List.getD_eq_getElem?_getD, h1], ?_, (List.getElem?_eq_some_iff.1 h1).1⟩
  rw [← List.drop_drop, h]; rfl
/-- The level at hand is not the last one: its length, and what comes next. -/
theorem PathInv.more {l : List H32} {i w v : Int} {p : PathT} (k : PathInv l i w p v) (h : v < ((levels l).length : Int)) :
    ∃ m : List H32, (levels l).getD v.toNat [] = m ∧ HashesOk m ∧ 0 ≤ w ∧ w < (m.length : Int) ∧ m.length ≤ 1024 ∧ p.2.2.1.length + m.length ≤ 1024 ∧ p.2.2.1 ++ sibs m w = sibs l i ∧
      (1 < m.length → v + 1 < ((levels l).length : Int) ∧ (levels l).drop (v + 1).toNat = levels (mlevel m)) ∧ (¬ 1 < m.length → v + 1 = ((levels l).length : Int)) := by
  obtain ⟨k0, k1, k2, m, q1, q2, q3, q4, q5, q6, q7⟩ := k
  by_cases hm : m.length ≤ 1
  · rw [levels_small hm] at q1
    obtain ⟨g1, g2, g3⟩ := drop_head q1 []
    refine ⟨m, g1, q2, q3, q4, q5, q7, q6, fun h => by omega, fun _ => ?_⟩
    have := congrArg List.length g2
    rw [List.length_drop] at this
    simp at this
    omega
  · rw [levels_big hm] at q1
    obtain ⟨g1, g2, g3⟩ := drop_head q1 []
    refine ⟨m, g1, q2, q3, q4, q5, q7, q6, fun _ => ?_, fun h => by omega⟩
    rw [show (v + 1).toNat = v.toNat + 1 by omega]
    refine ⟨?_, g2⟩
    have h2 := (levels_len _ (mlevel m) (Nat.le_refl _)).1
    have h3 := congrArg List.length g2
    rw [List.length_drop] at h3
    omega
theorem PathInv.at {l : List H32} {i w v : Int} {p : PathT} (k : PathInv l i w p v) : 0 ≤ v ∧ p.1 = l.length ∧ p.2.1 = i := ⟨k.1, k.2.1, k.2.2.1⟩
theorem sib_in {m : List H32} {w : Int} (h0 : 0 ≤ w) (h1 : w < (m.length : Int)) (h2 : m.length ≤ 1024) :
    ixor .i64 w 1 = sibI w ∧ (sibI w < (m.length : Int) ↔ (w % 2 = 1 ∨ w + 1 < (m.length : Int))) ∧ 0 ≤ sibI w := by
  refine ⟨sib h0 (by omega), ?_, ?_⟩
  · unfold sibI; split <;> omega
  · unfold sibI; split <;> omega
theorem path_guard2 (l : List H32) (i : Int) : (bif decide (i < 0) then true else decide (i ≥ (l.length : Int))) = decide (i < 0 ∨ i ≥ (l.length : Int)) := by
  rw [Bool.eq_iff_iff, decide_eq_true_iff]
  cases h1 : decide (i < 0) <;> cases h2 : decide (i ≥ (l.length : Int)) <;> simp at h1 h2 ⊢ <;> omega
theorem path_ok {l : List H32} {i : Int} (h1 : ¬ (l.length : Int) > 1024) (h2 : ¬ (i < 0 ∨ i ≥ (l.length : Int))) : path l i = (((l.length : Int), i, sibs l i, ()), 0) := by rw [path, if_neg h1, if_neg h2]
theorem PathInv.step {l : List H32} {i w v : Int} {p : PathT} (k : PathInv l i w p v) {m : List H32} (hq : (levels l).getD v.toNat [] = m) (h : v < ((levels l).length : Int)) (h1 : 1 < m.length) :
    (sibI w < (m.length : Int) → PathInv l i (w / 2) (p.1, p.2.1, p.2.2.1 ++ [m.getD (sibI w).toNat (List.replicate 32 0)], p.2.2.2) (v + 1)) ∧
    (¬ sibI w < (m.length : Int) → PathInv l i (w / 2) p (v + 1)) := by
  obtain ⟨m', g1, g2, g3, g4, g5, g6, g7, g8, _⟩ := k.more h
  obtain ⟨k0, k1, k2, _⟩ := k
  rw [hq] at g1; subst g1
  obtain ⟨b1, b2⟩ := g8 h1
  obtain ⟨s1, s2, s3⟩ := sib_in g3 g4 g5
  have hl := mlevel_len m
  rw [sibs_big (by omega)] at g7
  refine ⟨fun hs => ⟨by omega, k1, k2, mlevel m, b2, mlevel_ok m g2, by omega, by omega, by omega, ?_, ?_⟩, fun hs => ⟨by omega, k1, k2, mlevel m, b2, mlevel_ok m g2, by omega, by omega, by omega, ?_, by omega⟩⟩
  · rw [if_pos (s2.1 hs)] at g7
    rw [← g7]; simp only [List.append_assoc]; rfl
  · simp only [List.length_append, List.length_singleton]; omega
  · rw [if_neg (fun h => hs (s2.2 h))] at g7
    rw [← g7]; rfl
theorem PathInv.fin {l : List H32} {i w v : Int} {p : PathT} (k : PathInv l i w p v) (h : v + 1 = ((levels l).length : Int)) : p.2.2.1 = sibs l i := by
  obtain ⟨m, g1, g2, g3, g4, g5, g6, g7, g8, g9⟩ := k.more (by omega)
  by_cases hm : 1 < m.length
  · have := (g8 hm).1; omega
  · rw [sibs_small (by omega), List.append_nil] at g7; exact g7
theorem PathInv.out {l : List H32} {i w v : Int} {p : PathT} (k : PathInv l i w p v) (h : p.2.2.1 = sibs l i) (h1 : ¬ (l.length : Int) > 1024) (h2 : ¬ (i < 0 ∨ i ≥ (l.length : Int))) : (p, (0 : Int)) = path l i := by
  obtain ⟨_, k1, k2, _⟩ := k
  rw [path_ok h1 h2, ← h]
  obtain ⟨a, b, c, d⟩ := p
  simp only at k1 k2 ⊢
  rw [k1, k2]

def MPath.pre (l : List H32) (i : Int) : Prop := PathPre l i
noncomputable def MPath.fn (l : List H32) (i : Int) : PathT × Int := path l i
def MPath.inv8 (l : List H32) (i w : Int) (v4 : PathT) (p : PathT) (v : Int) : Prop := PathInv l i w p v ∧ v < ((levels l).length : Int)
noncomputable def MPath.mes8 (l : List H32) (i w : Int) (v4 : PathT) (p : PathT) (v : Int) : Nat := ((levels l).length - v).toNat
def MPath.VC : Prop := ∀ (x0 : (List (List Int))) (x1 : Int), MPath.pre x0 x1 →
 (((decide ((x0.length : Int) > (1024 : Int))) = true →
 (Ret2 ((0 : Int), ((0 : Int), ([], ()))) (4 : Int) (MPath.fn x0 x1))) ∧
 ((decide ((x0.length : Int) > (1024 : Int))) = false →
 ((decide (x1 < (0 : Int))) = false → (decide (x1 < (0 : Int))) = false) ∧
 ((decide (x1 < (0 : Int))) = false → (decide (x1 < (0 : Int))) = false) ∧
 ((decide (x1 < (0 : Int))) = false → (decide (x1 < (0 : Int))) = false) ∧
 ((decide (x1 < (0 : Int))) = false → (decide (x1 < (0 : Int))) = false) ∧
 (let v22 : Bool := (bif (decide (x1 < (0 : Int))) then true else (decide (x1 ≥ (x0.length : Int))))
 ((v22 = true →
 (Ret2 ((0 : Int), ((0 : Int), ([], ()))) (5 : Int) (MPath.fn x0 x1))) ∧
 (v22 = false →
 MLevels.pre x0 ∧
 (let v33 : Int := (IntKind.i64.wrap (((MLevels.fn x0).length : Int) - (1 : Int)))
 (0 ≤ (0 : Int) ∧ (0 : Int) ≤ v33 ∧ v33 ≤ ((MLevels.fn x0).length : Int)) ∧
 (let v34 : (List (List (List Int))) := (((MLevels.fn x0).drop (Int.toNat (0 : Int))).take ((Int.toNat v33) - (Int.toNat (0 : Int))))
 (MPath.inv8 x0 x1 x1 ((0 : Int), ((0 : Int), ([], ()))) ((x0.length : Int), (x1, ([], ()))) (0 : Int) ∧
 ∀ (v1 : Int) (v4 : (Int × (Int × ((List (List Int)) × Unit)))) (v6 : (Int × (Int × ((List (List Int)) × Unit)))) (v36 : Int), MPath.inv8 x0 x1 v1 v4 v6 v36 →
 (((decide (v36 < (v34.length : Int))) = true →
 (0 ≤ v36 ∧ v36 < (v34.length : Int)) ∧
 (let v45 : Bool := (decide ((ixor .i64 v1 (1 : Int)) < ((v34.getD (Int.toNat v36) []).length : Int)))
 ((v45 = true →
 (0 ≤ (ixor .i64 v1 (1 : Int)) ∧ (ixor .i64 v1 (1 : Int)) < ((v34.getD (Int.toNat v36) []).length : Int)) ∧
 (let v51 : (List Int) := ((v34.getD (Int.toNat v36) []).getD (Int.toNat (ixor .i64 v1 (1 : Int))) (List.replicate 32 (0 : Int)))
 Room (v6.2.2.1.length + [v51].length) 32 ∧
 (2 : Int) ≠ 0 ∧
 (MPath.inv8 x0 x1 (IntKind.i64.wrap (Int.tdiv v1 (2 : Int))) v4 (v6.1, (v6.2.1, ((v6.2.2.1 ++ [v51]), v6.2.2.2))) (IntKind.i64.wrap (v36 + (1 : Int))) ∧ MPath.mes8 x0 x1 (IntKind.i64.wrap (Int.tdiv v1 (2 : Int))) v4 (v6.1, (v6.2.1, ((v6.2.2.1 ++ [v51]), v6.2.2.2))) (IntKind.i64.wrap (v36 + (1 : Int))) < MPath.mes8 x0 x1 v1 v4 v6 v36))) ∧
 (v45 = false →
 (2 : Int) ≠ 0 ∧
 (MPath.inv8 x0 x1 (IntKind.i64.wrap (Int.tdiv v1 (2 : Int))) v4 v6 (IntKind.i64.wrap (v36 + (1 : Int))) ∧ MPath.mes8 x0 x1 (IntKind.i64.wrap (Int.tdiv v1 (2 : Int))) v4 v6 (IntKind.i64.wrap (v36 + (1 : Int))) < MPath.mes8 x0 x1 v1 v4 v6 v36))))) ∧
 ((decide (v36 < (v34.length : Int))) = false →
 (Ret2 v6 (0 : Int) (MPath.fn x0 x1))))))))))))
theorem MPath.vc : MPath.VC := by
  intro l i ⟨hok, _⟩
  refine ⟨fun hc => ?_, fun hc => ?_⟩
  · have hc := of_decide_eq_true hc
    exact ret2.2 (by show _ = path l i; rw [path, if_pos hc])
  · have hc := of_decide_eq_false hc
    refine ⟨id, id, id, id, ?_⟩
    rw [path_guard2]
    refine ⟨fun hd => ?_, fun hd => ?_⟩
    · have hd := of_decide_eq_true hd
      exact ret2.2 (by show _ = path l i; rw [path, if_neg hc, if_pos hd])
    · have hd := of_decide_eq_false hd
      have hlen := levels_len _ l (Nat.le_refl _)
      have hM : MLevels.fn l = levels l := rfl
      rw [hM]
      rw [i64w (n := ((levels l).length : Int) - 1) (by omega) (by omega)]
      refine ⟨⟨hok, by omega⟩, by omega, ?_⟩
      have ht : ((levels l).drop (Int.toNat 0)).take ((((levels l).length : Int) - 1).toNat - Int.toNat 0) = (levels l).take ((levels l).length - 1) := by
        rw [show (Int.toNat 0) = 0 from rfl, List.drop_zero, show (((levels l).length : Int) - 1).toNat - 0 = (levels l).length - 1 by omega]
      rw [ht]
      dsimp only
      have hl1 : ((levels l).take ((levels l).length - 1)).length = (levels l).length - 1 := by rw [List.length_take]; omega
      rw [hl1]
      refine ⟨⟨PathInv.start hok (by omega) (by omega) (by omega), by omega⟩, ?_⟩
      rintro w v4 p v ⟨k, kb⟩
      refine ⟨fun he => ?_, fun he => ?_⟩
      · have he := of_decide_eq_true he
        have k00 := k.1
        have hg : ((levels l).take ((levels l).length - 1)).getD v.toNat [] = (levels l).getD v.toNat [] := by
          rw [List.getD_eq_getElem?_getD, List.getD_eq_getElem?_getD, List.getElem?_take, if_pos (by omega)]
        rw [hg]
        obtain ⟨m, g1, g2, g3, g4, g5, g6, g7, g8, g9⟩ := k.more kb
        have hm : 1 < m.length := Classical.byContradiction (fun h => by have := g9 h; omega)
        obtain ⟨t1, t2⟩ := k.step g1 kb hm
        obtain ⟨s1, s2, s3⟩ := sib_in g3 g4 g5
        have k0 := k.1
        rw [g1, s1, half2 ⟨g3, by omega⟩, i64w (n := v + 1) (by omega) (by omega)]
        refine ⟨by omega, fun hf => ?_, fun hf => ?_⟩
        · have hf := of_decide_eq_true hf
          exact ⟨⟨s3, hf⟩, room_of (by simp only [List.length_singleton]; omega) (by omega), by omega, ⟨t1 hf, by omega⟩, by simp only [MPath.mes8]; omega⟩
        · have hf := of_decide_eq_false hf
          exact ⟨by omega, ⟨t2 hf, by omega⟩, by simp only [MPath.mes8]; omega⟩
      · have he := of_decide_eq_false he
        exact ret2.2 (k.out (k.fin (by omega)) hc hd)

def RPath.pre (l : List H32) (i : Int) : Prop := PathPre l i
noncomputable def RPath.fn (l : List H32) (i : Int) : PathT × Int := path l i
def RPath.inv7 (l : List H32) (i w : Int) (v4 : PathT) (p : PathT) (v : Int) : Prop :=
  (PathInv l i w p v ∧ v < ((levels l).length : Int)) ∨ (p = (path l i).1 ∧ v = ((levels l).length : Int))
noncomputable def RPath.mes7 (l : List H32) (i w : Int) (v4 : PathT) (p : PathT) (v : Int) : Nat := ((levels l).length - v).toNat
def RPath.VC : Prop := ∀ (x0 : (List (List Int))) (x1 : Int), RPath.pre x0 x1 →
 (((decide ((x0.length : Int) > (1024 : Int))) = true →
 (Ret2 ((0 : Int), ((0 : Int), ([], ()))) (4 : Int) (RPath.fn x0 x1))) ∧
 ((decide ((x0.length : Int) > (1024 : Int))) = false →
 ((decide (x1 < (0 : Int))) = false → (decide (x1 < (0 : Int))) = false) ∧
 ((decide (x1 < (0 : Int))) = false → (decide (x1 < (0 : Int))) = false) ∧
 ((decide (x1 < (0 : Int))) = false → (decide (x1 < (0 : Int))) = false) ∧
 ((decide (x1 < (0 : Int))) = false → (decide (x1 < (0 : Int))) = false) ∧
 (let v21 : Bool := (bif (decide (x1 < (0 : Int))) then true else (decide (x1 ≥ (x0.length : Int))))
 ((v21 = true →
 (Ret2 ((0 : Int), ((0 : Int), ([], ()))) (5 : Int) (RPath.fn x0 x1))) ∧
 (v21 = false →
 RLevels.pre x0 ∧
 (RPath.inv7 x0 x1 x1 ((0 : Int), ((0 : Int), ([], ()))) ((x0.length : Int), (x1, ([], ()))) (0 : Int) ∧
 ∀ (v1 : Int) (v4 : (Int × (Int × ((List (List Int)) × Unit)))) (v6 : (Int × (Int × ((List (List Int)) × Unit)))) (v30 : Int), RPath.inv7 x0 x1 v1 v4 v6 v30 →
 (((decide (v30 < ((RLevels.fn x0).length : Int))) = true →
 (0 ≤ v30 ∧ v30 < ((RLevels.fn x0).length : Int)) ∧
 (let v38 : Bool := (decide ((((RLevels.fn x0).getD (Int.toNat v30) []).length : Int) > (1 : Int)))
 (v38 = true → v38 = true) ∧
 (v38 = true → v38 = true) ∧
 (v38 = true → v38 = true) ∧
 (v38 = true → v38 = true) ∧
 (let v44 : Bool := (bif v38 then (decide ((ixor .i64 v1 (1 : Int)) < (((RLevels.fn x0).getD (Int.toNat v30) []).length : Int))) else false)
 ((v44 = true →
 (0 ≤ (ixor .i64 v1 (1 : Int)) ∧ (ixor .i64 v1 (1 : Int)) < (((RLevels.fn x0).getD (Int.toNat v30) []).length : Int)) ∧
 (let v50 : (List Int) := (((RLevels.fn x0).getD (Int.toNat v30) []).getD (Int.toNat (ixor .i64 v1 (1 : Int))) (List.replicate 32 (0 : Int)))
 Room (v6.2.2.1.length + [v50].length) 32 ∧
 (2 : Int) ≠ 0 ∧
 (RPath.inv7 x0 x1 (IntKind.i64.wrap (Int.tdiv v1 (2 : Int))) v4 (v6.1, (v6.2.1, ((v6.2.2.1 ++ [v50]), v6.2.2.2))) (IntKind.i64.wrap (v30 + (1 : Int))) ∧ RPath.mes7 x0 x1 (IntKind.i64.wrap (Int.tdiv v1 (2 : Int))) v4 (v6.1, (v6.2.1, ((v6.2.2.1 ++ [v50]), v6.2.2.2))) (IntKind.i64.wrap (v30 + (1 : Int))) < RPath.mes7 x0 x1 v1 v4 v6 v30))) ∧
 (v44 = false →
 (2 : Int) ≠ 0 ∧
 (RPath.inv7 x0 x1 (IntKind.i64.wrap (Int.tdiv v1 (2 : Int))) v4 v6 (IntKind.i64.wrap (v30 + (1 : Int))) ∧ RPath.mes7 x0 x1 (IntKind.i64.wrap (Int.tdiv v1 (2 : Int))) v4 v6 (IntKind.i64.wrap (v30 + (1 : Int))) < RPath.mes7 x0 x1 v1 v4 v6 v30)))))) ∧
 ((decide (v30 < ((RLevels.fn x0).length : Int))) = false →
 (Ret2 v6 (0 : Int) (RPath.fn x0 x1))))))))))
theorem RPath.vc : RPath.VC := by
  intro l i ⟨hok, _⟩
  refine ⟨fun hc => ?_, fun hc => ?_⟩
  · have hc := of_decide_eq_true hc
    exact ret2.2 (by show _ = path l i; rw [path, if_pos hc])
  · have hc := of_decide_eq_false hc
    refine ⟨id, id, id, id, ?_⟩
    rw [path_guard2]
    refine ⟨fun hd => ?_, fun hd => ?_⟩
    · have hd := of_decide_eq_true hd
      exact ret2.2 (by show _ = path l i; rw [path, if_neg hc, if_pos hd])
    · have hd := of_decide_eq_false hd
      have hlen := levels_len _ l (Nat.le_refl _)
      have hM : RLevels.fn l = levels l := rfl
      rw [hM]
      refine ⟨⟨hok, by omega⟩, .inl ⟨PathInv.start hok (by omega) (by omega) (by omega), by omega⟩, ?_⟩
      rintro w v4 p v hk
      refine ⟨fun he => ?_, fun he => ?_⟩
      · have he := of_decide_eq_true he
        rcases hk with ⟨k, kb⟩ | ⟨_, kb⟩
        · obtain ⟨m, g1, g2, g3, g4, g5, g6, g7, g8, g9⟩ := k.more kb
          obtain ⟨s1, s2, s3⟩ := sib_in g3 g4 g5
          have k0 := k.1
          rw [g1, s1, half2 ⟨g3, by omega⟩, i64w (n := v + 1) (by omega) (by omega)]
          refine ⟨by omega, id, id, id, id, fun hf => ?_, fun hf => ?_⟩
          · have hm : 1 < m.length := by
              cases h1 : decide ((m.length : Int) > 1) <;> rw [h1] at hf
              · cases hf
              · have := of_decide_eq_true h1; omega
            rw [decide_eq_true (by omega : (m.length : Int) > 1), cond_true] at hf
            have hf := of_decide_eq_true hf
            obtain ⟨t1, t2⟩ := k.step g1 kb hm
            have := (g8 hm).1
            exact ⟨⟨s3, hf⟩, room_of (by simp only [List.length_singleton]; omega) (by omega), by omega, .inl ⟨t1 hf, by omega⟩, by simp only [RPath.mes7]; omega⟩
          · by_cases hm : 1 < m.length
            · rw [decide_eq_true (by omega : (m.length : Int) > 1), cond_true] at hf
              have hf := of_decide_eq_false hf
              obtain ⟨t1, t2⟩ := k.step g1 kb hm
              have := (g8 hm).1
              exact ⟨by omega, .inl ⟨t2 hf, by omega⟩, by simp only [RPath.mes7]; omega⟩
            · have hv := g9 hm
              refine ⟨by omega, .inr ⟨?_, hv⟩, by simp only [RPath.mes7]; omega⟩
              rw [← k.out (k.fin hv) hc hd]
        · omega
      · have he := of_decide_eq_false he
        rcases hk with ⟨k, kb⟩ | ⟨rfl, kb⟩
        · omega
        · refine ret2.2 ?_
          show _ = path l i
          rw [path_ok hc hd]

def SameHashes.pre (a b : List H32) : Prop := a.length ≤ 1000000000
def SameHashes.fn (a b : List H32) : Bool := decide (a = b)
def SameHashes.inv4 (a b : List H32) (v : Int) : Prop := a.length = b.length ∧ 0 ≤ v ∧ v ≤ a.length ∧ ∀ j : Nat, (j : Int) < v → a.getD j (List.replicate 32 0) = b.getD j (List.replicate 32 0)
def SameHashes.mes4 (a b : List H32) (v : Int) : Nat := (a.length - v).toNat
def SameHashes.VC : Prop := ∀ (x0 : (List (List Int))) (x1 : (List (List Int))), SameHashes.pre x0 x1 →
 ((((x0.length : Int) != (x1.length : Int)) = true →
 (Ret1 false (SameHashes.fn x0 x1))) ∧
 (((x0.length : Int) != (x1.length : Int)) = false →
 (SameHashes.inv4 x0 x1 (0 : Int) ∧
 ∀ (v13 : Int), SameHashes.inv4 x0 x1 v13 →
 (((decide (v13 < (x0.length : Int))) = true →
 (0 ≤ v13 ∧ v13 < (x0.length : Int)) ∧
 (0 ≤ v13 ∧ v13 < (x1.length : Int)) ∧
 (let v24 : Bool := (!(Ty.beq (.arr 32 (.int .u8)) (x0.getD (Int.toNat v13) (List.replicate 32 (0 : Int))) (x1.getD (Int.toNat v13) (List.replicate 32 (0 : Int)))))
 ((v24 = true →
 (Ret1 false (SameHashes.fn x0 x1))) ∧
 (v24 = false →
 (SameHashes.inv4 x0 x1 (IntKind.i64.wrap (v13 + (1 : Int))) ∧ SameHashes.mes4 x0 x1 (IntKind.i64.wrap (v13 + (1 : Int))) < SameHashes.mes4 x0 x1 v13))))) ∧
 ((decide (v13 < (x0.length : Int))) = false →
 (Ret1 true (SameHashes.fn x0 x1)))))))
theorem list_ext_getD {α : Type} {a b : List α} (d : α) (hl : a.length = b.length) (h : ∀ j : Nat, j < a.length → a.getD j d = b.getD j d) : a = b := by
  apply List.ext_getElem hl
  intro n h1 h2
  have := h n h1
  simpa [List.getD_eq_getElem?_getD, List.getElem?_eq_getElem h1, List.getElem?_eq_getElem h2] using this
theorem SameHashes.vc : SameHashes.VC := by
  intro a b hp
  have hp : a.length ≤ 1000000000 := hp
  refine ⟨fun hc => ?_, fun hc => ?_⟩
  · have hc : (a.length : Int) ≠ b.length := by simpa using hc
    refine ret1.2 ?_
    show false = decide (a = b)
    rw [decide_eq_false (fun h => hc (by rw [h]))]
  · have hc : a.length = b.length := by have : (a.length : Int) = b.length := by simpa using hc
                                        omega
    refine ⟨⟨hc, by omega, by omega, fun j h => by omega⟩, ?_⟩
    rintro v ⟨k1, k2, k3, k4⟩
    refine ⟨fun hd => ?_, fun hd => ?_⟩
    · have hd := of_decide_eq_true hd
      rw [i64w (n := v + 1) (by omega) (by omega)]
      refine ⟨by omega, by omega, fun he => ?_, fun he => ?_⟩
      · refine ret1.2 ?_
        show false = decide (a = b)
        rw [decide_eq_false]
        rintro rfl
        rw [beq_self] at he
        cases he
      · have he : Ty.beq (.arr 32 (.int .u8)) (a.getD v.toNat (List.replicate 32 0)) (b.getD v.toNat (List.replicate 32 0)) = true := by simpa using he
        have he := (Ty.beq_iff (.arr 32 (.int .u8)) _ _).1 he
        refine ⟨⟨k1, by omega, by omega, fun j hj => ?_⟩, by simp only [SameHashes.mes4]; omega⟩
        by_cases hjv : (j : Int) < v
        · exact k4 j hjv
        · rw [show j = v.toNat by omega]; exact he
    · have hd := of_decide_eq_false hd
      refine ret1.2 ?_
      show true = decide (a = b)
      rw [decide_eq_true]
      exact list_ext_getD _ k1 (fun j hj => k4 j (by omega))

def MerklePaths.pre (l : List H32) (i : Int) : Prop := HashesOk l
def MerklePaths.fn (l : List H32) (i : Int) : Bool := true
def MerklePaths.VC : Prop := ∀ (x0 : (List (List Int))) (x1 : Int), MerklePaths.pre x0 x1 →
 MSane.pre ∧
 (((!(MSane.fn)) = true →
 (Ret1 false (MerklePaths.fn x0 x1))) ∧
 ((!(MSane.fn)) = false →
 Kept.pre x0 ∧
 (((!(Kept.fn x0)) = true →
 (Ret1 true (MerklePaths.fn x0 x1))) ∧
 ((!(Kept.fn x0)) = false →
 MPath.pre x0 x1 ∧
 RPath.pre x0 x1 ∧
 (((MPath.fn x0 x1).2 == (RPath.fn x0 x1).2) = true → ((MPath.fn x0 x1).2 == (RPath.fn x0 x1).2) = true) ∧
 (((MPath.fn x0 x1).2 == (RPath.fn x0 x1).2) = true → ((MPath.fn x0 x1).2 == (RPath.fn x0 x1).2) = true) ∧
 (((MPath.fn x0 x1).2 == (RPath.fn x0 x1).2) = true → ((MPath.fn x0 x1).2 == (RPath.fn x0 x1).2) = true) ∧
 (((MPath.fn x0 x1).2 == (RPath.fn x0 x1).2) = true → ((MPath.fn x0 x1).2 == (RPath.fn x0 x1).2) = true) ∧
 (((MPath.fn x0 x1).2 == (RPath.fn x0 x1).2) = true → ((MPath.fn x0 x1).2 == (RPath.fn x0 x1).2) = true) ∧
 (let v35 : Bool := (bif ((MPath.fn x0 x1).2 == (RPath.fn x0 x1).2) then ((MPath.fn x0 x1).1.1 == (RPath.fn x0 x1).1.1) else false)
 (v35 = true → v35 = true) ∧
 (v35 = true → v35 = true) ∧
 (v35 = true → v35 = true) ∧
 (v35 = true → v35 = true) ∧
 (v35 = true → v35 = true) ∧
 (let v42 : Bool := (bif v35 then ((MPath.fn x0 x1).1.2.1 == (RPath.fn x0 x1).1.2.1) else false)
 (v42 = true → v42 = true) ∧
 (v42 = true → v42 = true) ∧
 (v42 = true → v42 = true) ∧
 (v42 = true → v42 = true) ∧
 (v42 = true → SameHashes.pre ((MPath.fn x0 x1).1.2.2.1) ((RPath.fn x0 x1).1.2.2.1)) ∧
 (v42 = true → v42 = true) ∧
 (let v49 : Bool := (bif v42 then (SameHashes.fn ((MPath.fn x0 x1).1.2.2.1) ((RPath.fn x0 x1).1.2.2.1)) else false)
 (Ret1 v49 (MerklePaths.fn x0 x1)))))))))
theorem sibs_len (n : Nat) : ∀ (l : List H32) (i : Int), l.length ≤ n → (sibs l i).length ≤ n := by
  induction n with
  | zero => intro l i h; rw [sibs_small (by omega)]; simp
  | succ n ih =>
    intro l i h
    by_cases h1 : l.length ≤ 1
    · rw [sibs_small h1]; simp
    · rw [sibs_big h1, List.length_append]
      have := ih (mlevel l) (i / 2) (by rw [mlevel_len]; omega)
      split <;> simp <;> omega
theorem path_len (l : List H32) (i : Int) (h : l.length ≤ 1024) : (path l i).1.2.2.1.length ≤ 1024 := by
  unfold path
  split
  · simp
  · split
    · simp
    · exact Nat.le_trans (sibs_len _ l i (Nat.le_refl _)) h
theorem MerklePaths.vc : MerklePaths.VC := by
  intro l i hl
  refine ⟨trivial, fun h0 => by simp [MSane.fn] at h0, fun _ => ⟨trivial, fun _ => rfl, fun hk => ?_⟩⟩
  have hk : Kept.fn l = true := by simpa using hk
  have hk := of_decide_eq_true hk
  have e : RPath.fn l i = MPath.fn l i := rfl
  rw [e]
  have h1 := path_len l i (by omega)
  have e1 : ((MPath.fn l i).2 == (MPath.fn l i).2) = true := beq_self_eq_true _
  have e2 : ((MPath.fn l i).1.1 == (MPath.fn l i).1.1) = true := beq_self_eq_true _
  have e3 : ((MPath.fn l i).1.2.1 == (MPath.fn l i).1.2.1) = true := beq_self_eq_true _
  have e4 : SameHashes.fn (MPath.fn l i).1.2.2.1 (MPath.fn l i).1.2.2.1 = true := decide_eq_true rfl
  simp only [e1, e2, e3, e4, forall_const, true_and, cond_true]
  exact ⟨⟨hl, by omega⟩, ⟨hl, by omega⟩, Nat.le_trans h1 (by omega), rfl⟩

/-! ## A path leads from its leaf to the root -/
theorem mlevel_getD : ∀ (l : List H32) (j : Nat), 2 * j + 1 < l.length → (mlevel l).getD j zeroH = node (l.getD (2 * j) zeroH) (l.getD (2 * j + 1) zeroH)
  | [], j, h => by simp at h
  | [_], j, h => by simp at h
  | a :: b :: r, 0, _ => by simp [mlevel]
  | a :: b :: r, j + 1, h => by
    simp only [mlevel, List.getD_cons_succ]
    rw [mlevel_getD r j (by simp only [List.length_cons] at h; omega), show 2 * (j + 1) = 2 * j + 1 + 1 by omega]; simp only [List.getD_cons_succ]
theorem mlevel_last : ∀ (l : List H32) (j : Nat), 2 * j + 1 = l.length → (mlevel l).getD j zeroH = l.getD (2 * j) zeroH
  | [], j, h => by simp at h
  | [_], j, h => by have : j = 0 := by simp at h; omega
                    subst this; simp [mlevel]
  | a :: b :: r, 0, h => by simp at h
  | a :: b :: r, j + 1, h => by
    simp only [mlevel, List.getD_cons_succ]
    rw [mlevel_last r j (by simp only [List.length_cons] at h; omega), show 2 * (j + 1) = 2 * j + 1 + 1 by omega, List.getD_cons_succ, List.getD_cons_succ]
theorem climb_sibs (n : Nat) : ∀ (l : List H32) (i : Int), l.length ≤ n → 0 ≤ i → i < (l.length : Int) →
    climb l.length i (l.getD i.toNat zeroH) (sibs l i) = root l ∧ ((sibs l i).length : Int) = others l.length i := by
  induction n with
  | zero => intro l i h h1 h2; omega
  | succ n ih =>
    intro l i h h1 h2
    by_cases hl : l.length ≤ 1
    · rw [climb_end (by omega), root_small hl, sibs_small hl, others_small (by omega), show i.toNat = 0 by omega]
      exact ⟨rfl, rfl⟩
    · have hm := mlevel_len l
      have hhalf : (((mlevel l).length : Nat) : Int) = ((l.length : Int) + 1) / 2 := by rw [hm]; omega
      obtain ⟨q1, q2⟩ := ih (mlevel l) (i / 2) (by omega) (by omega) (by omega)
      rw [hhalf] at q1 q2
      rw [sibs_big hl, others_big (by omega), root_big hl]
      by_cases ho : i % 2 = 1
      · have hs : sibI i = i - 1 := by unfold sibI; rw [if_neg (by omega)]
        rw [if_pos (.inl ho), if_pos (.inl ho), climb_odd (by omega) ho, hs, ← q2]
        refine ⟨?_, by simp; omega⟩
        have e := mlevel_getD l (i / 2).toNat (by omega)
        rw [show 2 * (i / 2).toNat = (i - 1).toNat by omega, show (i - 1).toNat + 1 = i.toNat by omega] at e
        simp only [List.cons_append, List.nil_append, List.getD_cons_zero, List.drop_succ_cons, List.drop_zero]
        rw [← e]; exact q1
      · by_cases h3 : i + 1 < (l.length : Int)
        · have hs : sibI i = i + 1 := by unfold sibI; rw [if_pos (by omega)]
          rw [if_pos (.inr h3), if_pos (.inr h3), climb_even (by omega) ho h3, hs, ← q2]
          refine ⟨?_, by simp; omega⟩
          have e := mlevel_getD l (i / 2).toNat (by omega)
          rw [show 2 * (i / 2).toNat = i.toNat by omega, show i.toNat + 1 = (i + 1).toNat by omega] at e
          simp only [List.cons_append, List.nil_append, List.getD_cons_zero, List.drop_succ_cons, List.drop_zero]
          rw [← e]; exact q1
        · rw [if_neg (by omega), if_neg (by omega), climb_none (by omega) ho h3, ← q2]
          refine ⟨?_, by simp⟩
          have e := mlevel_last l (i / 2).toNat (by omega)
          rw [show 2 * (i / 2).toNat = i.toNat by omega] at e
          rw [← e]; exact q1
theorem others_log (n : Nat) : ∀ (c i : Int), c ≤ 2 ^ n → others c i ≤ n := by
  induction n with
  | zero => intro c i h; rw [others_small (by simpa using h)]; omega
  | succ n ih =>
    intro c i h
    by_cases hc : c ≤ 1
    · rw [others_small hc]; omega
    · rw [others_big hc]
      have h2 : (2 : Int) ^ (n + 1) = 2 ^ n * 2 := Int.pow_succ 2 n
      have := ih ((c + 1) / 2) (i / 2) (by omega)
      split <;> omega
def MerkleProves.pre (l : List H32) (i : Int) : Prop := HashesOk l ∧ 0 ≤ i ∧ i ≤ 255
def MerkleProves.fn (l : List H32) (i : Int) : Bool := true
def MerkleProves.VC : Prop := ∀ (x0 : (List (List Int))) (x1 : Int), MerkleProves.pre x0 x1 →
 MSane.pre ∧
 (((!(MSane.fn)) = true →
 (Ret1 false (MerkleProves.fn x0 x1))) ∧
 ((!(MSane.fn)) = false →
 Kept.pre x0 ∧
 ((!(Kept.fn x0)) = false → (!(Kept.fn x0)) = false) ∧
 ((!(Kept.fn x0)) = false → (!(Kept.fn x0)) = false) ∧
 ((!(Kept.fn x0)) = false → (!(Kept.fn x0)) = false) ∧
 (let v19 : Bool := (bif (!(Kept.fn x0)) then true else ((x0.length : Int) == (0 : Int)))
 ((v19 = true →
 (Ret1 true (MerkleProves.fn x0 x1))) ∧
 (v19 = false →
 (x0.length : Int) ≠ 0 ∧
 MPath.pre x0 (Int.tmod (IntKind.i64.wrap x1) (x0.length : Int)) ∧
 (let v29 : (Int × (Int × ((List (List Int)) × Unit))) := (MPath.fn x0 (Int.tmod (IntKind.i64.wrap x1) (x0.length : Int))).1
 (let v30 : Int := (MPath.fn x0 (Int.tmod (IntKind.i64.wrap x1) (x0.length : Int))).2
 (0 ≤ (Int.tmod (IntKind.i64.wrap x1) (x0.length : Int)) ∧ (Int.tmod (IntKind.i64.wrap x1) (x0.length : Int)) < (x0.length : Int)) ∧
 (let v36 : (List Int) := (x0.getD (Int.toNat (Int.tmod (IntKind.i64.wrap x1) (x0.length : Int))) (List.replicate 32 (0 : Int)))
 MFollow.pre v29 v36 ∧
 ((v30 == (0 : Int)) = true → (v30 == (0 : Int)) = true) ∧
 ((v30 == (0 : Int)) = true → (v30 == (0 : Int)) = true) ∧
 (let v45 : Bool := (bif (v30 == (0 : Int)) then ((MFollow.fn v29 v36).2 == (0 : Int)) else false)
 (v45 = true → v45 = true) ∧
 (v45 = true → MRoot.pre x0) ∧
 (v45 = true → v45 = true) ∧
 (v45 = true → v45 = true) ∧
 (v45 = true → v45 = true) ∧
 (let v51 : Bool := (bif v45 then (Ty.beq (.arr 32 (.int .u8)) (MFollow.fn v29 v36).1 (MRoot.fn x0)) else false)
 (v51 = true → v51 = true) ∧
 (v51 = true → v51 = true) ∧
 (v51 = true → v51 = true) ∧
 (v51 = true → v51 = true) ∧
 (let v57 : Bool := (bif v51 then (decide ((v29.2.2.1.length : Int) ≤ (6 : Int))) else false)
 (Ret1 v57 (MerkleProves.fn x0 x1)))))))))))))
theorem sibs_ok (n : Nat) : ∀ (l : List H32) (i : Int), l.length ≤ n → HashesOk l → HashesOk (sibs l i) := by
  induction n with
  | zero => intro l i h _; rw [sibs_small (by omega)]; intro x hx; cases hx
  | succ n ih =>
    intro l i h hok
    by_cases h1 : l.length ≤ 1
    · rw [sibs_small h1]; intro x hx; cases hx
    · rw [sibs_big h1]
      refine HashesOk.append ?_ (ih (mlevel l) (i / 2) (by rw [mlevel_len]; omega) (mlevel_ok l hok))
      split
      · exact HashesOk.one (hok.getD _)
      · intro x hx; cases hx
theorem MerkleProves.vc : MerkleProves.VC := by
  intro l i ⟨hl, h0, h1⟩
  refine ⟨trivial, fun h0 => by simp [MSane.fn] at h0, fun _ => ⟨trivial, id, id, id, ?_⟩⟩
  refine ⟨fun _ => rfl, fun hk => ?_⟩
  have hk2 : (l.length : Int) ≤ 40 ∧ l.length ≠ 0 := by
    cases h2 : Kept.fn l <;> rw [h2] at hk
    · cases hk
    · have := of_decide_eq_true h2
      have h3 : ((l.length : Int) == 0) = false := hk
      have h3 : (l.length : Int) ≠ 0 := by simpa using h3
      exact ⟨this, by omega⟩
  obtain ⟨hk1, hk2⟩ := hk2
  rw [i64w (n := i) (by omega) (by omega), tmod_of_nonneg h0]
  have hb1 := Int.emod_nonneg i (by omega : (l.length : Int) ≠ 0)
  have hb2 := Int.emod_lt_of_pos i (by omega : (0 : Int) < l.length)
  generalize i % (l.length : Int) = k at hb1 hb2
  have hp : MPath.fn l k = (((l.length : Int), k, sibs l k, ()), 0) := path_ok (by omega) (by omega)
  rw [hp]
  obtain ⟨c1, c2⟩ := climb_sibs _ l k (Nat.le_refl _) hb1 hb2
  have hlog := others_log 6 l.length k (by simp; omega)
  have hf : MFollow.fn ((l.length : Int), k, sibs l k, ()) (l.getD k.toNat (List.replicate 32 0)) = (root l, 0) := by
    show follow _ _ = _
    rw [follow_ok (by unfold badPath; rw [decide_eq_false]; simp only; omega) c2]
    exact congrArg (·, (0 : Int)) c1
  have hr : MRoot.fn l = root l := by
    show rootOf l = _
    rw [rootOf, if_neg (by omega)]
  have e1 : Ty.beq (.arr 32 (.int .u8)) (root l) (root l) = true := beq_self _ _
  have e2 : decide (((sibs l k).length : Int) ≤ 6) = true := decide_eq_true (by omega)
  have e3 : ((0 : Int) == 0) = true := rfl
  simp only [hf, hr, e1, e2, e3, forall_const, true_and, cond_true]
  exact ⟨by omega, ⟨hl, by omega⟩, ⟨hb1, hb2⟩, ⟨sibs_ok _ l k (Nat.le_refl _) hl, by simp only; omega, hl.getD _⟩, ⟨hl, by omega⟩, rfl⟩
end Lc
