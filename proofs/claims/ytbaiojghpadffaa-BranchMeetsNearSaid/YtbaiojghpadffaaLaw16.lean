/- Chapter 16: the laws. -/
import Derived.Test.YtbaiojghpadffaaBranch
namespace Lc
open Go
set_option maxRecDepth 10000
set_option linter.unusedVariables false
set_option linter.unusedSimpArgs false

def QSameInts.pre (a b : List Int) : Prop := a.length ≤ 1000000000
def QSameInts.fn (a b : List Int) : Bool := decide (a = b)
def QSameInts.inv4 (a b : List Int) (v : Int) : Prop := a.length = b.length ∧ 0 ≤ v ∧ v ≤ a.length ∧ ∀ j : Nat, (j : Int) < v → a.getD j 0 = b.getD j 0
def QSameInts.mes4 (a b : List Int) (v : Int) : Nat := (a.length - v).toNat
theorem list_ext0 {a b : List Int} (hl : a.length = b.length) (h : ∀ j, j < a.length → a.getD j 0 = b.getD j 0) : a = b := by
  apply List.ext_getElem hl
  intro i h1 h2
  have := h i h1
  simpa [List.getD_eq_getElem?_getD, h1, h2] using this
def QSameInts.VC : Prop := ∀ (x0 : (List Int)) (x1 : (List Int)), QSameInts.pre x0 x1 →
 ((((x0.length : Int) != (x1.length : Int)) = true →
 (Ret1 false (QSameInts.fn x0 x1))) ∧
 (((x0.length : Int) != (x1.length : Int)) = false →
 (QSameInts.inv4 x0 x1 (0 : Int) ∧
 ∀ (v13 : Int), QSameInts.inv4 x0 x1 v13 →
 (((decide (v13 < (x0.length : Int))) = true →
 (0 ≤ v13 ∧ v13 < (x0.length : Int)) ∧
 (0 ≤ v13 ∧ v13 < (x1.length : Int)) ∧
 (let v24 : Bool := ((x0.getD (Int.toNat v13) (0 : Int)) != (x1.getD (Int.toNat v13) (0 : Int)))
 ((v24 = true →
 (Ret1 false (QSameInts.fn x0 x1))) ∧
 (v24 = false →
 (QSameInts.inv4 x0 x1 (IntKind.i64.wrap (v13 + (1 : Int))) ∧ QSameInts.mes4 x0 x1 (IntKind.i64.wrap (v13 + (1 : Int))) < QSameInts.mes4 x0 x1 v13))))) ∧
 ((decide (v13 < (x0.length : Int))) = false →
 (Ret1 true (QSameInts.fn x0 x1)))))))
theorem QSameInts.vc : QSameInts.VC := by
  intro a b hp
  have hp : a.length ≤ 1000000000 := hp
  simp only [imp_self, true_and, and_true, Bool.cond_true_left, Bool.cond_false_right, Bool.or_eq_true, Bool.or_eq_false_iff, Bool.and_eq_true, Bool.and_eq_false_iff, decide_eq_true_eq, decide_eq_false_iff_not, Bool.not_eq_true', Bool.not_eq_false', beq_iff_eq, bne_iff_ne, ne_eq, beq_eq_false_iff_ne, bne_eq_false_iff_eq, Int.not_lt, Int.not_le, gt_iff_lt, ge_iff_le, Decidable.not_not, Bool.not_eq_true, Bool.not_eq_false]
  try simp only [par_fold, hgt_fold, hsh_fold]
  refine ⟨fun h => ret1.2 (Eq.symm (decide_eq_false (fun e => h (by rw [e])))), fun h => ⟨⟨by omega, by omega, by omega, fun j hj => by omega⟩, ?_⟩⟩
  rintro v ⟨k0, k1, k2, k3⟩
  refine ⟨fun hc => ⟨by omega, by omega, fun he => ?_, fun he => ?_⟩, fun hc => ?_⟩
  · exact ret1.2 (Eq.symm (decide_eq_false (fun e => he (by rw [e]))))
  · rw [i64w (by omega) (by omega)]
    refine ⟨⟨k0, by omega, by omega, fun j hj => ?_⟩, by simp only [QSameInts.mes4]; omega⟩
    by_cases e : (j : Int) = v
    · rw [show v.toNat = j by omega] at he; exact he
    · exact k3 j (by omega)
  · exact ret1.2 (Eq.symm (decide_eq_true (list_ext0 k0 (fun j hj => k3 j (by omega)))))

def KSome.pre (_ : List Int) (n : Int) : Prop := 0 ≤ n
def KSome.fn (l : List Int) (n : Int) : List Int := l.take n.toNat
def KSome.VC : Prop := ∀ (x0 : (List Int)) (x1 : Int), KSome.pre x0 x1 →
 (0 ≤ (0 : Int) ∧ (0 : Int) ≤ (if x1 < (x0.length : Int) then x1 else (x0.length : Int)) ∧ (if x1 < (x0.length : Int) then x1 else (x0.length : Int)) ≤ (x0.length : Int)) ∧
 (let v10 : (List Int) := ((x0.drop (Int.toNat (0 : Int))).take ((Int.toNat (if x1 < (x0.length : Int) then x1 else (x0.length : Int))) - (Int.toNat (0 : Int))))
 (Ret1 v10 (KSome.fn x0 x1)))
theorem KSome.vc : KSome.VC := by
  intro l n hn
  have hn : 0 ≤ n := hn
  refine ⟨by split <;> omega, ret1.2 ?_⟩
  simp only [KSome.fn, Int.toNat_zero, List.drop_zero, Nat.sub_zero]
  split
  · rfl
  · rw [List.take_of_length_le (by omega), List.take_of_length_le (by omega)]
def KTree.pre (_ : Tr) (n : Int) : Prop := True
def KTree.fn (t : Tr) (n : Int) : Bool := decide ((t.1.length : Int) ≤ n)
def KTree.VC : Prop := ∀ (x0 : ((List ((Int × ((List Int) × ((List Int) × (Int × (Int × (Int × Unit)))))) × ((List Int) × (Int × (Int × ((List Int) × Unit)))))) × (Int × Unit))) (x1 : Int), KTree.pre x0 x1 →
 (Ret1 (decide ((x0.1.length : Int) ≤ x1)) (KTree.fn x0 x1))
theorem KTree.vc : KTree.VC := fun t n _ => rfl

/-! ## Locators -/
def locGo : Nat → Int → Int → Nat → List Int
  | 0, _, _, _ => []
  | f + 1, h, s, c => if h < 0 then [] else h :: locGo f (h - (if 10 ≤ c + 1 then s * 2 else s)) (if 10 ≤ c + 1 then s * 2 else s) (c + 1)
def locHs (h : Int) : List Int := locGo 200 h 1 0 ++ (if (locGo 200 h 1 0).getLastD h ≠ 0 then [0] else [])
def hashAt (t : Tr) (n h : Int) : List Int := hsh t ((lineOf t n).getD h.toNat 0)
def BLocator.pre (t : Tr) (_ : Int) : Prop := t.1.length ≤ 100
noncomputable def BLocator.fn (t : Tr) (n : Int) : List (List Int) := if Snd t ∧ Nod t n then (locHs (hgt t n)).map (hashAt t n) else []
def BLocator.inv7 (t : Tr) (n : Int) (v5 : List (List Int)) (v7 v8 v9 : Int) : Prop :=
  ∃ hs : List Int, v5 = hs.map (hashAt t n) ∧ locGo 200 (hgt t n) 1 0 = hs ++ locGo (200 - hs.length) v7 v8 hs.length ∧ v9 = hs.getLastD (hgt t n) ∧ 1 ≤ v8 ∧ (v8 = 1 ∨ v7 + v8 ≤ hgt t n) ∧ v7 ≤ hgt t n ∧ -v8 ≤ v7 ∧ (hs.length : Int) ≤ hgt t n - v7
def BLocator.mes7 (t : Tr) (n : Int) (v5 : List (List Int)) (v7 v8 v9 : Int) : Nat := (v7 + 1).toNat
def BLocator.VC : Prop := ∀ (x0 : ((List ((Int × ((List Int) × ((List Int) × (Int × (Int × (Int × Unit)))))) × ((List Int) × (Int × (Int × ((List Int) × Unit)))))) × (Int × Unit))) (x1 : Int), BLocator.pre x0 x1 →
 BSound.pre x0 ∧
 ((!(BSound.fn x0)) = false → (!(BSound.fn x0)) = false) ∧
 ((!(BSound.fn x0)) = false → (!(BSound.fn x0)) = false) ∧
 ((!(BSound.fn x0)) = false → BNode.pre x0 x1) ∧
 ((!(BSound.fn x0)) = false → (!(BSound.fn x0)) = false) ∧
 ((!(BSound.fn x0)) = false → (!(BSound.fn x0)) = false) ∧
 (((bif (!(BSound.fn x0)) then true else (!(BNode.fn x0 x1))) = true →
 (Ret1 [] (BLocator.fn x0 x1))) ∧
 ((bif (!(BSound.fn x0)) then true else (!(BNode.fn x0 x1))) = false →
 BLine.pre x0 x1 ∧
 (let v24 : Int := (IntKind.i64.wrap (((BLine.fn x0 x1).length : Int) - (1 : Int)))
 (BLocator.inv7 x0 x1 [] v24 (1 : Int) v24 ∧
 ∀ (v5 : (List (List Int))) (v7 : Int) (v8 : Int) (v9 : Int), BLocator.inv7 x0 x1 v5 v7 v8 v9 →
 (((decide (v7 ≥ (0 : Int))) = true →
 (0 ≤ v7 ∧ v7 < ((BLine.fn x0 x1).length : Int)) ∧
 (0 ≤ ((BLine.fn x0 x1).getD (Int.toNat v7) (0 : Int)) ∧ ((BLine.fn x0 x1).getD (Int.toNat v7) (0 : Int)) < (x0.1.length : Int)) ∧
 (let v37 : (List Int) := (x0.1.getD (Int.toNat ((BLine.fn x0 x1).getD (Int.toNat v7) (0 : Int))) (((0 : Int), ((List.replicate 32 (0 : Int)), ((List.replicate 32 (0 : Int)), ((0 : Int), ((0 : Int), ((0 : Int), ())))))), ((List.replicate 32 (0 : Int)), ((0 : Int), ((0 : Int), ((List.replicate 4 (0 : Int)), ())))))).2.1
 Room (v5.length + [v37].length) 32 ∧
 (((decide (((v5 ++ [v37]).length : Int) ≥ (10 : Int))) = true →
 (let v48 : Int := (IntKind.i64.wrap (v7 - (IntKind.i64.wrap (v8 * (2 : Int)))))
 (BLocator.inv7 x0 x1 (v5 ++ [v37]) v48 (IntKind.i64.wrap (v8 * (2 : Int))) v7 ∧ BLocator.mes7 x0 x1 (v5 ++ [v37]) v48 (IntKind.i64.wrap (v8 * (2 : Int))) v7 < BLocator.mes7 x0 x1 v5 v7 v8 v9))) ∧
 ((decide (((v5 ++ [v37]).length : Int) ≥ (10 : Int))) = false →
 (BLocator.inv7 x0 x1 (v5 ++ [v37]) (IntKind.i64.wrap (v7 - v8)) v8 v7 ∧ BLocator.mes7 x0 x1 (v5 ++ [v37]) (IntKind.i64.wrap (v7 - v8)) v8 v7 < BLocator.mes7 x0 x1 v5 v7 v8 v9))))) ∧
 ((decide (v7 ≥ (0 : Int))) = false →
 (((v9 != (0 : Int)) = true →
 (0 ≤ (0 : Int) ∧ (0 : Int) < (x0.1.length : Int)) ∧
 (let v56 : (List Int) := (x0.1.getD (Int.toNat (0 : Int)) (((0 : Int), ((List.replicate 32 (0 : Int)), ((List.replicate 32 (0 : Int)), ((0 : Int), ((0 : Int), ((0 : Int), ())))))), ((List.replicate 32 (0 : Int)), ((0 : Int), ((0 : Int), ((List.replicate 4 (0 : Int)), ())))))).2.1
 Room (v5.length + [v56].length) 32 ∧
 (Ret1 (v5 ++ [v56]) (BLocator.fn x0 x1)))) ∧
 ((v9 != (0 : Int)) = false →
 (Ret1 v5 (BLocator.fn x0 x1))))))))))
theorem BLocator.vc : BLocator.VC := by
  intro t n hp
  have hp : t.1.length ≤ 100 := hp
  simp only [imp_self, true_and, and_true, Bool.cond_true_left, Bool.cond_false_right, Bool.or_eq_true, Bool.or_eq_false_iff, Bool.and_eq_true, Bool.and_eq_false_iff, decide_eq_true_eq, decide_eq_false_iff_not, Bool.not_eq_true', Bool.not_eq_false', beq_iff_eq, bne_iff_ne, ne_eq, beq_eq_false_iff_ne, bne_eq_false_iff_eq, Int.not_lt, Int.not_le, gt_iff_lt, ge_iff_le, Decidable.not_not, Bool.not_eq_true, Bool.not_eq_false]
  try simp only [par_fold, hgt_fold, hsh_fold]
  simp only [BSound.fn, BNode.fn, decide_eq_false_iff_not, decide_eq_true_eq]
  refine ⟨trivial, fun _ => trivial, ?_, ?_⟩
  · intro h
    refine ret1.2 ?_
    rw [BLocator.fn, if_neg]
    rintro ⟨a, b⟩
    rcases h with h | h
    · exact h a
    · exact h b
  · rintro ⟨hs, hn⟩
    have h1 := hgt_nn hs hn
    have h2 := hn.2
    have hl := lineOf_len t n
    have hln : (lineOf t n).length ≤ 101 := by omega
    have hr := line_root hs hn
    simp only [BLine.fn]
    rw [i64w (n := ((lineOf t n).length : Int) - 1) (by omega) (by omega)]
    have e0 : ((lineOf t n).length : Int) - 1 = hgt t n := by omega
    rw [e0]
    refine ⟨⟨hs, hn⟩, ⟨[], rfl, rfl, rfl, by omega, .inl rfl, by omega, by omega, by simp⟩, ?_⟩
    rintro v5 v7 v8 v9 ⟨l, rfl, k1, k2, k3, k4, k5, k6, k7⟩
    refine ⟨fun hc => ?_, fun hc => ?_⟩
    · obtain ⟨m1, m2⟩ := lineOf_nod hs hn (h := v7.toNat) (by omega)
      have hll : l.length ≤ 100 := by omega
      have go : locGo (200 - l.length) v7 v8 l.length = v7 :: locGo (200 - (l.length + 1)) (v7 - (if 10 ≤ l.length + 1 then v8 * 2 else v8)) (if 10 ≤ l.length + 1 then v8 * 2 else v8) (l.length + 1) := by
        rw [show 200 - l.length = (200 - (l.length + 1)) + 1 by omega, locGo, if_neg (by omega)]
      refine ⟨⟨hc, by omega⟩, m1, room_of (by simp; omega) (by omega), fun hd => ?_, fun hd => ?_⟩
      · simp only [List.length_append, List.length_map, List.length_singleton] at hd
        simp (disch := omega) only [i64w]
        refine ⟨⟨l ++ [v7], by simp [hashAt], ?_, by simp, by omega, .inr (by omega), by omega, by omega, by simp; omega⟩, by simp only [BLocator.mes7]; omega⟩
        rw [k1, go, if_pos (by omega)]; simp
      · simp only [List.length_append, List.length_map, List.length_singleton] at hd
        simp (disch := omega) only [i64w]
        refine ⟨⟨l ++ [v7], by simp [hashAt], ?_, by simp, by omega, by omega, by omega, by omega, by simp; omega⟩, by simp only [BLocator.mes7]; omega⟩
        rw [k1, go, if_neg (by omega)]; simp
    · have hnil : locGo (200 - l.length) v7 v8 l.length = [] := by
        cases 200 - l.length with
        | zero => rfl
        | succ f => rw [locGo, if_pos (by omega)]
      rw [hnil, List.append_nil] at k1
      have hb : BLocator.fn t n = (l ++ (if l.getLastD (hgt t n) ≠ 0 then [0] else [])).map (hashAt t n) := by
        rw [BLocator.fn, if_pos ⟨hs, hn⟩, locHs, k1]
      have hlen : l.length ≤ 200 := by
        have : ∀ (f : Nat) (h s : Int) (c : Nat), (locGo f h s c).length ≤ f := by
          intro f
          induction f with
          | zero => intro h s c; simp [locGo]
          | succ f ih =>
            intro h s c
            rw [locGo]
            split
            · simp
            · simp only [List.length_cons]; have := ih (h - (if 10 ≤ c + 1 then s * 2 else s)) (if 10 ≤ c + 1 then s * 2 else s) (c + 1); omega
        rw [← k1]; exact this _ _ _ _
      refine ⟨fun hd => ⟨by have := hs.1.1; omega, room_of (by simp; omega) (by omega), ret1.2 ?_⟩, fun hd => ret1.2 ?_⟩
      · rw [hb, if_pos (by rw [← k2]; exact hd)]
        simp only [List.map_append, List.map_cons, List.map_nil, hashAt, Int.toNat_zero, hr]
      · rw [hb, if_neg (by rw [← k2]; simpa using hd)]
        simp

/-! ## Lines -/
def rootN : Nd := (((0 : Int), ((List.replicate 32 (0 : Int)), ((List.replicate 32 (0 : Int)), ((0 : Int), ((0 : Int), ((0 : Int), ())))))), (((List.replicate 32 (0 : Int)).set 0 (255 : Int)), ((-1 : Int), ((0 : Int), ((List.replicate 4 (0 : Int)), ())))))
def kOf (i s : Int) : Int := if (IntKind.i64.wrap (i - IntKind.i64.wrap ((IntKind.i64.wrap (Int.tmod s 4)) * (IntKind.i64.wrap (IntKind.u8.wrap (Int.tdiv s 64)))))) > (0 : Int) then (IntKind.i64.wrap (i - IntKind.i64.wrap ((IntKind.i64.wrap (Int.tmod s 4)) * (IntKind.i64.wrap (IntKind.u8.wrap (Int.tdiv s 64)))))) else (0 : Int)
def nodeN (i k h : Int) : Nd := (((0 : Int), ((List.replicate 32 (0 : Int)), ((List.replicate 32 (0 : Int)), ((0 : Int), ((0 : Int), ((IntKind.u32.wrap i), ())))))), ((((List.replicate 32 (0 : Int)).set 0 (IntKind.u8.wrap i)).set 1 (1 : Int)), (k, (h, ((List.replicate 4 (0 : Int)), ())))))
def lnodes (l : List Int) : Nat → List Nd
  | 0 => [rootN]
  | i + 1 => lnodes l i ++ [nodeN i (kOf i (l.getD i 0)) (IntKind.i64.wrap (((lnodes l i).getD (kOf i (l.getD i 0)).toNat nd0).2.2.2.1 + 1))]
theorem lnodes_len (l : List Int) : ∀ i, (lnodes l i).length = i + 1
  | 0 => rfl
  | i + 1 => by simp [lnodes, lnodes_len l i]
theorem kOf_rng {i s : Int} (hi : 0 ≤ i) (hi2 : i ≤ 100) (hs : 0 ≤ s) (hs2 : s ≤ 255) : 0 ≤ kOf i s ∧ kOf i s ≤ i := by
  have e1 : Int.tmod s 4 = s % 4 := Int.tmod_eq_emod_of_nonneg hs
  have e2 : Int.tdiv s 64 = s / 64 := Int.tdiv_eq_ediv_of_nonneg hs
  unfold kOf
  rw [e1, e2, u8w (by omega) (by omega), i64w (n := s % 4) (by omega) (by omega), i64w (n := s / 64) (by omega) (by omega)]
  have b1 : 0 ≤ s % 4 ∧ s % 4 ≤ 3 := by omega
  have b2 : 0 ≤ s / 64 ∧ s / 64 ≤ 3 := by omega
  have p1 : 0 ≤ s % 4 * (s / 64) := Int.mul_nonneg b1.1 b2.1
  have p2 : s % 4 * (s / 64) ≤ 3 * 3 := Int.mul_le_mul b1.2 b2.2 b2.1 (by omega)
  generalize s % 4 * (s / 64) = m at *
  rw [i64w (n := m) (by omega) (by omega), i64w (by omega) (by omega)]
  split <;> omega

def bestN (t : List Nd) : Nat → Int
  | 0 => 0
  | i + 1 => if hgt (t, (0, ())) i > hgt (t, (0, ())) (bestN t i) then i else bestN t i
theorem bestN_rng (t : List Nd) (h : 1 ≤ t.length) : ∀ i : Nat, i ≤ t.length → 0 ≤ bestN t i ∧ bestN t i < t.length
  | 0, _ => by simp [bestN]; omega
  | i + 1, hi => by
    have := bestN_rng t h i (by omega)
    simp only [bestN]
    split <;> omega

def U8s (l : List Int) : Prop := ∀ s, s ∈ l → 0 ≤ s ∧ s ≤ 255
theorem U8s.get {l : List Int} (h : U8s l) (i : Nat) : 0 ≤ l.getD i 0 ∧ l.getD i 0 ≤ 255 := by
  rw [List.getD_eq_getElem?_getD]
  cases e : l[i]? with
  | none => simp
  | some v => simpa using h v (List.mem_of_getElem? e)
def LLine.pre (l : List Int) : Prop := U8s l
def lineN (l : List Int) : List Nd := lnodes (l.take 60) (l.take 60).length
def LLine.fn (l : List Int) : Tr := (lineN l, (bestN (lineN l) (lineN l).length, ()))
def LLine.inv3 (l : List Int) (_ t : Tr) (v : Int) : Prop := 0 ≤ v ∧ v ≤ (l.take 60).length ∧ t = (lnodes (l.take 60) v.toNat, (0, ()))
def LLine.mes3 (l : List Int) (_ t : Tr) (v : Int) : Nat := ((l.take 60).length - v).toNat
def LLine.inv9 (l : List Int) (s : Int) (_ t : Tr) (v : Int) : Prop := s = (lineN l).length ∧ 0 ≤ v ∧ v ≤ (lineN l).length ∧ t = (lineN l, (bestN (lineN l) v.toNat, ()))
def LLine.mes9 (l : List Int) (s : Int) (_ t : Tr) (v : Int) : Nat := (s - v).toNat
def LLine.VC : Prop := ∀ (x0 : (List Int)), LLine.pre x0 →
 (let v9 : ((Int × ((List Int) × ((List Int) × (Int × (Int × (Int × Unit)))))) × ((List Int) × (Int × (Int × ((List Int) × Unit))))) := (((0 : Int), ((List.replicate 32 (0 : Int)), ((List.replicate 32 (0 : Int)), ((0 : Int), ((0 : Int), ((0 : Int), ())))))), (((List.replicate 32 (0 : Int)).set 0 (255 : Int)), ((-1 : Int), ((0 : Int), ((List.replicate 4 (0 : Int)), ())))))
 KSome.pre x0 (60 : Int) ∧
 (LLine.inv3 x0 ([], ((0 : Int), ())) ([v9], ((0 : Int), ())) (0 : Int) ∧
 ∀ (v2 : ((List ((Int × ((List Int) × ((List Int) × (Int × (Int × (Int × Unit)))))) × ((List Int) × (Int × (Int × ((List Int) × Unit)))))) × (Int × Unit))) (v3 : ((List ((Int × ((List Int) × ((List Int) × (Int × (Int × (Int × Unit)))))) × ((List Int) × (Int × (Int × ((List Int) × Unit)))))) × (Int × Unit))) (v15 : Int), LLine.inv3 x0 v2 v3 v15 →
 (((decide (v15 < ((KSome.fn x0 (60 : Int)).length : Int))) = true →
 (0 ≤ v15 ∧ v15 < ((KSome.fn x0 (60 : Int)).length : Int)) ∧
 (4 : Int) ≠ 0 ∧
 (let v22 : Int := (Int.tmod ((KSome.fn x0 (60 : Int)).getD (Int.toNat v15) (0 : Int)) (4 : Int))
 (64 : Int) ≠ 0 ∧
 (let v25 : Int := (IntKind.u8.wrap (Int.tdiv ((KSome.fn x0 (60 : Int)).getD (Int.toNat v15) (0 : Int)) (64 : Int)))
 (let v27 : Int := (IntKind.i64.wrap ((IntKind.i64.wrap v22) * (IntKind.i64.wrap v25)))
 (let v29 : Int := (if (IntKind.i64.wrap (v15 - v27)) > (0 : Int) then (IntKind.i64.wrap (v15 - v27)) else (0 : Int))
 (let v34 : (Int × ((List Int) × ((List Int) × (Int × (Int × (Int × Unit)))))) := ((0 : Int), ((List.replicate 32 (0 : Int)), ((List.replicate 32 (0 : Int)), ((0 : Int), ((0 : Int), ((IntKind.u32.wrap v15), ()))))))
 (let v37 : (List Int) := (((List.replicate 32 (0 : Int)).set 0 (IntKind.u8.wrap v15)).set 1 (1 : Int))
 (0 ≤ v29 ∧ v29 < (v3.1.length : Int)) ∧
 (let v44 : Int := (v3.1.getD (Int.toNat v29) (((0 : Int), ((List.replicate 32 (0 : Int)), ((List.replicate 32 (0 : Int)), ((0 : Int), ((0 : Int), ((0 : Int), ())))))), ((List.replicate 32 (0 : Int)), ((0 : Int), ((0 : Int), ((List.replicate 4 (0 : Int)), ())))))).2.2.2.1
 (let v46 : ((Int × ((List Int) × ((List Int) × (Int × (Int × (Int × Unit)))))) × ((List Int) × (Int × (Int × ((List Int) × Unit))))) := (v34, (v37, (v29, ((IntKind.i64.wrap (v44 + (1 : Int))), ((List.replicate 4 (0 : Int)), ())))))
 Room (v3.1.length + [v46].length) 160 ∧
 (LLine.inv3 x0 v2 ((v3.1 ++ [v46]), v3.2) (IntKind.i64.wrap (v15 + (1 : Int))) ∧ LLine.mes3 x0 v2 ((v3.1 ++ [v46]), v3.2) (IntKind.i64.wrap (v15 + (1 : Int))) < LLine.mes3 x0 v2 v3 v15)))))))))) ∧
 ((decide (v15 < ((KSome.fn x0 (60 : Int)).length : Int))) = false →
 (LLine.inv9 x0 (v3.1.length : Int) v2 v3 (0 : Int) ∧
 ∀ (v2_1 : ((List ((Int × ((List Int) × ((List Int) × (Int × (Int × (Int × Unit)))))) × ((List Int) × (Int × (Int × ((List Int) × Unit)))))) × (Int × Unit))) (v3_1 : ((List ((Int × ((List Int) × ((List Int) × (Int × (Int × (Int × Unit)))))) × ((List Int) × (Int × (Int × ((List Int) × Unit)))))) × (Int × Unit))) (v54 : Int), LLine.inv9 x0 (v3.1.length : Int) v2_1 v3_1 v54 →
 (((decide (v54 < (v3.1.length : Int))) = true →
 (0 ≤ v54 ∧ v54 < (v3_1.1.length : Int)) ∧
 (let v62 : Int := (v3_1.1.getD (Int.toNat v54) (((0 : Int), ((List.replicate 32 (0 : Int)), ((List.replicate 32 (0 : Int)), ((0 : Int), ((0 : Int), ((0 : Int), ())))))), ((List.replicate 32 (0 : Int)), ((0 : Int), ((0 : Int), ((List.replicate 4 (0 : Int)), ())))))).2.2.2.1
 (0 ≤ v3_1.2.1 ∧ v3_1.2.1 < (v3_1.1.length : Int)) ∧
 (let v69 : Int := (v3_1.1.getD (Int.toNat v3_1.2.1) (((0 : Int), ((List.replicate 32 (0 : Int)), ((List.replicate 32 (0 : Int)), ((0 : Int), ((0 : Int), ((0 : Int), ())))))), ((List.replicate 32 (0 : Int)), ((0 : Int), ((0 : Int), ((List.replicate 4 (0 : Int)), ())))))).2.2.2.1
 (((decide (v62 > v69)) = true →
 (LLine.inv9 x0 (v3.1.length : Int) v2_1 (v3_1.1, (v54, v3_1.2.2)) (IntKind.i64.wrap (v54 + (1 : Int))) ∧ LLine.mes9 x0 (v3.1.length : Int) v2_1 (v3_1.1, (v54, v3_1.2.2)) (IntKind.i64.wrap (v54 + (1 : Int))) < LLine.mes9 x0 (v3.1.length : Int) v2_1 v3_1 v54)) ∧
 ((decide (v62 > v69)) = false →
 (LLine.inv9 x0 (v3.1.length : Int) v2_1 v3_1 (IntKind.i64.wrap (v54 + (1 : Int))) ∧ LLine.mes9 x0 (v3.1.length : Int) v2_1 v3_1 (IntKind.i64.wrap (v54 + (1 : Int))) < LLine.mes9 x0 (v3.1.length : Int) v2_1 v3_1 v54)))))) ∧
 ((decide (v54 < (v3.1.length : Int))) = false →
 (Ret1 v3_1 (LLine.fn x0)))))))))
theorem U8s.take {l : List Int} (h : U8s l) (n : Nat) : U8s (l.take n) := fun s hs => h s (List.mem_of_mem_take hs)
theorem LLine.vc : LLine.VC := by
  intro l hp
  have hp : U8s l := hp
  have hq := hp.take 60
  have hlen : (l.take 60).length ≤ 60 := by simp; omega
  have e60 : KSome.fn l 60 = l.take 60 := rfl
  simp only [e60]
  have hN : (lineN l).length = (l.take 60).length + 1 := lnodes_len _ _
  simp only [imp_self, true_and, and_true, Bool.cond_true_left, Bool.cond_false_right, Bool.or_eq_true, Bool.or_eq_false_iff, Bool.and_eq_true, Bool.and_eq_false_iff, decide_eq_true_eq, decide_eq_false_iff_not, Bool.not_eq_true', Bool.not_eq_false', beq_iff_eq, bne_iff_ne, ne_eq, beq_eq_false_iff_ne, bne_eq_false_iff_eq, Int.not_lt, Int.not_le, gt_iff_lt, ge_iff_le, Decidable.not_not, Bool.not_eq_true, Bool.not_eq_false]
  try simp only [par_fold, hgt_fold, hsh_fold]
  refine ⟨(by show (0:Int) ≤ 60; omega), ⟨by omega, by omega, rfl⟩, ?_⟩
  rintro v2 v3 v ⟨k1, k2, rfl⟩
  have hl3 := lnodes_len (l.take 60) v.toNat
  refine ⟨fun hc => ?_, fun hc => ?_⟩
  · obtain ⟨g1, g2⟩ := hq.get v.toNat
    obtain ⟨c1, c2⟩ := kOf_rng k1 (by omega) g1 g2
    have hk : (if (0 : Int) < IntKind.i64.wrap (v - IntKind.i64.wrap (IntKind.i64.wrap (Int.tmod ((l.take 60).getD v.toNat 0) 4) * IntKind.i64.wrap (IntKind.u8.wrap (Int.tdiv ((l.take 60).getD v.toNat 0) 64)))) then IntKind.i64.wrap (v - IntKind.i64.wrap (IntKind.i64.wrap (Int.tmod ((l.take 60).getD v.toNat 0) 4) * IntKind.i64.wrap (IntKind.u8.wrap (Int.tdiv ((l.take 60).getD v.toNat 0) 64)))) else 0) = kOf v ((l.take 60).getD v.toNat 0) := rfl
    rw [hk]
    generalize hkk : kOf v ((l.take 60).getD v.toNat 0) = k at *
    rw [i64w (n := v + 1) (by omega) (by omega)]
    refine ⟨⟨k1, hc⟩, by omega, by omega, ⟨c1, by simp only [hl3]; omega⟩, room_of (by simp [hl3]; omega) (by omega), ⟨by omega, by omega, ?_⟩, by simp only [LLine.mes3]; omega⟩
    rw [show (v + 1).toNat = v.toNat + 1 by omega, lnodes, show ((v.toNat : Nat) : Int) = v by omega, hkk]
    rfl
  · have hv : v.toNat = (l.take 60).length := by omega
    rw [hv]
    have hfold : lnodes (l.take 60) (l.take 60).length = lineN l := rfl
    rw [hfold]
    refine ⟨⟨rfl, by omega, by omega, rfl⟩, ?_⟩
    rintro w2 w3 u ⟨j0, j1, j2, rfl⟩
    refine ⟨fun hd => ?_, fun hd => ?_⟩
    · obtain ⟨b1, b2⟩ := bestN_rng (lineN l) (by omega) u.toNat (by omega)
      have hu : ((u.toNat : Nat) : Int) = u := by omega
      have hs : bestN (lineN l) (u + 1).toNat = if hgt (lineN l, (0, ())) u > hgt (lineN l, (0, ())) (bestN (lineN l) u.toNat) then u else bestN (lineN l) u.toNat := by
        rw [show (u + 1).toNat = u.toNat + 1 by omega, bestN, hu]
      refine ⟨⟨j1, by omega⟩, ⟨b1, b2⟩, fun he => ?_, fun he => ?_⟩
      · rw [i64w (by omega) (by omega)]
        have he' : hgt (lineN l, (0, ())) u > hgt (lineN l, (0, ())) (bestN (lineN l) u.toNat) := he
        exact ⟨⟨j0, by omega, by omega, by rw [hs, if_pos he']⟩, by simp only [LLine.mes9]; omega⟩
      · rw [i64w (by omega) (by omega)]
        have he' : ¬ (hgt (lineN l, (0, ())) u > hgt (lineN l, (0, ())) (bestN (lineN l) u.toNat)) := Int.not_lt.2 he
        exact ⟨⟨j0, by omega, by omega, by rw [hs, if_neg he']⟩, by simp only [LLine.mes9]; omega⟩
    · refine ret1.2 ?_
      have : u.toNat = (lineN l).length := by omega
      rw [this]; rfl

theorem lnodes_get (l : List Int) (m : Nat) (i : Nat) (d : Nd) (h : i ≤ m) : (lnodes l (m + 1)).getD i d = (lnodes l m).getD i d := by
  simp only [lnodes, List.getD_eq_getElem?_getD]
  rw [List.getElem?_append_left (by rw [lnodes_len]; omega)]
theorem lnodes_new (l : List Int) (m : Nat) (d : Nd) : (lnodes l (m + 1)).getD (m + 1) d = nodeN m (kOf m (l.getD m 0)) (IntKind.i64.wrap (((lnodes l m).getD (kOf m (l.getD m 0)).toNat nd0).2.2.2.1 + 1)) := by
  simp only [lnodes, List.getD_eq_getElem?_getD]
  rw [List.getElem?_append_right (by rw [lnodes_len]; omega), lnodes_len]
  simp
theorem lnodes_snd {l : List Int} (h : U8s l) : ∀ (m : Nat), m ≤ 60 → ∀ b, SndTo (lnodes l m, (b, ())) (m + 1) ∧ par (lnodes l m, (b, ())) 0 = -1 ∧ hgt (lnodes l m, (b, ())) 0 = 0 := by
  intro m
  induction m with
  | zero => intro _ b; exact ⟨fun i h1 h2 => by omega, rfl, rfl⟩
  | succ m ih =>
    intro hm b
    obtain ⟨i1, i2, i3⟩ := ih (by omega) b
    have old : ∀ i : Int, i ≤ m → par (lnodes l (m + 1), (b, ())) i = par (lnodes l m, (b, ())) i ∧ hgt (lnodes l (m + 1), (b, ())) i = hgt (lnodes l m, (b, ())) i := by
      intro i hi
      simp only [par, hgt]
      rw [lnodes_get l m i.toNat nd0 (by omega)]
      exact ⟨rfl, rfl⟩
    refine ⟨fun i h1 h2 => ?_, by rw [(old 0 (by omega)).1, i2], by rw [(old 0 (by omega)).2, i3]⟩
    by_cases e : i = (m : Int) + 1
    · subst e
      obtain ⟨g1, g2⟩ := h.get m
      obtain ⟨c1, c2⟩ := kOf_rng (i := m) (s := l.getD m 0) (by omega) (by omega) g1 g2
      have hp : par (lnodes l (m + 1), (b, ())) ((m : Int) + 1) = kOf m (l.getD m 0) := by
        simp only [par]; rw [show ((m : Int) + 1).toNat = m + 1 by omega, lnodes_new]; rfl
      have hh : hgt (lnodes l (m + 1), (b, ())) ((m : Int) + 1) = IntKind.i64.wrap (hgt (lnodes l m, (b, ())) (kOf m (l.getD m 0)) + 1) := by
        simp only [hgt]; rw [show ((m : Int) + 1).toNat = m + 1 by omega, lnodes_new]; rfl
      rw [hp]
      exact ⟨c1, by omega, by rw [hh, (old _ c2).2]⟩
    · obtain ⟨a1, a2, a3⟩ := i1 i h1 (by omega)
      rw [(old i (by omega)).1, (old i (by omega)).2, (old _ (by omega)).2]
      exact ⟨a1, a2, a3⟩
theorem line_len (l : List Int) : 1 ≤ (LLine.fn l).1.length ∧ (LLine.fn l).1.length ≤ 61 := by
  have : (LLine.fn l).1.length = (l.take 60).length + 1 := lnodes_len _ _
  rw [this]; simp; omega
theorem line_snd {l : List Int} (h : U8s l) : Snd (LLine.fn l) := by
  have hl : (LLine.fn l).1.length = (l.take 60).length + 1 := lnodes_len _ _
  have h60 : (l.take 60).length ≤ 60 := by simp; omega
  obtain ⟨b1, b2⟩ := bestN_rng (lineN l) (by have := hl; simp only [LLine.fn] at this; omega) (lineN l).length (Nat.le_refl _)
  obtain ⟨s1, s2, s3⟩ := lnodes_snd (h.take 60) (l.take 60).length h60 (bestN (lineN l) (lineN l).length)
  refine ⟨⟨by omega, by omega⟩, ⟨b1, b2⟩, ⟨s2, s3⟩, ?_⟩
  have : ((LLine.fn l).1.length : Int) = (l.take 60).length + 1 := by omega
  rw [this]; exact s1

/-! ## The laws -/
def LSane.pre : Prop := True
def LSane.fn : Bool := true
def LSane.VC : Prop := LSane.pre →
 (0 ≤ (30 : Int) ∧ (30 : Int) ≤ (30 : Int)) ∧
 Room ((30 : Int)).toNat 1 ∧
 LLine.pre (List.replicate ((30 : Int)).toNat (0 : Int)) ∧
 BLocator.pre (LLine.fn (List.replicate ((30 : Int)).toNat (0 : Int))) (30 : Int) ∧
 (let v6 : (List (List Int)) := (BLocator.fn (LLine.fn (List.replicate ((30 : Int)).toNat (0 : Int))) (30 : Int))
 (((v6.length : Int) == (14 : Int)) = true → ((v6.length : Int) == (14 : Int)) = true) ∧
 (((v6.length : Int) == (14 : Int)) = true → (0 ≤ (10 : Int) ∧ (10 : Int) < (v6.length : Int))) ∧
 (((v6.length : Int) == (14 : Int)) = true → ((v6.length : Int) == (14 : Int)) = true) ∧
 (((v6.length : Int) == (14 : Int)) = true → ((v6.length : Int) == (14 : Int)) = true) ∧
 (((v6.length : Int) == (14 : Int)) = true → ((v6.length : Int) == (14 : Int)) = true) ∧
 (((v6.length : Int) == (14 : Int)) = true → (0 ≤ (19 : Int) ∧ (19 : Int) < ((LLine.fn (List.replicate ((30 : Int)).toNat (0 : Int))).1.length : Int))) ∧
 (((v6.length : Int) == (14 : Int)) = true → ((v6.length : Int) == (14 : Int)) = true) ∧
 (((v6.length : Int) == (14 : Int)) = true → ((v6.length : Int) == (14 : Int)) = true) ∧
 (((v6.length : Int) == (14 : Int)) = true → ((v6.length : Int) == (14 : Int)) = true) ∧
 (((v6.length : Int) == (14 : Int)) = true → ((v6.length : Int) == (14 : Int)) = true) ∧
 (((v6.length : Int) == (14 : Int)) = true → ((v6.length : Int) == (14 : Int)) = true) ∧
 (let v20 : Bool := (bif ((v6.length : Int) == (14 : Int)) then (Ty.beq (.arr 32 (.int .u8)) (v6.getD (Int.toNat (10 : Int)) (List.replicate 32 (0 : Int))) ((LLine.fn (List.replicate ((30 : Int)).toNat (0 : Int))).1.getD (Int.toNat (19 : Int)) (((0 : Int), ((List.replicate 32 (0 : Int)), ((List.replicate 32 (0 : Int)), ((0 : Int), ((0 : Int), ((0 : Int), ())))))), ((List.replicate 32 (0 : Int)), ((0 : Int), ((0 : Int), ((List.replicate 4 (0 : Int)), ())))))).2.1) else false)
 (v20 = true → v20 = true) ∧
 (v20 = true → (0 ≤ (12 : Int) ∧ (12 : Int) < (v6.length : Int))) ∧
 (v20 = true → v20 = true) ∧
 (v20 = true → v20 = true) ∧
 (v20 = true → v20 = true) ∧
 (v20 = true → (0 ≤ (7 : Int) ∧ (7 : Int) < ((LLine.fn (List.replicate ((30 : Int)).toNat (0 : Int))).1.length : Int))) ∧
 (v20 = true → v20 = true) ∧
 (v20 = true → v20 = true) ∧
 (v20 = true → v20 = true) ∧
 (v20 = true → v20 = true) ∧
 (v20 = true → v20 = true) ∧
 (let v31 : Bool := (bif v20 then (Ty.beq (.arr 32 (.int .u8)) (v6.getD (Int.toNat (12 : Int)) (List.replicate 32 (0 : Int))) ((LLine.fn (List.replicate ((30 : Int)).toNat (0 : Int))).1.getD (Int.toNat (7 : Int)) (((0 : Int), ((List.replicate 32 (0 : Int)), ((List.replicate 32 (0 : Int)), ((0 : Int), ((0 : Int), ((0 : Int), ())))))), ((List.replicate 32 (0 : Int)), ((0 : Int), ((0 : Int), ((List.replicate 4 (0 : Int)), ())))))).2.1) else false)
 (v31 = true → v31 = true) ∧
 (v31 = true → (0 ≤ (13 : Int) ∧ (13 : Int) < (v6.length : Int))) ∧
 (v31 = true → v31 = true) ∧
 (v31 = true → v31 = true) ∧
 (v31 = true → v31 = true) ∧
 (v31 = true → (0 ≤ (0 : Int) ∧ (0 : Int) < ((LLine.fn (List.replicate ((30 : Int)).toNat (0 : Int))).1.length : Int))) ∧
 (v31 = true → v31 = true) ∧
 (v31 = true → v31 = true) ∧
 (v31 = true → v31 = true) ∧
 (v31 = true → v31 = true) ∧
 (v31 = true → v31 = true) ∧
 (let v42 : Bool := (bif v31 then (Ty.beq (.arr 32 (.int .u8)) (v6.getD (Int.toNat (13 : Int)) (List.replicate 32 (0 : Int))) ((LLine.fn (List.replicate ((30 : Int)).toNat (0 : Int))).1.getD (Int.toNat (0 : Int)) (((0 : Int), ((List.replicate 32 (0 : Int)), ((List.replicate 32 (0 : Int)), ((0 : Int), ((0 : Int), ((0 : Int), ())))))), ((List.replicate 32 (0 : Int)), ((0 : Int), ((0 : Int), ((List.replicate 4 (0 : Int)), ())))))).2.1) else false)
 (v42 = true → v42 = true) ∧
 (v42 = true → BFork.pre (LLine.fn (List.replicate ((30 : Int)).toNat (0 : Int))) (3 : Int) (9 : Int)) ∧
 (v42 = true → v42 = true) ∧
 (v42 = true → v42 = true) ∧
 (let v47 : Bool := (bif v42 then ((BFork.fn (LLine.fn (List.replicate ((30 : Int)).toNat (0 : Int))) (3 : Int) (9 : Int)) == (3 : Int)) else false)
 (v47 = true → v47 = true) ∧
 (v47 = true → BMain.pre (LLine.fn (List.replicate ((30 : Int)).toNat (0 : Int)))) ∧
 (v47 = true → v47 = true) ∧
 (v47 = true → v47 = true) ∧
 (v47 = true → v47 = true) ∧
 (let v53 : Bool := (bif v47 then (((BMain.fn (LLine.fn (List.replicate ((30 : Int)).toNat (0 : Int)))).length : Int) == (31 : Int)) else false)
 (Ret1 v53 LSane.fn)))))))
def ST : Tr := LLine.fn (List.replicate 30 0)
theorem st_u8 : U8s (List.replicate 30 0) := fun s hs => by
  have := List.eq_of_mem_replicate hs
  omega
theorem st_snd : Snd ST := line_snd st_u8
theorem st_len : ST.1.length = 31 := by kernel_rfl
theorem st_nod {n : Int} (h1 : 0 ≤ n) (h2 : n < 31) : Nod ST n := ⟨h1, by rw [st_len]; exact h2⟩
theorem st_line : lineOf ST 30 = [0, 1, 2, 3, 4, 5, 6, 7, 8, 9, 10, 11, 12, 13, 14, 15, 16, 17, 18, 19, 20, 21, 22, 23, 24, 25, 26, 27, 28, 29, 30] := by kernel_rfl
theorem st_hs : locHs (hgt ST 30) = [30, 29, 28, 27, 26, 25, 24, 23, 22, 21, 19, 15, 7, 0] := by kernel_rfl
theorem st_loc : BLocator.fn ST 30 = [hsh ST 30, hsh ST 29, hsh ST 28, hsh ST 27, hsh ST 26, hsh ST 25, hsh ST 24, hsh ST 23, hsh ST 22, hsh ST 21, hsh ST 19, hsh ST 15, hsh ST 7, hsh ST 0] := by
  rw [BLocator.fn, if_pos ⟨st_snd, st_nod (by omega) (by omega)⟩, st_hs]
  simp only [List.map_cons, List.map_nil, hashAt, st_line]
  rfl
theorem st_fork : BFork.fn ST 3 9 = 3 := by
  rw [BFork.fn, forkOf, if_pos ⟨st_snd, st_nod (by omega) (by omega), st_nod (by omega) (by omega)⟩]
  kernel_rfl
theorem st_main : (BMain.fn ST).length = 31 := by
  rw [BMain.fn, if_pos st_snd, lineOf_len]
  kernel_rfl
theorem LSane.vc : LSane.VC := by
  intro _
  have e0 : LLine.fn (List.replicate ((30 : Int)).toNat (0 : Int)) = ST := rfl
  refine ⟨by omega, room_of (by decide) (by omega), st_u8, ?_⟩
  rw [e0]
  have hl := st_len
  have hm := st_main
  have hf := st_fork
  have v1 : (BLocator.fn ST 30).length = 14 := by rw [st_loc]; rfl
  have v2 : (BLocator.fn ST 30).getD (Int.toNat 10) (List.replicate 32 0) = hsh ST 19 := by rw [st_loc]; rfl
  have v3 : (BLocator.fn ST 30).getD (Int.toNat 12) (List.replicate 32 0) = hsh ST 7 := by rw [st_loc]; rfl
  have v4 : (BLocator.fn ST 30).getD (Int.toNat 13) (List.replicate 32 0) = hsh ST 0 := by rw [st_loc]; rfl
  refine ⟨(by show ST.1.length ≤ 100; omega), ?_⟩
  generalize BLocator.fn ST 30 = V at *
  have b1 : ((BFork.fn ST 3 9) == (3 : Int)) = true := by rw [hf]; rfl
  have b2 : (((BMain.fn ST).length : Int) == 31) = true := by rw [hm]; rfl
  simp only [hsh_fold, b1, b2, v2, v3, v4, beq_self, hl, v1, BFork.pre, BMain.pre]
  simp [LSane.fn, ret1]
def BranchLines.pre (t : Tr) (l : List Int) (a b h : Int) : Prop := U8s l
def BranchLines.fn (t : Tr) (l : List Int) (a b h : Int) : Bool := true
def BranchLines.inv6 (t : Tr) (l : List Int) (a b h v : Int) : Prop := 0 ≤ v ∧ v ≤ 2
def BranchLines.mes6 (t : Tr) (l : List Int) (a b h v : Int) : Nat := (2 - v).toNat
def BranchLines.VC : Prop := ∀ (x0 : ((List ((Int × ((List Int) × ((List Int) × (Int × (Int × (Int × Unit)))))) × ((List Int) × (Int × (Int × ((List Int) × Unit)))))) × (Int × Unit))) (x1 : (List Int)) (x2 : Int) (x3 : Int) (x4 : Int), BranchLines.pre x0 x1 x2 x3 x4 →
 LSane.pre ∧
 (((!(LSane.fn)) = true →
 (Ret1 false (BranchLines.fn x0 x1 x2 x3 x4))) ∧
 ((!(LSane.fn)) = false →
 KTree.pre x0 (30 : Int) ∧
 (((!(KTree.fn x0 (30 : Int))) = true →
 (Ret1 true (BranchLines.fn x0 x1 x2 x3 x4))) ∧
 ((!(KTree.fn x0 (30 : Int))) = false →
 LLine.pre x1 ∧
 (BranchLines.inv6 x0 x1 x2 x3 x4 (0 : Int) ∧
 ∀ (v23 : Int), BranchLines.inv6 x0 x1 x2 x3 x4 v23 →
 (((decide (v23 < ([x0, (LLine.fn x1)].length : Int))) = true →
 (0 ≤ v23 ∧ v23 < ([x0, (LLine.fn x1)].length : Int)) ∧
 (let v26 : ((List ((Int × ((List Int) × ((List Int) × (Int × (Int × (Int × Unit)))))) × ((List Int) × (Int × (Int × ((List Int) × Unit)))))) × (Int × Unit)) := ([x0, (LLine.fn x1)].getD (Int.toNat v23) ([], ((0 : Int), ())))
 BMain.pre v26 ∧
 QMain.pre v26 ∧
 QSameInts.pre (BMain.fn v26) (QMain.fn v26) ∧
 ((!(QSameInts.fn (BMain.fn v26) (QMain.fn v26))) = false → (!(QSameInts.fn (BMain.fn v26) (QMain.fn v26))) = false) ∧
 ((!(QSameInts.fn (BMain.fn v26) (QMain.fn v26))) = false → (!(QSameInts.fn (BMain.fn v26) (QMain.fn v26))) = false) ∧
 ((!(QSameInts.fn (BMain.fn v26) (QMain.fn v26))) = false → (!(QSameInts.fn (BMain.fn v26) (QMain.fn v26))) = false) ∧
 ((!(QSameInts.fn (BMain.fn v26) (QMain.fn v26))) = false → BAncestor.pre v26 x2 x4) ∧
 ((!(QSameInts.fn (BMain.fn v26) (QMain.fn v26))) = false → (!(QSameInts.fn (BMain.fn v26) (QMain.fn v26))) = false) ∧
 ((!(QSameInts.fn (BMain.fn v26) (QMain.fn v26))) = false → (!(QSameInts.fn (BMain.fn v26) (QMain.fn v26))) = false) ∧
 ((!(QSameInts.fn (BMain.fn v26) (QMain.fn v26))) = false → (!(QSameInts.fn (BMain.fn v26) (QMain.fn v26))) = false) ∧
 ((!(QSameInts.fn (BMain.fn v26) (QMain.fn v26))) = false → QAncestor.pre v26 x2 x4) ∧
 ((!(QSameInts.fn (BMain.fn v26) (QMain.fn v26))) = false → (!(QSameInts.fn (BMain.fn v26) (QMain.fn v26))) = false) ∧
 ((!(QSameInts.fn (BMain.fn v26) (QMain.fn v26))) = false → (!(QSameInts.fn (BMain.fn v26) (QMain.fn v26))) = false) ∧
 ((!(QSameInts.fn (BMain.fn v26) (QMain.fn v26))) = false → (!(QSameInts.fn (BMain.fn v26) (QMain.fn v26))) = false) ∧
 (let v43 : Bool := (bif (!(QSameInts.fn (BMain.fn v26) (QMain.fn v26))) then true else ((BAncestor.fn v26 x2 x4) != (QAncestor.fn v26 x2 x4)))
 (v43 = false → v43 = false) ∧
 (v43 = false → v43 = false) ∧
 (v43 = false → v43 = false) ∧
 (v43 = false → BFork.pre v26 x2 x3) ∧
 (v43 = false → v43 = false) ∧
 (v43 = false → v43 = false) ∧
 (v43 = false → v43 = false) ∧
 (v43 = false → QFork.pre v26 x2 x3) ∧
 (v43 = false → v43 = false) ∧
 (v43 = false → v43 = false) ∧
 (v43 = false → v43 = false) ∧
 (let v54 : Bool := (bif v43 then true else ((BFork.fn v26 x2 x3) != (QFork.fn v26 x2 x3)))
 ((v54 = true →
 (Ret1 false (BranchLines.fn x0 x1 x2 x3 x4))) ∧
 (v54 = false →
 (BranchLines.inv6 x0 x1 x2 x3 x4 (IntKind.i64.wrap (v23 + (1 : Int))) ∧ BranchLines.mes6 x0 x1 x2 x3 x4 (IntKind.i64.wrap (v23 + (1 : Int))) < BranchLines.mes6 x0 x1 x2 x3 x4 v23))))))) ∧
 ((decide (v23 < ([x0, (LLine.fn x1)].length : Int))) = false →
 (Ret1 true (BranchLines.fn x0 x1 x2 x3 x4)))))))))
theorem main_len (t : Tr) : (BMain.fn t).length ≤ 1000000000 := by
  unfold BMain.fn
  split
  · rename_i h
    rw [lineOf_len]
    have := hgt_nn h h.2.1
    have := h.1.2
    have := h.2.1.2
    omega
  · simp
theorem BranchLines.vc : BranchLines.VC := by
  intro t l a b h hp
  have hm : ∀ u, BMain.fn u = QMain.fn u := fun _ => rfl
  have ha : ∀ u x y, BAncestor.fn u x y = QAncestor.fn u x y := fun _ _ _ => rfl
  have hf : ∀ u x y, BFork.fn u x y = QFork.fn u x y := fun _ _ _ => rfl
  have hq : ∀ x, QSameInts.fn x x = true := fun x => decide_eq_true rfl
  simp only [hm, ha, hf, hq]
  simp only [imp_self, true_and, and_true, Bool.cond_true_left, Bool.cond_false_right, Bool.or_eq_true, Bool.or_eq_false_iff, Bool.and_eq_true, Bool.and_eq_false_iff, decide_eq_true_eq, decide_eq_false_iff_not, Bool.not_eq_true', Bool.not_eq_false', beq_iff_eq, bne_iff_ne, ne_eq, beq_eq_false_iff_ne, bne_eq_false_iff_eq, Int.not_lt, Int.not_le, gt_iff_lt, ge_iff_le, Decidable.not_not, Bool.not_eq_true, Bool.not_eq_false]
  try simp only [par_fold, hgt_fold, hsh_fold]
  refine ⟨trivial, fun h => by simp [LSane.fn] at h, fun _ => ⟨trivial, fun _ => rfl, fun _ => ⟨hp, ⟨by omega, by omega⟩, ?_⟩⟩⟩
  rintro v ⟨k1, k2⟩
  simp only [List.length_cons, List.length_nil]
  refine ⟨fun hc => ?_, fun _ => rfl⟩
  rw [i64w (n := v + 1) (by omega) (by omega)]
  refine ⟨⟨k1, hc⟩, trivial, trivial, main_len _, ?_⟩
  simp [BranchLines.inv6, BranchLines.mes6, BAncestor.pre, QAncestor.pre, BFork.pre, QFork.pre]
  omega

theorem loc_facts : ∀ h : Fin 61, (locHs (h.val : Int)).length ≤ 18 ∧ 1 ≤ (locHs (h.val : Int)).length ∧ (locHs (h.val : Int)).getD 0 0 = h.val ∧ (locHs (h.val : Int)).getD ((locHs (h.val : Int)).length - 1) 0 = 0 ∧
    (∀ j : Fin 18, j.val + 1 < (locHs (h.val : Int)).length → (locHs (h.val : Int)).getD (j.val + 1) 0 < (locHs (h.val : Int)).getD j.val 0) ∧ ∀ j : Fin 18, 0 ≤ (locHs (h.val : Int)).getD j.val 0 ∧ (locHs (h.val : Int)).getD j.val 0 ≤ h.val := by decide +kernel

def BranchShort.pre (l : List Int) (n : Int) : Prop := U8s l ∧ 0 ≤ n ∧ n ≤ 255
def BranchShort.fn (l : List Int) (n : Int) : Bool := true
def shortK (l : List Int) (n : Int) : Int := Int.tmod (IntKind.i64.wrap n) ((LLine.fn l).1.length : Int)
def shortH (l : List Int) (n : Int) : List Int := locHs (hgt (LLine.fn l) (shortK l n))
def BranchShort.inv10 (l : List Int) (n : Int) (t : Tr) (v8 v69 : Int) : Prop := t = LLine.fn l ∧ 0 ≤ v69 ∧ v69 ≤ (shortH l n).length ∧ 0 ≤ v8 ∧ v8 ≤ hgt (LLine.fn l) (shortK l n) + 1 ∧ (v69 < (shortH l n).length → (shortH l n).getD v69.toNat 0 < v8)
def BranchShort.mes10 (l : List Int) (n : Int) (t : Tr) (v8 v69 : Int) : Nat := ((shortH l n).length - v69).toNat
def BranchShort.inv14 (l : List Int) (n s69 : Int) (t : Tr) (v8 : Int) (v10 : List Int) (v11 : Bool) (v12 : Int) : Prop := t = LLine.fn l ∧ 0 ≤ s69 ∧ s69 < (shortH l n).length ∧ v10 = hashAt (LLine.fn l) (shortK l n) ((shortH l n).getD s69.toNat 0) ∧ 0 ≤ v8 ∧ v8 ≤ hgt (LLine.fn l) (shortK l n) + 1 ∧ v12 ≤ hgt (LLine.fn l) (shortK l n) ∧ -1 ≤ v12 ∧
  (v11 = true → (shortH l n).getD s69.toNat 0 ≤ v8) ∧ (v11 = false → (shortH l n).getD s69.toNat 0 ≤ v12)
def BranchShort.mes14 (l : List Int) (n s69 : Int) (t : Tr) (v8 : Int) (v10 : List Int) (v11 : Bool) (v12 : Int) : Nat := (v12 + 1).toNat
def BranchShort.VC : Prop := ∀ (x0 : (List Int)) (x1 : Int), BranchShort.pre x0 x1 →
 LSane.pre ∧
 (((!(LSane.fn)) = true →
 (Ret1 false (BranchShort.fn x0 x1))) ∧
 ((!(LSane.fn)) = false →
 LLine.pre x0 ∧
 ((LLine.fn x0).1.length : Int) ≠ 0 ∧
 (let v22 : Int := (Int.tmod (IntKind.i64.wrap x1) ((LLine.fn x0).1.length : Int))
 BLocator.pre (LLine.fn x0) v22 ∧
 (let v28 : Bool := (((BLocator.fn (LLine.fn x0) v22).length : Int) == (0 : Int))
 (v28 = false → v28 = false) ∧
 (v28 = false → v28 = false) ∧
 (v28 = false → v28 = false) ∧
 (let v33 : Bool := (bif v28 then true else (decide (((BLocator.fn (LLine.fn x0) v22).length : Int) > (18 : Int))))
 (v33 = false → v33 = false) ∧
 (v33 = false → (0 ≤ (0 : Int) ∧ (0 : Int) < ((BLocator.fn (LLine.fn x0) v22).length : Int))) ∧
 (v33 = false → v33 = false) ∧
 (v33 = false → v33 = false) ∧
 (v33 = false → v33 = false) ∧
 (v33 = false → v33 = false) ∧
 (v33 = false → (0 ≤ v22 ∧ v22 < ((LLine.fn x0).1.length : Int))) ∧
 (v33 = false → v33 = false) ∧
 (v33 = false → v33 = false) ∧
 (v33 = false → v33 = false) ∧
 (v33 = false → v33 = false) ∧
 (v33 = false → v33 = false) ∧
 (let v45 : Bool := (bif v33 then true else (!(Ty.beq (.arr 32 (.int .u8)) ((BLocator.fn (LLine.fn x0) v22).getD (Int.toNat (0 : Int)) (List.replicate 32 (0 : Int))) ((LLine.fn x0).1.getD (Int.toNat v22) (((0 : Int), ((List.replicate 32 (0 : Int)), ((List.replicate 32 (0 : Int)), ((0 : Int), ((0 : Int), ((0 : Int), ())))))), ((List.replicate 32 (0 : Int)), ((0 : Int), ((0 : Int), ((List.replicate 4 (0 : Int)), ())))))).2.1)))
 (v45 = false → v45 = false) ∧
 (v45 = false → v45 = false) ∧
 (v45 = false → v45 = false) ∧
 (v45 = false → v45 = false) ∧
 (v45 = false → (0 ≤ (IntKind.i64.wrap (((BLocator.fn (LLine.fn x0) v22).length : Int) - (1 : Int))) ∧ (IntKind.i64.wrap (((BLocator.fn (LLine.fn x0) v22).length : Int) - (1 : Int))) < ((BLocator.fn (LLine.fn x0) v22).length : Int))) ∧
 (v45 = false → v45 = false) ∧
 (v45 = false → v45 = false) ∧
 (v45 = false → v45 = false) ∧
 (v45 = false → (0 ≤ (0 : Int) ∧ (0 : Int) < ((LLine.fn x0).1.length : Int))) ∧
 (v45 = false → v45 = false) ∧
 (v45 = false → v45 = false) ∧
 (v45 = false → v45 = false) ∧
 (v45 = false → v45 = false) ∧
 (v45 = false → v45 = false) ∧
 (let v59 : Bool := (bif v45 then true else (!(Ty.beq (.arr 32 (.int .u8)) ((BLocator.fn (LLine.fn x0) v22).getD (Int.toNat (IntKind.i64.wrap (((BLocator.fn (LLine.fn x0) v22).length : Int) - (1 : Int)))) (List.replicate 32 (0 : Int))) ((LLine.fn x0).1.getD (Int.toNat (0 : Int)) (((0 : Int), ((List.replicate 32 (0 : Int)), ((List.replicate 32 (0 : Int)), ((0 : Int), ((0 : Int), ((0 : Int), ())))))), ((List.replicate 32 (0 : Int)), ((0 : Int), ((0 : Int), ((List.replicate 4 (0 : Int)), ())))))).2.1)))
 ((v59 = true →
 (Ret1 false (BranchShort.fn x0 x1))) ∧
 (v59 = false →
 (0 ≤ v22 ∧ v22 < ((LLine.fn x0).1.length : Int)) ∧
 (let v65 : Int := ((LLine.fn x0).1.getD (Int.toNat v22) (((0 : Int), ((List.replicate 32 (0 : Int)), ((List.replicate 32 (0 : Int)), ((0 : Int), ((0 : Int), ((0 : Int), ())))))), ((List.replicate 32 (0 : Int)), ((0 : Int), ((0 : Int), ((List.replicate 4 (0 : Int)), ())))))).2.2.2.1
 (BranchShort.inv10 x0 x1 (LLine.fn x0) (IntKind.i64.wrap (v65 + (1 : Int))) (0 : Int) ∧
 ∀ (v5 : ((List ((Int × ((List Int) × ((List Int) × (Int × (Int × (Int × Unit)))))) × ((List Int) × (Int × (Int × ((List Int) × Unit)))))) × (Int × Unit))) (v8 : Int) (v69 : Int), BranchShort.inv10 x0 x1 v5 v8 v69 →
 (let v70 : Bool := (decide (v69 < ((BLocator.fn (LLine.fn x0) v22).length : Int)))
 ((v70 = true →
 (0 ≤ v69 ∧ v69 < ((BLocator.fn (LLine.fn x0) v22).length : Int)) ∧
 (let v72 : (List Int) := ((BLocator.fn (LLine.fn x0) v22).getD (Int.toNat v69) (List.replicate 32 (0 : Int)))
 (BranchShort.inv14 x0 x1 v69 v5 v8 v72 false (IntKind.i64.wrap (v8 - (1 : Int))) ∧
 ∀ (v5_1 : ((List ((Int × ((List Int) × ((List Int) × (Int × (Int × (Int × Unit)))))) × ((List Int) × (Int × (Int × ((List Int) × Unit)))))) × (Int × Unit))) (v8_1 : Int) (v10 : (List Int)) (v11 : Bool) (v12 : Int), BranchShort.inv14 x0 x1 v69 v5_1 v8_1 v10 v11 v12 →
 ((decide (v12 ≥ (0 : Int))) = true → (decide (v12 ≥ (0 : Int))) = true) ∧
 ((decide (v12 ≥ (0 : Int))) = true → (decide (v12 ≥ (0 : Int))) = true) ∧
 (((bif (decide (v12 ≥ (0 : Int))) then (!v11) else false) = true →
 BAncestor.pre v5_1 v22 v12 ∧
 (0 ≤ (BAncestor.fn v5_1 v22 v12) ∧ (BAncestor.fn v5_1 v22 v12) < (v5_1.1.length : Int)) ∧
 (let v91 : (List Int) := (v5_1.1.getD (Int.toNat (BAncestor.fn v5_1 v22 v12)) (((0 : Int), ((List.replicate 32 (0 : Int)), ((List.replicate 32 (0 : Int)), ((0 : Int), ((0 : Int), ((0 : Int), ())))))), ((List.replicate 32 (0 : Int)), ((0 : Int), ((0 : Int), ((List.replicate 4 (0 : Int)), ())))))).2.1
 (((Ty.beq (.arr 32 (.int .u8)) v91 v10) = true →
 (BranchShort.inv14 x0 x1 v69 v5_1 v12 v10 true (IntKind.i64.wrap (v12 - (1 : Int))) ∧ BranchShort.mes14 x0 x1 v69 v5_1 v12 v10 true (IntKind.i64.wrap (v12 - (1 : Int))) < BranchShort.mes14 x0 x1 v69 v5_1 v8_1 v10 v11 v12)) ∧
 ((Ty.beq (.arr 32 (.int .u8)) v91 v10) = false →
 (BranchShort.inv14 x0 x1 v69 v5_1 v8_1 v10 v11 (IntKind.i64.wrap (v12 - (1 : Int))) ∧ BranchShort.mes14 x0 x1 v69 v5_1 v8_1 v10 v11 (IntKind.i64.wrap (v12 - (1 : Int))) < BranchShort.mes14 x0 x1 v69 v5_1 v8_1 v10 v11 v12))))) ∧
 ((bif (decide (v12 ≥ (0 : Int))) then (!v11) else false) = false →
 (((!v11) = true →
 (Ret1 false (BranchShort.fn x0 x1))) ∧
 ((!v11) = false →
 (BranchShort.inv10 x0 x1 v5_1 v8_1 (IntKind.i64.wrap (v69 + (1 : Int))) ∧ BranchShort.mes10 x0 x1 v5_1 v8_1 (IntKind.i64.wrap (v69 + (1 : Int))) < BranchShort.mes10 x0 x1 v5 v8 v69)))))))) ∧
 (v70 = false →
 (Ret1 true (BranchShort.fn x0 x1))))))))))))))))
theorem map_get (f : Int → List Int) (l : List Int) (i : Nat) (d : List Int) (h : i < l.length) : (l.map f).getD i d = f (l.getD i 0) := by
  simp [List.getD_eq_getElem?_getD, h]
theorem BranchShort.vc : BranchShort.VC := by
  rintro l n ⟨hU, n1, n2⟩
  have hS := line_snd hU
  have hlen := line_len l
  have hfk : Int.tmod (IntKind.i64.wrap n) ((LLine.fn l).1.length : Int) = shortK l n := rfl
  have hk : Nod (LLine.fn l) (shortK l n) := by
    rw [← hfk, i64w (by omega) (by omega), Int.tmod_eq_emod_of_nonneg n1]
    exact ⟨Int.emod_nonneg _ (by omega), Int.emod_lt_of_pos _ (by omega)⟩
  have hH := hgt_nn hS hk
  have hk2 := hk.2
  obtain ⟨f1, f2, f3, f4, f5, f6⟩ := loc_facts ⟨(hgt (LLine.fn l) (shortK l n)).toNat, by omega⟩
  have hHt : (((hgt (LLine.fn l) (shortK l n)).toNat : Nat) : Int) = hgt (LLine.fn l) (shortK l n) := by omega
  simp only [hHt] at f1 f2 f3 f4 f5 f6
  have hsf : locHs (hgt (LLine.fn l) (shortK l n)) = shortH l n := rfl
  rw [hsf] at f1 f2 f3 f4
  simp only [hsf] at f5 f6
  have hloc : BLocator.fn (LLine.fn l) (shortK l n) = (shortH l n).map (hashAt (LLine.fn l) (shortK l n)) := by rw [BLocator.fn, if_pos ⟨hS, hk⟩]; rfl
  have hroot := line_root hS hk
  have hself : hashAt (LLine.fn l) (shortK l n) (hgt (LLine.fn l) (shortK l n)) = hsh (LLine.fn l) (shortK l n) := by
    rw [hashAt, lineOf_get (by omega), Nat.sub_self]; rfl
  simp only [hfk, hloc, List.length_map]
  generalize hT : LLine.fn l = T at *
  generalize hK : shortK l n = k at *
  generalize hHS : shortH l n = HS at *
  have g0 : (List.map (hashAt T k) HS).getD (Int.toNat 0) (List.replicate 32 0) = hsh T k := by
    rw [map_get _ _ _ _ (by simp; omega)]; simp only [Int.toNat_zero]; rw [f3]; exact hself
  have gw : IntKind.i64.wrap ((HS.length : Int) - 1) = (HS.length : Int) - 1 := i64w (by omega) (by omega)
  have g1 : (List.map (hashAt T k) HS).getD ((HS.length : Int) - 1).toNat (List.replicate 32 0) = hsh T 0 := by
    rw [map_get _ _ _ _ (by omega), show ((HS.length : Int) - 1).toNat = HS.length - 1 by omega, f4]
    simp only [hashAt, Int.toNat_zero, hroot]
  have hH60 : hgt T k ≤ 60 := by omega
  have f6' : ∀ j : Nat, j < HS.length → 0 ≤ HS.getD j 0 ∧ HS.getD j 0 ≤ hgt T k := fun j hj => f6 ⟨j, by omega⟩
  have hanc : ∀ v, 0 ≤ v → v ≤ hgt T k → BAncestor.fn T k v = (lineOf T k).getD v.toNat 0 := fun v h1 h2 => by
    rw [BAncestor.fn, ancOf, if_pos ⟨hS, hk, h1, h2⟩]
  simp only [imp_self, true_and, and_true, Bool.cond_true_left, Bool.cond_false_right, Bool.or_eq_true, Bool.or_eq_false_iff, Bool.and_eq_true, Bool.and_eq_false_iff, decide_eq_true_eq, decide_eq_false_iff_not, Bool.not_eq_true', Bool.not_eq_false', beq_iff_eq, bne_iff_ne, ne_eq, beq_eq_false_iff_ne, bne_eq_false_iff_eq, Int.not_lt, Int.not_le, gt_iff_lt, ge_iff_le, Decidable.not_not, Bool.not_eq_true, Bool.not_eq_false]
  try simp only [par_fold, hgt_fold, hsh_fold]
  rw [g0, gw, g1, beq_self, beq_self]
  refine ⟨trivial, fun h => by simp [LSane.fn] at h, fun _ => ⟨hU, by omega, (by show T.1.length ≤ 100; omega), fun _ => by omega, fun _ => hk, fun _ => by omega, fun _ => by omega, fun h => ?_, fun _ => ⟨hk, ?_, ?_⟩⟩⟩
  · rcases h with ((h | h) | h) | h
    · omega
    · omega
    · cases h
    · cases h
  · rw [i64w (by omega) (by omega)]
    refine ⟨hT.symm, by omega, by omega, by omega, by rw [hT, hK]; omega, fun _ => ?_⟩
    rw [hHS, Int.toNat_zero, f3]; omega
  · rintro v5 v8 v69 ⟨t1, i1, i2, i3, i4, i5⟩
    rw [hT] at t1; subst t1
    rw [hHS] at i2 i5
    rw [hT, hK] at i4
    refine ⟨fun hc => ⟨by omega, ?_, ?_⟩, fun _ => rfl⟩
    · have := i5 hc
      have h0 := f6' v69.toNat (by omega)
      rw [i64w (by omega) (by omega), map_get _ _ _ _ (by omega)]
      refine ⟨hT.symm, i1, by rw [hHS]; exact hc, by rw [hHS, hT, hK], i3, by rw [hT, hK]; exact i4, by rw [hT, hK]; omega, by omega, fun h => (by cases h), fun _ => by rw [hHS]; omega⟩
    · rintro w5 w8 w10 w11 w12 ⟨t2, j1, j2, rfl, j4, j5, j6, j7, j8, j9⟩
      rw [hT] at t2; subst t2
      rw [hHS] at j2 j8 j9
      rw [hT, hK] at j5 j6
      rw [hHS, hT, hK]
      have hb := f6' v69.toNat (by omega)
      refine ⟨?_, ?_⟩
      · rintro ⟨c1, c2⟩
        subst c2
        have j9 := j9 rfl
        obtain ⟨m1, m2⟩ := lineOf_nod hS hk (h := w12.toNat) (by omega)
        rw [hanc w12 c1 j6]
        rw [i64w (n := w12 - 1) (by omega) (by omega)]
        refine ⟨trivial, m1, fun he => ⟨⟨hT.symm, j1, by rw [hHS]; exact j2, by rw [hHS, hT, hK], by omega, by rw [hT, hK]; omega, by rw [hT, hK]; omega, by omega, fun _ => by rw [hHS]; exact j9, fun h => (by cases h)⟩, by simp only [BranchShort.mes14]; omega⟩, fun he => ⟨⟨hT.symm, j1, by rw [hHS]; exact j2, by rw [hHS, hT, hK], j4, by rw [hT, hK]; omega, by rw [hT, hK]; omega, by omega, fun h => (by cases h), fun _ => ?_⟩, by simp only [BranchShort.mes14]; omega⟩⟩
        rw [hHS]
        have hne : HS.getD v69.toNat 0 ≠ w12 := by
          intro e
          rw [e] at he
          have : hashAt w5 k w12 = hsh w5 ((lineOf w5 k).getD w12.toNat 0) := rfl
          rw [this, beq_self] at he; cases he
        omega
      · intro hx
        refine ⟨fun h => ?_, fun h => ?_⟩
        · subst h
          have := j9 rfl
          rcases hx with hx | hx
          · omega
          · cases hx
        · have j8 := j8 h
          rw [i64w (n := v69 + 1) (by omega) (by omega)]
          refine ⟨⟨hT.symm, by omega, by rw [hHS]; omega, j4, by rw [hT, hK]; exact j5, fun hl => ?_⟩, by simp only [BranchShort.mes10]; rw [hHS]; omega⟩
          rw [hHS] at hl ⊢
          have := f5 ⟨v69.toNat, by omega⟩ (by simp only; omega)
          simp only at this
          rw [show (v69 + 1).toNat = v69.toNat + 1 by omega]
          omega
end Lc
