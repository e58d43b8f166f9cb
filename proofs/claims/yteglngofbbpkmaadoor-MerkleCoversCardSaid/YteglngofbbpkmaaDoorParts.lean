/- Chapter 07: parts of trees: what the reader and the reference's cursor compute. -/
import Derived.Test.YteglngofbbpkmaaDoorMerkle
namespace Lc
open Go
set_option maxRecDepth 10000
set_option linter.unusedVariables false
set_option linter.unusedSimpArgs false

abbrev Prt : Type := Int × (List Bool × (List (List Int) × Unit))
abbrev Leaf : Type := Int × (List Int × Unit)
abbrev Rdr : Type := Prt × (List Leaf × Unit)
abbrev PS : Type := List Bool × List H32 × List Leaf

/-! ## Widths and heights -/
def wid (c : Int) : Nat → Int
  | 0 => c
  | k + 1 => (wid c k + 1) / 2
theorem wid_rng {c : Int} (h1 : 1 ≤ c) (h2 : c ≤ 1024) : ∀ k, 1 ≤ wid c k ∧ wid c k ≤ 1024
  | 0 => ⟨h1, h2⟩
  | k + 1 => by
    have := wid_rng h1 h2 k
    simp only [wid]; omega
def MWidth.pre (c l : Int) : Prop := (1 ≤ c ∧ c ≤ 1024) ∧ 0 ≤ l ∧ l ≤ 1000
def MWidth.fn (c l : Int) : Int := wid c l.toNat
def MWidth.inv2 (c l v0 v6 : Int) : Prop := 0 ≤ v6 ∧ v6 ≤ l ∧ v0 = wid c v6.toNat
def MWidth.mes2 (c l v0 v6 : Int) : Nat := (l - v6).toNat
def MWidth.VC : Prop := ∀ (x0 : Int) (x1 : Int), MWidth.pre x0 x1 →
 (MWidth.inv2 x0 x1 x0 (0 : Int) ∧
 ∀ (v0 : Int) (v6 : Int), MWidth.inv2 x0 x1 v0 v6 →
 (((decide (v6 < x1)) = true →
 (2 : Int) ≠ 0 ∧
 (let v10 : Int := (IntKind.i64.wrap (Int.tdiv (IntKind.i64.wrap (v0 + (1 : Int))) (2 : Int)))
 (MWidth.inv2 x0 x1 v10 (IntKind.i64.wrap (v6 + (1 : Int))) ∧ MWidth.mes2 x0 x1 v10 (IntKind.i64.wrap (v6 + (1 : Int))) < MWidth.mes2 x0 x1 v0 v6))) ∧
 ((decide (v6 < x1)) = false →
 (Ret1 v0 (MWidth.fn x0 x1)))))
theorem half {v : Int} (h1 : 1 ≤ v) (h2 : v ≤ 1024) : IntKind.i64.wrap (Int.tdiv (IntKind.i64.wrap (v + 1)) 2) = (v + 1) / 2 := by
  rw [i64w (n := v + 1) (by omega) (by omega), Int.tdiv_eq_ediv_of_nonneg (by omega), i64w (by omega) (by omega)]
theorem MWidth.vc : MWidth.VC := by
  rintro c l ⟨⟨h1, h2⟩, h3, h4⟩
  refine ⟨⟨by omega, by omega, rfl⟩, ?_⟩
  rintro v0 v6 ⟨k1, k2, k3⟩
  have hw := wid_rng h1 h2 v6.toNat
  rw [← k3] at hw
  refine ⟨fun h => ⟨by omega, ?_, ?_⟩, fun h => ret1.2 ?_⟩
  · have h : v6 < l := by simpa using h
    rw [half hw.1 hw.2, i64w (by omega) (by omega)]
    refine ⟨by omega, by omega, ?_⟩
    rw [show (v6 + 1).toNat = v6.toNat + 1 by omega, wid, ← k3]
  · have h : v6 < l := by simpa using h
    rw [i64w (n := v6 + 1) (by omega) (by omega)]
    simp only [MWidth.mes2]; omega
  · have h : ¬ v6 < l := by simpa using h
    rw [k3, MWidth.fn]; congr 1; omega

def lvl (c : Int) : Nat := if h : c ≤ 1 then 0 else lvl ((c + 1) / 2) + 1
termination_by c.toNat
decreasing_by omega
theorem lvl_small {c : Int} (h : c ≤ 1) : lvl c = 0 := by rw [lvl, dif_pos h]
theorem lvl_big {c : Int} (h : ¬ c ≤ 1) : lvl c = lvl ((c + 1) / 2) + 1 := by rw [lvl, dif_neg h]
theorem lvl_le : ∀ (m : Nat) (c : Int), c ≤ 2 ^ m → lvl c ≤ m := by
  intro m
  induction m with
  | zero => intro c h; rw [lvl_small (by simpa using h)]; omega
  | succ m ih =>
    intro c h
    by_cases hc : c ≤ 1
    · rw [lvl_small hc]; omega
    · rw [lvl_big hc]
      have : (c + 1) / 2 ≤ 2 ^ m := by
        rw [Int.pow_succ] at h; omega
      have := ih _ this
      omega
def MHeight.pre (c : Int) : Prop := 1 ≤ c ∧ c ≤ 1024
def MHeight.fn (c : Int) : Int := lvl c
def MHeight.inv2 (c v0 v3 : Int) : Prop := 1 ≤ v0 ∧ v0 ≤ 1024 ∧ 0 ≤ v3 ∧ v3 + lvl v0 = lvl c ∧ lvl c ≤ 10
def MHeight.mes2 (c v0 v3 : Int) : Nat := v0.toNat
def MHeight.VC : Prop := ∀ (x0 : Int), MHeight.pre x0 →
 (MHeight.inv2 x0 x0 (0 : Int) ∧
 ∀ (v0 : Int) (v3 : Int), MHeight.inv2 x0 v0 v3 →
 (((decide (v0 > (1 : Int))) = true →
 (2 : Int) ≠ 0 ∧
 (let v8 : Int := (IntKind.i64.wrap (Int.tdiv (IntKind.i64.wrap (v0 + (1 : Int))) (2 : Int)))
 (MHeight.inv2 x0 v8 (IntKind.i64.wrap (v3 + (1 : Int))) ∧ MHeight.mes2 x0 v8 (IntKind.i64.wrap (v3 + (1 : Int))) < MHeight.mes2 x0 v0 v3))) ∧
 ((decide (v0 > (1 : Int))) = false →
 (Ret1 v3 (MHeight.fn x0)))))
theorem MHeight.vc : MHeight.VC := by
  rintro c ⟨h1, h2⟩
  have hl := lvl_le 10 c (by simpa using h2)
  refine ⟨⟨h1, h2, by omega, by omega, hl⟩, ?_⟩
  rintro v0 v3 ⟨k1, k2, k3, k4, k5⟩
  refine ⟨fun h => ⟨by omega, ?_, ?_⟩, fun h => ret1.2 ?_⟩
  · have h : v0 > 1 := by simpa using h
    rw [lvl_big (by omega)] at k4
    rw [half k1 k2, i64w (by omega) (by omega)]
    exact ⟨by omega, by omega, by omega, by omega, k5⟩
  · have h : v0 > 1 := by simpa using h
    rw [half k1 k2]
    simp only [MHeight.mes2]; omega
  · have h : ¬ v0 > 1 := by simpa using h
    rw [lvl_small (by omega)] at k4
    simp only [MHeight.fn]; omega

/-! ## The reader -/
def takeH (f : Bool) (i : Int) (fl : List Bool) (hs : List H32) (lv : List Leaf) : PS × H32 × Bool × Int :=
  match hs with
  | [] => ((fl, [], lv), zeroH, false, 1)
  | d :: hs => ((fl, hs, if f then lv ++ [(i, (d, ()))] else lv), d, f, 0)
noncomputable def kidsOf (c : Int) (k : Nat) (V : Int → PS → PS × H32 × Bool × Int) (i : Int) (s : PS) : PS × H32 × Int :=
  if (V i s).2.2.2 ≠ 0 then ((V i s).1, zeroH, (V i s).2.2.2) else
  if i + 1 < wid c k then
    if (V (i + 1) (V i s).1).2.2.2 ≠ 0 then ((V (i + 1) (V i s).1).1, zeroH, (V (i + 1) (V i s).1).2.2.2) else
    if ((V i s).2.2.1 || (V (i + 1) (V i s).1).2.2.1) = false then ((V (i + 1) (V i s).1).1, zeroH, 3) else ((V (i + 1) (V i s).1).1, node (V i s).2.1 (V (i + 1) (V i s).1).2.1, 0)
  else if (V i s).2.2.1 = false then ((V i s).1, zeroH, 3) else ((V i s).1, (V i s).2.1, 0)
noncomputable def rdV (c : Int) : Nat → Int → PS → PS × H32 × Bool × Int
  | 0, i, ([], hs, lv) => (([], hs, lv), zeroH, false, 1)
  | 0, i, (f :: fl, hs, lv) => takeH f i fl hs lv
  | _ + 1, i, ([], hs, lv) => (([], hs, lv), zeroH, false, 1)
  | k + 1, i, (true :: fl, hs, lv) => ((kidsOf c k (rdV c k) (2 * i) (fl, hs, lv)).1, (kidsOf c k (rdV c k) (2 * i) (fl, hs, lv)).2.1, true, (kidsOf c k (rdV c k) (2 * i) (fl, hs, lv)).2.2)
  | _ + 1, i, (false :: fl, hs, lv) => takeH false i fl hs lv

def SOk (s : PS) : Prop := HashesOk s.2.1 ∧ s.2.2.length + s.2.1.length ≤ 100000
theorem takeH_ok {f : Bool} {i : Int} {fl fl' : List Bool} {hs : List H32} {lv : List Leaf} (h : SOk (fl', hs, lv)) : SOk (takeH f i fl hs lv).1 ∧ HashOk (takeH f i fl hs lv).2.1 := by
  obtain ⟨h1, h2⟩ := h
  have h1 : HashesOk hs := h1
  have h2 : lv.length + hs.length ≤ 100000 := h2
  cases hs with
  | nil => exact ⟨⟨h1, h2⟩, zeroH_ok⟩
  | cons d hs =>
    refine ⟨⟨fun x hx => h1 x (List.mem_cons_of_mem _ hx), ?_⟩, h1 d List.mem_cons_self⟩
    simp only [List.length_cons] at h2
    show (if f then lv ++ [(i, (d, ()))] else lv).length + hs.length ≤ 100000
    split
    · simp; omega
    · omega
theorem kidsOf_ok {c : Int} {k : Nat} {V : Int → PS → PS × H32 × Bool × Int} (hV : ∀ i s, SOk s → SOk (V i s).1 ∧ HashOk (V i s).2.1) {i : Int} {s : PS} (hs : SOk s) : SOk (kidsOf c k V i s).1 ∧ HashOk (kidsOf c k V i s).2.1 := by
  obtain ⟨a1, a2⟩ := hV i s hs
  obtain ⟨b1, b2⟩ := hV (i + 1) _ a1
  unfold kidsOf
  split
  · exact ⟨a1, zeroH_ok⟩
  · split
    · split
      · exact ⟨b1, zeroH_ok⟩
      · split
        · exact ⟨b1, zeroH_ok⟩
        · exact ⟨b1, node_ok _ _⟩
    · split
      · exact ⟨a1, zeroH_ok⟩
      · exact ⟨a1, a2⟩
theorem rdV_ok (c : Int) : ∀ (k : Nat) (i : Int) (s : PS), SOk s → SOk (rdV c k i s).1 ∧ HashOk (rdV c k i s).2.1 := by
  intro k
  induction k with
  | zero =>
    rintro i ⟨fl, hs, lv⟩ h
    cases fl with
    | nil => exact ⟨h, zeroH_ok⟩
    | cons f fl => exact takeH_ok h
  | succ k ih =>
    rintro i ⟨fl, hs, lv⟩ h
    cases fl with
    | nil => exact ⟨h, zeroH_ok⟩
    | cons f fl =>
      cases f with
      | false => exact takeH_ok h
      | true => exact kidsOf_ok ih (s := (fl, hs, lv)) h

def packR (c : Int) (s : PS) : Rdr := ((c, (s.1, (s.2.1, ()))), (s.2.2, ()))
def unR (x : Rdr) : PS := (x.1.2.1, x.1.2.2.1, x.2.1)
def RdOk (x : Rdr) (l i : Int) : Prop := (1 ≤ x.1.1 ∧ x.1.1 ≤ 1024) ∧ SOk (unR x) ∧ 0 ≤ l ∧ l ≤ 10 ∧ 0 ≤ i ∧ (i + 2) * 2 ^ l.toNat ≤ 1048576
def RdVisit.pre (n : Nat) (x : Rdr) (l i : Int) : Prop := RdOk x l i ∧ 2 * l.toNat < n
noncomputable def RdVisit.fn (x : Rdr) (l i : Int) : Rdr × H32 × Bool × Int := (packR x.1.1 (rdV x.1.1 l.toNat i (unR x)).1, (rdV x.1.1 l.toNat i (unR x)).2)
def RdVisit.can (x : Rdr) (l i : Int) : Prop := ∃ n, RdVisit.pre n x l i
theorem RdVisit.none {x : Rdr} {l i : Int} : ¬ RdVisit.pre 0 x l i := fun h => by have := h.2; omega
def RdKids.pre (n : Nat) (x : Rdr) (l i : Int) : Prop := (RdOk x l i ∧ (i + 3) * 2 ^ l.toNat ≤ 1048576) ∧ 2 * l.toNat + 1 < n
noncomputable def RdKids.fn (x : Rdr) (l i : Int) : Rdr × H32 × Int := (packR x.1.1 (kidsOf x.1.1 l.toNat (rdV x.1.1 l.toNat) i (unR x)).1, (kidsOf x.1.1 l.toNat (rdV x.1.1 l.toNat) i (unR x)).2)
def RdKids.can (x : Rdr) (l i : Int) : Prop := ∃ n, RdKids.pre n x l i
theorem RdKids.none {x : Rdr} {l i : Int} : ¬ RdKids.pre 0 x l i := fun h => by have := h.2; omega
def RdVisit.VC (n : Nat) : Prop := ∀ (x0 : ((Int × ((List Bool) × ((List (List Int)) × Unit))) × ((List (Int × ((List Int) × Unit))) × Unit))) (x1 : Int) (x2 : Int), RdVisit.pre (n + 1) x0 x1 x2 →
 ((((x0.1.2.1.length : Int) == (0 : Int)) = true →
 (Ret4 x0 (List.replicate 32 (0 : Int)) false (1 : Int) (RdVisit.fn x0 x1 x2))) ∧
 (((x0.1.2.1.length : Int) == (0 : Int)) = false →
 (0 ≤ (0 : Int) ∧ (0 : Int) < (x0.1.2.1.length : Int)) ∧
 (0 ≤ (1 : Int) ∧ (1 : Int) ≤ (x0.1.2.1.length : Int) ∧ (x0.1.2.1.length : Int) ≤ (x0.1.2.1.length : Int)) ∧
 (let v34 : (List Bool) := ((x0.1.2.1.drop (Int.toNat (1 : Int))).take ((Int.toNat (x0.1.2.1.length : Int)) - (Int.toNat (1 : Int))))
 ((x0.1.2.1.getD (Int.toNat (0 : Int)) false) = true → (x0.1.2.1.getD (Int.toNat (0 : Int)) false) = true) ∧
 ((x0.1.2.1.getD (Int.toNat (0 : Int)) false) = true → (x0.1.2.1.getD (Int.toNat (0 : Int)) false) = true) ∧
 (let v42 : Bool := (bif (x0.1.2.1.getD (Int.toNat (0 : Int)) false) then (decide (x1 > (0 : Int))) else false)
 ((v42 = true →
 RdKids.pre n ((x0.1.1, (v34, x0.1.2.2)), x0.2) (IntKind.i64.wrap (x1 - (1 : Int))) (IntKind.i64.wrap ((2 : Int) * x2)) ∧
 (let v0h : ((Int × ((List Bool) × ((List (List Int)) × Unit))) × ((List (Int × ((List Int) × Unit))) × Unit)) := (RdKids.fn ((x0.1.1, (v34, x0.1.2.2)), x0.2) (IntKind.i64.wrap (x1 - (1 : Int))) (IntKind.i64.wrap ((2 : Int) * x2))).1
 (let v1015049h : (List (Int × ((List Int) × Unit))) := (RdKids.fn ((x0.1.1, (v34, x0.1.2.2)), x0.2) (IntKind.i64.wrap (x1 - (1 : Int))) (IntKind.i64.wrap ((2 : Int) * x2))).1.2.1
 (let v50 : (List Int) := (RdKids.fn ((x0.1.1, (v34, x0.1.2.2)), x0.2) (IntKind.i64.wrap (x1 - (1 : Int))) (IntKind.i64.wrap ((2 : Int) * x2))).2.1
 (let v51 : Int := (RdKids.fn ((x0.1.1, (v34, x0.1.2.2)), x0.2) (IntKind.i64.wrap (x1 - (1 : Int))) (IntKind.i64.wrap ((2 : Int) * x2))).2.2
 (Ret4 v0h v50 true v51 (RdVisit.fn x0 x1 x2))))))) ∧
 (v42 = false →
 ((((x0.1.2.2.1.length : Int) == (0 : Int)) = true →
 (Ret4 ((x0.1.1, (v34, x0.1.2.2)), x0.2) (List.replicate 32 (0 : Int)) false (1 : Int) (RdVisit.fn x0 x1 x2))) ∧
 (((x0.1.2.2.1.length : Int) == (0 : Int)) = false →
 (0 ≤ (0 : Int) ∧ (0 : Int) < (x0.1.2.2.1.length : Int)) ∧
 (let v68 : (List Int) := (x0.1.2.2.1.getD (Int.toNat (0 : Int)) (List.replicate 32 (0 : Int)))
 (0 ≤ (1 : Int) ∧ (1 : Int) ≤ (x0.1.2.2.1.length : Int) ∧ (x0.1.2.2.1.length : Int) ≤ (x0.1.2.2.1.length : Int)) ∧
 (let v75 : (List (List Int)) := ((x0.1.2.2.1.drop (Int.toNat (1 : Int))).take ((Int.toNat (x0.1.2.2.1.length : Int)) - (Int.toNat (1 : Int))))
 (((x0.1.2.1.getD (Int.toNat (0 : Int)) false) = true →
 Room (x0.2.1.length + [(x2, (v68, ()))].length) 40 ∧
 (let v0_1h : ((Int × ((List Bool) × ((List (List Int)) × Unit))) × ((List (Int × ((List Int) × Unit))) × Unit)) := ((x0.1.1, (v34, (v75, x0.1.2.2.2))), ((x0.2.1 ++ [(x2, (v68, ()))]), x0.2.2))
 (Ret4 v0_1h v68 (x0.1.2.1.getD (Int.toNat (0 : Int)) false) (0 : Int) (RdVisit.fn x0 x1 x2)))) ∧
 ((x0.1.2.1.getD (Int.toNat (0 : Int)) false) = false →
 (Ret4 ((x0.1.1, (v34, (v75, x0.1.2.2.2))), x0.2) v68 (x0.1.2.1.getD (Int.toNat (0 : Int)) false) (0 : Int) (RdVisit.fn x0 x1 x2))))))))))))))
def RdKids.VC (n : Nat) : Prop := ∀ (x0 : ((Int × ((List Bool) × ((List (List Int)) × Unit))) × ((List (Int × ((List Int) × Unit))) × Unit))) (x1 : Int) (x2 : Int), RdKids.pre (n + 1) x0 x1 x2 →
 RdVisit.pre n x0 x1 x2 ∧
 ((((RdVisit.fn x0 x1 x2).2.2.2 != (0 : Int)) = true →
 (Ret3 ((RdVisit.fn x0 x1 x2).1) (List.replicate 32 (0 : Int)) ((RdVisit.fn x0 x1 x2).2.2.2) (RdKids.fn x0 x1 x2))) ∧
 (((RdVisit.fn x0 x1 x2).2.2.2 != (0 : Int)) = false →
 MWidth.pre ((RdVisit.fn x0 x1 x2).1.1.1) x1 ∧
 (let v35 : Bool := (decide ((IntKind.i64.wrap (x2 + (1 : Int))) < (MWidth.fn ((RdVisit.fn x0 x1 x2).1.1.1) x1)))
 ((v35 = true →
 RdVisit.pre n ((RdVisit.fn x0 x1 x2).1) x1 (IntKind.i64.wrap (x2 + (1 : Int))) ∧
 (let v0h : ((Int × ((List Bool) × ((List (List Int)) × Unit))) × ((List (Int × ((List Int) × Unit))) × Unit)) := (RdVisit.fn ((RdVisit.fn x0 x1 x2).1) x1 (IntKind.i64.wrap (x2 + (1 : Int)))).1
 (let v1015041h : (List (Int × ((List Int) × Unit))) := (RdVisit.fn ((RdVisit.fn x0 x1 x2).1) x1 (IntKind.i64.wrap (x2 + (1 : Int)))).1.2.1
 (let v42 : (List Int) := (RdVisit.fn ((RdVisit.fn x0 x1 x2).1) x1 (IntKind.i64.wrap (x2 + (1 : Int)))).2.1
 (let v43 : Bool := (RdVisit.fn ((RdVisit.fn x0 x1 x2).1) x1 (IntKind.i64.wrap (x2 + (1 : Int)))).2.2.1
 (let v44 : Int := (RdVisit.fn ((RdVisit.fn x0 x1 x2).1) x1 (IntKind.i64.wrap (x2 + (1 : Int)))).2.2.2
 (((v44 != (0 : Int)) = true →
 (Ret3 v0h (List.replicate 32 (0 : Int)) v44 (RdKids.fn x0 x1 x2))) ∧
 ((v44 != (0 : Int)) = false →
 MNode.pre ((RdVisit.fn x0 x1 x2).2.1) v42 ∧
 ((RdVisit.fn x0 x1 x2).2.2.1 = false → (RdVisit.fn x0 x1 x2).2.2.1 = false) ∧
 (((!(bif (RdVisit.fn x0 x1 x2).2.2.1 then true else v43)) = true →
 (Ret3 v0h (List.replicate 32 (0 : Int)) (3 : Int) (RdKids.fn x0 x1 x2))) ∧
 ((!(bif (RdVisit.fn x0 x1 x2).2.2.1 then true else v43)) = false →
 (Ret3 v0h (MNode.fn ((RdVisit.fn x0 x1 x2).2.1) v42) (0 : Int) (RdKids.fn x0 x1 x2)))))))))))) ∧
 (v35 = false →
 (((!(RdVisit.fn x0 x1 x2).2.2.1) = true →
 (Ret3 ((RdVisit.fn x0 x1 x2).1) (List.replicate 32 (0 : Int)) (3 : Int) (RdKids.fn x0 x1 x2))) ∧
 ((!(RdVisit.fn x0 x1 x2).2.2.1) = false →
 (Ret3 ((RdVisit.fn x0 x1 x2).1) ((RdVisit.fn x0 x1 x2).2.1) (0 : Int) (RdKids.fn x0 x1 x2)))))))))
theorem two_pow_one (k : Nat) : (1 : Int) ≤ 2 ^ k := by
  have : 0 < 2 ^ k := Nat.two_pow_pos k
  exact_mod_cast this
theorem i_small {i : Int} {k : Nat} (h0 : 0 ≤ i) (h : (i + 2) * 2 ^ k ≤ 1048576) : i ≤ 1048576 := by
  have h1 := two_pow_one k
  have : (i + 2) * 1 ≤ (i + 2) * 2 ^ k := Int.mul_le_mul_of_nonneg_left h1 (by omega)
  omega
theorem RdVisit.vc : ∀ n, RdVisit.VC n := by
  intro n x0 x1 x2
  obtain ⟨⟨c, fl, hs, ⟨⟩⟩, lv, ⟨⟩⟩ := x0
  rintro ⟨⟨hc, hS, l0, l1, i0, i1⟩, hn⟩
  have hi := i_small i0 i1
  simp only at hc
  have hS2 := hS.2
  simp only [unR] at hS hS2
  simp only [imp_self, true_and, and_true, Bool.cond_true_left, Bool.cond_false_right, Bool.or_eq_true, Bool.or_eq_false_iff, Bool.and_eq_true, Bool.and_eq_false_iff, decide_eq_true_eq, decide_eq_false_iff_not, Bool.not_eq_true', Bool.not_eq_false', beq_iff_eq, bne_iff_ne, ne_eq, beq_eq_false_iff_ne, bne_eq_false_iff_eq, Int.not_lt, Int.not_le, gt_iff_lt, ge_iff_le, Decidable.not_not, Bool.not_eq_true, Bool.not_eq_false]
  cases fl with
  | nil =>
    refine ⟨fun _ => ret4.2 ?_, fun h => absurd rfl h⟩
    simp only [RdVisit.fn, unR, packR]
    cases x1.toNat <;> rfl
  | cons f fl =>
    have e1 : ((f :: fl).drop 1).take (fl.length + 1 - 1) = fl := by simp
    have e0 : (f :: fl).getD 0 false = f := rfl
    simp only [Int.toNat_zero, Int.toNat_one, e0, Int.toNat_natCast, List.length_cons]
    rw [e1]
    refine ⟨fun h => by omega, fun _ => ⟨by omega, by omega, ?_, ?_⟩⟩
    · rintro ⟨rfl, hl⟩
      have hl2 : x1.toNat = (x1 - 1).toNat + 1 := by omega
      rw [i64w (n := x1 - 1) (by omega) (by omega), i64w (n := 2 * x2) (by omega) (by omega)]
      have hp : (2 : Int) ^ x1.toNat = 2 * 2 ^ (x1 - 1).toNat := by rw [hl2, Int.pow_succ]; simp; omega
      rw [hp] at i1
      have h3 : (2 * x2 + 4) * 2 ^ (x1 - 1).toNat ≤ 1048576 := by
        have : (x2 + 2) * 2 = 2 * x2 + 4 := by omega
        rw [← Int.mul_assoc, this] at i1
        exact i1
      have q := two_pow_one (x1 - 1).toNat
      have m1 : (2 * x2 + 2) * 2 ^ (x1 - 1).toNat ≤ (2 * x2 + 4) * 2 ^ (x1 - 1).toNat := Int.mul_le_mul_of_nonneg_right (by omega) (by omega)
      have m2 : (2 * x2 + 3) * 2 ^ (x1 - 1).toNat ≤ (2 * x2 + 4) * 2 ^ (x1 - 1).toNat := Int.mul_le_mul_of_nonneg_right (by omega) (by omega)
      refine ⟨⟨⟨⟨hc, ⟨hS.1, hS2⟩, by omega, by omega, by omega, by omega⟩, by omega⟩, by omega⟩, ret4.2 ?_⟩
      simp only [RdVisit.fn, RdKids.fn, unR, packR]
      rw [hl2]
      rfl
    · intro hx
      have hk : f = true → x1.toNat = 0 := by
        intro hf
        rcases hx with hx | hx
        · rw [hf] at hx; cases hx
        · omega
      have hfn : RdVisit.fn ((c, (f :: fl, (hs, ()))), (lv, ())) x1 x2 = (packR c (takeH f x2 fl hs lv).1, (takeH f x2 fl hs lv).2) := by
        simp only [RdVisit.fn, unR]
        cases f with
        | true => rw [hk rfl]; rfl
        | false => cases x1.toNat <;> rfl
      rw [hfn]
      cases hs with
      | nil =>
        refine ⟨fun _ => ret4.2 rfl, fun h => absurd rfl h⟩
      | cons d hs =>
        have e2 : ((d :: hs).drop 1).take (hs.length + 1 - 1) = hs := by simp
        have e3 : (d :: hs).getD 0 (List.replicate 32 0) = d := rfl
        simp only [List.length_cons] at hS2
        simp only [e3, List.length_cons]
        rw [e2]
        refine ⟨fun h => by omega, fun _ => ⟨by omega, by omega, fun hf => ⟨room_of (by simp; omega) (by omega), ret4.2 ?_⟩, fun hf => ret4.2 ?_⟩⟩
        · subst hf; rfl
        · subst hf; rfl
theorem RdKids.vc : ∀ n, RdKids.VC n := by
  intro n x0 x1 x2
  obtain ⟨⟨c, fl, hs, ⟨⟩⟩, lv, ⟨⟩⟩ := x0
  rintro ⟨⟨⟨hc, hS, l0, l1, i0, i1⟩, i2⟩, hn⟩
  have hi := i_small i0 i1
  simp only at hc
  have hr := rdV_ok c x1.toNat x2 (fl, hs, lv) hS
  have hv : RdVisit.fn ((c, (fl, (hs, ()))), (lv, ())) x1 x2 = (packR c (rdV c x1.toNat x2 (fl, hs, lv)).1, (rdV c x1.toNat x2 (fl, hs, lv)).2) := rfl
  have hk : RdKids.fn ((c, (fl, (hs, ()))), (lv, ())) x1 x2 = (packR c (kidsOf c x1.toNat (rdV c x1.toNat) x2 (fl, hs, lv)).1, (kidsOf c x1.toNat (rdV c x1.toNat) x2 (fl, hs, lv)).2) := rfl
  have hv2 : ∀ s, RdVisit.fn (packR c s) x1 (x2 + 1) = (packR c (rdV c x1.toNat (x2 + 1) s).1, (rdV c x1.toNat (x2 + 1) s).2) := fun s => rfl
  rw [hv, hk]
  unfold kidsOf
  generalize rdV c x1.toNat x2 (fl, hs, lv) = r at *
  have hr2 := rdV_ok c x1.toNat (x2 + 1) r.1 hr.1
  simp only [imp_self, true_and, and_true, Bool.cond_true_left, Bool.cond_false_right, Bool.or_eq_true, Bool.or_eq_false_iff, Bool.and_eq_true, Bool.and_eq_false_iff, decide_eq_true_eq, decide_eq_false_iff_not, Bool.not_eq_true', Bool.not_eq_false', beq_iff_eq, bne_iff_ne, ne_eq, beq_eq_false_iff_ne, bne_eq_false_iff_eq, Int.not_lt, Int.not_le, gt_iff_lt, ge_iff_le, Decidable.not_not, Bool.not_eq_true, Bool.not_eq_false]
  rw [i64w (n := x2 + 1) (by omega) (by omega), hv2]
  generalize rdV c x1.toNat (x2 + 1) r.1 = q at *
  have hpc : (packR c r.1).1.1 = c := rfl
  rw [hpc]
  have hw : MWidth.fn c x1 = wid c x1.toNat := rfl
  rw [hw]
  refine ⟨⟨⟨hc, hS, l0, l1, i0, i1⟩, by omega⟩, fun he => ret3.2 ?_, fun he => ⟨⟨hc, l0, by omega⟩, fun hw => ⟨⟨⟨hc, hr.1, l0, l1, by omega, by
      have : (x2 + 1 + 2) = x2 + 3 := by omega
      rw [this]; exact i2⟩, by omega⟩, fun hq => ret3.2 ?_, fun hq => ⟨⟨hr.2, hr2.2⟩, fun hf => ret3.2 ?_, fun hf => ret3.2 ?_⟩⟩, fun hw => ⟨fun hf => ret3.2 ?_, fun hf => ret3.2 ?_⟩⟩⟩
  · rw [if_pos he]; rfl
  · rw [if_neg (by simpa using he), if_pos hw, if_pos hq]; rfl
  · rw [if_neg (by simpa using he), if_pos hw, if_neg (by simpa using hq), if_pos (by simpa using hf)]; rfl
  · rw [if_neg (by simpa using he), if_pos hw, if_neg (by simpa using hq), if_neg (by rcases hf with h | h <;> rw [h] <;> simp)]; rfl
  · rw [if_neg (by simpa using he), if_neg (by omega), if_pos (by simpa using hf)]; rfl
  · rw [if_neg (by simpa using he), if_neg (by omega), if_neg (by simpa using hf)]

/-! ## The reference's cursor -/
abbrev Cur : Type := Prt × (List Int × (Int × (Int × (List Leaf × (Int × Unit)))))
abbrev CS : Type := Int × Int × List Leaf × Int
noncomputable def fixE (s : CS) (f : Bool) : CS := if s.2.2.2 = 0 ∧ f = false then (s.1, s.2.1, s.2.2.1, 3) else s
noncomputable def cuLeaf (fl : List Bool) (hs : List H32) (i : Int) (s : CS) : CS × H32 × Bool :=
  if s.2.1 = hs.length then ((s.1 + 1, s.2.1, s.2.2.1, 1), zeroH, false) else
  ((s.1 + 1, s.2.1 + 1, (if fl.getD s.1.toNat false then s.2.2.1 ++ [(i, (hs.getD s.2.1.toNat zeroH, ()))] else s.2.2.1), s.2.2.2), hs.getD s.2.1.toNat zeroH, fl.getD s.1.toNat false)
noncomputable def cuKids (sz : List Int) (k : Nat) (V : Int → CS → CS × H32 × Bool) (i : Int) (s : CS) : CS × H32 × Bool :=
  if 2 * i + 1 < sz.getD k 0 then (fixE (V (2 * i + 1) (V (2 * i) s).1).1 ((V (2 * i) s).2.2 || (V (2 * i + 1) (V (2 * i) s).1).2.2), node (V (2 * i) s).2.1 (V (2 * i + 1) (V (2 * i) s).1).2.1, true)
  else (fixE (V (2 * i) s).1 (V (2 * i) s).2.2, (V (2 * i) s).2.1, true)
noncomputable def cuTop (fl : List Bool) (s : CS) (r : CS × H32 × Bool) : CS × H32 × Bool :=
  if s.2.2.2 ≠ 0 then (s, zeroH, false) else if s.1 = fl.length then ((s.1, s.2.1, s.2.2.1, 1), zeroH, false) else r
noncomputable def cuV (fl : List Bool) (hs : List H32) (sz : List Int) : Nat → Int → CS → CS × H32 × Bool
  | 0, i, s => cuTop fl s (cuLeaf fl hs i s)
  | k + 1, i, s => cuTop fl s (if fl.getD s.1.toNat false then cuKids sz k (cuV fl hs sz k) i (s.1 + 1, s.2) else cuLeaf fl hs i s)

def CSOk (fl : List Bool) (hs : List H32) (s : CS) : Prop := (0 ≤ s.1 ∧ s.1 ≤ fl.length) ∧ (0 ≤ s.2.1 ∧ s.2.1 ≤ hs.length) ∧ (s.2.2.1.length : Int) + (hs.length - s.2.1) ≤ 100000
theorem fixE_ok {fl : List Bool} {hs : List H32} {s : CS} {f : Bool} (h : CSOk fl hs s) : CSOk fl hs (fixE s f) := by
  unfold fixE; split
  · exact h
  · exact h
theorem cuLeaf_ok {fl : List Bool} {hs : List H32} {i : Int} {s : CS} (hh : HashesOk hs) (h : CSOk fl hs s) (ha : s.1 < fl.length) : CSOk fl hs (cuLeaf fl hs i s).1 ∧ HashOk (cuLeaf fl hs i s).2.1 := by
  obtain ⟨a, b, lv, e⟩ := s
  obtain ⟨⟨h1, h2⟩, ⟨h3, h4⟩, h5⟩ := h
  simp only at h1 h2 h3 h4 h5 ha
  unfold cuLeaf
  split
  · exact ⟨⟨⟨by simp only; omega, by simp only; omega⟩, ⟨h3, h4⟩, h5⟩, zeroH_ok⟩
  · rename_i hb
    simp only at hb
    refine ⟨⟨⟨by simp only; omega, by simp only; omega⟩, ⟨by simp only; omega, by simp only; omega⟩, ?_⟩, hh.getD _⟩
    simp only
    split
    · simp; omega
    · omega
theorem cuV_ok {fl : List Bool} {hs : List H32} {sz : List Int} (hh : HashesOk hs) : ∀ (k : Nat) (i : Int) (s : CS), CSOk fl hs s → CSOk fl hs (cuV fl hs sz k i s).1 ∧ HashOk (cuV fl hs sz k i s).2.1 := by
  have top : ∀ (s : CS) (r : CS × H32 × Bool), CSOk fl hs s → (s.1 < fl.length → CSOk fl hs r.1 ∧ HashOk r.2.1) → CSOk fl hs (cuTop fl s r).1 ∧ HashOk (cuTop fl s r).2.1 := by
    intro s r h hr
    unfold cuTop
    split
    · exact ⟨h, zeroH_ok⟩
    · split
      · exact ⟨h, zeroH_ok⟩
      · rename_i hne
        exact hr (by have := h.1.2; omega)
  intro k
  induction k with
  | zero => intro i s h; exact top s _ h (cuLeaf_ok hh h)
  | succ k ih =>
    intro i s h
    refine top s _ h (fun ha => ?_)
    split
    · have h' : CSOk fl hs (s.1 + 1, s.2) := ⟨⟨by have := h.1.1; simp only; omega, by simp only; omega⟩, h.2⟩
      obtain ⟨a1, a2⟩ := ih (2 * i) _ h'
      obtain ⟨b1, b2⟩ := ih (2 * i + 1) _ a1
      unfold cuKids
      split
      · exact ⟨fixE_ok b1, node_ok _ _⟩
      · exact ⟨fixE_ok a1, a2⟩
    · exact cuLeaf_ok hh h ha

def packC (p : Prt) (sz : List Int) (s : CS) : Cur := (p, (sz, (s.1, (s.2.1, (s.2.2.1, (s.2.2.2, ()))))))
def unC (x : Cur) : CS := (x.2.2.1, x.2.2.2.1, x.2.2.2.2.1, x.2.2.2.2.2.1)
def CuRead.pre (n : Nat) (x : Cur) (l i : Int) : Prop := ((HashesOk x.1.2.2.1 ∧ x.1.2.1.length ≤ 100000 ∧ x.1.2.2.1.length ≤ 100000) ∧ CSOk x.1.2.1 x.1.2.2.1 (unC x) ∧ (0 ≤ l ∧ l ≤ 10 ∧ l ≤ x.2.1.length) ∧ 0 ≤ i ∧ (i + 2) * 2 ^ l.toNat ≤ 1048576) ∧ l.toNat < n
noncomputable def CuRead.fn (x : Cur) (l i : Int) : Cur × H32 × Bool := (packC x.1 x.2.1 (cuV x.1.2.1 x.1.2.2.1 x.2.1 l.toNat i (unC x)).1, (cuV x.1.2.1 x.1.2.2.1 x.2.1 l.toNat i (unC x)).2)
def CuRead.can (x : Cur) (l i : Int) : Prop := ∃ n, CuRead.pre n x l i
theorem CuRead.none {x : Cur} {l i : Int} : ¬ CuRead.pre 0 x l i := fun h => by have := h.2; omega
def CuRead.VC (n : Nat) : Prop := ∀ (x0 : ((Int × ((List Bool) × ((List (List Int)) × Unit))) × ((List Int) × (Int × (Int × ((List (Int × ((List Int) × Unit))) × (Int × Unit))))))) (x1 : Int) (x2 : Int), CuRead.pre (n + 1) x0 x1 x2 →
 (((x0.2.2.2.2.2.1 != (0 : Int)) = true →
 (Ret3 x0 (List.replicate 32 (0 : Int)) false (CuRead.fn x0 x1 x2))) ∧
 ((x0.2.2.2.2.2.1 != (0 : Int)) = false →
 (((x0.2.2.1 == (x0.1.2.1.length : Int)) = true →
 (let v0h : ((Int × ((List Bool) × ((List (List Int)) × Unit))) × ((List Int) × (Int × (Int × ((List (Int × ((List Int) × Unit))) × (Int × Unit)))))) := (x0.1, (x0.2.1, (x0.2.2.1, (x0.2.2.2.1, (x0.2.2.2.2.1, ((1 : Int), x0.2.2.2.2.2.2))))))
 (Ret3 v0h (List.replicate 32 (0 : Int)) false (CuRead.fn x0 x1 x2)))) ∧
 ((x0.2.2.1 == (x0.1.2.1.length : Int)) = false →
 (0 ≤ x0.2.2.1 ∧ x0.2.2.1 < (x0.1.2.1.length : Int)) ∧
 (let v0_1h : ((Int × ((List Bool) × ((List (List Int)) × Unit))) × ((List Int) × (Int × (Int × ((List (Int × ((List Int) × Unit))) × (Int × Unit)))))) := (x0.1, (x0.2.1, ((IntKind.i64.wrap (x0.2.2.1 + (1 : Int))), x0.2.2.2)))
 ((!(x0.1.2.1.getD (Int.toNat x0.2.2.1) false)) = false → (!(x0.1.2.1.getD (Int.toNat x0.2.2.1) false)) = false) ∧
 ((!(x0.1.2.1.getD (Int.toNat x0.2.2.1) false)) = false → (!(x0.1.2.1.getD (Int.toNat x0.2.2.1) false)) = false) ∧
 (let v58 : Bool := (bif (!(x0.1.2.1.getD (Int.toNat x0.2.2.1) false)) then true else (x1 == (0 : Int)))
 ((v58 = true →
 (((v0_1h.2.2.2.1 == (v0_1h.1.2.2.1.length : Int)) = true →
 (let v0_2h : ((Int × ((List Bool) × ((List (List Int)) × Unit))) × ((List Int) × (Int × (Int × ((List (Int × ((List Int) × Unit))) × (Int × Unit)))))) := (v0_1h.1, (v0_1h.2.1, (v0_1h.2.2.1, (v0_1h.2.2.2.1, (v0_1h.2.2.2.2.1, ((1 : Int), v0_1h.2.2.2.2.2.2))))))
 (Ret3 v0_2h (List.replicate 32 (0 : Int)) false (CuRead.fn x0 x1 x2)))) ∧
 ((v0_1h.2.2.2.1 == (v0_1h.1.2.2.1.length : Int)) = false →
 (0 ≤ v0_1h.2.2.2.1 ∧ v0_1h.2.2.2.1 < (v0_1h.1.2.2.1.length : Int)) ∧
 (let v84 : (List Int) := (v0_1h.1.2.2.1.getD (Int.toNat v0_1h.2.2.2.1) (List.replicate 32 (0 : Int)))
 (let v0_3h : ((Int × ((List Bool) × ((List (List Int)) × Unit))) × ((List Int) × (Int × (Int × ((List (Int × ((List Int) × Unit))) × (Int × Unit)))))) := (v0_1h.1, (v0_1h.2.1, (v0_1h.2.2.1, ((IntKind.i64.wrap (v0_1h.2.2.2.1 + (1 : Int))), v0_1h.2.2.2.2))))
 (((x0.1.2.1.getD (Int.toNat x0.2.2.1) false) = true →
 Room (x0.2.2.2.2.1.length + [(x2, (v84, ()))].length) 40 ∧
 (let v0_4h : ((Int × ((List Bool) × ((List (List Int)) × Unit))) × ((List Int) × (Int × (Int × ((List (Int × ((List Int) × Unit))) × (Int × Unit)))))) := (v0_3h.1, (v0_3h.2.1, (v0_3h.2.2.1, (v0_3h.2.2.2.1, ((x0.2.2.2.2.1 ++ [(x2, (v84, ()))]), v0_3h.2.2.2.2.2)))))
 (Ret3 v0_4h v84 (x0.1.2.1.getD (Int.toNat x0.2.2.1) false) (CuRead.fn x0 x1 x2)))) ∧
 ((x0.1.2.1.getD (Int.toNat x0.2.2.1) false) = false →
 (Ret3 v0_3h v84 (x0.1.2.1.getD (Int.toNat x0.2.2.1) false) (CuRead.fn x0 x1 x2))))))))) ∧
 (v58 = false →
 CuRead.pre n v0_1h (IntKind.i64.wrap (x1 - (1 : Int))) (IntKind.i64.wrap ((2 : Int) * x2)) ∧
 (let v0_5h : ((Int × ((List Bool) × ((List (List Int)) × Unit))) × ((List Int) × (Int × (Int × ((List (Int × ((List Int) × Unit))) × (Int × Unit)))))) := (CuRead.fn v0_1h (IntKind.i64.wrap (x1 - (1 : Int))) (IntKind.i64.wrap ((2 : Int) * x2))).1
 (let v1015113h : (List (Int × ((List Int) × Unit))) := (CuRead.fn v0_1h (IntKind.i64.wrap (x1 - (1 : Int))) (IntKind.i64.wrap ((2 : Int) * x2))).1.2.2.2.2.1
 (let v114 : (List Int) := (CuRead.fn v0_1h (IntKind.i64.wrap (x1 - (1 : Int))) (IntKind.i64.wrap ((2 : Int) * x2))).2.1
 (let v115 : Bool := (CuRead.fn v0_1h (IntKind.i64.wrap (x1 - (1 : Int))) (IntKind.i64.wrap ((2 : Int) * x2))).2.2
 (let v118 : Int := (IntKind.i64.wrap ((IntKind.i64.wrap ((2 : Int) * x2)) + (1 : Int)))
 (0 ≤ (IntKind.i64.wrap (x1 - (1 : Int))) ∧ (IntKind.i64.wrap (x1 - (1 : Int))) < (v0_5h.2.1.length : Int)) ∧
 (let v126 : Int := (v0_5h.2.1.getD (Int.toNat (IntKind.i64.wrap (x1 - (1 : Int)))) (0 : Int))
 (((decide (v118 < v126)) = true →
 (let v134 : Int := (IntKind.i64.wrap ((IntKind.i64.wrap ((2 : Int) * x2)) + (1 : Int)))
 CuRead.pre n v0_5h (IntKind.i64.wrap (x1 - (1 : Int))) v134 ∧
 (let v1015135h : (List (Int × ((List Int) × Unit))) := (CuRead.fn v0_5h (IntKind.i64.wrap (x1 - (1 : Int))) v134).1.2.2.2.2.1
 (let v136 : (List Int) := (CuRead.fn v0_5h (IntKind.i64.wrap (x1 - (1 : Int))) v134).2.1
 (let v137 : Bool := (CuRead.fn v0_5h (IntKind.i64.wrap (x1 - (1 : Int))) v134).2.2
 RNode.pre v114 v136 ∧
 (v115 = false → v115 = false) ∧
 (let v148 : Int := (CuRead.fn v0_5h (IntKind.i64.wrap (x1 - (1 : Int))) v134).1.2.2.2.2.2.1
 ((v148 == (0 : Int)) = true → (v148 == (0 : Int)) = true) ∧
 ((v148 == (0 : Int)) = true → (v148 == (0 : Int)) = true) ∧
 (let v153 : Bool := (bif (v148 == (0 : Int)) then (!(bif v115 then true else v137)) else false)
 ((v153 = true →
 (let v0_6h : ((Int × ((List Bool) × ((List (List Int)) × Unit))) × ((List Int) × (Int × (Int × ((List (Int × ((List Int) × Unit))) × (Int × Unit)))))) := ((CuRead.fn v0_5h (IntKind.i64.wrap (x1 - (1 : Int))) v134).1.1, ((CuRead.fn v0_5h (IntKind.i64.wrap (x1 - (1 : Int))) v134).1.2.1, ((CuRead.fn v0_5h (IntKind.i64.wrap (x1 - (1 : Int))) v134).1.2.2.1, ((CuRead.fn v0_5h (IntKind.i64.wrap (x1 - (1 : Int))) v134).1.2.2.2.1, ((CuRead.fn v0_5h (IntKind.i64.wrap (x1 - (1 : Int))) v134).1.2.2.2.2.1, ((3 : Int), (CuRead.fn v0_5h (IntKind.i64.wrap (x1 - (1 : Int))) v134).1.2.2.2.2.2.2))))))
 (Ret3 v0_6h (RNode.fn v114 v136) true (CuRead.fn x0 x1 x2)))) ∧
 (v153 = false →
 (Ret3 ((CuRead.fn v0_5h (IntKind.i64.wrap (x1 - (1 : Int))) v134).1) (RNode.fn v114 v136) true (CuRead.fn x0 x1 x2))))))))))) ∧
 ((decide (v118 < v126)) = false →
 ((v0_5h.2.2.2.2.2.1 == (0 : Int)) = true → (v0_5h.2.2.2.2.2.1 == (0 : Int)) = true) ∧
 ((v0_5h.2.2.2.2.2.1 == (0 : Int)) = true → (v0_5h.2.2.2.2.2.1 == (0 : Int)) = true) ∧
 (let v153_1 : Bool := (bif (v0_5h.2.2.2.2.2.1 == (0 : Int)) then (!v115) else false)
 ((v153_1 = true →
 (let v0_7h : ((Int × ((List Bool) × ((List (List Int)) × Unit))) × ((List Int) × (Int × (Int × ((List (Int × ((List Int) × Unit))) × (Int × Unit)))))) := (v0_5h.1, (v0_5h.2.1, (v0_5h.2.2.1, (v0_5h.2.2.2.1, (v0_5h.2.2.2.2.1, ((3 : Int), v0_5h.2.2.2.2.2.2))))))
 (Ret3 v0_7h v114 true (CuRead.fn x0 x1 x2)))) ∧
 (v153_1 = false →
 (Ret3 v0_5h v114 true (CuRead.fn x0 x1 x2)))))))))))))))))))))
theorem CuRead.vc : ∀ n, CuRead.VC n := by
  intro n x0 x1 x2
  obtain ⟨⟨c, fl, hs, ⟨⟩⟩, sz, a, b, lv, e, ⟨⟩⟩ := x0
  rintro ⟨⟨⟨hh, hlf, hlh⟩, hS, ⟨l0, l1, l2⟩, i0, i1⟩, hn⟩
  have hi := i_small i0 i1
  simp only [unC] at hh hlf hlh hS l2
  obtain ⟨⟨a0, a1⟩, ⟨b0, b1⟩, hlv⟩ := id hS
  simp only at a0 a1 b0 b1 hlv
  have hfn : CuRead.fn ((c, (fl, (hs, ()))), (sz, (a, (b, (lv, (e, ())))))) x1 x2 = (packC (c, (fl, (hs, ()))) sz (cuV fl hs sz x1.toNat x2 (a, b, lv, e)).1, (cuV fl hs sz x1.toNat x2 (a, b, lv, e)).2) := rfl
  have hrec : ∀ (s : CS) (j : Int), CuRead.fn (packC (c, (fl, (hs, ()))) sz s) (x1 - 1) j = (packC (c, (fl, (hs, ()))) sz (cuV fl hs sz (x1 - 1).toNat j s).1, (cuV fl hs sz (x1 - 1).toNat j s).2) := fun _ _ => rfl
  have htop : ∀ r, (e ≠ 0 → cuTop fl (a, b, lv, e) r = ((a, b, lv, e), zeroH, false)) ∧ (e = 0 → a = fl.length → cuTop fl (a, b, lv, e) r = ((a, b, lv, 1), zeroH, false)) ∧ (e = 0 → ¬ a = fl.length → cuTop fl (a, b, lv, e) r = r) := by
    intro r
    unfold cuTop
    exact ⟨fun h => if_pos h, fun h h2 => by rw [if_neg (by simpa using h), if_pos h2], fun h h2 => by rw [if_neg (by simpa using h), if_neg h2]⟩
  have hV : ∃ r, cuV fl hs sz x1.toNat x2 (a, b, lv, e) = cuTop fl (a, b, lv, e) r := by
    cases x1.toNat with
    | zero => exact ⟨_, rfl⟩
    | succ k => exact ⟨_, rfl⟩
  have hleaf : (fl.getD a.toNat false = false ∨ x1 = 0) → cuV fl hs sz x1.toNat x2 (a, b, lv, e) = cuTop fl (a, b, lv, e) (cuLeaf fl hs x2 (a, b, lv, e)) := by
    intro h
    cases hk : x1.toNat with
    | zero => rfl
    | succ k =>
      rcases h with h | h
      · simp only [cuV, h, Bool.false_eq_true, if_false]
      · omega
  have hin : fl.getD a.toNat false = true → 0 < x1 → cuV fl hs sz x1.toNat x2 (a, b, lv, e) = cuTop fl (a, b, lv, e) (cuKids sz (x1 - 1).toNat (cuV fl hs sz (x1 - 1).toNat) x2 (a + 1, b, lv, e)) := by
    intro h h2
    rw [show x1.toNat = (x1 - 1).toNat + 1 by omega]
    simp only [cuV, h, if_true]
  rw [hfn]
  simp only [imp_self, true_and, and_true, Bool.cond_true_left, Bool.cond_false_right, Bool.or_eq_true, Bool.or_eq_false_iff, Bool.and_eq_true, Bool.and_eq_false_iff, decide_eq_true_eq, decide_eq_false_iff_not, Bool.not_eq_true', Bool.not_eq_false', beq_iff_eq, bne_iff_ne, ne_eq, beq_eq_false_iff_ne, bne_eq_false_iff_eq, Int.not_lt, Int.not_le, gt_iff_lt, ge_iff_le, Decidable.not_not, Bool.not_eq_true, Bool.not_eq_false]
  refine ⟨fun he => ret3.2 ?_, fun he => ⟨fun ha => ret3.2 ?_, fun ha => ⟨⟨a0, by omega⟩, ?_, ?_⟩⟩⟩
  · obtain ⟨r, hr⟩ := hV
    rw [hr, (htop r).1 he]; rfl
  · obtain ⟨r, hr⟩ := hV
    rw [hr, (htop r).2.1 he ha]; rfl
  · intro hl
    rw [hleaf hl, (htop _).2.2 he ha, i64w (n := a + 1) (by omega) (by omega)]
    refine ⟨fun hb => ret3.2 ?_, fun hb => ⟨⟨b0, by omega⟩, ?_⟩⟩
    · unfold cuLeaf
      rw [if_pos hb]; rfl
    · rw [i64w (n := b + 1) (by omega) (by omega)]
      unfold cuLeaf
      rw [if_neg hb]
      refine ⟨fun hf => ⟨room_of (by simp; omega) (by omega), ret3.2 ?_⟩, fun hf => ret3.2 ?_⟩
      · simp only [hf, if_true]; rfl
      · simp only [hf, Bool.false_eq_true, if_false]; rfl
  · rintro ⟨hf, hx⟩
    have hx : 0 < x1 := by omega
    rw [hin hf hx, (htop _).2.2 he ha]
    have hl2 : x1.toNat = (x1 - 1).toNat + 1 := by omega
    rw [i64w (n := x1 - 1) (by omega) (by omega), i64w (n := 2 * x2) (by omega) (by omega), i64w (n := a + 1) (by omega) (by omega), i64w (n := 2 * x2 + 1) (by omega) (by omega)]
    have hp : (2 : Int) ^ x1.toNat = 2 * 2 ^ (x1 - 1).toNat := by rw [hl2, Int.pow_succ]; simp; omega
    rw [hp] at i1
    have h3 : (2 * x2 + 4) * 2 ^ (x1 - 1).toNat ≤ 1048576 := by
      have : (x2 + 2) * 2 = 2 * x2 + 4 := by omega
      rw [← Int.mul_assoc, this] at i1
      exact i1
    have q := two_pow_one (x1 - 1).toNat
    have m1 : (2 * x2 + 2) * 2 ^ (x1 - 1).toNat ≤ (2 * x2 + 4) * 2 ^ (x1 - 1).toNat := Int.mul_le_mul_of_nonneg_right (by omega) (by omega)
    have m2 : (2 * x2 + 1 + 2) * 2 ^ (x1 - 1).toNat ≤ (2 * x2 + 4) * 2 ^ (x1 - 1).toNat := Int.mul_le_mul_of_nonneg_right (by omega) (by omega)
    have hS1 : CSOk fl hs (a + 1, b, lv, e) := ⟨⟨by simp only; omega, by simp only; omega⟩, ⟨b0, b1⟩, hlv⟩
    have r1 := cuV_ok (sz := sz) hh (x1 - 1).toNat (2 * x2) _ hS1
    have r2 := cuV_ok (sz := sz) hh (x1 - 1).toNat (2 * x2 + 1) _ r1.1
    have hc1 : CuRead.fn ((c, (fl, (hs, ()))), (sz, (a + 1, (b, (lv, (e, ())))))) (x1 - 1) (2 * x2) = (packC (c, (fl, (hs, ()))) sz (cuV fl hs sz (x1 - 1).toNat (2 * x2) (a + 1, b, lv, e)).1, (cuV fl hs sz (x1 - 1).toNat (2 * x2) (a + 1, b, lv, e)).2) := rfl
    rw [hc1]
    unfold cuKids
    generalize cuV fl hs sz (x1 - 1).toNat (2 * x2) (a + 1, b, lv, e) = r at *
    simp only [hrec]
    generalize cuV fl hs sz (x1 - 1).toNat (2 * x2 + 1) r.1 = w at *
    have hsz : (packC (c, (fl, (hs, ()))) sz r.1).2.1 = sz := rfl
    simp only [hsz]
    refine ⟨⟨⟨⟨hh, hlf, hlh⟩, hS1, ⟨by omega, by omega, by simp only; omega⟩, by omega, by omega⟩, by omega⟩, ⟨by omega, by omega⟩, fun hlt => ⟨⟨⟨⟨hh, hlf, hlh⟩, r1.1, ⟨by omega, by omega, by show x1 - 1 ≤ (sz.length : Int); omega⟩, by omega, by omega⟩, by omega⟩, ⟨r1.2, r2.2⟩, ?_⟩, fun hge => ?_⟩
    · rw [if_pos hlt]
      refine ⟨fun hz => ret3.2 ?_, fun hz => ret3.2 ?_⟩
      · have hz1 : w.1.2.2.2 = 0 := hz.1
        have hfx : fixE w.1 (r.2.2 || w.2.2) = (w.1.1, w.1.2.1, w.1.2.2.1, 3) := by unfold fixE; rw [if_pos ⟨hz1, by rw [hz.2.1, hz.2.2]; rfl⟩]
        simp only [hfx]; rfl
      · have hfx : fixE w.1 (r.2.2 || w.2.2) = w.1 := by
          unfold fixE
          rw [if_neg]
          rintro ⟨g1, g2⟩
          rcases hz with hz | hz | hz
          · exact hz g1
          · rw [hz] at g2; cases g2
          · rw [hz] at g2; simp at g2
        simp only [hfx]; rfl
    · rw [if_neg (by omega)]
      refine ⟨fun hz => ret3.2 ?_, fun hz => ret3.2 ?_⟩
      · have hz1 : r.1.2.2.2 = 0 := hz.1
        have hfx : fixE r.1 r.2.2 = (r.1.1, r.1.2.1, r.1.2.2.1, 3) := by unfold fixE; rw [if_pos ⟨hz1, hz.2⟩]
        simp only [hfx]; rfl
      · have hfx : fixE r.1 r.2.2 = r.1 := by
          unfold fixE
          rw [if_neg]
          rintro ⟨g1, g2⟩
          rcases hz with hz | hz
          · exact hz g1
          · rw [hz] at g2; cases g2
        simp only [hfx]

/-! ## The two read the same -/
theorem cuV_fail {fl : List Bool} {hs : List H32} {sz : List Int} (k : Nat) (i : Int) (s : CS) (h : s.2.2.2 ≠ 0) : cuV fl hs sz k i s = (s, zeroH, false) := by
  cases k with
  | zero => simp only [cuV, cuTop]; rw [if_pos h]
  | succ k => simp only [cuV, cuTop]; rw [if_pos h]
def Sim (fl : List Bool) (hs : List H32) (r : PS × H32 × Bool × Int) (q : CS × H32 × Bool) : Prop :=
  q.1.2.2.2 = r.2.2.2 ∧ (r.2.2.2 = 0 → q.2 = (r.2.1, r.2.2.1) ∧ r.1 = (fl.drop q.1.1.toNat, hs.drop q.1.2.1.toNat, q.1.2.2.1))
theorem drop_cons {α : Type} {l : List α} {n : Nat} {x : α} {r : List α} (h : l.drop n = x :: r) (d : α) : n < l.length ∧ l.getD n d = x ∧ l.drop (n + 1) = r := by
  have hn : n < l.length := by
    rcases Nat.lt_or_ge n l.length with h2 | h2
    · exact h2
    · rw [List.drop_eq_nil_of_le h2] at h; cases h
  rw [List.drop_eq_getElem_cons hn] at h
  cases h
  exact ⟨hn, by simp [List.getD_eq_getElem?_getD, hn], rfl⟩
theorem drop_nil {α : Type} {l : List α} {n : Nat} (h : l.drop n = []) : l.length ≤ n := by
  have := congrArg List.length h
  simp at this; omega
theorem sim_leaf {fl : List Bool} {hs : List H32} {a b : Int} {lv : List Leaf} {i : Int} {f : Bool} {fl' : List Bool} (hS : CSOk fl hs (a, b, lv, 0)) (hf : fl.drop a.toNat = f :: fl') :
    Sim fl hs (takeH f i fl' (hs.drop b.toNat) lv) (cuLeaf fl hs i (a, b, lv, 0)) := by
  obtain ⟨⟨a0, a1⟩, ⟨b0, b1⟩, _⟩ := hS
  simp only at a0 a1 b0 b1
  obtain ⟨f1, f2, f3⟩ := drop_cons hf false
  cases hb : hs.drop b.toNat with
  | nil =>
    have := drop_nil hb
    unfold cuLeaf
    rw [if_pos (by simp only; omega)]
    exact ⟨rfl, fun h => by simp [takeH] at h⟩
  | cons d hs' =>
    obtain ⟨g1, g2, g3⟩ := drop_cons hb zeroH
    unfold cuLeaf
    rw [if_neg (by simp only; omega)]
    refine ⟨rfl, fun _ => ⟨by simp only [takeH, f2, g2], ?_⟩⟩
    simp only [takeH, f2, g2, show (a + 1).toNat = a.toNat + 1 by omega, show (b + 1).toNat = b.toNat + 1 by omega, f3, g3]
theorem sim {fl : List Bool} {hs : List H32} {sz : List Int} {c : Int} (hh : HashesOk hs) : ∀ (k : Nat) (i : Int) (a b : Int) (lv : List Leaf), CSOk fl hs (a, b, lv, 0) → (∀ j, j < k → sz.getD j 0 = wid c j) →
    Sim fl hs (rdV c k i (fl.drop a.toNat, hs.drop b.toNat, lv)) (cuV fl hs sz k i (a, b, lv, 0)) := by
  have short : ∀ (k : Nat) (i : Int) (a b : Int) (lv : List Leaf), CSOk fl hs (a, b, lv, 0) → fl.drop a.toNat = [] → Sim fl hs (rdV c k i ([], hs.drop b.toNat, lv)) (cuV fl hs sz k i (a, b, lv, 0)) := by
    intro k i a b lv hS hf
    have h1 := drop_nil hf
    have h2 := hS.1
    simp only at h2
    have h3 : ∀ r, cuTop fl (a, b, lv, 0) r = ((a, b, lv, 1), zeroH, false) := by
      intro r; unfold cuTop; rw [if_neg (by simp), if_pos (by simp only; omega)]
    cases k with
    | zero => simp only [cuV, h3]; exact ⟨rfl, fun h => by simp [rdV] at h⟩
    | succ k => simp only [cuV, h3]; exact ⟨rfl, fun h => by simp [rdV] at h⟩
  have pass : ∀ (a b : Int) (lv : List Leaf) (r : CS × H32 × Bool) (f : Bool) (fl' : List Bool), CSOk fl hs (a, b, lv, 0) → fl.drop a.toNat = f :: fl' → cuTop fl (a, b, lv, 0) r = r := by
    intro a b lv r f fl' hS hf
    have h1 := (drop_cons hf false).1
    have h2 := hS.1
    simp only at h2
    unfold cuTop; rw [if_neg (by simp), if_neg (by simp only; omega)]
  intro k
  induction k with
  | zero =>
    intro i a b lv hS _
    cases hf : fl.drop a.toNat with
    | nil => exact short 0 i a b lv hS hf
    | cons f fl' =>
      simp only [cuV]
      rw [pass a b lv _ f fl' hS hf]
      exact sim_leaf hS hf
  | succ k ih =>
    intro i a b lv hS hsz
    cases hf : fl.drop a.toNat with
    | nil => exact short (k + 1) i a b lv hS hf
    | cons f fl' =>
      obtain ⟨f1, f2, f3⟩ := drop_cons hf false
      simp only [cuV]
      rw [pass a b lv _ f fl' hS hf, f2]
      cases f with
      | false => simp only [Bool.false_eq_true, if_false]; exact sim_leaf hS hf
      | true =>
        simp only [if_true, rdV]
        obtain ⟨⟨a0, a1⟩, hb, hl⟩ := id hS
        simp only at a0 a1
        have hS1 : CSOk fl hs (a + 1, b, lv, 0) := ⟨⟨by simp only; omega, by simp only; omega⟩, hb, hl⟩
        have s1 := ih (2 * i) (a + 1) b lv hS1 (fun j hj => hsz j (by omega))
        rw [show (a + 1).toNat = a.toNat + 1 by omega, f3] at s1
        have o1 := (cuV_ok (sz := sz) hh k (2 * i) _ hS1).1
        unfold kidsOf cuKids
        generalize rdV c k (2 * i) (fl', hs.drop b.toNat, lv) = r at *
        generalize hq : cuV fl hs sz k (2 * i) (a + 1, b, lv, 0) = q at *
        obtain ⟨e1, e2⟩ := s1
        by_cases he : r.2.2.2 = 0
        · obtain ⟨e3, e4⟩ := e2 he
          obtain ⟨⟨qa, qb, qlv, qe⟩, qh, qf⟩ := q
          obtain ⟨r0, rh, rf, re⟩ := r
          simp only at he e1 e3 e4 o1
          subst he
          subst e1
          cases e3
          subst e4
          have s2 := ih (2 * i + 1) qa qb qlv o1 (fun j hj => hsz j (by omega))
          simp only [ne_eq, not_true_eq_false, if_false, hsz k (by omega)]
          by_cases hw : 2 * i + 1 < wid c k
          · simp only [if_pos hw]
            generalize rdV c k (2 * i + 1) (fl.drop qa.toNat, hs.drop qb.toNat, qlv) = r2 at *
            generalize cuV fl hs sz k (2 * i + 1) (qa, qb, qlv, 0) = q2 at *
            obtain ⟨⟨qa2, qb2, qlv2, qe2⟩, qh2, qf2⟩ := q2
            obtain ⟨r20, rh2, rf2, re2⟩ := r2
            obtain ⟨g1, g2⟩ := s2
            simp only at g1 g2 ⊢
            by_cases he2 : re2 = 0
            · obtain ⟨g3, g4⟩ := g2 he2
              subst he2
              subst g1
              cases g3
              subst g4
              simp only [not_true_eq_false, if_false]
              by_cases hfl : (qf || qf2) = false
              · rw [if_pos hfl]
                have : fixE (qa2, qb2, qlv2, 0) (qf || qf2) = (qa2, qb2, qlv2, 3) := by unfold fixE; rw [if_pos ⟨rfl, hfl⟩]
                rw [this]
                exact ⟨rfl, fun h => by simp at h⟩
              · rw [if_neg hfl]
                have : fixE (qa2, qb2, qlv2, 0) (qf || qf2) = (qa2, qb2, qlv2, 0) := by unfold fixE; rw [if_neg (fun h => hfl h.2)]
                rw [this]
                exact ⟨rfl, fun _ => ⟨rfl, rfl⟩⟩
            · rw [if_pos he2]
              have : fixE (qa2, qb2, qlv2, qe2) (qf || qf2) = (qa2, qb2, qlv2, qe2) := by unfold fixE; rw [if_neg (fun h => he2 (by rw [← g1]; exact h.1))]
              rw [this]
              exact ⟨g1, fun h => absurd h he2⟩
          · simp only [if_neg hw]
            by_cases hfl : qf = false
            · rw [if_pos hfl]
              have : fixE (qa, qb, qlv, 0) qf = (qa, qb, qlv, 3) := by unfold fixE; rw [if_pos ⟨rfl, hfl⟩]
              rw [this]
              exact ⟨rfl, fun h => by simp at h⟩
            · rw [if_neg hfl]
              have : fixE (qa, qb, qlv, 0) qf = (qa, qb, qlv, 0) := by unfold fixE; rw [if_neg (fun h => hfl h.2)]
              rw [this]
              have hrf : qf = true := by cases qf <;> simp_all
              subst hrf
              exact ⟨rfl, fun _ => ⟨rfl, rfl⟩⟩
        · have hq4 : q.1.2.2.2 ≠ 0 := by rw [e1]; exact he
          have hfix : ∀ (s : CS) f, s.2.2.2 ≠ 0 → fixE s f = s := fun s f h => by unfold fixE; rw [if_neg (fun h2 => h h2.1)]
          rw [if_pos he]
          rw [cuV_fail k (2 * i + 1) q.1 hq4]
          simp only [hfix _ _ hq4]
          split
          · exact ⟨e1, fun h => absurd h he⟩
          · exact ⟨e1, fun h => absurd h he⟩
end Lc
