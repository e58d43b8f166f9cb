/- Chapter 16: where a locator meets the best line. -/
import Derived.Test.YtbaiojghpadffaaLaw16
namespace Lc
open Go
set_option maxRecDepth 10000
set_option linter.unusedVariables false
set_option linter.unusedSimpArgs false

/-! ## Maps -/
theorem mhas_put {K V : Ty} (h k : K.den) (v : V.den) : ∀ (m : List (K.den × V.den)), mhas K V h (mput K V k v m) = (K.beq h k || mhas K V h m)
  | [] => by simp [mput, mhas]
  | p :: r => by
    have ih := mhas_put h k v r
    by_cases e : K.beq k p.1 = true
    · have e' := (beq_iff K _ _).1 e
      subst e'
      simp only [mput, beq_self, if_true, mhas]
      by_cases f : K.beq h p.1 = true <;> simp [f]
    · simp only [mput, if_neg e, mhas, ih]
      by_cases f : K.beq h p.1 = true <;> by_cases g : K.beq h k = true <;> simp [f, g]
theorem mget_put {K V : Ty} (h k : K.den) (v d : V.den) : ∀ (m : List (K.den × V.den)), mget K V h d (mput K V k v m) = if K.beq h k = true then v else mget K V h d m
  | [] => by simp [mput, mget]
  | p :: r => by
    have ih := mget_put h k v d r
    by_cases e : K.beq k p.1 = true
    · have e' := (beq_iff K _ _).1 e
      subst e'
      simp only [mput, beq_self, if_true, mget]
      by_cases f : K.beq h p.1 = true <;> simp [f]
    · simp only [mput, if_neg e, mget, ih]
      by_cases f : K.beq h p.1 = true
      · have f' := (beq_iff K _ _).1 f
        subst f'
        have : ¬ (K.beq p.1 k = true) := fun g => e (by rw [(beq_iff K _ _).1 g]; exact beq_self K _)
        rw [if_pos f, if_neg this, if_pos f]
      · rw [if_neg f, if_neg f]

/-! ## The first place of a hash on a line -/
def idxN (t : Tr) (best : List Int) (n : Nat) (h : List Int) : Option Nat := (List.range n).find? (fun j => decide (h = hsh t (best.getD j 0)))
theorem idxN_succ (t : Tr) (best : List Int) (n : Nat) (h : List Int) : idxN t best (n + 1) h = (idxN t best n h).or (if h = hsh t (best.getD n 0) then some n else none) := by
  simp only [idxN, List.range_succ, List.find?_append]
  congr 1
  simp only [List.find?_cons, List.find?_nil]
  generalize hsh t (best.getD n 0) = z
  by_cases e : h = z <;> simp [e]
def meetOf (t : Tr) (best : List Int) : List (List Int) → Int
  | [] => 0
  | h :: r => match idxN t best best.length h with
    | some j => (j : Int)
    | none => meetOf t best r
def MOk (t : Tr) (best : List Int) (n : Nat) (m : List ((List Int) × Int)) : Prop :=
  ∀ h : List Int, mhas (.arr 32 (.int .u8)) (.int .i64) h m = (idxN t best n h).isSome ∧ mget (.arr 32 (.int .u8)) (.int .i64) h (0 : Int) m = (((idxN t best n h).getD 0 : Nat) : Int)
theorem beqH (h k : List Int) : Ty.beq (.arr 32 (.int .u8)) h k = decide (h = k) := beq_decide (.arr 32 (.int .u8)) h k
theorem MOk.put {t : Tr} {best : List Int} {n : Nat} {m : List ((List Int) × Int)} (h : MOk t best n m) (hn : mhas (.arr 32 (.int .u8)) (.int .i64) (hsh t (best.getD n 0)) m = false) :
    MOk t best (n + 1) (mput (.arr 32 (.int .u8)) (.int .i64) (hsh t (best.getD n 0)) (n : Int) m) := by
  intro k
  obtain ⟨h1, h2⟩ := h k
  have e1 := mhas_put (K := .arr 32 (.int .u8)) (V := .int .i64) k (hsh t (best.getD n 0)) (n : Int) m
  have e2 := mget_put (K := .arr 32 (.int .u8)) (V := .int .i64) k (hsh t (best.getD n 0)) (n : Int) (0 : Int) m
  rw [e1, e2, h1, h2, idxN_succ, beqH]
  clear e1 e2
  generalize hsh t (best.getD n 0) = z at *
  by_cases e : k = z
  · subst e
    rw [hn] at h1
    have : idxN t best n k = none := by
      cases hh : idxN t best n k with
      | none => rfl
      | some j => rw [hh] at h1; cases h1
    simp [this]
  · simp [e]
theorem MOk.old {t : Tr} {best : List Int} {n : Nat} {m : List ((List Int) × Int)} (h : MOk t best n m) (hn : mhas (.arr 32 (.int .u8)) (.int .i64) (hsh t (best.getD n 0)) m = true) :
    MOk t best (n + 1) m := by
  intro k
  obtain ⟨h1, h2⟩ := h k
  rw [h1, h2, idxN_succ]
  generalize hsh t (best.getD n 0) = z at *
  by_cases e : k = z
  · subst e
    rw [hn] at h1
    cases hh : idxN t best n k with
    | none => rw [hh] at h1; cases h1
    | some j => simp
  · simp [e]

def BMeetH.pre (t : Tr) (best : List Int) (l : List (List Int)) : Prop := (∀ j, j < best.length → Nod t (best.getD j 0)) ∧ best.length ≤ 1000000000 ∧ l.length ≤ 1000000000
def BMeetH.fn (t : Tr) (best : List Int) (l : List (List Int)) : Int := meetOf t best l
def BMeetH.inv3 (t : Tr) (best : List Int) (l : List (List Int)) (m : List ((List Int) × Int)) (v : Int) : Prop := 0 ≤ v ∧ v ≤ best.length ∧ MOk t best v.toNat m
def BMeetH.mes3 (t : Tr) (best : List Int) (l : List (List Int)) (m : List ((List Int) × Int)) (v : Int) : Nat := (best.length - v).toNat
def BMeetH.inv11 (t : Tr) (best : List Int) (l : List (List Int)) (m : List ((List Int) × Int)) (v : Int) : Prop := 0 ≤ v ∧ v ≤ l.length ∧ MOk t best best.length m ∧ meetOf t best l = meetOf t best (l.drop v.toNat)
def BMeetH.mes11 (t : Tr) (best : List Int) (l : List (List Int)) (m : List ((List Int) × Int)) (v : Int) : Nat := (l.length - v).toNat
def BMeetH.VC : Prop := ∀ (x0 : ((List ((Int × ((List Int) × ((List Int) × (Int × (Int × (Int × Unit)))))) × ((List Int) × (Int × (Int × ((List Int) × Unit)))))) × (Int × Unit))) (x1 : (List Int)) (x2 : (List (List Int))), BMeetH.pre x0 x1 x2 →
 (BMeetH.inv3 x0 x1 x2 ([] : (List ((List Int) × Int))) (0 : Int) ∧
 ∀ (v7 : (List ((List Int) × Int))) (v20 : Int), BMeetH.inv3 x0 x1 x2 v7 v20 →
 (((decide (v20 < (x1.length : Int))) = true →
 (0 ≤ v20 ∧ v20 < (x1.length : Int)) ∧
 (0 ≤ (x1.getD (Int.toNat v20) (0 : Int)) ∧ (x1.getD (Int.toNat v20) (0 : Int)) < (x0.1.length : Int)) ∧
 (let v30 : (List Int) := (x0.1.getD (Int.toNat (x1.getD (Int.toNat v20) (0 : Int))) (((0 : Int), ((List.replicate 32 (0 : Int)), ((List.replicate 32 (0 : Int)), ((0 : Int), ((0 : Int), ((0 : Int), ())))))), ((List.replicate 32 (0 : Int)), ((0 : Int), ((0 : Int), ((List.replicate 4 (0 : Int)), ())))))).2.1
 (((!(mhas (.arr 32 (.int .u8)) (.int .i64) v30 v7)) = true →
 (BMeetH.inv3 x0 x1 x2 (mput (.arr 32 (.int .u8)) (.int .i64) v30 v20 v7) (IntKind.i64.wrap (v20 + (1 : Int))) ∧ BMeetH.mes3 x0 x1 x2 (mput (.arr 32 (.int .u8)) (.int .i64) v30 v20 v7) (IntKind.i64.wrap (v20 + (1 : Int))) < BMeetH.mes3 x0 x1 x2 v7 v20)) ∧
 ((!(mhas (.arr 32 (.int .u8)) (.int .i64) v30 v7)) = false →
 (BMeetH.inv3 x0 x1 x2 v7 (IntKind.i64.wrap (v20 + (1 : Int))) ∧ BMeetH.mes3 x0 x1 x2 v7 (IntKind.i64.wrap (v20 + (1 : Int))) < BMeetH.mes3 x0 x1 x2 v7 v20))))) ∧
 ((decide (v20 < (x1.length : Int))) = false →
 (BMeetH.inv11 x0 x1 x2 v7 (0 : Int) ∧
 ∀ (v7_1 : (List ((List Int) × Int))) (v45 : Int), BMeetH.inv11 x0 x1 x2 v7_1 v45 →
 (((decide (v45 < (x2.length : Int))) = true →
 (0 ≤ v45 ∧ v45 < (x2.length : Int)) ∧
 (let v53 : Int := (mget (.arr 32 (.int .u8)) (.int .i64) (x2.getD (Int.toNat v45) (List.replicate 32 (0 : Int))) (0 : Int) v7_1)
 (let v54 : Bool := (mhas (.arr 32 (.int .u8)) (.int .i64) (x2.getD (Int.toNat v45) (List.replicate 32 (0 : Int))) v7_1)
 ((v54 = true →
 (Ret1 v53 (BMeetH.fn x0 x1 x2))) ∧
 (v54 = false →
 (BMeetH.inv11 x0 x1 x2 v7_1 (IntKind.i64.wrap (v45 + (1 : Int))) ∧ BMeetH.mes11 x0 x1 x2 v7_1 (IntKind.i64.wrap (v45 + (1 : Int))) < BMeetH.mes11 x0 x1 x2 v7_1 v45)))))) ∧
 ((decide (v45 < (x2.length : Int))) = false →
 (Ret1 (0 : Int) (BMeetH.fn x0 x1 x2))))))))
theorem drop_getH {x : List (List Int)} {v : Nat} {d : List Int} (h : v < x.length) : x.drop v = x.getD v d :: x.drop (v + 1) := by
  rw [List.drop_eq_getElem_cons h]; simp [List.getD_eq_getElem?_getD, h]
theorem BMeetH.vc : BMeetH.VC := by
  rintro t best l ⟨p1, p2, p3⟩
  refine ⟨⟨by omega, by omega, fun h => ⟨rfl, rfl⟩⟩, ?_⟩
  rintro m v ⟨k1, k2, k3⟩
  refine ⟨fun hc => ?_, fun hc => ?_⟩
  · have hc := of_decide_eq_true hc
    refine ⟨⟨k1, hc⟩, p1 _ (by omega), fun hd => ?_, fun hd => ?_⟩
    · rw [hsh_fold] at hd ⊢
      rw [i64w (by omega) (by omega)]
      have := k3.put (by simpa using hd)
      rw [show ((v.toNat : Nat) : Int) = v by omega] at this
      exact ⟨⟨by omega, by omega, by rw [show (v + 1).toNat = v.toNat + 1 by omega]; exact this⟩, by simp only [BMeetH.mes3]; omega⟩
    · rw [hsh_fold] at hd
      rw [i64w (by omega) (by omega)]
      have := k3.old (by simpa using hd)
      exact ⟨⟨by omega, by omega, by rw [show (v + 1).toNat = v.toNat + 1 by omega]; exact this⟩, by simp only [BMeetH.mes3]; omega⟩
  · have hc := of_decide_eq_false hc
    have hv : v.toNat = best.length := by omega
    rw [hv] at k3
    refine ⟨⟨by omega, by omega, k3, by simp⟩, ?_⟩
    rintro m2 w ⟨j1, j2, j3, j4⟩
    refine ⟨fun hd => ?_, fun hd => ?_⟩
    · have hd := of_decide_eq_true hd
      have hdr := drop_getH (x := l) (v := w.toNat) (d := List.replicate 32 0) (by omega)
      obtain ⟨q1, q2⟩ := j3 (l.getD w.toNat (List.replicate 32 0))
      refine ⟨⟨j1, hd⟩, fun he => ret1.2 ?_, fun he => ⟨⟨?_, ?_, j3, ?_⟩, ?_⟩⟩
      · rw [q1] at he
        rw [q2, BMeetH.fn, j4, hdr, meetOf]
        cases hi : idxN t best best.length (l.getD w.toNat (List.replicate 32 0)) with
        | none => rw [hi] at he; cases he
        | some j => rfl
      · rw [i64w (by omega) (by omega)]; omega
      · rw [i64w (by omega) (by omega)]; omega
      · rw [i64w (by omega) (by omega), show (w + 1).toNat = w.toNat + 1 by omega, j4, hdr, meetOf]
        rw [q1] at he
        cases hi : idxN t best best.length (l.getD w.toNat (List.replicate 32 0)) with
        | none => rfl
        | some j => rw [hi] at he; cases he
      · rw [i64w (by omega) (by omega)]; simp only [BMeetH.mes11]; omega
    · have hd := of_decide_eq_false hd
      refine ret1.2 ?_
      rw [BMeetH.fn, j4, List.drop_eq_nil_of_le (by omega)]; rfl

theorem idxN_lt {t : Tr} {best : List Int} {n : Nat} {h : List Int} {j : Nat} (e : idxN t best n h = some j) : j < n ∧ h = hsh t (best.getD j 0) := by
  have h1 := List.mem_of_find?_eq_some e
  have h2 := List.find?_some e
  exact ⟨List.mem_range.1 h1, of_decide_eq_true h2⟩
theorem meetOf_rng (t : Tr) (best : List Int) (h1 : 1 ≤ best.length) : ∀ l, 0 ≤ meetOf t best l ∧ meetOf t best l < best.length
  | [] => by simp only [meetOf]; omega
  | h :: r => by
    rw [meetOf]
    cases e : idxN t best best.length h with
    | none => exact meetOf_rng t best h1 r
    | some j => have := (idxN_lt e).1; simp only; omega

def BMeet.pre (t : Tr) (l : List (List Int)) : Prop := l.length ≤ 1000000000
noncomputable def BMeet.fn (t : Tr) (l : List (List Int)) : Int := if Snd t then (lineOf t t.2.1).getD (meetOf t (lineOf t t.2.1) l).toNat 0 else -1
def BMeet.VC : Prop := ∀ (x0 : ((List ((Int × ((List Int) × ((List Int) × (Int × (Int × (Int × Unit)))))) × ((List Int) × (Int × (Int × ((List Int) × Unit)))))) × (Int × Unit))) (x1 : (List (List Int))), BMeet.pre x0 x1 →
 BSound.pre x0 ∧
 (((!(BSound.fn x0)) = true →
 (Ret1 (-1 : Int) (BMeet.fn x0 x1))) ∧
 ((!(BSound.fn x0)) = false →
 BLine.pre x0 x0.2.1 ∧
 BMeetH.pre x0 (BLine.fn x0 x0.2.1) x1 ∧
 (0 ≤ (BMeetH.fn x0 (BLine.fn x0 x0.2.1) x1) ∧ (BMeetH.fn x0 (BLine.fn x0 x0.2.1) x1) < ((BLine.fn x0 x0.2.1).length : Int)) ∧
 (let v19 : Int := ((BLine.fn x0 x0.2.1).getD (Int.toNat (BMeetH.fn x0 (BLine.fn x0 x0.2.1) x1)) (0 : Int))
 (Ret1 v19 (BMeet.fn x0 x1)))))
theorem BMeet.vc : BMeet.VC := by
  intro t l hp
  have hp : l.length ≤ 1000000000 := hp
  simp only [imp_self, true_and, and_true, Bool.cond_true_left, Bool.cond_false_right, Bool.or_eq_true, Bool.or_eq_false_iff, Bool.and_eq_true, Bool.and_eq_false_iff, decide_eq_true_eq, decide_eq_false_iff_not, Bool.not_eq_true', Bool.not_eq_false', beq_iff_eq, bne_iff_ne, ne_eq, beq_eq_false_iff_ne, bne_eq_false_iff_eq, Int.not_lt, Int.not_le, gt_iff_lt, ge_iff_le, Decidable.not_not, Bool.not_eq_true, Bool.not_eq_false]
  try simp only [par_fold, hgt_fold, hsh_fold]
  simp only [BSound.fn, decide_eq_false_iff_not, decide_eq_true_eq]
  refine ⟨trivial, fun h => ret1.2 (by rw [BMeet.fn, if_neg h]), fun h => ?_⟩
  have hb : Nod t t.2.1 := h.2.1
  have hg := hgt_nn h hb
  have hl := lineOf_len t t.2.1
  have h3 : (t.1.length : Int) ≤ 4096 := by have := h.1.2; omega
  have hb2 := hb.2
  refine ⟨⟨h, hb⟩, ⟨fun j hj => (lineOf_nod h hb (h := j) ?_).1, ?_, hp⟩, meetOf_rng t _ ?_ l, ret1.2 ?_⟩
  · simp only [BLine.fn] at hj; omega
  · simp only [BLine.fn]; omega
  · simp only [BLine.fn]; omega
  · rw [BMeet.fn, if_pos h]; rfl

/-! ## Hashes of a line are different -/
theorem hsh_new (l : List Int) (m : Nat) (b : Int) : ∀ i : Nat, i ≤ m → hsh (lnodes l m, (b, ())) i = if i = 0 then (List.replicate 32 (0 : Int)).set 0 255 else ((List.replicate 32 (0 : Int)).set 0 (IntKind.u8.wrap ((i - 1 : Nat) : Int))).set 1 1 := by
  induction m with
  | zero => intro i hi; have : i = 0 := by omega
            subst this; rfl
  | succ m ih =>
    intro i hi
    by_cases e : i = m + 1
    · subst e
      rw [if_neg (by omega)]
      simp only [hsh]
      rw [Int.toNat_natCast, lnodes_new]
      rfl
    · rw [← ih i (by omega)]
      simp only [hsh]
      rw [Int.toNat_natCast, lnodes_get l m i nd0 (by omega)]
theorem hsh_inj {l : List Int} {i j : Int} (hi : Nod (LLine.fn l) i) (hj : Nod (LLine.fn l) j) (h : hsh (LLine.fn l) i = hsh (LLine.fn l) j) : i = j := by
  have hl : (LLine.fn l).1.length = (l.take 60).length + 1 := lnodes_len _ _
  have h60 : (l.take 60).length ≤ 60 := by simp; omega
  obtain ⟨i1, i2⟩ := hi
  obtain ⟨j1, j2⟩ := hj
  obtain ⟨i, rfl⟩ := Int.eq_ofNat_of_zero_le i1
  obtain ⟨j, rfl⟩ := Int.eq_ofNat_of_zero_le j1
  have e1 := hsh_new (l.take 60) (l.take 60).length (bestN (lineN l) (lineN l).length) i (by omega)
  have e2 := hsh_new (l.take 60) (l.take 60).length (bestN (lineN l) (lineN l).length) j (by omega)
  have f1 : hsh (LLine.fn l) (i : Int) = _ := e1
  have f2 : hsh (LLine.fn l) (j : Int) = _ := e2
  rw [f1, f2] at h
  have w : ∀ n : Nat, n ≤ 60 → IntKind.u8.wrap ((n - 1 : Nat) : Int) = ((n - 1 : Nat) : Int) := fun n hn => u8w (by omega) (by omega)
  rw [w i (by omega), w j (by omega)] at h
  have g0 := congrArg (fun x : List Int => x.getD 0 0) h
  by_cases a : i = 0 <;> by_cases b : j = 0 <;> simp [a, b] at g0 ⊢ <;> omega

/-! ## Where they meet -/
theorem cmn_gt : ∀ (a b : List Int) (h : Nat), h < a.length → h < b.length → (∀ j, j ≤ h → a.getD j 0 = b.getD j 0) → h < cmn a b := by
  intro a
  induction a with
  | nil => intro b h h1; simp at h1
  | cons x xs ih =>
    intro b h h1 h2 h3
    cases b with
    | nil => simp at h2
    | cons y ys =>
      have e := h3 0 (by omega)
      simp at e
      rw [cmn, if_pos e]
      cases h with
      | zero => omega
      | succ h =>
        have := ih ys h (by simpa using h1) (by simpa using h2) (fun j hj => by simpa using h3 (j + 1) (by omega))
        omega
theorem par_lineC {t : Tr} {n : Int} {h : Nat} (hh : (h : Int) + 1 ≤ hgt t n) : par t ((lineOf t n).getD (h + 1) 0) = (lineOf t n).getD h 0 := by
  rw [lineOf_get (h := h + 1) (by omega), lineOf_get (h := h) (by omega)]
  rw [show (hgt t n).toNat - h = ((hgt t n).toNat - (h + 1)) + 1 by omega]; rfl
theorem below {t : Tr} {a b : Int} : ∀ (h : Nat), (h : Int) ≤ hgt t a → (h : Int) ≤ hgt t b → (lineOf t a).getD h 0 = (lineOf t b).getD h 0 → ∀ j, j ≤ h → (lineOf t a).getD j 0 = (lineOf t b).getD j 0
  | 0, _, _, e, j, hj => by have : j = 0 := by omega
                            subst this; exact e
  | h + 1, h1, h2, e, j, hj => by
    by_cases q : j = h + 1
    · subst q; exact e
    · have p1 := par_lineC (t := t) (n := a) (h := h) (by omega)
      have p2 := par_lineC (t := t) (n := b) (h := h) (by omega)
      exact below h (by omega) (by omega) (by rw [← p1, ← p2, e]) j (by omega)

def firstLt (c : Int) : List Int → Int
  | [] => 0
  | h :: r => if h < c then h else firstLt c r
theorem meet_first {l : List Int} {k b : Int} (hS : Snd (LLine.fn l)) (hk : Nod (LLine.fn l) k) (hb : Nod (LLine.fn l) b) : ∀ (hs : List Int), (∀ x, x ∈ hs → 0 ≤ x ∧ x ≤ hgt (LLine.fn l) k) →
    meetOf (LLine.fn l) (lineOf (LLine.fn l) b) (hs.map (hashAt (LLine.fn l) k)) = firstLt (cmn (lineOf (LLine.fn l) k) (lineOf (LLine.fn l) b)) hs
  | [], _ => rfl
  | x :: r, hx => by
    have ih := meet_first hS hk hb r (fun y hy => hx y (List.mem_cons_of_mem _ hy))
    obtain ⟨x1, x2⟩ := hx x List.mem_cons_self
    have lb := lineOf_len (LLine.fn l) b
    have lk := lineOf_len (LLine.fn l) k
    have hgb := (hgt_nn hS hb).1
    obtain ⟨c1, c2, c3⟩ := cmn_spec (lineOf (LLine.fn l) k) (lineOf (LLine.fn l) b)
    obtain ⟨n1, n2⟩ := lineOf_nod hS hk (h := x.toNat) (by omega)
    -- a place of this hash on the other line is at its own height
    have same : ∀ j, j < (lineOf (LLine.fn l) b).length → hashAt (LLine.fn l) k x = hsh (LLine.fn l) ((lineOf (LLine.fn l) b).getD j 0) → j = x.toNat ∧ (lineOf (LLine.fn l) k).getD x.toNat 0 = (lineOf (LLine.fn l) b).getD x.toNat 0 := by
      intro j hj e
      obtain ⟨m1, m2⟩ := lineOf_nod hS hb (h := j) (by omega)
      have e2 := hsh_inj n1 m1 e
      rw [← e2, n2] at m2
      have : j = x.toNat := by omega
      subst this
      exact ⟨rfl, e2⟩
    rw [List.map_cons, meetOf, firstLt, ih]
    cases hi : idxN (LLine.fn l) (lineOf (LLine.fn l) b) (lineOf (LLine.fn l) b).length (hashAt (LLine.fn l) k x) with
    | some j =>
      obtain ⟨g1, g2⟩ := idxN_lt hi
      obtain ⟨g3, g4⟩ := same j g1 g2
      have := cmn_gt (lineOf (LLine.fn l) k) (lineOf (LLine.fn l) b) x.toNat (by omega) (by omega) (below x.toNat (by omega) (by omega) g4)
      rw [if_pos (by omega)]
      simp only; omega
    | none =>
      rw [if_neg]
      intro hlt
      have e := c3 x.toNat (by omega)
      have := List.find?_eq_none.1 hi x.toNat (List.mem_range.2 (by omega))
      simp only [decide_eq_true_eq] at this
      exact this (by rw [hashAt, e])

theorem near_facts : ∀ K : Fin 61, ∀ F : Fin 61, F.val ≤ K.val → 0 ≤ firstLt ((F.val : Int) + 1) (locHs (K.val : Int)) ∧ firstLt ((F.val : Int) + 1) (locHs (K.val : Int)) ≤ F.val ∧ (firstLt ((F.val : Int) + 1) (locHs (K.val : Int)) = 0 ∨ (F.val : Int) - (K.val - F.val) ≤ firstLt ((F.val : Int) + 1) (locHs (K.val : Int))) := by decide +kernel
theorem loc_mem : ∀ K : Fin 61, ∀ x, x ∈ locHs (K.val : Int) → 0 ≤ x ∧ x ≤ K.val := by decide +kernel

def BranchMeetsNear.pre (l : List Int) (n : Int) : Prop := U8s l ∧ 0 ≤ n ∧ n ≤ 255
def BranchMeetsNear.fn (l : List Int) (n : Int) : Bool := true
def BranchMeetsNear.VC : Prop := ∀ (x0 : (List Int)) (x1 : Int), BranchMeetsNear.pre x0 x1 →
 LSane.pre ∧
 (((!(LSane.fn)) = true →
 (Ret1 false (BranchMeetsNear.fn x0 x1))) ∧
 ((!(LSane.fn)) = false →
 LLine.pre x0 ∧
 ((LLine.fn x0).1.length : Int) ≠ 0 ∧
 (let v19 : Int := (Int.tmod (IntKind.i64.wrap x1) ((LLine.fn x0).1.length : Int))
 BFork.pre (LLine.fn x0) v19 ((LLine.fn x0).2.1) ∧
 (0 ≤ (BFork.fn (LLine.fn x0) v19 ((LLine.fn x0).2.1)) ∧ (BFork.fn (LLine.fn x0) v19 ((LLine.fn x0).2.1)) < ((LLine.fn x0).1.length : Int)) ∧
 (let v29 : Int := ((LLine.fn x0).1.getD (Int.toNat (BFork.fn (LLine.fn x0) v19 ((LLine.fn x0).2.1))) (((0 : Int), ((List.replicate 32 (0 : Int)), ((List.replicate 32 (0 : Int)), ((0 : Int), ((0 : Int), ((0 : Int), ())))))), ((List.replicate 32 (0 : Int)), ((0 : Int), ((0 : Int), ((List.replicate 4 (0 : Int)), ())))))).2.2.2.1
 BLocator.pre (LLine.fn x0) v19 ∧
 BMeet.pre (LLine.fn x0) (BLocator.fn (LLine.fn x0) v19) ∧
 (let v36 : Bool := (decide ((BMeet.fn (LLine.fn x0) (BLocator.fn (LLine.fn x0) v19)) < (0 : Int)))
 (v36 = false → v36 = false) ∧
 (v36 = false → v36 = false) ∧
 (v36 = false → v36 = false) ∧
 (v36 = false → v36 = false) ∧
 (v36 = false → v36 = false) ∧
 (let v43 : Bool := (bif v36 then true else (decide ((BMeet.fn (LLine.fn x0) (BLocator.fn (LLine.fn x0) v19)) ≥ ((LLine.fn x0).1.length : Int))))
 ((v43 = true →
 (Ret1 false (BranchMeetsNear.fn x0 x1))) ∧
 (v43 = false →
 (0 ≤ (BMeet.fn (LLine.fn x0) (BLocator.fn (LLine.fn x0) v19)) ∧ (BMeet.fn (LLine.fn x0) (BLocator.fn (LLine.fn x0) v19)) < ((LLine.fn x0).1.length : Int)) ∧
 (let v49 : Int := ((LLine.fn x0).1.getD (Int.toNat (BMeet.fn (LLine.fn x0) (BLocator.fn (LLine.fn x0) v19))) (((0 : Int), ((List.replicate 32 (0 : Int)), ((List.replicate 32 (0 : Int)), ((0 : Int), ((0 : Int), ((0 : Int), ())))))), ((List.replicate 32 (0 : Int)), ((0 : Int), ((0 : Int), ((List.replicate 4 (0 : Int)), ())))))).2.2.2.1
 BAncestor.pre (LLine.fn x0) v19 v49 ∧
 (let v55 : Bool := ((BAncestor.fn (LLine.fn x0) v19 v49) == (BMeet.fn (LLine.fn x0) (BLocator.fn (LLine.fn x0) v19)))
 (v55 = true → v55 = true) ∧
 (v55 = true → v55 = true) ∧
 (v55 = true → v55 = true) ∧
 ((bif v55 then (decide (v49 ≤ v29)) else false) = true → (bif v55 then (decide (v49 ≤ v29)) else false) = true) ∧
 ((bif v55 then (decide (v49 ≤ v29)) else false) = true → (bif v55 then (decide (v49 ≤ v29)) else false) = true) ∧
 (((bif v55 then (decide (v49 ≤ v29)) else false) = true ∧ (v49 == (0 : Int)) = false) → ((bif v55 then (decide (v49 ≤ v29)) else false) = true ∧ (v49 == (0 : Int)) = false)) ∧
 (((bif v55 then (decide (v49 ≤ v29)) else false) = true ∧ (v49 == (0 : Int)) = false) → ((bif v55 then (decide (v49 ≤ v29)) else false) = true ∧ (v49 == (0 : Int)) = false)) ∧
 (((bif v55 then (decide (v49 ≤ v29)) else false) = true ∧ (v49 == (0 : Int)) = false) → ((bif v55 then (decide (v49 ≤ v29)) else false) = true ∧ (v49 == (0 : Int)) = false)) ∧
 (((bif v55 then (decide (v49 ≤ v29)) else false) = true ∧ (v49 == (0 : Int)) = false) → (0 ≤ v19 ∧ v19 < ((LLine.fn x0).1.length : Int))) ∧
 (((bif v55 then (decide (v49 ≤ v29)) else false) = true ∧ (v49 == (0 : Int)) = false) → ((bif v55 then (decide (v49 ≤ v29)) else false) = true ∧ (v49 == (0 : Int)) = false)) ∧
 (((bif v55 then (decide (v49 ≤ v29)) else false) = true ∧ (v49 == (0 : Int)) = false) → ((bif v55 then (decide (v49 ≤ v29)) else false) = true ∧ (v49 == (0 : Int)) = false)) ∧
 (((bif v55 then (decide (v49 ≤ v29)) else false) = true ∧ (v49 == (0 : Int)) = false) → ((bif v55 then (decide (v49 ≤ v29)) else false) = true ∧ (v49 == (0 : Int)) = false)) ∧
 (((bif v55 then (decide (v49 ≤ v29)) else false) = true ∧ (v49 == (0 : Int)) = false) → ((bif v55 then (decide (v49 ≤ v29)) else false) = true ∧ (v49 == (0 : Int)) = false)) ∧
 (((bif v55 then (decide (v49 ≤ v29)) else false) = true ∧ (v49 == (0 : Int)) = false) → ((bif v55 then (decide (v49 ≤ v29)) else false) = true ∧ (v49 == (0 : Int)) = false)) ∧
 (((bif v55 then (decide (v49 ≤ v29)) else false) = true ∧ (v49 == (0 : Int)) = false) → ((bif v55 then (decide (v49 ≤ v29)) else false) = true ∧ (v49 == (0 : Int)) = false)) ∧
 (((bif v55 then (decide (v49 ≤ v29)) else false) = true ∧ (v49 == (0 : Int)) = false) → ((bif v55 then (decide (v49 ≤ v29)) else false) = true ∧ (v49 == (0 : Int)) = false)) ∧
 (((bif v55 then (decide (v49 ≤ v29)) else false) = true ∧ (v49 == (0 : Int)) = false) → ((bif v55 then (decide (v49 ≤ v29)) else false) = true ∧ (v49 == (0 : Int)) = false)) ∧
 ((bif v55 then (decide (v49 ≤ v29)) else false) = true → (bif v55 then (decide (v49 ≤ v29)) else false) = true) ∧
 ((bif v55 then (decide (v49 ≤ v29)) else false) = true → ((v49 == (0 : Int)) = false → ((bif v55 then (decide (v49 ≤ v29)) else false) = true ∧ (v49 == (0 : Int)) = false))) ∧
 ((bif v55 then (decide (v49 ≤ v29)) else false) = true → (bif v55 then (decide (v49 ≤ v29)) else false) = true) ∧
 (let v78 : Bool := (bif (bif v55 then (decide (v49 ≤ v29)) else false) then (bif (v49 == (0 : Int)) then true else (decide (v49 ≥ (IntKind.i64.wrap (v29 - (IntKind.i64.wrap (((LLine.fn x0).1.getD (Int.toNat v19) (((0 : Int), ((List.replicate 32 (0 : Int)), ((List.replicate 32 (0 : Int)), ((0 : Int), ((0 : Int), ((0 : Int), ())))))), ((List.replicate 32 (0 : Int)), ((0 : Int), ((0 : Int), ((List.replicate 4 (0 : Int)), ())))))).2.2.2.1 - v29))))))) else false)
 (Ret1 v78 (BranchMeetsNear.fn x0 x1)))))))))))))
theorem BranchMeetsNear.vc : BranchMeetsNear.VC := by
  rintro l n ⟨hU, n1, n2⟩
  have hS := line_snd hU
  have hlen := line_len l
  have hfk : Int.tmod (IntKind.i64.wrap n) ((LLine.fn l).1.length : Int) = shortK l n := rfl
  have hk : Nod (LLine.fn l) (shortK l n) := by
    rw [← hfk, i64w (by omega) (by omega), Int.tmod_eq_emod_of_nonneg n1]
    exact ⟨Int.emod_nonneg _ (by omega), Int.emod_lt_of_pos _ (by omega)⟩
  have hb : Nod (LLine.fn l) (LLine.fn l).2.1 := hS.2.1
  simp only [hfk]
  generalize hK : shortK l n = k at *
  have hH := hgt_nn hS hk
  have hk2 := hk.2
  have hgb := (hgt_nn hS hb).1
  have lb := lineOf_len (LLine.fn l) (LLine.fn l).2.1
  have lk := lineOf_len (LLine.fn l) k
  have cp := cmn_pos hS hk hb
  obtain ⟨c1, c2, c3⟩ := cmn_spec (lineOf (LLine.fn l) k) (lineOf (LLine.fn l) (LLine.fn l).2.1)
  have hfork : BFork.fn (LLine.fn l) k (LLine.fn l).2.1 = (lineOf (LLine.fn l) k).getD (cmn (lineOf (LLine.fn l) k) (lineOf (LLine.fn l) (LLine.fn l).2.1) - 1) 0 := by rw [BFork.fn, forkOf, if_pos ⟨hS, hk, hb⟩]
  obtain ⟨q1, q2⟩ := lineOf_nod hS hk (h := cmn (lineOf (LLine.fn l) k) (lineOf (LLine.fn l) (LLine.fn l).2.1) - 1) (by omega)
  rw [← hfork] at q1 q2
  have hloc : BLocator.fn (LLine.fn l) k = (locHs (hgt (LLine.fn l) k)).map (hashAt (LLine.fn l) k) := by rw [BLocator.fn, if_pos ⟨hS, hk⟩]
  have hHt : (((hgt (LLine.fn l) k).toNat : Nat) : Int) = hgt (LLine.fn l) k := by omega
  have hmem := loc_mem ⟨(hgt (LLine.fn l) k).toNat, by omega⟩
  simp only [hHt] at hmem
  have hm := meet_first hS hk hb _ hmem
  have nf := near_facts ⟨(hgt (LLine.fn l) k).toNat, by omega⟩ ⟨cmn (lineOf (LLine.fn l) k) (lineOf (LLine.fn l) (LLine.fn l).2.1) - 1, by omega⟩ (by simp only; omega)
  simp only [hHt] at nf
  rw [show ((cmn (lineOf (LLine.fn l) k) (lineOf (LLine.fn l) (LLine.fn l).2.1) - 1 : Nat) : Int) + 1 = (cmn (lineOf (LLine.fn l) k) (lineOf (LLine.fn l) (LLine.fn l).2.1) : Int) by omega] at nf
  have hmeet : BMeet.fn (LLine.fn l) (BLocator.fn (LLine.fn l) k) = (lineOf (LLine.fn l) k).getD (firstLt (cmn (lineOf (LLine.fn l) k) (lineOf (LLine.fn l) (LLine.fn l).2.1)) (locHs (hgt (LLine.fn l) k))).toNat 0 := by
    rw [BMeet.fn, if_pos hS, hloc, hm]
    exact (c3 _ (by omega)).symm
  have hll : (BLocator.fn (LLine.fn l) k).length ≤ 1000000000 := by
    rw [hloc, List.length_map]
    have := (loc_facts ⟨(hgt (LLine.fn l) k).toNat, by omega⟩).1
    simp only [hHt] at this
    omega
  generalize hM : firstLt (cmn (lineOf (LLine.fn l) k) (lineOf (LLine.fn l) (LLine.fn l).2.1)) (locHs (hgt (LLine.fn l) k)) = M at *
  obtain ⟨w1, w2⟩ := lineOf_nod hS hk (h := M.toNat) (by omega)
  have hanc : BAncestor.fn (LLine.fn l) k M = BMeet.fn (LLine.fn l) (BLocator.fn (LLine.fn l) k) := by
    rw [BAncestor.fn, ancOf, if_pos ⟨hS, hk, by omega, by omega⟩, hmeet]
  rw [← hmeet] at w1 w2
  rw [show ((M.toNat : Nat) : Int) = M by omega] at w2
  generalize hMT : BMeet.fn (LLine.fn l) (BLocator.fn (LLine.fn l) k) = mt at *
  generalize hFK : BFork.fn (LLine.fn l) k (LLine.fn l).2.1 = fk at *
  generalize hC : cmn (lineOf (LLine.fn l) k) (lineOf (LLine.fn l) (LLine.fn l).2.1) = c at *
  refine ⟨trivial, fun h => by simp [LSane.fn] at h, fun _ => ⟨hU, by omega, trivial, q1, ?_⟩⟩
  simp only [hgt_fold, w2, q2, hanc]
  rw [i64w (n := hgt (LLine.fn l) k - ((c - 1 : Nat) : Int)) (by omega) (by omega), i64w (by omega) (by omega)]
  have m1 : decide (mt < 0) = false := decide_eq_false (by have := w1.1; omega)
  have m2 : decide (mt ≥ ((LLine.fn l).1.length : Int)) = false := decide_eq_false (by have := w1.2; omega)
  have m3 : decide (M ≤ ((c - 1 : Nat) : Int)) = true := decide_eq_true (by omega)
  have m4 : (M == 0 || decide (M ≥ ((c - 1 : Nat) : Int) - (hgt (LLine.fn l) k - ((c - 1 : Nat) : Int)))) = true := by
    rcases nf.2.2 with h | h
    · simp [h]
    · simp [h]
  have lp : BLocator.pre (LLine.fn l) k := (by show (LLine.fn l).1.length ≤ 100; omega)
  rw [m1, m2, m3]
  simp only [cond_false, cond_true, Bool.cond_true_left, m4]
  refine ⟨lp, hll, ?_⟩
  have hk0 : (0 ≤ k ∧ k < ((LLine.fn l).1.length : Int)) := hk
  have w0 : (0 ≤ mt ∧ mt < ((LLine.fn l).1.length : Int)) := w1
  simp [hk0, w0, BAncestor.pre, ret1, BranchMeetsNear.fn]
end Lc
