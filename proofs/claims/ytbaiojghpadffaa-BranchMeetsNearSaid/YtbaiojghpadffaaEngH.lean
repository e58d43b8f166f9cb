/- The engine, part H: the data behind an argument; blocks and their places. -/
import Derived.Test.YtbaiojghpadffaaEngG
namespace Lc
open Go Go.RowKit
set_option linter.unusedVariables false
set_option linter.unusedSimpArgs false

def full (H : Array Obj) : FH := fun b i => cellAt H b i

theorem HRel.le_full {F : FH} {ρ : RM} {L : HL} {H : Array Obj} {B0 : Nat → Prop} (h : HRel F ρ L H B0) : F.le (full H) := h.cons

theorem take_drop_get {l : List Value} {o n i : Nat} {c : Value} (h : ((l.drop o).take n)[i]? = some c) : l[o + i]? = some c := by
  rw [List.getElem?_take] at h
  split at h
  · rw [List.getElem?_drop] at h; exact h
  · cases h

theorem blk_get {F : FH} {row : Bool} {cap : Cap} {n : Nat} {t : Ty} {x : t.den} {cs : List Value} {p : List Stp} {tv : TV} (hc : RepC F row cap n t x cs) (ok : okB row (lenT t x) t p)
    (hp : (row && p.isEmpty) = false) (hg : getP t x p = some tv) :
    ∃ o, t.nav p = some (tv.t, o) ∧ o + tv.t.size ≤ cs.length ∧ Rep F tv.t tv.x ((cs.drop o).take tv.t.size) := by
  cases row
  · have hr : Rep F t x cs := by cases t <;> simp only [RepC] at hc <;> first | exact hc.2.1 | exact hc.1
    obtain ⟨o, h1, h2, h3⟩ := getP_rep t x cs p hr ok tv hg
    exact ⟨o, h1, by rw [rep_len _ _ _ hr]; exact h2, h3⟩
  · cases p with
    | nil => simp at hp
    | cons s p =>
      cases t with
      | arr m u =>
        simp only [RepC] at hc
        obtain ⟨h1, h2, h3⟩ := hc
        cases s with
        | fld i => simp [okB] at ok
        | idx i =>
          simp only [okB] at ok
          obtain ⟨k1, k2⟩ := ok
          have g := repL_get (fun x cs => rep_len u x cs) _ _ h1 i u.dflt k1
          obtain ⟨o, n1, n2, n3⟩ := getP_rep u _ _ p g k2 tv hg
          have ll := repL_rep_len h1
          have b1 : (i + 1) * u.size ≤ List.length x * u.size := Nat.mul_le_mul_right _ k1
          have b2 : (i + 1) * u.size = i * u.size + u.size := by rw [Nat.add_mul]; omega
          refine ⟨i * u.size + o, by simp only [Ty.nav, n1], by omega, ?_⟩
          rw [List.drop_take, List.drop_drop, List.take_take, show min tv.t.size (u.size - o) = tv.t.size by omega] at n3
          exact n3
      | _ => simp [okB] at ok

theorem lenT_setP {p : List Stp} {v : TV} : ∀ {t : Ty} {x y : t.den}, setP t x p v = some y → p ≠ [] → lenT t y = lenT t x := by
  intro t x y h hp
  cases p with
  | nil => exact absurd rfl hp
  | cons s p =>
    cases t with
    | arr n u =>
      cases s with
      | fld i => simp [setP] at h
      | idx i =>
        simp only [setP] at h
        split at h
        · cases h; simp [lenT]
        · cases h
    | _ => rfl

theorem blk_set {F : FH} {row : Bool} {cap : Cap} {n : Nat} {t : Ty} {x y : t.den} {cs : List Value} {p : List Stp} {tv : TV} {ds : List Value} (hc : RepC F row cap n t x cs) (ok : okB row (lenT t x) t p)
    (hp : (row && p.isEmpty) = false) (hg : setP t x p tv = some y) (hd : Rep F tv.t tv.x ds) :
    ∃ o, t.nav p = some (tv.t, o) ∧ o + tv.t.size ≤ cs.length ∧ RepC F row cap n t y (putL cs o ds) ∧ (row = true → lenT t y = lenT t x) := by
  have ld := rep_len _ _ _ hd
  cases row
  · have hr : Rep F t x cs ∧ n = cs.length ∧ cap.2 = 0 := by cases t <;> simp only [RepC] at hc <;> first | exact hc.2 | exact hc
    obtain ⟨o, h1, h2, h3⟩ := setP_rep t x cs p hr.1 ok tv y hg ds hd
    have lc := rep_len _ _ _ hr.1
    refine ⟨o, h1, by omega, ?_, fun h => by cases h⟩
    have e : putL cs o ds = cs.take o ++ ds ++ cs.drop (o + tv.t.size) := by rw [putL, ld]
    have hl : n = (putL cs o ds).length := by rw [putL_len (by omega)]; exact hr.2.1
    rw [← e] at h3
    cases t <;> simp only [RepC] <;> first | exact ⟨trivial, h3, hl, hr.2.2⟩ | exact ⟨h3, hl, hr.2.2⟩
  · cases p with
    | nil => simp at hp
    | cons s p =>
      have hlen := lenT_setP hg (by simp)
      cases t with
      | arr m u =>
        simp only [RepC] at hc
        obtain ⟨h1, h2, h3⟩ := hc
        cases s with
        | fld i => simp [okB] at ok
        | idx i =>
          simp only [okB] at ok
          obtain ⟨k1, k2⟩ := ok
          simp only [setP] at hg
          cases e1 : setP u (List.getD x i u.dflt) p tv with
          | none => rw [e1] at hg; cases hg
          | some y1 =>
            rw [e1] at hg
            simp only [Option.some.injEq] at hg
            subst hg
            have st := setP_rep (.arr (List.length x) u) x cs (.idx i :: p) ⟨rfl, h1⟩ ⟨k1, k2⟩ tv (List.set x i y1) (by simp only [setP, e1]) ds hd
            obtain ⟨o, n1, n2, n3, n4⟩ := st
            have lc := repL_rep_len h1
            simp only [Ty.size] at n2
            refine ⟨o, n1, by omega, ?_, fun _ => hlen⟩
            have e : putL cs o ds = cs.take o ++ ds ++ cs.drop (o + tv.t.size) := by rw [putL, ld]
            rw [e]
            simp only [RepC, if_true]
            exact ⟨n4, h2, by rw [n3]; exact h3⟩
      | _ => simp [okB] at ok

/-- What a live block is. -/
theorem HRel.live {F : FH} {ρ : RM} {L : HL} {H : Array Obj} {B0 : Nat → Prop} (h : HRel F ρ L H B0) {k : Nat} {blk : Blk} (hk : L k = some (some blk)) {b : Nat} {cap : Cap} (hr : ρ k = some (b, cap)) (hm : (blk.row && isMapT blk.t) = false) :
    ∃ c e fr hd cs rest, B0 b ∧ H[b]? = some (.cells c e fr) ∧ free fr c.size ∧ (List.length hd = cap.2 ∧ (blk.fz = false → cap.2 = 0) ∧ c.toList = hd ++ (cs ++ rest)) ∧ RepC F blk.row cap c.size blk.t blk.x cs ∧ ∀ i, F b (cap.2 + i) = if blk.fz then cs[i]? else none := by
  rcases h.blk _ _ hk with g | ⟨b', cap', c, e, fr, hd, cs, rest, g1, g2, g3, g4, g5, g6, g7⟩ | ⟨K, V, xs, g⟩
  · rw [g] at hr; cases hr
  · rw [g1] at hr; cases hr; exact ⟨c, e, fr, hd, cs, rest, g2, g3, g4, g5, g6, g7⟩
  · have : blk.t = .map K V := congrArg TV.t g.eq
    rw [this, g.row] at hm; cases hm

theorem notMap_get {t : Ty} {x : t.den} {p : List Stp} {n : Nat} {u : Ty} {y : (Ty.arr n u).den} (h : getP t x p = some ⟨.arr n u, y⟩) {row : Bool} : (row && isMapT t) = false := by
  cases t <;> try (simp [isMapT]; done)
  cases p with
  | nil => simp [getP] at h
  | cons s p => simp [getP] at h
theorem notMap_path {t : Ty} {s : Stp} {p : List Stp} {r : Ty × Nat} (h : t.nav (s :: p) = some r) {row : Bool} : (row && isMapT t) = false := by
  cases t <;> try (simp [isMapT]; done)
  simp [Ty.nav] at h
theorem notMap_nav {t : Ty} {p : List Stp} {n : Nat} {u : Ty} {o : Nat} (h : t.nav p = some (.arr n u, o)) {row : Bool} : (row && isMapT t) = false := by
  cases t <;> try (simp [isMapT]; done)
  cases p with
  | nil => simp [Ty.nav] at h
  | cons s p => simp [Ty.nav] at h

theorem notMap_row {t : Ty} {p : List Stp} {u : Ty} {o : Nat} {row : Bool} (h : t.nav p = some (u, o)) (hr : (row && p.isEmpty) = false) : (row && isMapT t) = false := by
  cases p with
  | cons s p => exact notMap_path h
  | nil =>
    have : row = false := by simpa using hr
    rw [this]; rfl

theorem at_of {c : Array Value} {hd cs rest : List Value} {n i : Nat} {v : Value} (h1 : hd.length = n) (h2 : c.toList = hd ++ (cs ++ rest)) (h3 : cs[i]? = some v) : c[n + i]? = some v := by
  have : c.toList[n + i]? = some v := by
    rw [h2, List.getElem?_append_right (by omega), h1, Nat.add_sub_cancel_left, List.getElem?_append_left (List.getElem?_eq_some_iff.1 h3).1]; exact h3
  simpa using this

theorem blkL_some {L : HL} {a : AV} {b : Blk} (h : some b = blkL L a) : ∃ k, a.key = some k ∧ L k = some (some b) := by
  unfold blkL at h
  split at h
  · cases h
  · rename_i k hk
    split at h
    · rename_i b' hb; cases h; exact ⟨k, hk, hb⟩
    · cases h

theorem deepV_sound {E : Bool} {F : FH} {ρ : RM} {L : HL} {H : Array Obj} {B0 : Nat → Prop} (hR : HRel F ρ L H B0) {t : Ty} {a : AV} {b : Option Blk} {v : Value} (ha : RepAV F ρ L a v) (hb : b = blkL L a)
    {x : t.den} {cs : List Prop} (h : deepV E t a b = some (x, cs)) (hc : ∀ c, c ∈ cs → c) : RepV (if E then F else full H) t x v := by
  have hle : F.le (if E then F else full H) := by
    cases E
    · exact hR.le_full
    · exact FH.le.rfl
  have hG : ∀ (blk : Blk) (k bb : Nat) (cap : Cap) (c : Array Value) (e : TypeId) (fr : Nat × Nat) (hd cl rest : List Value), (E && !blk.fz) = false → H[bb]? = some (.cells c e fr) → (List.length hd = cap.2 ∧ (blk.fz = false → cap.2 = 0) ∧ c.toList = hd ++ (cl ++ rest)) →
      (∀ i, F bb (cap.2 + i) = if blk.fz then cl[i]? else none) → ∀ (i : Nat) u, cl[i]? = some u → (if E then F else full H) bb (cap.2 + i) = some u := by
    intro blk k bb cap c e fr hd cl rest hz hH hcl hF i u hu
    cases E
    · simp only [Bool.false_eq_true, if_false, full, cellAt, hH]
      exact at_of hcl.1 hcl.2.2 hu
    · simp only [if_true]
      have : blk.fz = true := by simpa using hz
      rw [hF, if_pos this]; exact hu
  cases a with
  | val u y =>
    simp only [deepV] at h
    split at h
    · rename_i z e
      cases h
      have := TV.as_eq e
      cases this
      exact repV_mono hle (repAV_val.1 ha)
    · cases h
  | vlk u y lks =>
    simp only [deepV] at h
    split at h
    · rename_i z e
      cases h
      have := TV.as_eq e
      cases this
      have ha' : RepA F ρ L (.vlk t x lks) [v] := by simpa [RepAV, AV.isTup] using ha
      obtain ⟨v', hv, h1, _⟩ := ha'
      cases hv
      exact repV_mono hle h1
    · cases h
  | raw u =>
    simp only [deepV] at h
    split at h
    · rename_i z e
      cases h
      have hv : v = u := by simpa [RepAV, AV.isTup, RepA] using ha
      subst hv
      exact rawV_rep e
    · cases h
  | nil =>
    have hv : v = .slice none 0 0 := by simpa [RepAV, AV.isTup, RepA] using ha
    subst hv
    cases t <;> simp only [deepV] at h <;> cases h
    simp only [RepV, Ty.isAgg]
    exact ⟨_, rfl, .inl ⟨rfl, rfl, rfl⟩⟩
  | cut w xs =>
    cases t <;> simp only [deepV] at h <;> try (cases h; done)
    split at h
    · rename_i z e
      cases h
      have := TV.as_eq e
      cases this
      have ha' : RepA F ρ L (.cut w xs) [v] := by simpa [RepAV, AV.isTup] using ha
      simp only [RepV, Ty.isAgg]
      refine ⟨v, rfl, ?_⟩
      rcases ha' with ⟨h1, h2⟩ | ⟨bb, off, cl, h1, h2, h3⟩
      · simp at h2; subst h1; subst h2; exact .inl ⟨rfl, rfl, rfl⟩
      · simp at h1; subst h1
        exact .inr ⟨bb, off, _, cl, rfl, Nat.le_refl _, repL_mono (fun x cs => rep_mono hle w x cs) _ _ h2, fun i c hc => hle _ _ _ (h3 i c hc)⟩
    · cases h
  | whole k root path =>
    cases t <;> simp only [deepV] at h <;> try (cases h; done)
    rename_i u
    cases b with
    | none => simp only at h; cases h
    | some blk =>
      simp only at h
      split at h
      · cases h
      rename_i hz
      split at h
      · rename_i n w xs hg
        split at h
        · rename_i y e
          cases h
          have := TV.as_eq e
          cases this
          obtain ⟨k', hk', hL⟩ := blkL_some hb
          cases hk'
          have ha' : RepA F ρ L (.whole k root path) [v] := by simpa [RepAV, AV.isTup] using ha
          obtain ⟨v', hv, hh⟩ := ha'
          simp at hv; subst hv
          obtain ⟨ht, hok, hw⟩ := hh blk hL
          subst ht
          simp only [RepV, Ty.isAgg]
          refine ⟨v, rfl, ?_⟩
          rcases hw with ⟨h1, h2, h3, h4, h5⟩ | ⟨bb, cap, m, u', off, h1, h2, h3⟩
          · subst h3
            simp only [getP, Option.some.injEq] at hg
            have hl : List.length x = 0 := by
              have : blk.len = lenT (.arr n u) x := by unfold Blk.len; cases blk; cases hg; rfl
              rw [h4] at this; exact this.symm
            have : x = [] := List.eq_nil_of_length_eq_zero hl
            subst this
            exact .inl ⟨h5, rfl, rfl⟩
          · obtain ⟨c, e, fr, hd, cl, rest, g1, g2, g3, g4, g5, g6⟩ := hR.live hL h1 (notMap_get hg)
            have gG := hG blk k bb cap c e fr hd cl rest (by simpa using hz) g2 g4 g6
            by_cases hrow : (blk.row && path.isEmpty) = true
            · simp only [Bool.and_eq_true, List.isEmpty_iff] at hrow
              obtain ⟨r1, r2⟩ := hrow
              subst r2
              simp only [getP, Option.some.injEq] at hg
              cases blk with
              | mk row t x fz =>
                cases hg
                simp only at r1
                subst r1
                simp only [RepC] at g5
                simp only [Ty.nav, Option.some.injEq, Prod.mk.injEq] at h2
                obtain ⟨_, rfl⟩ := h2
                simp only [lcap, List.isEmpty_nil, Bool.and_self, if_true] at h3
                subst h3
                refine .inr ⟨bb, cap.2, cap.1, cl, rfl, g5.2.2, repL_mono (fun x cs => rep_mono hle u x cs) _ _ g5.1, fun i c hc => ?_⟩
                exact gG i c hc
            · have hrow' : (blk.row && path.isEmpty) = false := by simpa using hrow
              obtain ⟨o, n1, n2, n3, n4⟩ := blk_get g5 hok hrow' hg
              rw [h2] at n1
              cases n1
              simp only [lcap, hrow', Bool.false_eq_true, if_false] at h3
              subst h3
              have n3' : List.length x = n := n3
              refine .inr ⟨bb, cap.2 + off, n, _, by rw [n3'], by rw [n3']; exact Nat.le_refl _, repL_mono (fun x cs => rep_mono hle u x cs) _ _ n4, fun i c hc => ?_⟩
              rw [Nat.add_assoc]; exact gG _ c (take_drop_get hc)
        · cases h
      · cases h
  | sub k root path o l =>
    cases t <;> simp only [deepV] at h <;> try (cases h; done)
    rename_i u
    cases b with
    | none => simp only at h; cases h
    | some blk =>
      simp only at h
      split at h
      · cases h
      rename_i hz
      split at h
      · rename_i n w xs hg
        split at h
        · rename_i y e
          cases h
          have := TV.as_eq e
          cases this
          have hlen : o + l ≤ List.length xs := hc _ (by simp)
          obtain ⟨k', hk', hL⟩ := blkL_some hb
          cases hk'
          have ha' : RepA F ρ L (.sub k root path o l) [v] := by simpa [RepAV, AV.isTup] using ha
          obtain ⟨v', hv, hh⟩ := ha'
          simp at hv; subst hv
          obtain ⟨ht, hok, hw⟩ := hh blk hL
          subst ht
          simp only [RepV, Ty.isAgg]
          refine ⟨v, rfl, ?_⟩
          have hll : List.length (List.take l (List.drop o xs)) = l := by simp; omega
          rw [hll]
          rcases hw with ⟨h1, h2, h3, h4, h5, h6, h7⟩ | ⟨bb, cap, m, u', off, off', h1, h2, h3, h4, h5⟩
          · subst h6
            exact .inl ⟨h7, rfl, by simp [RepL]⟩
          · obtain ⟨c, e, fr, hd, cl, rest, g1, g2, g3, g4, g5, g6⟩ := hR.live hL h1 (notMap_get hg)
            have gG := hG blk k bb cap c e fr hd cl rest (by simpa using hz) g2 g4 g6
            have fin : ∀ (cl' : List Value) (d : Nat), RepL (Rep F u) xs cl' → (∀ (i : Nat) c, cl'[i]? = some c → (if E then F else full H) bb (cap.2 + off + i) = some c) →
                SlcV (if E then F else full H) l (RepL (Rep (if E then F else full H) u) (List.take l (List.drop o xs))) v := by
              intro cl' _ hr hcl
              subst h3
              refine .inr ⟨bb, off', _, ((cl'.drop (o * u.size)).take (l * u.size)), rfl, by omega, ?_, ?_⟩
              · refine repL_mono (fun x cs => rep_mono hle u x cs) _ _ ?_
                exact repL_take (fun x cs => rep_len u x cs) l _ _ (repL_drop (fun x cs => rep_len u x cs) o _ _ hr)
              · intro i c hc
                have := take_drop_get hc
                by_cases hcap : (lcap blk.row path blk.len cap m).2 = o
                · have : l = 0 := by omega
                  subst this
                  simp at hc
                · have e1 := h5 hcap
                  have hu : u' = u := by
                    by_cases hrow : (blk.row && path.isEmpty) = true
                    · simp only [Bool.and_eq_true, List.isEmpty_iff] at hrow
                      obtain ⟨r1, r2⟩ := hrow
                      subst r2
                      simp only [getP, Option.some.injEq] at hg
                      cases blk with
                      | mk row t x fz => cases hg; simp only [Ty.nav, Option.some.injEq, Prod.mk.injEq, Ty.arr.injEq] at h2; exact h2.1.2.symm
                    · obtain ⟨o2, n1, _⟩ := blk_get g5 hok (by simpa using hrow) hg
                      rw [h2] at n1; cases n1; rfl
                  subst hu
                  rw [e1, Nat.add_assoc]; exact hcl _ _ this
            by_cases hrow : (blk.row && path.isEmpty) = true
            · simp only [Bool.and_eq_true, List.isEmpty_iff] at hrow
              obtain ⟨r1, r2⟩ := hrow
              subst r2
              simp only [getP, Option.some.injEq] at hg
              cases blk with
              | mk row t x fz =>
                cases hg
                simp only at r1
                subst r1
                simp only [RepC] at g5
                simp only [Ty.nav, Option.some.injEq, Prod.mk.injEq] at h2
                obtain ⟨_, rfl⟩ := h2
                exact fin cl 0 g5.1 (fun i c hc => by rw [Nat.add_zero]; exact gG i c hc)
            · obtain ⟨o2, n1, n2, n3, n4⟩ := blk_get g5 hok (by simpa using hrow) hg
              rw [h2] at n1
              cases n1
              exact fin _ 0 n4 (fun i c hc => by rw [Nat.add_assoc]; exact gG _ c (take_drop_get hc))
        · cases h
      · cases h
  | cptr u y =>
    cases t <;> simp only [deepV] at h <;> try (cases h; done)
    split at h
    · rename_i z e
      cases h
      have := TV.as_eq e
      cases this
      have ha' : RepA F ρ L (.cptr u y) [v] := by simpa [RepAV, AV.isTup] using ha
      obtain ⟨bb, off, cs', hv, h1, h2⟩ := ha'
      simp only [List.cons.injEq, and_true] at hv
      subst hv
      simp only [RepV, Ty.isAgg]
      exact ⟨bb, off, cs', rfl, rep_mono hle _ _ _ h1, fun i c hc => hle _ _ _ (h2 i c hc)⟩
    · cases h
  | ptr k root path => cases t <;> simp only [deepV] at h <;> cases h
  | fn f => cases t <;> simp only [deepV] at h <;> cases h
  | mref k => cases t <;> simp only [deepV] at h <;> cases h
  | opt p a => cases t <;> simp only [deepV] at h <;> cases h
  | tnil => cases t <;> simp only [deepV] at h <;> cases h
  | tcons a b => cases t <;> simp only [deepV] at h <;> cases h

end Lc
