/- The laws of chapter 14, second seat: their conditions hold. -/
import Derived.Test.YtpbfmmnncbbhdabGreatDoorRuns
set_option linter.unusedVariables false
set_option maxRecDepth 100000
namespace Lc
open Go

def RulesLater.pre (v : Int) (seeds : List Int) (now more : Int) : Prop := (0 ≤ v ∧ v ≤ 255) ∧ Bytes seeds ∧ U32 now ∧ U32 more
def RulesLater.fn (v : Int) (seeds : List Int) (now more : Int) : Bool := true
def RulesLater.VC : Prop := ∀ (x0 : Int) (x1 : (List Int)) (x2 : Int) (x3 : Int), RulesLater.pre x0 x1 x2 x3 →
 ZSane.pre ∧
 (((!(ZSane.fn)) = true →
 (Ret1 false (RulesLater.fn x0 x1 x2 x3))) ∧
 ((!(ZSane.fn)) = false →
 MParams.pre x0 ∧
 (let v9h : ((Int × ((List Int) × ((List Int) × (Int × (Int × (Int × Unit)))))) × ((List Int) × (Int × (Int × (Int × (Int × ((List (Int × ((List Int) × Unit))) × (Int × (Int × (Int × Unit)))))))))) := (((0 : Int), ((List.replicate 32 (0 : Int)), ((List.replicate 32 (0 : Int)), ((0 : Int), ((0 : Int), ((0 : Int), ())))))), ((List.replicate 4 (0 : Int)), ((0 : Int), ((0 : Int), ((0 : Int), ((0 : Int), ([], ((0 : Int), ((0 : Int), ((0 : Int), ()))))))))))
 UStart.pre (MParams.fn x0) ∧
 (let v10h : (Int × ((List Int) × (Int × (Int × ((List Int) × Unit))))) := ((0 : Int), ((List.replicate 32 (0 : Int)), ((0 : Int), ((0 : Int), ([], ())))))
 KSome.pre x1 (16 : Int) ∧
 MHeaders.pre (MParams.fn x0) ((UStart.fn (MParams.fn x0)).1) (KSome.fn x1 (16 : Int)) ∧
 (let v32h : (List (Int × ((List Int) × ((List Int) × (Int × (Int × (Int × Unit))))))) := (MHeaders.fn (MParams.fn x0) ((UStart.fn (MParams.fn x0)).1) (KSome.fn x1 (16 : Int)))
 URun.pre (MParams.fn x0) ((UStart.fn (MParams.fn x0)).1) v32h x2 ∧
 (let v39 : (Int × ((List Int) × (Int × (Int × ((List Int) × Unit))))) := (URun.fn (MParams.fn x0) ((UStart.fn (MParams.fn x0)).1) v32h x2).1
 (let v40 : Int := (URun.fn (MParams.fn x0) ((UStart.fn (MParams.fn x0)).1) v32h x2).2.1
 (let v41 : Int := (URun.fn (MParams.fn x0) ((UStart.fn (MParams.fn x0)).1) v32h x2).2.2
 (let v13h : (Int × ((List Int) × (Int × (Int × ((List Int) × Unit))))) := ((0 : Int), ((List.replicate 32 (0 : Int)), ((0 : Int), ((0 : Int), ([], ())))))
 (let v50 : Int := (if (IntKind.u32.wrap (x2 + x3)) > x2 then (IntKind.u32.wrap (x2 + x3)) else x2)
 URun.pre (MParams.fn x0) ((UStart.fn (MParams.fn x0)).1) v32h v50 ∧
 (let v52 : (Int × ((List Int) × (Int × (Int × ((List Int) × Unit))))) := (URun.fn (MParams.fn x0) ((UStart.fn (MParams.fn x0)).1) v32h v50).1
 (let v53 : Int := (URun.fn (MParams.fn x0) ((UStart.fn (MParams.fn x0)).1) v32h v50).2.1
 (let v54 : Int := (URun.fn (MParams.fn x0) ((UStart.fn (MParams.fn x0)).1) v32h v50).2.2
 (let v16h : (Int × ((List Int) × (Int × (Int × ((List Int) × Unit))))) := ((0 : Int), ((List.replicate 32 (0 : Int)), ((0 : Int), ((0 : Int), ([], ())))))
 (Ret1 (decide (v53 ≥ v40)) (RulesLater.fn x0 x1 x2 x3))))))))))))))))
theorem RulesLater.vc : RulesLater.VC := by
  intro v seeds now more ⟨h1, h2, h3, h4⟩
  generalize hl0 : MHeaders.fn (MParams.fn v) ((UStart.fn (MParams.fn v)).1) (KSome.fn seeds 16) = l
  have hl0 : headersGo (madeParams v) (startFn (madeParams v)).1 (seeds.take (Int.toNat 16)) = l := hl0
  have hp := made_ok h1
  have hs := start_good hp
  have hfit := start_fits (made_valid h1)
  have hsb : Bytes (seeds.take (Int.toNat 16)) := h2.take _
  have hsl : (seeds.take (Int.toNat 16)).length ≤ 16 := by rw [List.length_take]; have : Int.toNat 16 = 16 := rfl; omega
  obtain ⟨g1, g2⟩ := headers_ok hp (seeds.take (Int.toNat 16)) _ hs hsb
  rw [hl0] at g1 g2
  have hm : ∃ m, (if IntKind.u32.wrap (now + more) > now then IntKind.u32.wrap (now + more) else now) = m ∧ U32 m ∧ now ≤ m := by
    refine ⟨_, rfl, ?_, ?_⟩
    · split
      · exact u32r _
      · exact h3
    · split <;> omega
  obtain ⟨m, m1, m2, m3⟩ := hm
  have hrun : ∀ t, runFn (madeParams v) (startFn (madeParams v)).1 l t = runGo (madeParams v) t (startFn (madeParams v)).1 l 0 := fun t => by rw [runFn, if_neg (by rw [hfit]; simp)]
  have hlat := run_later (madeParams v) m3 l (startFn (madeParams v)).1 0
  simp only [m1, zsane, MParams.fn, UStart.fn, KSome.fn, URun.fn, hrun]
  refine ⟨trivial, fun h => (by cases h), fun _ => ⟨h1, hp, by show (0 : Int) ≤ 16; omega, ⟨hp, hs, hsb, by omega⟩, ⟨hp, hs, g1, by omega, h3⟩, ⟨hp, hs, g1, by omega, m2⟩, ret1.2 ?_⟩⟩
  exact decide_eq_true hlat

def RulesBounded.pre (v : Int) (seeds : List Int) : Prop := (0 ≤ v ∧ v ≤ 255) ∧ Bytes seeds
def RulesBounded.fn (v : Int) (seeds : List Int) : Bool := true
def RulesBounded.inv8 (v : Int) (seeds : List Int) (p : Par) (c : Cx) (i : Int) : Prop := p = madeParams v ∧ CGood c ∧ 0 ≤ i ∧ i ≤ 20 ∧ c.1 = i ∧ fitsFn (madeParams v) c = true ∧
  ∃ r, Bytes r ∧ (headersGo (madeParams v) (startFn (madeParams v)).1 (seeds.take (Int.toNat 20))).drop i.toNat = headersGo (madeParams v) c r
def RulesBounded.mes8 (v : Int) (seeds : List Int) (p : Par) (c : Cx) (i : Int) : Nat := (30 - i).toNat
def RulesBounded.VC : Prop := ∀ (x0 : Int) (x1 : (List Int)), RulesBounded.pre x0 x1 →
 ZSane.pre ∧
 (((!(ZSane.fn)) = true →
 (Ret1 false (RulesBounded.fn x0 x1))) ∧
 ((!(ZSane.fn)) = false →
 MParams.pre x0 ∧
 (let v5h : ((Int × ((List Int) × ((List Int) × (Int × (Int × (Int × Unit)))))) × ((List Int) × (Int × (Int × (Int × (Int × ((List (Int × ((List Int) × Unit))) × (Int × (Int × (Int × Unit)))))))))) := (((0 : Int), ((List.replicate 32 (0 : Int)), ((List.replicate 32 (0 : Int)), ((0 : Int), ((0 : Int), ((0 : Int), ())))))), ((List.replicate 4 (0 : Int)), ((0 : Int), ((0 : Int), ((0 : Int), ((0 : Int), ([], ((0 : Int), ((0 : Int), ((0 : Int), ()))))))))))
 UStart.pre (MParams.fn x0) ∧
 (let v6h : (Int × ((List Int) × (Int × (Int × ((List Int) × Unit))))) := ((0 : Int), ((List.replicate 32 (0 : Int)), ((0 : Int), ((0 : Int), ([], ())))))
 ((((UStart.fn (MParams.fn x0)).2 != (0 : Int)) = true →
 (Ret1 false (RulesBounded.fn x0 x1))) ∧
 (((UStart.fn (MParams.fn x0)).2 != (0 : Int)) = false →
 KSome.pre x1 (20 : Int) ∧
 MHeaders.pre (MParams.fn x0) ((UStart.fn (MParams.fn x0)).1) (KSome.fn x1 (20 : Int)) ∧
 (let v25h : (List (Int × ((List Int) × ((List Int) × (Int × (Int × (Int × Unit))))))) := (MHeaders.fn (MParams.fn x0) ((UStart.fn (MParams.fn x0)).1) (KSome.fn x1 (20 : Int)))
 (RulesBounded.inv8 x0 x1 (MParams.fn x0) ((UStart.fn (MParams.fn x0)).1) (0 : Int) ∧
 ∀ (v5_1 : ((Int × ((List Int) × ((List Int) × (Int × (Int × (Int × Unit)))))) × ((List Int) × (Int × (Int × (Int × (Int × ((List (Int × ((List Int) × Unit))) × (Int × (Int × (Int × Unit))))))))))) (v6_1 : (Int × ((List Int) × (Int × (Int × ((List Int) × Unit)))))) (v27 : Int), RulesBounded.inv8 x0 x1 v5_1 v6_1 v27 →
 (((decide (v27 < (v25h.length : Int))) = true →
 (0 ≤ v27 ∧ v27 < (v25h.length : Int)) ∧
 (let v31 : (Int × ((List Int) × ((List Int) × (Int × (Int × (Int × Unit)))))) := (v25h.getD (Int.toNat v27) ((0 : Int), ((List.replicate 32 (0 : Int)), ((List.replicate 32 (0 : Int)), ((0 : Int), ((0 : Int), ((0 : Int), ())))))))
 (let v9h : (Int × ((List Int) × ((List Int) × (Int × (Int × (Int × Unit)))))) := ((0 : Int), ((List.replicate 32 (0 : Int)), ((List.replicate 32 (0 : Int)), ((0 : Int), ((0 : Int), ((0 : Int), ()))))))
 UCheck.pre v5_1 v6_1 v31 (1073741824 : Int) ∧
 ((((UCheck.fn v5_1 v6_1 v31 (1073741824 : Int)) != (0 : Int)) = true →
 (Ret1 false (RulesBounded.fn x0 x1))) ∧
 (((UCheck.fn v5_1 v6_1 v31 (1073741824 : Int)) != (0 : Int)) = false →
 UAdvance.pre v5_1 v6_1 v31 ∧
 (((UAdvance.fn v5_1 v6_1 v31).2 != (0 : Int)) = false → ((UAdvance.fn v5_1 v6_1 v31).2 != (0 : Int)) = false) ∧
 (((UAdvance.fn v5_1 v6_1 v31).2 != (0 : Int)) = false → ((UAdvance.fn v5_1 v6_1 v31).2 != (0 : Int)) = false) ∧
 (((UAdvance.fn v5_1 v6_1 v31).2 != (0 : Int)) = false → ((UAdvance.fn v5_1 v6_1 v31).2 != (0 : Int)) = false) ∧
 (((UAdvance.fn v5_1 v6_1 v31).2 != (0 : Int)) = false → ((UAdvance.fn v5_1 v6_1 v31).2 != (0 : Int)) = false) ∧
 (((UAdvance.fn v5_1 v6_1 v31).2 != (0 : Int)) = false → ((UAdvance.fn v5_1 v6_1 v31).2 != (0 : Int)) = false) ∧
 (let v52 : Bool := (bif ((UAdvance.fn v5_1 v6_1 v31).2 != (0 : Int)) then true else ((UAdvance.fn v5_1 v6_1 v31).1.1 != (IntKind.i64.wrap (v27 + (1 : Int)))))
 (v52 = false → v52 = false) ∧
 (v52 = false → v52 = false) ∧
 (v52 = false → v52 = false) ∧
 (v52 = false → v52 = false) ∧
 (v52 = false → v52 = false) ∧
 (v52 = false → v52 = false) ∧
 (v52 = false → v52 = false) ∧
 (let v61 : Bool := (bif v52 then true else (((UAdvance.fn v5_1 v6_1 v31).1.2.2.2.2.1.length : Int) != (if (11 : Int) < (IntKind.i64.wrap (v27 + (2 : Int))) then (11 : Int) else (IntKind.i64.wrap (v27 + (2 : Int))))))
 ((v61 = true →
 (Ret1 false (RulesBounded.fn x0 x1))) ∧
 (v61 = false →
 (RulesBounded.inv8 x0 x1 v5_1 ((UAdvance.fn v5_1 v6_1 v31).1) (IntKind.i64.wrap (v27 + (1 : Int))) ∧ RulesBounded.mes8 x0 x1 v5_1 ((UAdvance.fn v5_1 v6_1 v31).1) (IntKind.i64.wrap (v27 + (1 : Int))) < RulesBounded.mes8 x0 x1 v5_1 v6_1 v27)))))))))) ∧
 ((decide (v27 < (v25h.length : Int))) = false →
 (Ret1 true (RulesBounded.fn x0 x1))))))))))))
theorem RulesBounded.vc : RulesBounded.VC := by
  intro v seeds ⟨h1, h2⟩
  generalize hl0 : MHeaders.fn (MParams.fn v) ((UStart.fn (MParams.fn v)).1) (KSome.fn seeds 20) = l
  have hl0 : headersGo (madeParams v) (startFn (madeParams v)).1 (seeds.take (Int.toNat 20)) = l := hl0
  have hp := made_ok h1
  have hv := made_valid h1
  have hs := start_good hp
  have hfit := start_fits hv
  have hsb : Bytes (seeds.take (Int.toNat 20)) := h2.take _
  have hsl : (seeds.take (Int.toNat 20)).length ≤ 20 := by rw [List.length_take]; have : Int.toNat 20 = 20 := rfl; omega
  obtain ⟨g1, g2⟩ := headers_ok hp (seeds.take (Int.toNat 20)) _ hs hsb
  rw [hl0] at g1 g2
  have hst : (startFn (madeParams v)).2 = 0 ∧ (startFn (madeParams v)).1.1 = 0 := by rw [startFn, if_neg (by rw [hv]; simp)]; exact ⟨rfl, rfl⟩
  simp only [imp_self, true_and, zsane, MParams.fn, UStart.fn, KSome.fn, UCheck.fn, UAdvance.fn, ret1, RulesBounded.fn, hst.1, Bool.cond_true_left, RulesBounded.inv8, hl0]
  refine ⟨trivial, fun h => (by cases h), fun _ => ⟨h1, hp, fun h => (by simp at h), fun _ => ⟨by show (0 : Int) ≤ 20; omega, ⟨hp, hs, hsb, by omega⟩, ⟨hs, by omega, by omega, hst.2, hfit, _, hsb, ?_⟩, ?_⟩⟩⟩
  · rw [hl0]; rfl
  rintro p c i ⟨rfl, hc, k1, k2, k3, k4, r, hr, k5⟩
  refine ⟨fun hi => ?_, fun _ => trivial⟩
  have hi : i < l.length := of_decide_eq_true hi
  have hh := get_hdr g1 k1 hi
  rw [drop_hdr k1 hi] at k5
  -- the next header was mined at this context
  match r, hr, k5 with
  | [], _, k5 => simp [headersGo] at k5
  | s :: r, hr, k5 =>
    rw [headersGo] at k5
    by_cases hck : checkFn (madeParams v) c (mineFn (madeParams v) c (rootS s) (secFn s)) 1073741824 ≠ 0
    · rw [if_pos hck] at k5; cases k5
    · rw [if_neg hck] at k5
      obtain ⟨e1, e2⟩ := List.cons.inj k5
      rw [← e1] at hck e2
      generalize l.getD i.toNat _ = h at *
      have hck : checkFn (madeParams v) c h 1073741824 = 0 := by omega
      have hroom := check_room hck
      have ha : AdvPre (madeParams v) c h := ⟨hp, hc, hh⟩
      obtain ⟨f1, f2, f3, f4, f5, f6, f7, f8⟩ := room_facts hroom
      have hadv := adv_ok (h := h) hroom
      have herr : (advFn (madeParams v) c h).2 = 0 := by rw [adv_err]; exact hroom
      have hfit2 := adv_fits (h := h) hroom
      have hh1 : (advFn (madeParams v) c h).1.1 = i + 1 := by rw [hadv]; show c.1 + 1 = i + 1; omega
      have hlen := ((fits_iff _ _).1 hfit2).2.2.2
      rw [hh1] at hlen
      have w1 : IntKind.i64.wrap (i + 1) = i + 1 := i64w (by omega) (by omega)
      have w2 : IntKind.i64.wrap (i + 2) = i + 1 + 1 := by rw [i64w (by omega) (by omega)]; omega
      simp only [hck, herr, hh1, w1, w2, ← hlen, bne_self_eq_false, Bool.or_false]
      refine ⟨⟨k1, hi⟩, ⟨ha, ⟨by decide, by decide⟩⟩, fun h => (by cases h), fun _ => ⟨ha, fun h => (by cases h), fun _ => ⟨⟨trivial, adv_good ha, by omega, by omega, trivial, hfit2, r, fun x hx => hr x (List.mem_cons_of_mem _ hx), e2⟩, by simp only [RulesBounded.mes8]; omega⟩⟩⟩
end Lc
