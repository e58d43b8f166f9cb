/- Made parameters, mined headers and chains: as plain functions, and the proofs of their conditions. -/
import Derived.Test.YtpbfmmnncbbhdabGreatDoorRules
set_option linter.unusedVariables false
set_option maxRecDepth 100000
namespace Lc
open Go

def madeParams (v : Int) : Par :=
  ((1, List.replicate 32 0, List.replicate 32 0, 1000 + v, 545259519, 0, ()), Wn 4 (Big / 2 - 1), 3 + v % 5, 5, 600, 1, [], 1000, 4 + v % 3, v % 3, ())
def MParams.pre (v : Int) : Prop := 0 ≤ v ∧ v ≤ 255
def MParams.fn (v : Int) : Par := madeParams v
def MParams.VC : Prop := ∀ (x0 : Int), MParams.pre x0 →
 (let v2h : ((Int × ((List Int) × ((List Int) × (Int × (Int × (Int × Unit)))))) × ((List Int) × (Int × (Int × (Int × (Int × ((List (Int × ((List Int) × Unit))) × (Int × (Int × (Int × Unit)))))))))) := (((0 : Int), ((List.replicate 32 (0 : Int)), ((List.replicate 32 (0 : Int)), ((0 : Int), ((0 : Int), ((0 : Int), ())))))), ((List.replicate 4 (0 : Int)), ((0 : Int), ((0 : Int), ((0 : Int), ((0 : Int), ([], ((0 : Int), ((0 : Int), ((0 : Int), ()))))))))))
 (let v6 : (Int × ((List Int) × ((List Int) × (Int × (Int × (Int × Unit)))))) := ((1 : Int), ((List.replicate 32 (0 : Int)), ((List.replicate 32 (0 : Int)), ((IntKind.u32.wrap ((1000 : Int) + (IntKind.u32.wrap x0))), ((545259519 : Int), ((0 : Int), ()))))))
 QNot.pre (List.replicate 4 (0 : Int)) ∧
 QShr.pre (QNot.fn (List.replicate 4 (0 : Int))) (1 : Int) ∧
 (5 : Int) ≠ 0 ∧
 (let v13 : Int := (IntKind.i64.wrap ((3 : Int) + (IntKind.i64.wrap (Int.tmod x0 (5 : Int)))))
 (3 : Int) ≠ 0 ∧
 (let v17 : Int := (IntKind.i64.wrap ((4 : Int) + (IntKind.i64.wrap (Int.tmod x0 (3 : Int)))))
 (3 : Int) ≠ 0 ∧
 (let v21 : ((Int × ((List Int) × ((List Int) × (Int × (Int × (Int × Unit)))))) × ((List Int) × (Int × (Int × (Int × (Int × ((List (Int × ((List Int) × Unit))) × (Int × (Int × (Int × Unit)))))))))) := (v6, ((QShr.fn (QNot.fn (List.replicate 4 (0 : Int))) (1 : Int)), (v13, ((5 : Int), ((600 : Int), ((1 : Int), ([], ((1000 : Int), (v17, ((IntKind.i64.wrap (Int.tmod x0 (3 : Int))), ()))))))))))
 (Ret1 v21 (MParams.fn x0)))))))
theorem limit_made : QShr.fn (QNot.fn (List.replicate 4 (0 : Int))) 1 = Wn 4 (Big / 2 - 1) := by decide +kernel
theorem MParams.vc : MParams.VC := by
  intro v ⟨h1, h2⟩
  have e5 : Int.tmod v 5 = v % 5 := Int.tmod_eq_emod_of_nonneg h1
  have e3 : Int.tmod v 3 = v % 3 := Int.tmod_eq_emod_of_nonneg h1
  rw [u32w (n := v) (by omega) (by omega), u32w (by omega) (by omega), e5, e3, i64w (n := v % 5) (by omega) (by omega), i64w (n := v % 3) (by omega) (by omega), i64w (n := 3 + v % 5) (by omega) (by omega), i64w (n := 4 + v % 3) (by omega) (by omega), limit_made]
  exact ⟨ok4' 0, ok4' _, by omega, by omega, by omega, rfl⟩
def KParams.pre (p : Par) : Prop := True
def KParams.fn (p : Par) : Bool := decide (p.2.2.2.2.2.2.1.length ≤ 8)
def KParams.VC : Prop := ∀ (x0 : ((Int × ((List Int) × ((List Int) × (Int × (Int × (Int × Unit)))))) × ((List Int) × (Int × (Int × (Int × (Int × ((List (Int × ((List Int) × Unit))) × (Int × (Int × (Int × Unit))))))))))), KParams.pre x0 →
 (Ret1 (decide ((x0.2.2.2.2.2.2.1.length : Int) ≤ (8 : Int))) (KParams.fn x0))
theorem KParams.vc : KParams.VC := by
  intro p _
  rw [ret1, KParams.fn, decide_eq_decide]; omega
def KContext.pre (c : Cx) : Prop := True
def KContext.fn (c : Cx) : Bool := decide (c.2.2.2.2.1.length ≤ 16)
def KContext.VC : Prop := ∀ (x0 : (Int × ((List Int) × (Int × (Int × ((List Int) × Unit)))))), KContext.pre x0 →
 (Ret1 (decide ((x0.2.2.2.2.1.length : Int) ≤ (16 : Int))) (KContext.fn x0))
theorem KContext.vc : KContext.VC := by
  intro c _
  rw [ret1, KContext.fn, decide_eq_decide]; omega

theorem made_ok {v : Int} (h : 0 ≤ v ∧ v ≤ 255) : PGood (madeParams v) := by
  have hl : Ok4 (Wn 4 (Big / 2 - 1)) := ok4' _
  have u : ∀ n : Nat, n < 4294967296 → U32 ((n : Nat) : Int) := fun n hn => ⟨by omega, by omega⟩
  exact ⟨⟨hl, u 545259519 (by omega), by show List.length [] ≤ 8; simp⟩, ⟨u 1 (by omega), HOk.zero, HOk.zero, ⟨by show 0 ≤ 1000 + v; omega, by show 1000 + v ≤ 4294967295; omega⟩, u 545259519 (by omega), U32.zero⟩, u 600 (by omega), u 1 (by omega)⟩
theorem made_expand : expandN (Int.toNat 545259519) ≠ 0 ∧ expandN (Int.toNat 545259519) ≤ Big / 2 - 1 := by decide +kernel
theorem made_limit : N4 (Wn 4 (Big / 2 - 1)) = Big / 2 - 1 := N4_W4 (by decide +kernel)
theorem made_valid {v : Int} (h : 0 ≤ v ∧ v ≤ 255) : validFn (madeParams v) = true := by
  rw [valid_iff]
  obtain ⟨e1, e2⟩ := made_expand
  refine ⟨?_, ⟨?_, ?_⟩, ⟨by show (1 : Int) ≤ 5; omega, by show (5 : Int) ≤ 1048576; omega⟩, ⟨by show (0 : Int) ≤ 1000; omega, by show (1000 : Int) ≤ 2100000000000000; omega⟩, ⟨?_, ?_⟩, ⟨?_, ?_⟩, rfl, e1, ?_⟩
  · show N4 (Wn 4 (Big / 2 - 1)) ≠ 0
    rw [made_limit]; decide +kernel
  · show 1 ≤ 3 + v % 5; omega
  · show 3 + v % 5 ≤ 4096; omega
  · show 1 ≤ 4 + v % 3; omega
  · show 4 + v % 3 ≤ 16777216; omega
  · show 0 ≤ v % 3; omega
  · show v % 3 ≤ 16777216; omega
  · show expandN (Int.toNat 545259519) ≤ N4 (Wn 4 (Big / 2 - 1))
    rw [made_limit]; exact e2
def KSome.pre (l : List Int) (n : Int) : Prop := 0 ≤ n
def KSome.fn (l : List Int) (n : Int) : List Int := l.take n.toNat
def KSome.VC : Prop := ∀ (x0 : (List Int)) (x1 : Int), KSome.pre x0 x1 →
 (0 ≤ (0 : Int) ∧ (0 : Int) ≤ (if x1 < (x0.length : Int) then x1 else (x0.length : Int)) ∧ (if x1 < (x0.length : Int) then x1 else (x0.length : Int)) ≤ (x0.length : Int)) ∧
 (let v10 : (List Int) := ((x0.drop (Int.toNat (0 : Int))).take ((Int.toNat (if x1 < (x0.length : Int) then x1 else (x0.length : Int))) - (Int.toNat (0 : Int))))
 (Ret1 v10 (KSome.fn x0 x1)))
theorem KSome.vc : KSome.VC := by
  intro l n hn
  have hn : 0 ≤ n := hn
  have e : ∃ k : Nat, (if n < (l.length : Int) then n else (l.length : Int)) = (k : Int) ∧ k ≤ l.length ∧ l.take k = l.take n.toNat := by
    by_cases h : n < l.length
    · exact ⟨n.toNat, by rw [if_pos h]; omega, by omega, rfl⟩
    · exact ⟨l.length, by rw [if_neg h], by omega, by rw [List.take_of_length_le (Nat.le_refl _), List.take_of_length_le (by omega)]⟩
  obtain ⟨k, e1, e2, e3⟩ := e
  rw [e1]
  refine ⟨⟨by omega, by omega, by omega⟩, ret1.2 ?_⟩
  show (l.drop 0).take (Int.toNat (k : Int) - 0) = _
  rw [Int.toNat_natCast, List.drop_zero, Nat.sub_zero, e3]; rfl
def secFn (s : Int) : Int := 20 + s % 8 * 15
def MSec.pre (s : Int) : Prop := 0 ≤ s ∧ s ≤ 255
def MSec.fn (s : Int) : Int := secFn s
def MSec.VC : Prop := ∀ (x0 : Int), MSec.pre x0 →
 (8 : Int) ≠ 0 ∧
 (let v6 : Int := (IntKind.u32.wrap ((IntKind.u32.wrap (Int.tmod x0 (8 : Int))) * (15 : Int)))
 (Ret1 (IntKind.u32.wrap ((20 : Int) + v6)) (MSec.fn x0)))
theorem MSec.vc : MSec.VC := by
  intro s ⟨h1, h2⟩
  have e : Int.tmod s 8 = s % 8 := Int.tmod_eq_emod_of_nonneg h1
  simp only [e, u32w (n := s % 8) (by omega) (by omega), u32w (n := s % 8 * 15) (by omega) (by omega), u32w (n := 20 + s % 8 * 15) (by omega) (by omega)]
  exact ⟨by omega, rfl⟩

/-! ## Mining -/
theorem compact_lt {n : Nat} (hB : n < Big) : compactN n < 4294967296 := by
  unfold compactN
  split
  · omega
  · rename_i hn
    have hm := manti_lt hn
    have hb := bl_big hB
    have he : expo n ≤ 33 := by unfold expo; omega
    omega
theorem next_u32 {p : Par} {c : Cx} (hp : ParOk p ∧ CxOk c) : U32 (nextFn p c).1 := by
  unfold nextFn
  split
  · exact U32.zero
  · split
    · unfold adjFn
      split
      · exact U32.zero
      · split
        · exact U32.zero
        · refine ⟨by simp only; omega, ?_⟩
          have hq : (if adjQ p c.2.2.1 c.2.2.2.1 (c.2.2.2.2.1.getD (c.2.2.2.2.1.length - 1) 0) = 0 then 1 else adjQ p c.2.2.1 c.2.2.2.1 (c.2.2.2.2.1.getD (c.2.2.2.2.1.length - 1) 0)) < Big := by
            split
            · decide +kernel
            · exact Nat.lt_of_le_of_lt (Nat.min_le_right _ _) hp.1.1.lt
          have := compact_lt hq
          simp only
          omega
    · exact hp.2.1
def incN (h : Hdr) : Hdr := (h.1, h.2.1, h.2.2.1, h.2.2.2.1, h.2.2.2.2.1, h.2.2.2.2.2.1 + 1, ())
noncomputable def mineGo (bits : Int) : Nat → Hdr → Hdr
  | 0, h => h
  | k + 1, h => if meetsFn (hashH h) bits = true then h else mineGo bits k (incN h)
theorem mineGo_succ (bits : Int) (k : Nat) (h : Hdr) : mineGo bits (k + 1) h = if meetsFn (hashH h) bits = true then h else mineGo bits k (incN h) := rfl
def mine0 (p : Par) (c : Cx) (root : List Int) (by' : Int) : Hdr := (p.2.2.2.2.2.1, c.2.1, root, IntKind.u32.wrap (IntKind.u32.wrap (medianFn c.2.2.2.2.1 + 1) + by'), (nextFn p c).1, 0, ())
noncomputable def mineFn (p : Par) (c : Cx) (root : List Int) (by' : Int) : Hdr := mineGo (nextFn p c).1 20000 (mine0 p c root by')
def MMine.pre (p : Par) (c : Cx) (root : List Int) (b : Int) : Prop := PGood p ∧ CGood c ∧ HOk root
noncomputable def MMine.fn (p : Par) (c : Cx) (root : List Int) (b : Int) : Hdr := mineFn p c root b
def MMine.inv4 (p : Par) (c : Cx) (root : List Int) (b : Int) (z h : Hdr) : Prop := HdrOk h ∧ h.2.2.2.2.2.1 ≤ 20000 ∧ mineFn p c root b = mineGo (nextFn p c).1 (20000 - h.2.2.2.2.2.1).toNat h
def MMine.mes4 (p : Par) (c : Cx) (root : List Int) (b : Int) (z h : Hdr) : Nat := (20000 - h.2.2.2.2.2.1).toNat
def MMine.VC : Prop := ∀ (x0 : ((Int × ((List Int) × ((List Int) × (Int × (Int × (Int × Unit)))))) × ((List Int) × (Int × (Int × (Int × (Int × ((List (Int × ((List Int) × Unit))) × (Int × (Int × (Int × Unit))))))))))) (x1 : (Int × ((List Int) × (Int × (Int × ((List Int) × Unit)))))) (x2 : (List Int)) (x3 : Int), MMine.pre x0 x1 x2 x3 →
 (let v8h : (Int × ((List Int) × ((List Int) × (Int × (Int × (Int × Unit)))))) := ((0 : Int), ((List.replicate 32 (0 : Int)), ((List.replicate 32 (0 : Int)), ((0 : Int), ((0 : Int), ((0 : Int), ()))))))
 QNext.pre x0 x1 ∧
 QMedian.pre x1.2.2.2.2.1 ∧
 (let v28 : Int := (IntKind.u32.wrap ((IntKind.u32.wrap ((QMedian.fn x1.2.2.2.2.1) + (1 : Int))) + x3))
 (let v30 : (Int × ((List Int) × ((List Int) × (Int × (Int × (Int × Unit)))))) := (x0.2.2.2.2.2.1, (x1.2.1, (x2, (v28, ((QNext.fn x0 x1).1, ((0 : Int), ()))))))
 (let v11h : (Int × ((List Int) × ((List Int) × (Int × (Int × (Int × Unit)))))) := ((0 : Int), ((List.replicate 32 (0 : Int)), ((List.replicate 32 (0 : Int)), ((0 : Int), ((0 : Int), ((0 : Int), ()))))))
 (let v11_1h : (Int × ((List Int) × ((List Int) × (Int × (Int × (Int × Unit)))))) := (v30.1, (v30.2.1, (v30.2.2.1, (v30.2.2.2.1, (v30.2.2.2.2.1, ((0 : Int), v30.2.2.2.2.2.2))))))
 (MMine.inv4 x0 x1 x2 x3 v8h v11_1h ∧
 ∀ (v8_1 : (Int × ((List Int) × ((List Int) × (Int × (Int × (Int × Unit))))))) (v11_2 : (Int × ((List Int) × ((List Int) × (Int × (Int × (Int × Unit))))))), MMine.inv4 x0 x1 x2 x3 v8_1 v11_2 →
 (((decide (v11_2.2.2.2.2.2.1 < (20000 : Int))) = true →
 RHdr.pre v11_2 ∧
 QMeets.pre (RHdr.fn v11_2) ((QNext.fn x0 x1).1) ∧
 (((QMeets.fn (RHdr.fn v11_2) ((QNext.fn x0 x1).1)) = true →
 (Ret1 v11_2 (MMine.fn x0 x1 x2 x3))) ∧
 ((QMeets.fn (RHdr.fn v11_2) ((QNext.fn x0 x1).1)) = false →
 (let v11_3h : (Int × ((List Int) × ((List Int) × (Int × (Int × (Int × Unit)))))) := (v11_2.1, (v11_2.2.1, (v11_2.2.2.1, (v11_2.2.2.2.1, (v11_2.2.2.2.2.1, ((IntKind.u32.wrap (v11_2.2.2.2.2.2.1 + (1 : Int))), v11_2.2.2.2.2.2.2))))))
 (MMine.inv4 x0 x1 x2 x3 v8_1 v11_3h ∧ MMine.mes4 x0 x1 x2 x3 v8_1 v11_3h < MMine.mes4 x0 x1 x2 x3 v8_1 v11_2))))) ∧
 ((decide (v11_2.2.2.2.2.2.1 < (20000 : Int))) = false →
 (Ret1 v11_2 (MMine.fn x0 x1 x2 x3))))))))))
theorem mine0_ok {p : Par} {c : Cx} {root : List Int} {b : Int} (h : PGood p ∧ CGood c ∧ HOk root) : HdrOk (mine0 p c root b) :=
  ⟨h.1.2.2.2, h.2.1.2.1, h.2.2, u32r _, next_u32 ⟨h.1.1, h.2.1.1⟩, U32.zero⟩
theorem inc_ok {h : Hdr} (hh : HdrOk h) (hn : h.2.2.2.2.2.1 < 20000) : HdrOk (incN h) :=
  ⟨hh.1, hh.2.1, hh.2.2.1, hh.2.2.2.1, hh.2.2.2.2.1, ⟨by have := hh.2.2.2.2.2.1; show 0 ≤ h.2.2.2.2.2.1 + 1; omega, by show h.2.2.2.2.2.1 + 1 ≤ _; omega⟩⟩
theorem mineGo_ok (bits : Int) : ∀ (k : Nat) (h : Hdr), HdrOk h → h.2.2.2.2.2.1 + k ≤ 20000 → HdrOk (mineGo bits k h)
  | 0, h, hh, _ => hh
  | k + 1, h, hh, hn => by
    rw [mineGo_succ]
    split
    · exact hh
    · exact mineGo_ok bits k (incN h) (inc_ok hh (by omega)) (by show h.2.2.2.2.2.1 + 1 + (k : Int) ≤ 20000; omega)
theorem mine_ok {p : Par} {c : Cx} {root : List Int} {b : Int} (h : PGood p ∧ CGood c ∧ HOk root) : HdrOk (mineFn p c root b) :=
  mineGo_ok _ _ _ (mine0_ok h) (by show (0 : Int) + ((20000 : Nat) : Int) ≤ 20000; omega)
theorem MMine.vc : MMine.VC := by
  intro p c root b hp
  simp only [QNext.fn, QMedian.fn, RHdr.fn, QMeets.fn, MMine.fn, ret1]
  refine ⟨⟨hp.1.1, hp.2.1.1⟩, hp.2.1.2.2, ⟨mine0_ok hp, by show (0 : Int) ≤ 20000; omega, rfl⟩, ?_⟩
  rintro z h ⟨k1, k2, k3⟩
  have k0 := k1.2.2.2.2.2.1
  refine ⟨fun hc => ?_, fun hc => ?_⟩
  · have hc : h.2.2.2.2.2.1 < 20000 := of_decide_eq_true hc
    rw [show (20000 - h.2.2.2.2.2.1).toNat = (20000 - (h.2.2.2.2.2.1 + 1)).toNat + 1 by omega, mineGo_succ] at k3
    refine ⟨k1, ⟨hashH_ok h, next_u32 ⟨hp.1.1, hp.2.1.1⟩⟩, fun hm => ?_, fun hm => ?_⟩
    · rw [k3, if_pos hm]
    · rw [u32w (by omega) (by omega)]
      refine ⟨⟨inc_ok k1 hc, by show h.2.2.2.2.2.1 + 1 ≤ 20000; omega, ?_⟩, by simp only [MMine.mes4]; omega⟩
      rw [k3, if_neg (by rw [hm]; simp)]; rfl
  · have hc : ¬ h.2.2.2.2.2.1 < 20000 := of_decide_eq_false hc
    rw [k3, show (20000 - h.2.2.2.2.2.1).toNat = 0 by omega]; rfl

/-! ## Chains -/
def rootS (s : Int) : List Int := (List.replicate 32 (0 : Int)).set 0 s
theorem rootS_ok {s : Int} (h : 0 ≤ s ∧ s ≤ 255) : HOk (rootS s) := ⟨by simp [rootS], (Bytes.zeros 32).set 0 h⟩
noncomputable def headersGo (p : Par) : Cx → List Int → List Hdr
  | _, [] => []
  | c, s :: r => if checkFn p c (mineFn p c (rootS s) (secFn s)) 1073741824 ≠ 0 then [] else mineFn p c (rootS s) (secFn s) :: headersGo p (advFn p c (mineFn p c (rootS s) (secFn s))).1 r
def MHeaders.pre (p : Par) (c : Cx) (l : List Int) : Prop := PGood p ∧ CGood c ∧ Bytes l ∧ l.length ≤ 1000
noncomputable def MHeaders.fn (p : Par) (c : Cx) (l : List Int) : List Hdr := headersGo p c l
def MHeaders.inv3 (p : Par) (c : Cx) (l : List Int) (c' : Cx) (o : List Hdr) (i : Int) : Prop := 0 ≤ i ∧ i ≤ l.length ∧ CGood c' ∧ (o.length : Int) = i ∧ headersGo p c l = o ++ headersGo p c' (l.drop i.toNat)
def MHeaders.mes3 (p : Par) (c : Cx) (l : List Int) (c' : Cx) (o : List Hdr) (i : Int) : Nat := (l.length - i).toNat
def MHeaders.VC : Prop := ∀ (x0 : ((Int × ((List Int) × ((List Int) × (Int × (Int × (Int × Unit)))))) × ((List Int) × (Int × (Int × (Int × (Int × ((List (Int × ((List Int) × Unit))) × (Int × (Int × (Int × Unit))))))))))) (x1 : (Int × ((List Int) × (Int × (Int × ((List Int) × Unit)))))) (x2 : (List Int)), MHeaders.pre x0 x1 x2 →
 (MHeaders.inv3 x0 x1 x2 x1 [] (0 : Int) ∧
 ∀ (v4 : (Int × ((List Int) × (Int × (Int × ((List Int) × Unit)))))) (v7 : (List (Int × ((List Int) × ((List Int) × (Int × (Int × (Int × Unit)))))))) (v13 : Int), MHeaders.inv3 x0 x1 x2 v4 v7 v13 →
 (((decide (v13 < (x2.length : Int))) = true →
 (0 ≤ v13 ∧ v13 < (x2.length : Int)) ∧
 (let v20 : (List Int) := ((List.replicate 32 (0 : Int)).set 0 (x2.getD (Int.toNat v13) (0 : Int)))
 MSec.pre (x2.getD (Int.toNat v13) (0 : Int)) ∧
 MMine.pre x0 v4 v20 (MSec.fn (x2.getD (Int.toNat v13) (0 : Int))) ∧
 (let v23 : (Int × ((List Int) × ((List Int) × (Int × (Int × (Int × Unit)))))) := (MMine.fn x0 v4 v20 (MSec.fn (x2.getD (Int.toNat v13) (0 : Int))))
 (let v10h : (Int × ((List Int) × ((List Int) × (Int × (Int × (Int × Unit)))))) := ((0 : Int), ((List.replicate 32 (0 : Int)), ((List.replicate 32 (0 : Int)), ((0 : Int), ((0 : Int), ((0 : Int), ()))))))
 VCheck.pre x0 v4 v23 (1073741824 : Int) ∧
 ((((VCheck.fn x0 v4 v23 (1073741824 : Int)) != (0 : Int)) = true →
 (Ret1 v7 (MHeaders.fn x0 x1 x2))) ∧
 (((VCheck.fn x0 v4 v23 (1073741824 : Int)) != (0 : Int)) = false →
 Room (v7.length + [v23].length) 80 ∧
 VAdvance.pre x0 v4 v23 ∧
 (MHeaders.inv3 x0 x1 x2 ((VAdvance.fn x0 v4 v23).1) (v7 ++ [v23]) (IntKind.i64.wrap (v13 + (1 : Int))) ∧ MHeaders.mes3 x0 x1 x2 ((VAdvance.fn x0 v4 v23).1) (v7 ++ [v23]) (IntKind.i64.wrap (v13 + (1 : Int))) < MHeaders.mes3 x0 x1 x2 v4 v7 v13))))))) ∧
 ((decide (v13 < (x2.length : Int))) = false →
 (Ret1 v7 (MHeaders.fn x0 x1 x2)))))
theorem drop_int {l : List Int} {i : Int} (h0 : 0 ≤ i) (h1 : i < l.length) : l.drop i.toNat = l.getD i.toNat 0 :: l.drop (i + 1).toNat := by
  rw [show (i + 1).toNat = i.toNat + 1 by omega, List.drop_eq_getElem_cons (show i.toNat < l.length by omega)]
  simp [List.getD_eq_getElem?_getD, show i.toNat < l.length by omega]
theorem MHeaders.vc : MHeaders.VC := by
  intro p c l ⟨h1, h2, h3, h4⟩
  simp only [MSec.fn, MMine.fn, VCheck.fn, VAdvance.fn, MHeaders.fn, ret1]
  refine ⟨⟨by omega, by omega, h2, by simp, by simp⟩, ?_⟩
  rintro c' o i ⟨k1, k2, k3, k4, k5⟩
  refine ⟨fun hc => ?_, fun hc => ?_⟩
  · have hc : i < l.length := of_decide_eq_true hc
    rw [drop_int k1 hc] at k5
    have hs := h3.getD i.toNat
    generalize l.getD i.toNat 0 = s at *
    have hr : List.set (List.replicate 32 (0 : Int)) 0 s = rootS s := rfl
    rw [hr]
    have hm : PGood p ∧ CGood c' ∧ HOk (rootS s) := ⟨h1, k3, rootS_ok hs⟩
    have hh := mine_ok (b := secFn s) hm
    have ha : AdvPre p c' (mineFn p c' (rootS s) (secFn s)) := ⟨h1, k3, hh⟩
    rw [headersGo] at k5
    generalize mineFn p c' (rootS s) (secFn s) = h at *
    refine ⟨⟨k1, hc⟩, hs, hm, ⟨ha, ⟨by decide, by decide⟩⟩, fun he => ?_, fun he => ?_⟩
    · rw [k5, if_pos (by simpa using he), List.append_nil]
    · rw [if_neg (by simpa using he)] at k5
      rw [i64w (by omega) (by omega)]
      refine ⟨room_of (by rw [List.length_singleton]; omega) (by omega), ha, ⟨by omega, by omega, adv_good ha, by rw [List.length_append, List.length_singleton]; omega, ?_⟩, by simp only [MHeaders.mes3]; omega⟩
      rw [k5, List.append_assoc]; rfl
  · have hc : ¬ i < l.length := of_decide_eq_false hc
    rw [k5, List.drop_eq_nil_of_le (by omega)]
    simp [headersGo]
theorem headers_ok {p : Par} (hp : PGood p) : ∀ (l : List Int) (c : Cx), CGood c → Bytes l → (∀ h, h ∈ headersGo p c l → HdrOk h) ∧ (headersGo p c l).length ≤ l.length
  | [], c, _, _ => ⟨fun h hh => (by cases hh), Nat.le_refl _⟩
  | s :: r, c, hc, hb => by
    have hs := hb s (by simp)
    have hm : PGood p ∧ CGood c ∧ HOk (rootS s) := ⟨hp, hc, rootS_ok hs⟩
    have hh := mine_ok (b := secFn s) hm
    have ha : AdvPre p c (mineFn p c (rootS s) (secFn s)) := ⟨hp, hc, hh⟩
    rw [headersGo]
    split
    · exact ⟨fun h hh => (by cases hh), by simp⟩
    · obtain ⟨i1, i2⟩ := headers_ok hp r _ (adv_good ha) (fun x hx => hb x (List.mem_cons_of_mem _ hx))
      refine ⟨fun h h2 => ?_, by simpa using i2⟩
      rcases List.mem_cons.1 h2 with rfl | h2
      · exact hh
      · exact i1 h h2

/-! ## The sanity check -/
def gh : List Int := [61, 203, 117, 189, 137, 197, 20, 104, 21, 221, 192, 209, 215, 49, 76, 183, 70, 25, 253, 247, 43, 253, 106, 115, 55, 132, 161, 91, 255, 182, 29, 187]
def gen0 : Hdr := (1, List.replicate 32 0, List.replicate 32 0, 1000, 545259519, 0, ())
def mh (n : Int) : Hdr := (1, gh, rootS 1, 1036, 545259519, n, ())
theorem gen_hash : hashH gen0 = gh := by
  have e1 : sum (encH gen0) = [28, 135, 173, 55, 143, 147, 150, 49, 24, 127, 13, 173, 157, 52, 1, 21, 121, 31, 32, 137, 14, 92, 255, 16, 5, 126, 65, 136, 242, 106, 50, 185] := by rw [sum_comp]; kernel_rfl
  have e2 : sum [28, 135, 173, 55, 143, 147, 150, 49, 24, 127, 13, 173, 157, 52, 1, 21, 121, 31, 32, 137, 14, 92, 255, 16, 5, 126, 65, 136, 242, 106, 50, 185] = gh := by rw [sum_comp]; kernel_rfl
  rw [hashH, e1, e2]
theorem hash0 : hashH (mh 0) = [136, 253, 64, 129, 251, 114, 82, 164, 44, 177, 59, 141, 39, 93, 14, 177, 155, 249, 155, 143, 89, 32, 169, 157, 255, 122, 3, 3, 121, 253, 29, 219] := by
  have e1 : sum (encH (mh 0)) = [136, 248, 196, 146, 106, 203, 247, 111, 158, 80, 49, 84, 54, 56, 60, 45, 131, 56, 77, 37, 179, 226, 100, 111, 94, 222, 95, 222, 56, 130, 225, 117] := by rw [sum_comp]; kernel_rfl
  have e2 : sum [136, 248, 196, 146, 106, 203, 247, 111, 158, 80, 49, 84, 54, 56, 60, 45, 131, 56, 77, 37, 179, 226, 100, 111, 94, 222, 95, 222, 56, 130, 225, 117] = [136, 253, 64, 129, 251, 114, 82, 164, 44, 177, 59, 141, 39, 93, 14, 177, 155, 249, 155, 143, 89, 32, 169, 157, 255, 122, 3, 3, 121, 253, 29, 219] := by rw [sum_comp]; kernel_rfl
  rw [hashH, e1, e2]
theorem hash1 : hashH (mh 1) = [232, 83, 189, 73, 105, 201, 214, 202, 160, 218, 32, 129, 208, 250, 127, 163, 209, 31, 175, 207, 138, 163, 146, 115, 73, 102, 194, 20, 191, 89, 104, 243] := by
  have e1 : sum (encH (mh 1)) = [77, 108, 233, 63, 78, 181, 114, 26, 6, 112, 218, 179, 202, 104, 95, 212, 246, 16, 72, 61, 74, 141, 131, 88, 119, 38, 199, 89, 109, 148, 245, 15] := by rw [sum_comp]; kernel_rfl
  have e2 : sum [77, 108, 233, 63, 78, 181, 114, 26, 6, 112, 218, 179, 202, 104, 95, 212, 246, 16, 72, 61, 74, 141, 131, 88, 119, 38, 199, 89, 109, 148, 245, 15] = [232, 83, 189, 73, 105, 201, 214, 202, 160, 218, 32, 129, 208, 250, 127, 163, 209, 31, 175, 207, 138, 163, 146, 115, 73, 102, 194, 20, 191, 89, 104, 243] := by rw [sum_comp]; kernel_rfl
  rw [hashH, e1, e2]
theorem hash2 : hashH (mh 2) = [94, 117, 70, 5, 196, 155, 206, 103, 191, 196, 206, 212, 71, 197, 78, 159, 69, 32, 147, 71, 24, 143, 231, 174, 226, 173, 72, 157, 189, 247, 168, 73] := by
  have e1 : sum (encH (mh 2)) = [235, 10, 146, 118, 54, 210, 76, 167, 159, 75, 115, 168, 148, 242, 143, 255, 124, 76, 156, 225, 127, 141, 206, 20, 155, 232, 14, 32, 179, 180, 172, 236] := by rw [sum_comp]; kernel_rfl
  have e2 : sum [235, 10, 146, 118, 54, 210, 76, 167, 159, 75, 115, 168, 148, 242, 143, 255, 124, 76, 156, 225, 127, 141, 206, 20, 155, 232, 14, 32, 179, 180, 172, 236] = [94, 117, 70, 5, 196, 155, 206, 103, 191, 196, 206, 212, 71, 197, 78, 159, 69, 32, 147, 71, 24, 143, 231, 174, 226, 173, 72, 157, 189, 247, 168, 73] := by rw [sum_comp]; kernel_rfl
  rw [hashH, e1, e2]
def c0 : Cx := (0, gh, 545259519, 1000, [1000], ())
theorem start0 : startFn (madeParams 0) = (c0, 0) := by
  rw [startFn, if_neg (by rw [made_valid (by omega)]; simp)]
  have : (madeParams 0).1 = gen0 := rfl
  rw [this, gen_hash]; rfl
theorem next0 : nextFn (madeParams 0) c0 = (545259519, 0) := by decide +kernel
theorem room0 : roomFn (madeParams 0) c0 = 0 := by decide +kernel
theorem mine_1 : mineFn (madeParams 0) c0 (rootS 1) (secFn 1) = mh 2 := by
  have e0 : mine0 (madeParams 0) c0 (rootS 1) (secFn 1) = mh 0 := by
    unfold mine0
    rw [next0]; decide +kernel
  have i0 : incN (mh 0) = mh 1 := rfl
  have i1 : incN (mh 1) = mh 2 := rfl
  rw [mineFn, e0, next0]
  rw [show (20000 : Nat) = 19999 + 1 from rfl, mineGo_succ, hash0, if_neg (by decide +kernel), i0]
  rw [show (19999 : Nat) = 19998 + 1 from rfl, mineGo_succ, hash1, if_neg (by decide +kernel), i1]
  rw [show (19998 : Nat) = 19997 + 1 from rfl, mineGo_succ, hash2, if_pos (by decide +kernel)]
theorem check_1 : checkFn (madeParams 0) c0 (mh 2) 1073741824 = 0 := by
  unfold checkFn
  rw [hash2, room0, next0]
  decide +kernel
theorem check_z : checkFn (madeParams 0) c0 (0, List.replicate 32 0, List.replicate 32 0, 0, 0, 0, ()) 0 = 144 := by
  have hb : b32 (List.replicate 32 (0 : Int)) gh = false := by decide +kernel
  unfold checkFn
  rw [room0, if_neg (by decide)]
  exact if_pos hb
theorem headers_1 : headersGo (madeParams 0) c0 [1] = [mh 2] := by
  rw [headersGo, mine_1, check_1, if_neg (by decide), headersGo]
theorem fits0 : fitsFn (madeParams 0) c0 = true := (room_ok room0).1
theorem run_1 : (runFn (madeParams 0) c0 [mh 2] 1073741824).2 = (1, 0) := by
  rw [runFn, if_neg (by rw [fits0]; simp), runGo, check_1, if_neg (by decide), runGo]; rfl
def ZSane.pre : Prop := True
def ZSane.fn : Bool := true
def ZSane.VC : Prop := ZSane.pre →
 MParams.pre (0 : Int) ∧
 (let v1h : ((Int × ((List Int) × ((List Int) × (Int × (Int × (Int × Unit)))))) × ((List Int) × (Int × (Int × (Int × (Int × ((List (Int × ((List Int) × Unit))) × (Int × (Int × (Int × Unit)))))))))) := (((0 : Int), ((List.replicate 32 (0 : Int)), ((List.replicate 32 (0 : Int)), ((0 : Int), ((0 : Int), ((0 : Int), ())))))), ((List.replicate 4 (0 : Int)), ((0 : Int), ((0 : Int), ((0 : Int), ((0 : Int), ([], ((0 : Int), ((0 : Int), ((0 : Int), ()))))))))))
 UStart.pre (MParams.fn (0 : Int)) ∧
 (let v2h : (Int × ((List Int) × (Int × (Int × ((List Int) × Unit))))) := ((0 : Int), ((List.replicate 32 (0 : Int)), ((0 : Int), ((0 : Int), ([], ())))))
 MHeaders.pre (MParams.fn (0 : Int)) ((UStart.fn (MParams.fn (0 : Int))).1) [(1 : Int)] ∧
 (let v17h : (List (Int × ((List Int) × ((List Int) × (Int × (Int × (Int × Unit))))))) := (MHeaders.fn (MParams.fn (0 : Int)) ((UStart.fn (MParams.fn (0 : Int))).1) [(1 : Int)])
 URun.pre (MParams.fn (0 : Int)) ((UStart.fn (MParams.fn (0 : Int))).1) v17h (1073741824 : Int) ∧
 (let v23 : (Int × ((List Int) × (Int × (Int × ((List Int) × Unit))))) := (URun.fn (MParams.fn (0 : Int)) ((UStart.fn (MParams.fn (0 : Int))).1) v17h (1073741824 : Int)).1
 (let v24 : Int := (URun.fn (MParams.fn (0 : Int)) ((UStart.fn (MParams.fn (0 : Int))).1) v17h (1073741824 : Int)).2.1
 (let v25 : Int := (URun.fn (MParams.fn (0 : Int)) ((UStart.fn (MParams.fn (0 : Int))).1) v17h (1073741824 : Int)).2.2
 (let v5h : (Int × ((List Int) × (Int × (Int × ((List Int) × Unit))))) := ((0 : Int), ((List.replicate 32 (0 : Int)), ((0 : Int), ((0 : Int), ([], ())))))
 (((UStart.fn (MParams.fn (0 : Int))).2 == (0 : Int)) = true → ((UStart.fn (MParams.fn (0 : Int))).2 == (0 : Int)) = true) ∧
 (((UStart.fn (MParams.fn (0 : Int))).2 == (0 : Int)) = true → ((UStart.fn (MParams.fn (0 : Int))).2 == (0 : Int)) = true) ∧
 (((UStart.fn (MParams.fn (0 : Int))).2 == (0 : Int)) = true → ((UStart.fn (MParams.fn (0 : Int))).2 == (0 : Int)) = true) ∧
 (((UStart.fn (MParams.fn (0 : Int))).2 == (0 : Int)) = true → ((UStart.fn (MParams.fn (0 : Int))).2 == (0 : Int)) = true) ∧
 (let v33 : Bool := (bif ((UStart.fn (MParams.fn (0 : Int))).2 == (0 : Int)) then (((UStart.fn (MParams.fn (0 : Int))).1.2.2.2.2.1.length : Int) == (1 : Int)) else false)
 (v33 = true → v33 = true) ∧
 (v33 = true → v33 = true) ∧
 (v33 = true → v33 = true) ∧
 ((bif v33 then ((v17h.length : Int) == (1 : Int)) else false) = true → (bif v33 then ((v17h.length : Int) == (1 : Int)) else false) = true) ∧
 ((bif v33 then ((v17h.length : Int) == (1 : Int)) else false) = true → (bif v33 then ((v17h.length : Int) == (1 : Int)) else false) = true) ∧
 (let v42 : Bool := (bif (bif v33 then ((v17h.length : Int) == (1 : Int)) else false) then (v24 == (1 : Int)) else false)
 (v42 = true → v42 = true) ∧
 (v42 = true → v42 = true) ∧
 ((bif v42 then (v25 == (0 : Int)) else false) = true → (bif v42 then (v25 == (0 : Int)) else false) = true) ∧
 ((bif v42 then (v25 == (0 : Int)) else false) = true → (bif v42 then (v25 == (0 : Int)) else false) = true) ∧
 ((bif v42 then (v25 == (0 : Int)) else false) = true → (bif v42 then (v25 == (0 : Int)) else false) = true) ∧
 ((bif v42 then (v25 == (0 : Int)) else false) = true → UCheck.pre (MParams.fn (0 : Int)) ((UStart.fn (MParams.fn (0 : Int))).1) ((0 : Int), ((List.replicate 32 (0 : Int)), ((List.replicate 32 (0 : Int)), ((0 : Int), ((0 : Int), ((0 : Int), ())))))) (0 : Int)) ∧
 ((bif v42 then (v25 == (0 : Int)) else false) = true → (bif v42 then (v25 == (0 : Int)) else false) = true) ∧
 ((bif v42 then (v25 == (0 : Int)) else false) = true → (bif v42 then (v25 == (0 : Int)) else false) = true) ∧
 (let v53 : Bool := (bif (bif v42 then (v25 == (0 : Int)) else false) then ((UCheck.fn (MParams.fn (0 : Int)) ((UStart.fn (MParams.fn (0 : Int))).1) ((0 : Int), ((List.replicate 32 (0 : Int)), ((List.replicate 32 (0 : Int)), ((0 : Int), ((0 : Int), ((0 : Int), ())))))) (0 : Int)) == (144 : Int)) else false)
 (Ret1 v53 ZSane.fn)))))))))))
theorem c0_good : CGood c0 := by
  have := start_good (made_ok (v := 0) (by omega))
  rwa [start0] at this
theorem mh2_ok : HdrOk (mh 2) := by
  have := mine_ok (b := secFn 1) ⟨made_ok (v := 0) (by omega), c0_good, rootS_ok (s := 1) (by omega)⟩
  rwa [mine_1] at this
theorem ZSane.vc : ZSane.VC := by
  intro _
  have hg := made_ok (v := 0) (by omega)
  simp only [imp_self, true_and, MParams.fn, UStart.fn, start0, MHeaders.fn, headers_1, URun.fn, run_1, UCheck.fn, check_z]
  refine ⟨⟨by omega, by omega⟩, hg, ⟨hg, c0_good, fun x hx => by rw [List.mem_singleton.1 hx]; omega, by simp⟩, ⟨hg, c0_good, fun h hh => by rw [List.mem_singleton.1 hh]; exact mh2_ok, by simp, ⟨by decide, by decide⟩⟩, fun _ => ⟨⟨hg, c0_good, ⟨U32.zero, HOk.zero, HOk.zero, U32.zero, U32.zero, U32.zero⟩⟩, U32.zero⟩, ?_⟩
  rfl
attribute [irreducible] ZSane.fn
theorem zsane : ZSane.fn = true := by unfold ZSane.fn; rfl
end Lc
