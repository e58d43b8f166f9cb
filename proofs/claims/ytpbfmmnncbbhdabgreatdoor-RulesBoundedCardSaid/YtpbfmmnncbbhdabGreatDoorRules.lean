/- Rules: headers in their context, of the program and of the reference, as plain functions, and the proofs of their conditions. -/
import Derived.Test.YtpbfmmnncbbhdabGreatDoorHead
import Derived.Test.YtpbfmmnncbbhdabGreatDoorClone
set_option linter.unusedVariables false
set_option maxRecDepth 100000
namespace Lc
open Go

abbrev b32 : List Int → List Int → Bool := Ty.beq (.arr 32 (.int .u8))
theorem b32_self (a : List Int) : b32 a a = true := beq_self (.arr 32 (.int .u8)) a
def zc : Cx := (0, List.replicate 32 0, 0, 0, [], ())
def PGood (p : Par) : Prop := ParOk p ∧ HdrOk p.1 ∧ U32 p.2.2.2.2.1 ∧ U32 p.2.2.2.2.2.1
def CGood (c : Cx) : Prop := CxOk c ∧ HOk c.2.1 ∧ c.2.2.2.2.1.length ≤ 1000
theorem zc_good : CGood zc := ⟨⟨U32.zero, U32.zero, fun t h => by cases h⟩, HOk.zero, by simp [zc]⟩

def fitsFn (p : Par) (c : Cx) : Bool := validFn p && (decide (0 ≤ c.1) && (decide (c.1 ≤ 16777216) && decide ((c.2.2.2.2.1.length : Int) = if 11 < c.1 + 1 then 11 else c.1 + 1)))
theorem fits_iff (p : Par) (c : Cx) : fitsFn p c = true ↔ validFn p = true ∧ 0 ≤ c.1 ∧ c.1 ≤ 16777216 ∧ (c.2.2.2.2.1.length : Int) = if 11 < c.1 + 1 then 11 else c.1 + 1 := by
  simp only [fitsFn, Bool.and_eq_true, decide_eq_true_eq]
def UFits.pre (p : Par) (c : Cx) : Prop := ParOk p
def UFits.fn (p : Par) (c : Cx) : Bool := fitsFn p c
def UFits.VC : Prop := ∀ (x0 : ((Int × ((List Int) × ((List Int) × (Int × (Int × (Int × Unit)))))) × ((List Int) × (Int × (Int × (Int × (Int × ((List (Int × ((List Int) × Unit))) × (Int × (Int × (Int × Unit))))))))))) (x1 : (Int × ((List Int) × (Int × (Int × ((List Int) × Unit)))))), UFits.pre x0 x1 →
 RValid.pre x0 ∧
 ((RValid.fn x0) = true → (RValid.fn x0) = true) ∧
 ((RValid.fn x0) = true → (RValid.fn x0) = true) ∧
 ((RValid.fn x0) = true → (RValid.fn x0) = true) ∧
 (let v11 : Bool := (bif (RValid.fn x0) then (decide (x1.1 ≥ (0 : Int))) else false)
 (v11 = true → v11 = true) ∧
 (v11 = true → v11 = true) ∧
 (v11 = true → v11 = true) ∧
 ((bif v11 then (decide (x1.1 ≤ (16777216 : Int))) else false) = true → (bif v11 then (decide (x1.1 ≤ (16777216 : Int))) else false) = true) ∧
 ((bif v11 then (decide (x1.1 ≤ (16777216 : Int))) else false) = true → (bif v11 then (decide (x1.1 ≤ (16777216 : Int))) else false) = true) ∧
 ((bif v11 then (decide (x1.1 ≤ (16777216 : Int))) else false) = true → (bif v11 then (decide (x1.1 ≤ (16777216 : Int))) else false) = true) ∧
 ((bif v11 then (decide (x1.1 ≤ (16777216 : Int))) else false) = true → (bif v11 then (decide (x1.1 ≤ (16777216 : Int))) else false) = true) ∧
 ((bif v11 then (decide (x1.1 ≤ (16777216 : Int))) else false) = true → (bif v11 then (decide (x1.1 ≤ (16777216 : Int))) else false) = true) ∧
 ((bif v11 then (decide (x1.1 ≤ (16777216 : Int))) else false) = true → (bif v11 then (decide (x1.1 ≤ (16777216 : Int))) else false) = true) ∧
 ((bif v11 then (decide (x1.1 ≤ (16777216 : Int))) else false) = true → (bif v11 then (decide (x1.1 ≤ (16777216 : Int))) else false) = true) ∧
 ((bif v11 then (decide (x1.1 ≤ (16777216 : Int))) else false) = true → (bif v11 then (decide (x1.1 ≤ (16777216 : Int))) else false) = true) ∧
 (let v26 : Bool := (bif (bif v11 then (decide (x1.1 ≤ (16777216 : Int))) else false) then ((x1.2.2.2.2.1.length : Int) == (if (11 : Int) < (IntKind.i64.wrap (x1.1 + (1 : Int))) then (11 : Int) else (IntKind.i64.wrap (x1.1 + (1 : Int))))) else false)
 (Ret1 v26 (UFits.fn x0 x1))))
theorem fits_eq (v : Bool) (p : Par) (c : Cx) (hv : v = validFn p) :
    (bif (bif (bif v then decide (c.1 ≥ 0) else false) then decide (c.1 ≤ 16777216) else false) then (c.2.2.2.2.1.length : Int) == (if (11 : Int) < IntKind.i64.wrap (c.1 + 1) then (11 : Int) else IntKind.i64.wrap (c.1 + 1)) else false) = fitsFn p c := by
  subst hv
  unfold fitsFn
  by_cases h0 : 0 ≤ c.1
  · by_cases h1 : c.1 ≤ 16777216
    · rw [i64w (by omega) (by omega)]
      cases validFn p <;> simp [h0, h1] <;> rfl
    · cases validFn p <;> simp [h0, h1]
  · cases validFn p <;> simp [h0]
theorem UFits.vc : UFits.VC := by
  intro p c hp
  simp only [imp_self, true_and, RValid.fn]
  exact ⟨hp, ret1.2 (fits_eq _ p c rfl)⟩
def VFits.pre (p : Par) (c : Cx) : Prop := ParOk p
def VFits.fn (p : Par) (c : Cx) : Bool := fitsFn p c
def VFits.VC : Prop := ∀ (x0 : ((Int × ((List Int) × ((List Int) × (Int × (Int × (Int × Unit)))))) × ((List Int) × (Int × (Int × (Int × (Int × ((List (Int × ((List Int) × Unit))) × (Int × (Int × (Int × Unit))))))))))) (x1 : (Int × ((List Int) × (Int × (Int × ((List Int) × Unit)))))), VFits.pre x0 x1 →
 QValid.pre x0 ∧
 ((QValid.fn x0) = true → (QValid.fn x0) = true) ∧
 ((QValid.fn x0) = true → (QValid.fn x0) = true) ∧
 ((QValid.fn x0) = true → (QValid.fn x0) = true) ∧
 (let v11 : Bool := (bif (QValid.fn x0) then (decide (x1.1 ≥ (0 : Int))) else false)
 (v11 = true → v11 = true) ∧
 (v11 = true → v11 = true) ∧
 (v11 = true → v11 = true) ∧
 ((bif v11 then (decide (x1.1 ≤ (16777216 : Int))) else false) = true → (bif v11 then (decide (x1.1 ≤ (16777216 : Int))) else false) = true) ∧
 ((bif v11 then (decide (x1.1 ≤ (16777216 : Int))) else false) = true → (bif v11 then (decide (x1.1 ≤ (16777216 : Int))) else false) = true) ∧
 ((bif v11 then (decide (x1.1 ≤ (16777216 : Int))) else false) = true → (bif v11 then (decide (x1.1 ≤ (16777216 : Int))) else false) = true) ∧
 ((bif v11 then (decide (x1.1 ≤ (16777216 : Int))) else false) = true → (bif v11 then (decide (x1.1 ≤ (16777216 : Int))) else false) = true) ∧
 ((bif v11 then (decide (x1.1 ≤ (16777216 : Int))) else false) = true → (bif v11 then (decide (x1.1 ≤ (16777216 : Int))) else false) = true) ∧
 ((bif v11 then (decide (x1.1 ≤ (16777216 : Int))) else false) = true → (bif v11 then (decide (x1.1 ≤ (16777216 : Int))) else false) = true) ∧
 ((bif v11 then (decide (x1.1 ≤ (16777216 : Int))) else false) = true → (bif v11 then (decide (x1.1 ≤ (16777216 : Int))) else false) = true) ∧
 ((bif v11 then (decide (x1.1 ≤ (16777216 : Int))) else false) = true → (bif v11 then (decide (x1.1 ≤ (16777216 : Int))) else false) = true) ∧
 (let v26 : Bool := (bif (bif v11 then (decide (x1.1 ≤ (16777216 : Int))) else false) then ((x1.2.2.2.2.1.length : Int) == (if (11 : Int) < (IntKind.i64.wrap (x1.1 + (1 : Int))) then (11 : Int) else (IntKind.i64.wrap (x1.1 + (1 : Int))))) else false)
 (Ret1 v26 (VFits.fn x0 x1))))
theorem VFits.vc : VFits.VC := by
  intro p c hp
  simp only [imp_self, true_and, QValid.fn]
  exact ⟨hp, ret1.2 (fits_eq _ p c rfl)⟩

def roomFn (p : Par) (c : Cx) : Int := if fitsFn p c = false then 6 else if c.1 = 16777216 then 4 else 0
theorem room_ok {p : Par} {c : Cx} (h : roomFn p c = 0) : fitsFn p c = true ∧ c.1 ≠ 16777216 := by
  unfold roomFn at h
  split at h
  · omega
  · split at h
    · omega
    · rename_i h1 h2; exact ⟨by simpa using h1, h2⟩
def URoom.pre (p : Par) (c : Cx) : Prop := ParOk p
def URoom.fn (p : Par) (c : Cx) : Int := roomFn p c
def URoom.VC : Prop := ∀ (x0 : ((Int × ((List Int) × ((List Int) × (Int × (Int × (Int × Unit)))))) × ((List Int) × (Int × (Int × (Int × (Int × ((List (Int × ((List Int) × Unit))) × (Int × (Int × (Int × Unit))))))))))) (x1 : (Int × ((List Int) × (Int × (Int × ((List Int) × Unit)))))), URoom.pre x0 x1 →
 UFits.pre x0 x1 ∧
 (((!(UFits.fn x0 x1)) = true →
 (Ret1 (6 : Int) (URoom.fn x0 x1))) ∧
 ((!(UFits.fn x0 x1)) = false →
 (((x1.1 == (16777216 : Int)) = true →
 (Ret1 (4 : Int) (URoom.fn x0 x1))) ∧
 ((x1.1 == (16777216 : Int)) = false →
 (Ret1 (0 : Int) (URoom.fn x0 x1))))))
theorem URoom.vc : URoom.VC := by
  intro p c hp
  simp only [UFits.fn, URoom.fn, ret1]
  refine ⟨hp, fun h => ?_, fun h => ⟨fun h2 => ?_, fun h2 => ?_⟩⟩
  · rw [roomFn, if_pos (by simpa using h)]
  · rw [roomFn, if_neg (by simpa using h), if_pos (by simpa using h2)]
  · rw [roomFn, if_neg (by simpa using h), if_neg (by simpa using h2)]

noncomputable def startFn (p : Par) : Cx × Int := if validFn p = false then (zc, 6) else ((0, hashH p.1, p.1.2.2.2.2.1, p.1.2.2.2.1, [p.1.2.2.2.1], ()), 0)
def UStart.pre (p : Par) : Prop := PGood p
noncomputable def UStart.fn (p : Par) : Cx × Int := startFn p
def UStart.VC : Prop := ∀ (x0 : ((Int × ((List Int) × ((List Int) × (Int × (Int × (Int × Unit)))))) × ((List Int) × (Int × (Int × (Int × (Int × ((List (Int × ((List Int) × Unit))) × (Int × (Int × (Int × Unit))))))))))), UStart.pre x0 →
 (let v2h : (Int × ((List Int) × (Int × (Int × ((List Int) × Unit))))) := ((0 : Int), ((List.replicate 32 (0 : Int)), ((0 : Int), ((0 : Int), ([], ())))))
 RValid.pre x0 ∧
 (((!(RValid.fn x0)) = true →
 (let v8 : (Int × ((List Int) × (Int × (Int × ((List Int) × Unit))))) := ((0 : Int), ((List.replicate 32 (0 : Int)), ((0 : Int), ((0 : Int), ([], ())))))
 (Ret2 v8 (6 : Int) (UStart.fn x0)))) ∧
 ((!(RValid.fn x0)) = false →
 (let v4h : (Int × ((List Int) × ((List Int) × (Int × (Int × (Int × Unit)))))) := ((0 : Int), ((List.replicate 32 (0 : Int)), ((List.replicate 32 (0 : Int)), ((0 : Int), ((0 : Int), ((0 : Int), ()))))))
 BHash.pre x0.1 ∧
 (let v20 : (Int × ((List Int) × (Int × (Int × ((List Int) × Unit))))) := ((0 : Int), ((BHash.fn x0.1), (x0.1.2.2.2.2.1, (x0.1.2.2.2.1, ([x0.1.2.2.2.1], ())))))
 (Ret2 v20 (0 : Int) (UStart.fn x0)))))))
theorem UStart.vc : UStart.VC := by
  intro p hp
  simp only [RValid.fn, UStart.fn, ret2, BHash.fn]
  refine ⟨hp.1, fun h => ?_, fun h => ⟨hp.2.1, ?_⟩⟩
  · rw [startFn, if_pos (by simpa using h)]; rfl
  · rw [startFn, if_neg (by simpa using h)]
def VStart.pre (p : Par) : Prop := PGood p
noncomputable def VStart.fn (p : Par) : Cx × Int := startFn p
def VStart.VC : Prop := ∀ (x0 : ((Int × ((List Int) × ((List Int) × (Int × (Int × (Int × Unit)))))) × ((List Int) × (Int × (Int × (Int × (Int × ((List (Int × ((List Int) × Unit))) × (Int × (Int × (Int × Unit))))))))))), VStart.pre x0 →
 (let v2h : (Int × ((List Int) × (Int × (Int × ((List Int) × Unit))))) := ((0 : Int), ((List.replicate 32 (0 : Int)), ((0 : Int), ((0 : Int), ([], ())))))
 QValid.pre x0 ∧
 (((!(QValid.fn x0)) = true →
 (let v8 : (Int × ((List Int) × (Int × (Int × ((List Int) × Unit))))) := ((0 : Int), ((List.replicate 32 (0 : Int)), ((0 : Int), ((0 : Int), ([], ())))))
 (Ret2 v8 (6 : Int) (VStart.fn x0)))) ∧
 ((!(QValid.fn x0)) = false →
 (let v4h : (Int × ((List Int) × ((List Int) × (Int × (Int × (Int × Unit)))))) := ((0 : Int), ((List.replicate 32 (0 : Int)), ((List.replicate 32 (0 : Int)), ((0 : Int), ((0 : Int), ((0 : Int), ()))))))
 RHdr.pre x0.1 ∧
 (let v20 : (Int × ((List Int) × (Int × (Int × ((List Int) × Unit))))) := ((0 : Int), ((RHdr.fn x0.1), (x0.1.2.2.2.2.1, (x0.1.2.2.2.1, ([x0.1.2.2.2.1], ())))))
 (Ret2 v20 (0 : Int) (VStart.fn x0)))))))
theorem VStart.vc : VStart.VC := by
  intro p hp
  simp only [QValid.fn, VStart.fn, ret2, RHdr.fn]
  refine ⟨hp.1, fun h => ?_, fun h => ⟨hp.2.1, ?_⟩⟩
  · rw [startFn, if_pos (by simpa using h)]; rfl
  · rw [startFn, if_neg (by simpa using h)]
theorem start_good {p : Par} (hp : PGood p) : CGood (startFn p).1 := by
  unfold startFn
  split
  · exact zc_good
  · exact ⟨⟨hp.2.1.2.2.2.2.1, hp.2.1.2.2.2.1, fun t ht => by rw [List.mem_singleton.1 ht]; exact hp.2.1.2.2.2.1⟩, hashH_ok _, by simp⟩

def nextT (l : List Int) (t : Int) : List Int := if l.length = 11 then l.drop 1 ++ [t] else l ++ [t]
noncomputable def advFn (p : Par) (c : Cx) (h : Hdr) : Cx × Int :=
  if roomFn p c ≠ 0 then (zc, roomFn p c) else ((c.1 + 1, hashH h, h.2.2.2.2.1, if Int.tmod (c.1 + 1) p.2.2.1 = 0 then h.2.2.2.1 else c.2.2.2.1, nextT c.2.2.2.2.1 h.2.2.2.1, ()), 0)
def AdvPre (p : Par) (c : Cx) (h : Hdr) : Prop := PGood p ∧ CGood c ∧ HdrOk h
theorem nextT_u32 {l : List Int} {t : Int} (hl : ∀ x, x ∈ l → U32 x) (ht : U32 t) : ∀ x, x ∈ nextT l t → U32 x := by
  intro x hx
  unfold nextT at hx
  split at hx
  · rcases List.mem_append.1 hx with h | h
    · exact hl x (List.mem_of_mem_drop h)
    · rw [List.mem_singleton.1 h]; exact ht
  · rcases List.mem_append.1 hx with h | h
    · exact hl x h
    · rw [List.mem_singleton.1 h]; exact ht
theorem nextT_len {l : List Int} (t : Int) : (nextT l t).length = if l.length = 11 then 11 else l.length + 1 := by
  unfold nextT
  split
  · rename_i h; simp [h]
  · simp
theorem adv_good {p : Par} {c : Cx} {h : Hdr} (hp : AdvPre p c h) : CGood (advFn p c h).1 := by
  unfold advFn
  split
  · exact zc_good
  · rename_i hr
    obtain ⟨hf, _⟩ := room_ok (by omega : roomFn p c = 0)
    have hl := ((fits_iff p c).1 hf).2.2.2
    refine ⟨⟨hp.2.2.2.2.2.2.1, ?_, nextT_u32 hp.2.1.1.2.2 hp.2.2.2.2.2.1⟩, hashH_ok _, ?_⟩
    · show U32 (if _ then _ else _)
      split
      · exact hp.2.2.2.2.2.1
      · exact hp.2.1.1.2.1
    · show (nextT _ _).length ≤ 1000
      rw [nextT_len]; split
      · omega
      · split at hl <;> omega
def UAdvance.pre (p : Par) (c : Cx) (h : Hdr) : Prop := AdvPre p c h
noncomputable def UAdvance.fn (p : Par) (c : Cx) (h : Hdr) : Cx × Int := advFn p c h
def UAdvance.VC : Prop := ∀ (x0 : ((Int × ((List Int) × ((List Int) × (Int × (Int × (Int × Unit)))))) × ((List Int) × (Int × (Int × (Int × (Int × ((List (Int × ((List Int) × Unit))) × (Int × (Int × (Int × Unit))))))))))) (x1 : (Int × ((List Int) × (Int × (Int × ((List Int) × Unit)))))) (x2 : (Int × ((List Int) × ((List Int) × (Int × (Int × (Int × Unit))))))), UAdvance.pre x0 x1 x2 →
 (let v6h : (Int × ((List Int) × (Int × (Int × ((List Int) × Unit))))) := ((0 : Int), ((List.replicate 32 (0 : Int)), ((0 : Int), ((0 : Int), ([], ())))))
 URoom.pre x0 x1 ∧
 ((((URoom.fn x0 x1) != (0 : Int)) = true →
 (let v17 : (Int × ((List Int) × (Int × (Int × ((List Int) × Unit))))) := ((0 : Int), ((List.replicate 32 (0 : Int)), ((0 : Int), ((0 : Int), ([], ())))))
 (Ret2 v17 (URoom.fn x0 x1) (UAdvance.fn x0 x1 x2)))) ∧
 (((URoom.fn x0 x1) != (0 : Int)) = false →
 (let v24 : Int := (IntKind.i64.wrap ((IntKind.i64.wrap ((x1.2.2.2.2.1.length : Int) + (1 : Int))) - (11 : Int)))
 BHash.pre x2 ∧
 (let v35 : (Int × ((List Int) × (Int × (Int × ((List Int) × Unit))))) := ((IntKind.i64.wrap (x1.1 + (1 : Int))), ((BHash.fn x2), (x2.2.2.2.2.1, (x1.2.2.2.1, ([], ())))))
 (let v11h : (Int × ((List Int) × (Int × (Int × ((List Int) × Unit))))) := ((0 : Int), ((List.replicate 32 (0 : Int)), ((0 : Int), ((0 : Int), ([], ())))))
 x0.2.2.1 ≠ 0 ∧
 ((((Int.tmod v35.1 x0.2.2.1) == (0 : Int)) = true →
 (0 ≤ (if v24 > (0 : Int) then v24 else (0 : Int)) ∧ (if v24 > (0 : Int) then v24 else (0 : Int)) ≤ (x1.2.2.2.2.1.length : Int) ∧ (x1.2.2.2.2.1.length : Int) = (x1.2.2.2.2.1.length : Int) ∧ (x1.2.2.2.2.1.length : Int) ≤ (x1.2.2.2.2.1.length : Int)) ∧
 0 < [x2.2.2.2.1].length ∧
 Room (((x1.2.2.2.2.1.drop (Int.toNat (if v24 > (0 : Int) then v24 else (0 : Int)))).take ((Int.toNat (x1.2.2.2.2.1.length : Int)) - (Int.toNat (if v24 > (0 : Int) then v24 else (0 : Int))))).length + [x2.2.2.2.1].length) 4 ∧
 (let v54h : (List Int) := (((x1.2.2.2.2.1.drop (Int.toNat (if v24 > (0 : Int) then v24 else (0 : Int)))).take ((Int.toNat (x1.2.2.2.2.1.length : Int)) - (Int.toNat (if v24 > (0 : Int) then v24 else (0 : Int))))) ++ [x2.2.2.2.1])
 (let v11_1h : (Int × ((List Int) × (Int × (Int × ((List Int) × Unit))))) := (v35.1, (v35.2.1, (v35.2.2.1, (x2.2.2.2.1, (v54h, v35.2.2.2.2.2)))))
 (Ret2 v11_1h (0 : Int) (UAdvance.fn x0 x1 x2))))) ∧
 (((Int.tmod v35.1 x0.2.2.1) == (0 : Int)) = false →
 (0 ≤ (if v24 > (0 : Int) then v24 else (0 : Int)) ∧ (if v24 > (0 : Int) then v24 else (0 : Int)) ≤ (x1.2.2.2.2.1.length : Int) ∧ (x1.2.2.2.2.1.length : Int) = (x1.2.2.2.2.1.length : Int) ∧ (x1.2.2.2.2.1.length : Int) ≤ (x1.2.2.2.2.1.length : Int)) ∧
 0 < [x2.2.2.2.1].length ∧
 Room (((x1.2.2.2.2.1.drop (Int.toNat (if v24 > (0 : Int) then v24 else (0 : Int)))).take ((Int.toNat (x1.2.2.2.2.1.length : Int)) - (Int.toNat (if v24 > (0 : Int) then v24 else (0 : Int))))).length + [x2.2.2.2.1].length) 4 ∧
 (let v54_1h : (List Int) := (((x1.2.2.2.2.1.drop (Int.toNat (if v24 > (0 : Int) then v24 else (0 : Int)))).take ((Int.toNat (x1.2.2.2.2.1.length : Int)) - (Int.toNat (if v24 > (0 : Int) then v24 else (0 : Int))))) ++ [x2.2.2.2.1])
 (let v11_2h : (Int × ((List Int) × (Int × (Int × ((List Int) × Unit))))) := (v35.1, (v35.2.1, (v35.2.2.1, (v35.2.2.2.1, (v54_1h, v35.2.2.2.2.2)))))
 (Ret2 v11_2h (0 : Int) (UAdvance.fn x0 x1 x2))))))))))))
theorem room_facts {p : Par} {c : Cx} (hr : roomFn p c = 0) : p.2.2.1 ≠ 0 ∧ IntKind.i64.wrap (c.1 + 1) = c.1 + 1 ∧ 1 ≤ c.2.2.2.2.1.length ∧ c.2.2.2.2.1.length ≤ 11 ∧ 0 ≤ c.1 ∧ c.1 < 16777216 ∧ validFn p = true ∧ (c.2.2.2.2.1.length : Int) = if 11 < c.1 + 1 then 11 else c.1 + 1 := by
  obtain ⟨hf, hm⟩ := room_ok hr
  obtain ⟨h1, h2, h3, h4⟩ := (fits_iff p c).1 hf
  have hv := (valid_iff p).1 h1
  refine ⟨by omega, i64w (by omega) (by omega), ?_, ?_, h2, by omega, h1, h4⟩
  · split at h4 <;> omega
  · split at h4 <;> omega
theorem UAdvance.vc : UAdvance.VC := by
  intro p c h hp
  simp only [URoom.fn, UAdvance.fn, ret2, BHash.fn]
  refine ⟨hp.1.1, fun hr => ?_, fun hr => ?_⟩
  · rw [advFn, if_pos (by simpa using hr)]; rfl
  have hr : roomFn p c = 0 := by simpa using hr
  obtain ⟨f1, f2, f3, f4, f5, f6, f7, f8⟩ := room_facts hr
  have e1 : IntKind.i64.wrap ((c.2.2.2.2.1.length : Int) + 1) = (c.2.2.2.2.1.length : Int) + 1 := i64w (by omega) (by omega)
  have e2 : IntKind.i64.wrap ((c.2.2.2.2.1.length : Int) + 1 - 11) = (c.2.2.2.2.1.length : Int) + 1 - 11 := i64w (by omega) (by omega)
  simp only [e1, e2, f2]
  have hk : ∃ k : Nat, (if (c.2.2.2.2.1.length : Int) + 1 - 11 > 0 then (c.2.2.2.2.1.length : Int) + 1 - 11 else 0) = (k : Int) ∧ k ≤ c.2.2.2.2.1.length ∧ c.2.2.2.2.1.drop k ++ [h.2.2.2.1] = nextT c.2.2.2.2.1 h.2.2.2.1 := by
    by_cases h11 : c.2.2.2.2.1.length = 11
    · exact ⟨1, by rw [if_pos (by omega)]; omega, by omega, by rw [nextT, if_pos h11]⟩
    · exact ⟨0, by rw [if_neg (by omega)]; rfl, by omega, by rw [nextT, if_neg h11]; rfl⟩
  obtain ⟨k, k1, k2, k3⟩ := hk
  simp only [k1, Int.toNat_natCast]
  have et : List.take (c.2.2.2.2.1.length - k) (List.drop k c.2.2.2.2.1) = List.drop k c.2.2.2.2.1 := by rw [List.take_of_length_le]; rw [List.length_drop]; omega
  simp only [et]
  have room : Room ((List.drop k c.2.2.2.2.1).length + [h.2.2.2.1].length) 4 := room_of (by rw [List.length_drop, List.length_singleton]; omega) (by omega)
  refine ⟨hp.2.2, f1, fun hm => ⟨⟨by omega, by omega, trivial, by omega⟩, by simp, room, ?_⟩, fun hm => ⟨⟨by omega, by omega, trivial, by omega⟩, by simp, room, ?_⟩⟩
  · rw [advFn, if_neg (by omega), if_pos (by simpa using hm), ← k3]
  · rw [advFn, if_neg (by omega), if_neg (by simpa using hm), ← k3]
def VAdvance.pre (p : Par) (c : Cx) (h : Hdr) : Prop := AdvPre p c h
noncomputable def VAdvance.fn (p : Par) (c : Cx) (h : Hdr) : Cx × Int := advFn p c h
def VAdvance.VC : Prop := ∀ (x0 : ((Int × ((List Int) × ((List Int) × (Int × (Int × (Int × Unit)))))) × ((List Int) × (Int × (Int × (Int × (Int × ((List (Int × ((List Int) × Unit))) × (Int × (Int × (Int × Unit))))))))))) (x1 : (Int × ((List Int) × (Int × (Int × ((List Int) × Unit)))))) (x2 : (Int × ((List Int) × ((List Int) × (Int × (Int × (Int × Unit))))))), VAdvance.pre x0 x1 x2 →
 (let v6h : (Int × ((List Int) × (Int × (Int × ((List Int) × Unit))))) := ((0 : Int), ((List.replicate 32 (0 : Int)), ((0 : Int), ((0 : Int), ([], ())))))
 VFits.pre x0 x1 ∧
 (((!(VFits.fn x0 x1)) = true →
 (let v13 : (Int × ((List Int) × (Int × (Int × ((List Int) × Unit))))) := ((0 : Int), ((List.replicate 32 (0 : Int)), ((0 : Int), ((0 : Int), ([], ())))))
 (Ret2 v13 (6 : Int) (VAdvance.fn x0 x1 x2)))) ∧
 ((!(VFits.fn x0 x1)) = false →
 (((x1.1 == (16777216 : Int)) = true →
 (let v17 : (Int × ((List Int) × (Int × (Int × ((List Int) × Unit))))) := ((0 : Int), ((List.replicate 32 (0 : Int)), ((0 : Int), ((0 : Int), ([], ())))))
 (Ret2 v17 (4 : Int) (VAdvance.fn x0 x1 x2)))) ∧
 ((x1.1 == (16777216 : Int)) = false →
 RHdr.pre x2 ∧
 (let v27 : (Int × ((List Int) × (Int × (Int × ((List Int) × Unit))))) := ((IntKind.i64.wrap (x1.1 + (1 : Int))), ((RHdr.fn x2), (x2.2.2.2.2.1, (x1.2.2.2.1, ([], ())))))
 (let v8h : (Int × ((List Int) × (Int × (Int × ((List Int) × Unit))))) := ((0 : Int), ((List.replicate 32 (0 : Int)), ((0 : Int), ((0 : Int), ([], ())))))
 x0.2.2.1 ≠ 0 ∧
 ((((Int.tmod v27.1 x0.2.2.1) == (0 : Int)) = true →
 Room x1.2.2.2.2.1.length 4 ∧
 Room (x1.2.2.2.2.1.length + [x2.2.2.2.1].length) 4 ∧
 (let v8_1h : (Int × ((List Int) × (Int × (Int × ((List Int) × Unit))))) := (v27.1, (v27.2.1, (v27.2.2.1, (x2.2.2.2.1, ((x1.2.2.2.2.1 ++ [x2.2.2.2.1]), v27.2.2.2.2.2)))))
 (let v48 : Bool := (decide (((x1.2.2.2.2.1 ++ [x2.2.2.2.1]).length : Int) > (11 : Int)))
 ((v48 = true →
 (0 ≤ (1 : Int) ∧ (1 : Int) ≤ ((x1.2.2.2.2.1 ++ [x2.2.2.2.1]).length : Int) ∧ ((x1.2.2.2.2.1 ++ [x2.2.2.2.1]).length : Int) ≤ ((x1.2.2.2.2.1 ++ [x2.2.2.2.1]).length : Int)) ∧
 (Int.toNat (1 : Int)) + ((Int.toNat ((x1.2.2.2.2.1 ++ [x2.2.2.2.1]).length : Int)) - (Int.toNat (1 : Int))) ≤ (x1.2.2.2.2.1 ++ [x2.2.2.2.1]).length ∧
 (let v8_2h : (Int × ((List Int) × (Int × (Int × ((List Int) × Unit))))) := (v8_1h.1, (v8_1h.2.1, (v8_1h.2.2.1, (v8_1h.2.2.2.1, ((((x1.2.2.2.2.1 ++ [x2.2.2.2.1]).drop (Int.toNat (1 : Int))).take ((Int.toNat ((x1.2.2.2.2.1 ++ [x2.2.2.2.1]).length : Int)) - (Int.toNat (1 : Int)))), v8_1h.2.2.2.2.2)))))
 (Ret2 v8_2h (0 : Int) (VAdvance.fn x0 x1 x2)))) ∧
 (v48 = false →
 (Ret2 v8_1h (0 : Int) (VAdvance.fn x0 x1 x2))))))) ∧
 (((Int.tmod v27.1 x0.2.2.1) == (0 : Int)) = false →
 Room x1.2.2.2.2.1.length 4 ∧
 Room (x1.2.2.2.2.1.length + [x2.2.2.2.1].length) 4 ∧
 (let v8_3h : (Int × ((List Int) × (Int × (Int × ((List Int) × Unit))))) := (v27.1, (v27.2.1, (v27.2.2.1, (v27.2.2.2.1, ((x1.2.2.2.2.1 ++ [x2.2.2.2.1]), v27.2.2.2.2.2)))))
 (let v48_1 : Bool := (decide (((x1.2.2.2.2.1 ++ [x2.2.2.2.1]).length : Int) > (11 : Int)))
 ((v48_1 = true →
 (0 ≤ (1 : Int) ∧ (1 : Int) ≤ ((x1.2.2.2.2.1 ++ [x2.2.2.2.1]).length : Int) ∧ ((x1.2.2.2.2.1 ++ [x2.2.2.2.1]).length : Int) ≤ ((x1.2.2.2.2.1 ++ [x2.2.2.2.1]).length : Int)) ∧
 (Int.toNat (1 : Int)) + ((Int.toNat ((x1.2.2.2.2.1 ++ [x2.2.2.2.1]).length : Int)) - (Int.toNat (1 : Int))) ≤ (x1.2.2.2.2.1 ++ [x2.2.2.2.1]).length ∧
 (let v8_4h : (Int × ((List Int) × (Int × (Int × ((List Int) × Unit))))) := (v8_3h.1, (v8_3h.2.1, (v8_3h.2.2.1, (v8_3h.2.2.2.1, ((((x1.2.2.2.2.1 ++ [x2.2.2.2.1]).drop (Int.toNat (1 : Int))).take ((Int.toNat ((x1.2.2.2.2.1 ++ [x2.2.2.2.1]).length : Int)) - (Int.toNat (1 : Int)))), v8_3h.2.2.2.2.2)))))
 (Ret2 v8_4h (0 : Int) (VAdvance.fn x0 x1 x2)))) ∧
 (v48_1 = false →
 (Ret2 v8_3h (0 : Int) (VAdvance.fn x0 x1 x2)))))))))))))))
theorem VAdvance.vc : VAdvance.VC := by
  intro p c h hp
  simp only [VFits.fn, VAdvance.fn, ret2, RHdr.fn]
  refine ⟨hp.1.1, fun hr => ?_, fun hr => ⟨fun hm => ?_, fun hm => ?_⟩⟩
  · have e : roomFn p c = 6 := by rw [roomFn, if_pos (by simpa using hr)]
    rw [advFn, e, if_pos (by decide)]; rfl
  · have e : roomFn p c = 4 := by rw [roomFn, if_neg (by simpa using hr), if_pos (by simpa using hm)]
    rw [advFn, e, if_pos (by decide)]; rfl
  have hr : roomFn p c = 0 := by rw [roomFn, if_neg (by simpa using hr), if_neg (by simpa using hm)]
  obtain ⟨f1, f2, f3, f4, f5, f6, f7, f8⟩ := room_facts hr
  simp only [f2]
  have hlen : (c.2.2.2.2.1 ++ [h.2.2.2.1]).length = c.2.2.2.2.1.length + 1 := by simp
  have room1 : Room c.2.2.2.2.1.length 4 := room_of (by omega) (by omega)
  have room2 : Room (c.2.2.2.2.1.length + [h.2.2.2.1].length) 4 := room_of (by rw [List.length_singleton]; omega) (by omega)
  have hdrop : c.2.2.2.2.1.length + 1 > 11 → ((c.2.2.2.2.1 ++ [h.2.2.2.1]).drop (Int.toNat 1)).take (Int.toNat ((c.2.2.2.2.1 ++ [h.2.2.2.1]).length : Int) - Int.toNat 1) = nextT c.2.2.2.2.1 h.2.2.2.1 := by
    intro hgt
    rw [List.take_of_length_le (by rw [List.length_drop]; omega), nextT, if_pos (by omega)]
    show (c.2.2.2.2.1 ++ [h.2.2.2.1]).drop 1 = _
    rw [List.drop_append_of_le_length (by omega)]
  refine ⟨hp.2.2, f1, fun hw => ⟨room1, room2, fun hb => ⟨⟨by omega, by omega, by omega⟩, by rw [Int.toNat_natCast, hlen]; show 1 + _ ≤ _; omega, ?_⟩, fun hb => ?_⟩, fun hw => ⟨room1, room2, fun hb => ⟨⟨by omega, by omega, by omega⟩, by rw [Int.toNat_natCast, hlen]; show 1 + _ ≤ _; omega, ?_⟩, fun hb => ?_⟩⟩
  · rw [hdrop (by have := of_decide_eq_true hb; omega), advFn, if_neg (by omega), if_pos (by simpa using hw)]
  · have hb := of_decide_eq_false hb
    rw [advFn, if_neg (by omega), if_pos (by simpa using hw), nextT, if_neg (by omega)]
  · rw [hdrop (by have := of_decide_eq_true hb; omega), advFn, if_neg (by omega), if_neg (by simpa using hw)]
  · have hb := of_decide_eq_false hb
    rw [advFn, if_neg (by omega), if_neg (by simpa using hw), nextT, if_neg (by omega)]

/-! ## Checks -/
def ckBad (l : List Cp) (H : Int) (x : List Int) : Bool := l.any (fun k => (k.1 == H) && !(b32 k.2.1 x))
noncomputable def checkFn (p : Par) (c : Cx) (h : Hdr) (now : Int) : Int :=
  if roomFn p c ≠ 0 then roomFn p c else if b32 h.2.1 c.2.1 = false then 144 else if h.1 < p.2.2.2.2.2.1 then 142
  else if (nextFn p c).2 ≠ 0 then (nextFn p c).2 else if h.2.2.2.2.1 ≠ (nextFn p c).1 then 130 else if meetsFn (hashH h) h.2.2.2.2.1 = false then 121
  else if h.2.2.2.1 ≤ medianFn c.2.2.2.2.1 then 140 else if now + p.2.2.2.2.1 < h.2.2.2.1 then 141 else if ckBad p.2.2.2.2.2.2.1 (c.1 + 1) (hashH h) = true then 143 else 0
def ChkPre (p : Par) (c : Cx) (h : Hdr) (now : Int) : Prop := AdvPre p c h ∧ U32 now
def UCheck.pre (p : Par) (c : Cx) (h : Hdr) (now : Int) : Prop := ChkPre p c h now
noncomputable def UCheck.fn (p : Par) (c : Cx) (h : Hdr) (now : Int) : Int := checkFn p c h now
def ckI (p : Par) (H : Int) (x : List Int) (i : Int) : Prop := 0 ≤ i ∧ i ≤ p.2.2.2.2.2.2.1.length ∧ ckBad p.2.2.2.2.2.2.1 H x = ckBad (p.2.2.2.2.2.2.1.drop i.toNat) H x
def UCheck.inv21 (p : Par) (c : Cx) (h : Hdr) (now : Int) (x : List Int) (i : Int) : Prop := x = hashH h ∧ ckI p (c.1 + 1) (hashH h) i
def UCheck.mes21 (p : Par) (c : Cx) (h : Hdr) (now : Int) (x : List Int) (i : Int) : Nat := (p.2.2.2.2.2.2.1.length - i).toNat
def UCheck.VC : Prop := ∀ (x0 : ((Int × ((List Int) × ((List Int) × (Int × (Int × (Int × Unit)))))) × ((List Int) × (Int × (Int × (Int × (Int × ((List (Int × ((List Int) × Unit))) × (Int × (Int × (Int × Unit))))))))))) (x1 : (Int × ((List Int) × (Int × (Int × ((List Int) × Unit)))))) (x2 : (Int × ((List Int) × ((List Int) × (Int × (Int × (Int × Unit))))))) (x3 : Int), UCheck.pre x0 x1 x2 x3 →
 URoom.pre x0 x1 ∧
 ((((URoom.fn x0 x1) != (0 : Int)) = true →
 (Ret1 (URoom.fn x0 x1) (UCheck.fn x0 x1 x2 x3))) ∧
 (((URoom.fn x0 x1) != (0 : Int)) = false →
 (((!(Ty.beq (.arr 32 (.int .u8)) x2.2.1 x1.2.1)) = true →
 (Ret1 (144 : Int) (UCheck.fn x0 x1 x2 x3))) ∧
 ((!(Ty.beq (.arr 32 (.int .u8)) x2.2.1 x1.2.1)) = false →
 (((decide (x2.1 < x0.2.2.2.2.2.1)) = true →
 (Ret1 (142 : Int) (UCheck.fn x0 x1 x2 x3))) ∧
 ((decide (x2.1 < x0.2.2.2.2.2.1)) = false →
 RNext.pre x0 x1 ∧
 ((((RNext.fn x0 x1).2 != (0 : Int)) = true →
 (Ret1 ((RNext.fn x0 x1).2) (UCheck.fn x0 x1 x2 x3))) ∧
 (((RNext.fn x0 x1).2 != (0 : Int)) = false →
 (((x2.2.2.2.2.1 != (RNext.fn x0 x1).1) = true →
 (Ret1 (130 : Int) (UCheck.fn x0 x1 x2 x3))) ∧
 ((x2.2.2.2.2.1 != (RNext.fn x0 x1).1) = false →
 BHash.pre x2 ∧
 TMeets.pre (BHash.fn x2) x2.2.2.2.2.1 ∧
 (((!(TMeets.fn (BHash.fn x2) x2.2.2.2.2.1)) = true →
 (Ret1 (121 : Int) (UCheck.fn x0 x1 x2 x3))) ∧
 ((!(TMeets.fn (BHash.fn x2) x2.2.2.2.2.1)) = false →
 RMedian.pre x1.2.2.2.2.1 ∧
 (((decide (x2.2.2.2.1 ≤ (RMedian.fn x1.2.2.2.2.1))) = true →
 (Ret1 (140 : Int) (UCheck.fn x0 x1 x2 x3))) ∧
 ((decide (x2.2.2.2.1 ≤ (RMedian.fn x1.2.2.2.2.1))) = false →
 (let v65 : Int := (IntKind.u64.wrap ((IntKind.u64.wrap x3) + (IntKind.u64.wrap x0.2.2.2.2.1)))
 (((decide ((IntKind.u64.wrap x2.2.2.2.1) > v65)) = true →
 (Ret1 (141 : Int) (UCheck.fn x0 x1 x2 x3))) ∧
 ((decide ((IntKind.u64.wrap x2.2.2.2.1) > v65)) = false →
 (UCheck.inv21 x0 x1 x2 x3 (BHash.fn x2) (0 : Int) ∧
 ∀ (v12 : (List Int)) (v70 : Int), UCheck.inv21 x0 x1 x2 x3 v12 v70 →
 (((decide (v70 < (x0.2.2.2.2.2.2.1.length : Int))) = true →
 (0 ≤ v70 ∧ v70 < (x0.2.2.2.2.2.2.1.length : Int)) ∧
 (let v73 : (Int × ((List Int) × Unit)) := (x0.2.2.2.2.2.2.1.getD (Int.toNat v70) ((0 : Int), ((List.replicate 32 (0 : Int)), ())))
 ((v73.1 == (IntKind.i64.wrap (x1.1 + (1 : Int)))) = true → (v73.1 == (IntKind.i64.wrap (x1.1 + (1 : Int)))) = true) ∧
 ((v73.1 == (IntKind.i64.wrap (x1.1 + (1 : Int)))) = true → (v73.1 == (IntKind.i64.wrap (x1.1 + (1 : Int)))) = true) ∧
 ((v73.1 == (IntKind.i64.wrap (x1.1 + (1 : Int)))) = true → (v73.1 == (IntKind.i64.wrap (x1.1 + (1 : Int)))) = true) ∧
 ((v73.1 == (IntKind.i64.wrap (x1.1 + (1 : Int)))) = true → (v73.1 == (IntKind.i64.wrap (x1.1 + (1 : Int)))) = true) ∧
 (let v85 : Bool := (bif (v73.1 == (IntKind.i64.wrap (x1.1 + (1 : Int)))) then (!(Ty.beq (.arr 32 (.int .u8)) v73.2.1 v12)) else false)
 ((v85 = true →
 (Ret1 (143 : Int) (UCheck.fn x0 x1 x2 x3))) ∧
 (v85 = false →
 (UCheck.inv21 x0 x1 x2 x3 v12 (IntKind.i64.wrap (v70 + (1 : Int))) ∧ UCheck.mes21 x0 x1 x2 x3 v12 (IntKind.i64.wrap (v70 + (1 : Int))) < UCheck.mes21 x0 x1 x2 x3 v12 v70)))))) ∧
 ((decide (v70 < (x0.2.2.2.2.2.2.1.length : Int))) = false →
 (Ret1 (0 : Int) (UCheck.fn x0 x1 x2 x3))))))))))))))))))))))
theorem ck_step {p : Par} {H : Int} {x : List Int} {i : Int} (hi : ckI p H x i) (hc : i < p.2.2.2.2.2.2.1.length) (h8 : p.2.2.2.2.2.2.1.length ≤ 8) {b : Bool}
    (hb : b = (bif (p.2.2.2.2.2.2.1.getD i.toNat ((0 : Int), ((List.replicate 32 (0 : Int)), ()))).1 == H then !(b32 (p.2.2.2.2.2.2.1.getD i.toNat ((0 : Int), ((List.replicate 32 (0 : Int)), ()))).2.1 x) else false)) :
    (b = true → ckBad p.2.2.2.2.2.2.1 H x = true) ∧ (b = false → ckI p H x (IntKind.i64.wrap (i + 1))) := by
  obtain ⟨k1, k2, k3⟩ := hi
  rw [drop_cons k1 hc] at k3
  rw [i64w (by omega) (by omega)]
  have e : ckBad (p.2.2.2.2.2.2.1.getD i.toNat ((0 : Int), ((List.replicate 32 (0 : Int)), ())) :: p.2.2.2.2.2.2.1.drop (i + 1).toNat) H x = (b || ckBad (p.2.2.2.2.2.2.1.drop (i + 1).toNat) H x) := by
    rw [hb, Bool.cond_false_right]; rfl
  rw [e] at k3
  refine ⟨fun h => by rw [k3, h]; rfl, fun h => ⟨by omega, by omega, by rw [k3, h]; rfl⟩⟩
theorem ck_end {p : Par} {H : Int} {x : List Int} {i : Int} (hi : ckI p H x i) (hc : ¬ i < p.2.2.2.2.2.2.1.length) : ckBad p.2.2.2.2.2.2.1 H x = false := by
  obtain ⟨k1, k2, k3⟩ := hi
  rw [k3, List.drop_eq_nil_of_le (by omega)]; rfl
theorem check_pre {p : Par} {c : Cx} {h : Hdr} {now : Int} (hp : ChkPre p c h now) : (ParOk p ∧ CxOk c) ∧ c.2.2.2.2.1.length ≤ 1000 := ⟨⟨hp.1.1.1, hp.1.2.1.1⟩, hp.1.2.1.2.2⟩
theorem late_word {p : Par} {h : Hdr} {now : Int} (h1 : U32 now) (h2 : U32 p.2.2.2.2.1) (h3 : U32 h.2.2.2.1) :
    decide (IntKind.u64.wrap h.2.2.2.1 > IntKind.u64.wrap (IntKind.u64.wrap now + IntKind.u64.wrap p.2.2.2.2.1)) = decide (now + p.2.2.2.2.1 < h.2.2.2.1) := by
  unfold U32 at *
  rw [u64w (n := now) (by omega) (by omega), u64w (n := p.2.2.2.2.1) (by omega) (by omega), u64w (n := now + p.2.2.2.2.1) (by omega) (by omega), u64w (n := h.2.2.2.1) (by omega) (by omega)]
theorem UCheck.vc : UCheck.VC := by
  intro p c h now hp
  obtain ⟨q1, q2⟩ := check_pre hp
  have h8 : p.2.2.2.2.2.2.1.length ≤ 8 := q1.1.2.2
  simp only [imp_self, true_and, URoom.fn, UCheck.fn, ret1, RNext.fn, BHash.fn, TMeets.fn, RMedian.fn]
  refine ⟨q1.1, fun a1 => ?_, fun a1 => ?_⟩
  · rw [checkFn, if_pos (by simpa using a1)]
  have a1 : roomFn p c = 0 := by simpa using a1
  obtain ⟨f1, f2, f3, f4, f5, f6, f7, f8⟩ := room_facts a1
  refine ⟨fun a2 => ?_, fun a2 => ⟨fun a3 => ?_, fun a3 => ⟨q1, fun a4 => ?_, fun a4 => ⟨fun a5 => ?_, fun a5 => ⟨hp.1.2.2, ⟨hashH_ok h, hp.1.2.2.2.2.2.2.1⟩, fun a6 => ?_, fun a6 => ⟨q2, fun a7 => ?_, fun a7 => ⟨fun a8 => ?_, fun a8 => ?_⟩⟩⟩⟩⟩⟩⟩
  · have a2 : b32 h.2.1 c.2.1 = false := by simpa using a2
    rw [checkFn, if_neg (by omega), if_pos a2]
  · have a2 : ¬ b32 h.2.1 c.2.1 = false := by simpa using a2
    rw [checkFn, if_neg (by omega), if_neg a2, if_pos (of_decide_eq_true a3)]
  · have a2 : ¬ b32 h.2.1 c.2.1 = false := by simpa using a2
    rw [checkFn, if_neg (by omega), if_neg a2, if_neg (of_decide_eq_false a3), if_pos (by simpa using a4)]
  · have a2 : ¬ b32 h.2.1 c.2.1 = false := by simpa using a2
    rw [checkFn, if_neg (by omega), if_neg a2, if_neg (of_decide_eq_false a3), if_neg (by simpa using a4), if_pos (by simpa using a5)]
  · have a2 : ¬ b32 h.2.1 c.2.1 = false := by simpa using a2
    rw [checkFn, if_neg (by omega), if_neg a2, if_neg (of_decide_eq_false a3), if_neg (by simpa using a4), if_neg (by simpa using a5), if_pos (by simpa using a6)]
  · have a2 : ¬ b32 h.2.1 c.2.1 = false := by simpa using a2
    rw [checkFn, if_neg (by omega), if_neg a2, if_neg (of_decide_eq_false a3), if_neg (by simpa using a4), if_neg (by simpa using a5), if_neg (by simpa using a6), if_pos (of_decide_eq_true a7)]
  · have a2 : ¬ b32 h.2.1 c.2.1 = false := by simpa using a2
    rw [late_word hp.2 hp.1.1.2.2.1 hp.1.2.2.2.2.2.1] at a8
    rw [checkFn, if_neg (by omega), if_neg a2, if_neg (of_decide_eq_false a3), if_neg (by simpa using a4), if_neg (by simpa using a5), if_neg (by simpa using a6), if_neg (of_decide_eq_false a7), if_pos (of_decide_eq_true a8)]
  · have a2 : ¬ b32 h.2.1 c.2.1 = false := by simpa using a2
    rw [late_word hp.2 hp.1.1.2.2.1 hp.1.2.2.2.2.2.1] at a8
    have hfin : checkFn p c h now = if ckBad p.2.2.2.2.2.2.1 (c.1 + 1) (hashH h) = true then 143 else 0 := by
      rw [checkFn, if_neg (by omega), if_neg a2, if_neg (of_decide_eq_false a3), if_neg (by simpa using a4), if_neg (by simpa using a5), if_neg (by simpa using a6), if_neg (of_decide_eq_false a7), if_neg (of_decide_eq_false a8)]
    refine ⟨⟨rfl, by omega, by omega, by simp⟩, ?_⟩
    rintro x i ⟨rfl, hi⟩
    have hi0 := hi
    obtain ⟨k1, k2, k3⟩ := hi0
    simp only [f2]
    refine ⟨fun hc => ?_, fun hc => ?_⟩
    · have hc : i < p.2.2.2.2.2.2.1.length := of_decide_eq_true hc
      obtain ⟨s1, s2⟩ := ck_step hi hc h8 rfl
      refine ⟨⟨k1, hc⟩, fun hb => ?_, fun hb => ⟨⟨rfl, s2 hb⟩, by simp only [UCheck.mes21]; rw [i64w (by omega) (by omega)]; omega⟩⟩
      rw [hfin, if_pos (s1 hb)]
    · have hc : ¬ i < p.2.2.2.2.2.2.1.length := of_decide_eq_false hc
      rw [hfin, ck_end hi hc]; rfl
def VCheck.pre (p : Par) (c : Cx) (h : Hdr) (now : Int) : Prop := ChkPre p c h now
noncomputable def VCheck.fn (p : Par) (c : Cx) (h : Hdr) (now : Int) : Int := checkFn p c h now
def VCheck.inv20 (p : Par) (c : Cx) (h : Hdr) (now : Int) (x : Cx) (i : Int) : Prop := x.1 = c.1 + 1 ∧ x.2.1 = hashH h ∧ ckI p (c.1 + 1) (hashH h) i
def VCheck.mes20 (p : Par) (c : Cx) (h : Hdr) (now : Int) (x : Cx) (i : Int) : Nat := (p.2.2.2.2.2.2.1.length - i).toNat
def VCheck.VC : Prop := ∀ (x0 : ((Int × ((List Int) × ((List Int) × (Int × (Int × (Int × Unit)))))) × ((List Int) × (Int × (Int × (Int × (Int × ((List (Int × ((List Int) × Unit))) × (Int × (Int × (Int × Unit))))))))))) (x1 : (Int × ((List Int) × (Int × (Int × ((List Int) × Unit)))))) (x2 : (Int × ((List Int) × ((List Int) × (Int × (Int × (Int × Unit))))))) (x3 : Int), VCheck.pre x0 x1 x2 x3 →
 VAdvance.pre x0 x1 x2 ∧
 (let v9h : (Int × ((List Int) × (Int × (Int × ((List Int) × Unit))))) := ((0 : Int), ((List.replicate 32 (0 : Int)), ((0 : Int), ((0 : Int), ([], ())))))
 ((((VAdvance.fn x0 x1 x2).2 != (0 : Int)) = true →
 (Ret1 ((VAdvance.fn x0 x1 x2).2) (VCheck.fn x0 x1 x2 x3))) ∧
 (((VAdvance.fn x0 x1 x2).2 != (0 : Int)) = false →
 (((!(Ty.beq (.arr 32 (.int .u8)) x2.2.1 x1.2.1)) = true →
 (Ret1 (144 : Int) (VCheck.fn x0 x1 x2 x3))) ∧
 ((!(Ty.beq (.arr 32 (.int .u8)) x2.2.1 x1.2.1)) = false →
 (((decide (x2.1 < x0.2.2.2.2.2.1)) = true →
 (Ret1 (142 : Int) (VCheck.fn x0 x1 x2 x3))) ∧
 ((decide (x2.1 < x0.2.2.2.2.2.1)) = false →
 QNext.pre x0 x1 ∧
 ((((QNext.fn x0 x1).2 != (0 : Int)) = true →
 (Ret1 ((QNext.fn x0 x1).2) (VCheck.fn x0 x1 x2 x3))) ∧
 (((QNext.fn x0 x1).2 != (0 : Int)) = false →
 (((x2.2.2.2.2.1 != (QNext.fn x0 x1).1) = true →
 (Ret1 (130 : Int) (VCheck.fn x0 x1 x2 x3))) ∧
 ((x2.2.2.2.2.1 != (QNext.fn x0 x1).1) = false →
 QMeets.pre ((VAdvance.fn x0 x1 x2).1.2.1) x2.2.2.2.2.1 ∧
 (((!(QMeets.fn ((VAdvance.fn x0 x1 x2).1.2.1) x2.2.2.2.2.1)) = true →
 (Ret1 (121 : Int) (VCheck.fn x0 x1 x2 x3))) ∧
 ((!(QMeets.fn ((VAdvance.fn x0 x1 x2).1.2.1) x2.2.2.2.2.1)) = false →
 QMedian.pre x1.2.2.2.2.1 ∧
 (((decide (x2.2.2.2.1 ≤ (QMedian.fn x1.2.2.2.2.1))) = true →
 (Ret1 (140 : Int) (VCheck.fn x0 x1 x2 x3))) ∧
 ((decide (x2.2.2.2.1 ≤ (QMedian.fn x1.2.2.2.2.1))) = false →
 (let v71 : Int := (IntKind.u64.wrap ((IntKind.u64.wrap x3) + (IntKind.u64.wrap x0.2.2.2.2.1)))
 (((decide ((IntKind.u64.wrap x2.2.2.2.1) > v71)) = true →
 (Ret1 (141 : Int) (VCheck.fn x0 x1 x2 x3))) ∧
 ((decide ((IntKind.u64.wrap x2.2.2.2.1) > v71)) = false →
 (VCheck.inv20 x0 x1 x2 x3 ((VAdvance.fn x0 x1 x2).1) (0 : Int) ∧
 ∀ (v9_1 : (Int × ((List Int) × (Int × (Int × ((List Int) × Unit)))))) (v76 : Int), VCheck.inv20 x0 x1 x2 x3 v9_1 v76 →
 (((decide (v76 < (x0.2.2.2.2.2.2.1.length : Int))) = true →
 (0 ≤ v76 ∧ v76 < (x0.2.2.2.2.2.2.1.length : Int)) ∧
 (let v79 : (Int × ((List Int) × Unit)) := (x0.2.2.2.2.2.2.1.getD (Int.toNat v76) ((0 : Int), ((List.replicate 32 (0 : Int)), ())))
 ((v79.1 == v9_1.1) = true → (v79.1 == v9_1.1) = true) ∧
 ((v79.1 == v9_1.1) = true → (v79.1 == v9_1.1) = true) ∧
 ((v79.1 == v9_1.1) = true → (v79.1 == v9_1.1) = true) ∧
 ((v79.1 == v9_1.1) = true → (v79.1 == v9_1.1) = true) ∧
 ((v79.1 == v9_1.1) = true → (v79.1 == v9_1.1) = true) ∧
 (let v91 : Bool := (bif (v79.1 == v9_1.1) then (!(Ty.beq (.arr 32 (.int .u8)) v79.2.1 v9_1.2.1)) else false)
 ((v91 = true →
 (Ret1 (143 : Int) (VCheck.fn x0 x1 x2 x3))) ∧
 (v91 = false →
 (VCheck.inv20 x0 x1 x2 x3 v9_1 (IntKind.i64.wrap (v76 + (1 : Int))) ∧ VCheck.mes20 x0 x1 x2 x3 v9_1 (IntKind.i64.wrap (v76 + (1 : Int))) < VCheck.mes20 x0 x1 x2 x3 v9_1 v76)))))) ∧
 ((decide (v76 < (x0.2.2.2.2.2.2.1.length : Int))) = false →
 (Ret1 (0 : Int) (VCheck.fn x0 x1 x2 x3)))))))))))))))))))))))
theorem adv_err (p : Par) (c : Cx) (h : Hdr) : (advFn p c h).2 = roomFn p c := by
  unfold advFn; split
  · rfl
  · rename_i hr; simp only; omega
theorem adv_ok {p : Par} {c : Cx} {h : Hdr} (hr : roomFn p c = 0) : (advFn p c h).1 = (c.1 + 1, hashH h, h.2.2.2.2.1, if Int.tmod (c.1 + 1) p.2.2.1 = 0 then h.2.2.2.1 else c.2.2.2.1, nextT c.2.2.2.2.1 h.2.2.2.1, ()) := by
  rw [advFn, if_neg (by omega)]
theorem VCheck.vc : VCheck.VC := by
  intro p c h now hp
  obtain ⟨q1, q2⟩ := check_pre hp
  have h8 : p.2.2.2.2.2.2.1.length ≤ 8 := q1.1.2.2
  simp only [imp_self, true_and, VAdvance.fn, VCheck.fn, ret1, QNext.fn, QMeets.fn, QMedian.fn, adv_err]
  refine ⟨hp.1, fun a1 => ?_, fun a1 => ?_⟩
  · rw [checkFn, if_pos (by simpa using a1)]
  have a1 : roomFn p c = 0 := by simpa using a1
  obtain ⟨f1, f2, f3, f4, f5, f6, f7, f8⟩ := room_facts a1
  have ho := adv_ok (h := h) a1
  have hx : (advFn p c h).1.2.1 = hashH h := by rw [ho]
  have hy : (advFn p c h).1.1 = c.1 + 1 := by rw [ho]
  simp only [hx]
  refine ⟨fun a2 => ?_, fun a2 => ⟨fun a3 => ?_, fun a3 => ⟨q1, fun a4 => ?_, fun a4 => ⟨fun a5 => ?_, fun a5 => ⟨⟨hashH_ok h, hp.1.2.2.2.2.2.2.1⟩, fun a6 => ?_, fun a6 => ⟨q2, fun a7 => ?_, fun a7 => ⟨fun a8 => ?_, fun a8 => ?_⟩⟩⟩⟩⟩⟩⟩
  · have a2 : b32 h.2.1 c.2.1 = false := by simpa using a2
    rw [checkFn, if_neg (by omega), if_pos a2]
  · have a2 : ¬ b32 h.2.1 c.2.1 = false := by simpa using a2
    rw [checkFn, if_neg (by omega), if_neg a2, if_pos (of_decide_eq_true a3)]
  · have a2 : ¬ b32 h.2.1 c.2.1 = false := by simpa using a2
    rw [checkFn, if_neg (by omega), if_neg a2, if_neg (of_decide_eq_false a3), if_pos (by simpa using a4)]
  · have a2 : ¬ b32 h.2.1 c.2.1 = false := by simpa using a2
    rw [checkFn, if_neg (by omega), if_neg a2, if_neg (of_decide_eq_false a3), if_neg (by simpa using a4), if_pos (by simpa using a5)]
  · have a2 : ¬ b32 h.2.1 c.2.1 = false := by simpa using a2
    rw [checkFn, if_neg (by omega), if_neg a2, if_neg (of_decide_eq_false a3), if_neg (by simpa using a4), if_neg (by simpa using a5), if_pos (by simpa using a6)]
  · have a2 : ¬ b32 h.2.1 c.2.1 = false := by simpa using a2
    rw [checkFn, if_neg (by omega), if_neg a2, if_neg (of_decide_eq_false a3), if_neg (by simpa using a4), if_neg (by simpa using a5), if_neg (by simpa using a6), if_pos (of_decide_eq_true a7)]
  · have a2 : ¬ b32 h.2.1 c.2.1 = false := by simpa using a2
    rw [late_word hp.2 hp.1.1.2.2.1 hp.1.2.2.2.2.2.1] at a8
    rw [checkFn, if_neg (by omega), if_neg a2, if_neg (of_decide_eq_false a3), if_neg (by simpa using a4), if_neg (by simpa using a5), if_neg (by simpa using a6), if_neg (of_decide_eq_false a7), if_pos (of_decide_eq_true a8)]
  · have a2 : ¬ b32 h.2.1 c.2.1 = false := by simpa using a2
    rw [late_word hp.2 hp.1.1.2.2.1 hp.1.2.2.2.2.2.1] at a8
    have hfin : checkFn p c h now = if ckBad p.2.2.2.2.2.2.1 (c.1 + 1) (hashH h) = true then 143 else 0 := by
      rw [checkFn, if_neg (by omega), if_neg a2, if_neg (of_decide_eq_false a3), if_neg (by simpa using a4), if_neg (by simpa using a5), if_neg (by simpa using a6), if_neg (of_decide_eq_false a7), if_neg (of_decide_eq_false a8)]
    refine ⟨⟨hy, hx, by omega, by omega, by simp⟩, ?_⟩
    rintro x i ⟨hx1, hx2, hi⟩
    have hi0 := hi
    obtain ⟨k1, k2, k3⟩ := hi0
    simp only [hx1, hx2]
    refine ⟨fun hc => ?_, fun hc => ?_⟩
    · have hc : i < p.2.2.2.2.2.2.1.length := of_decide_eq_true hc
      obtain ⟨s1, s2⟩ := ck_step hi hc h8 rfl
      refine ⟨⟨k1, hc⟩, fun hb => ?_, fun hb => ⟨⟨hx1, hx2, s2 hb⟩, by simp only [VCheck.mes20]; rw [i64w (by omega) (by omega)]; omega⟩⟩
      rw [hfin, if_pos (s1 hb)]
    · have hc : ¬ i < p.2.2.2.2.2.2.1.length := of_decide_eq_false hc
      rw [hfin, ck_end hi hc]; rfl
theorem check_room {p : Par} {c : Cx} {h : Hdr} {now : Int} (hc : checkFn p c h now = 0) : roomFn p c = 0 := by
  unfold checkFn at hc
  split at hc
  · rename_i hr; exact hc
  · rename_i hr; omega

/-! ## Runs -/
abbrev hz : Hdr := ((0 : Int), ((List.replicate 32 (0 : Int)), ((List.replicate 32 (0 : Int)), ((0 : Int), ((0 : Int), ((0 : Int), ()))))))
noncomputable def runGo (p : Par) (now : Int) : Cx → List Hdr → Int → Cx × Int × Int
  | c, [], i => (c, i, 0)
  | c, h :: r, i => if checkFn p c h now ≠ 0 then (c, i, checkFn p c h now) else runGo p now (advFn p c h).1 r (i + 1)
noncomputable def runFn (p : Par) (c : Cx) (l : List Hdr) (now : Int) : Cx × Int × Int := if fitsFn p c = false then (zc, 0, 6) else runGo p now c l 0
def RunPre (p : Par) (c : Cx) (l : List Hdr) (now : Int) : Prop := PGood p ∧ CGood c ∧ (∀ h, h ∈ l → HdrOk h) ∧ l.length ≤ 1000 ∧ U32 now
def URun.pre (p : Par) (c : Cx) (l : List Hdr) (now : Int) : Prop := RunPre p c l now
noncomputable def URun.fn (p : Par) (c : Cx) (l : List Hdr) (now : Int) : Cx × Int × Int := runFn p c l now
def runI (p : Par) (c : Cx) (l : List Hdr) (now : Int) (c' : Cx) (i : Int) : Prop := 0 ≤ i ∧ i ≤ l.length ∧ CGood c' ∧ runFn p c l now = runGo p now c' (l.drop i.toNat) i
def URun.inv5 (p : Par) (c : Cx) (l : List Hdr) (now : Int) (c' : Cx) (z : Cx) (i : Int) : Prop := runI p c l now c' i
def URun.mes5 (p : Par) (c : Cx) (l : List Hdr) (now : Int) (c' : Cx) (z : Cx) (i : Int) : Nat := (l.length - i).toNat
def URun.VC : Prop := ∀ (x0 : ((Int × ((List Int) × ((List Int) × (Int × (Int × (Int × Unit)))))) × ((List Int) × (Int × (Int × (Int × (Int × ((List (Int × ((List Int) × Unit))) × (Int × (Int × (Int × Unit))))))))))) (x1 : (Int × ((List Int) × (Int × (Int × ((List Int) × Unit)))))) (x2 : (List (Int × ((List Int) × ((List Int) × (Int × (Int × (Int × Unit)))))))) (x3 : Int), URun.pre x0 x1 x2 x3 →
 (let v8h : (Int × ((List Int) × (Int × (Int × ((List Int) × Unit))))) := ((0 : Int), ((List.replicate 32 (0 : Int)), ((0 : Int), ((0 : Int), ([], ())))))
 UFits.pre x0 x1 ∧
 (((!(UFits.fn x0 x1)) = true →
 (let v20 : (Int × ((List Int) × (Int × (Int × ((List Int) × Unit))))) := ((0 : Int), ((List.replicate 32 (0 : Int)), ((0 : Int), ((0 : Int), ([], ())))))
 (Ret3 v20 (0 : Int) (6 : Int) (URun.fn x0 x1 x2 x3)))) ∧
 ((!(UFits.fn x0 x1)) = false →
 Clone.pre x1.2.2.2.2.1 ∧
 (let v5h : (Int × ((List Int) × (Int × (Int × ((List Int) × Unit))))) := (x1.1, (x1.2.1, (x1.2.2.1, (x1.2.2.2.1, ((Clone.fn x1.2.2.2.2.1), x1.2.2.2.2.2)))))
 (URun.inv5 x0 x1 x2 x3 v5h v8h (0 : Int) ∧
 ∀ (v5_1 : (Int × ((List Int) × (Int × (Int × ((List Int) × Unit)))))) (v8_1 : (Int × ((List Int) × (Int × (Int × ((List Int) × Unit)))))) (v27 : Int), URun.inv5 x0 x1 x2 x3 v5_1 v8_1 v27 →
 (((decide (v27 < (x2.length : Int))) = true →
 (0 ≤ v27 ∧ v27 < (x2.length : Int)) ∧
 (let v31 : (Int × ((List Int) × ((List Int) × (Int × (Int × (Int × Unit)))))) := (x2.getD (Int.toNat v27) ((0 : Int), ((List.replicate 32 (0 : Int)), ((List.replicate 32 (0 : Int)), ((0 : Int), ((0 : Int), ((0 : Int), ())))))))
 (let v12h : (Int × ((List Int) × ((List Int) × (Int × (Int × (Int × Unit)))))) := ((0 : Int), ((List.replicate 32 (0 : Int)), ((List.replicate 32 (0 : Int)), ((0 : Int), ((0 : Int), ((0 : Int), ()))))))
 UCheck.pre x0 v5_1 v31 x3 ∧
 ((((UCheck.fn x0 v5_1 v31 x3) != (0 : Int)) = true →
 (Ret3 v5_1 v27 (UCheck.fn x0 v5_1 v31 x3) (URun.fn x0 x1 x2 x3))) ∧
 (((UCheck.fn x0 v5_1 v31 x3) != (0 : Int)) = false →
 UAdvance.pre x0 v5_1 v31 ∧
 (let v14h : (Int × ((List Int) × (Int × (Int × ((List Int) × Unit))))) := ((0 : Int), ((List.replicate 32 (0 : Int)), ((0 : Int), ((0 : Int), ([], ())))))
 ((((UAdvance.fn x0 v5_1 v31).2 != (0 : Int)) = true →
 (Ret3 v5_1 v27 ((UAdvance.fn x0 v5_1 v31).2) (URun.fn x0 x1 x2 x3))) ∧
 (((UAdvance.fn x0 v5_1 v31).2 != (0 : Int)) = false →
 (URun.inv5 x0 x1 x2 x3 ((UAdvance.fn x0 v5_1 v31).1) v8_1 (IntKind.i64.wrap (v27 + (1 : Int))) ∧ URun.mes5 x0 x1 x2 x3 ((UAdvance.fn x0 v5_1 v31).1) v8_1 (IntKind.i64.wrap (v27 + (1 : Int))) < URun.mes5 x0 x1 x2 x3 v5_1 v8_1 v27))))))))) ∧
 ((decide (v27 < (x2.length : Int))) = false →
 (Ret3 v5_1 (x2.length : Int) (0 : Int) (URun.fn x0 x1 x2 x3)))))))))
theorem drop_hdr {l : List Hdr} {i : Int} (h0 : 0 ≤ i) (h1 : i < l.length) : l.drop i.toNat = l.getD i.toNat ((0 : Int), ((List.replicate 32 (0 : Int)), ((List.replicate 32 (0 : Int)), ((0 : Int), ((0 : Int), ((0 : Int), ())))))) :: l.drop (i + 1).toNat := by
  rw [show (i + 1).toNat = i.toNat + 1 by omega, List.drop_eq_getElem_cons (show i.toNat < l.length by omega)]
  simp [List.getD_eq_getElem?_getD, show i.toNat < l.length by omega]
theorem get_hdr {l : List Hdr} (hl : ∀ h, h ∈ l → HdrOk h) {i : Int} (h0 : 0 ≤ i) (h1 : i < l.length) : HdrOk (l.getD i.toNat ((0 : Int), ((List.replicate 32 (0 : Int)), ((List.replicate 32 (0 : Int)), ((0 : Int), ((0 : Int), ((0 : Int), ()))))))) := by
  rw [List.getD_eq_getElem?_getD, List.getElem?_eq_getElem (by omega), Option.getD_some]
  exact hl _ (List.getElem_mem _)
theorem URun.vc : URun.VC := by
  intro p c l now ⟨h1, h2, h3, h4, h5⟩
  simp only [UFits.fn, URun.fn, ret3, Clone.fn, UCheck.fn, UAdvance.fn, adv_err]
  refine ⟨h1.1, fun hf => ?_, fun hf => ⟨h2.2.2, ⟨by omega, by omega, h2, ?_⟩, ?_⟩⟩
  · rw [runFn, if_pos (by simpa using hf)]; rfl
  · rw [runFn, if_neg (by simpa using hf)]; rfl
  rintro c' z i ⟨k1, k2, k3, k4⟩
  refine ⟨fun hc => ?_, fun hc => ?_⟩
  · have hc : i < l.length := of_decide_eq_true hc
    rw [drop_hdr k1 hc] at k4
    have hh := get_hdr h3 k1 hc
    generalize l.getD i.toNat _ = h at *
    have ha : AdvPre p c' h := ⟨h1, k3, hh⟩
    refine ⟨⟨k1, hc⟩, ⟨ha, h5⟩, fun he => ?_, fun he => ⟨ha, fun hr => ?_, fun hr => ?_⟩⟩
    · rw [k4, runGo, if_pos (by simpa using he)]
    · have he : checkFn p c' h now = 0 := by simpa using he
      rw [check_room he] at hr; simp at hr
    · have he : checkFn p c' h now = 0 := by simpa using he
      rw [i64w (by omega) (by omega)]
      refine ⟨⟨by omega, by omega, adv_good ha, ?_⟩, by simp only [URun.mes5]; omega⟩
      rw [k4, runGo, if_neg (by omega)]
  · have hc : ¬ i < l.length := of_decide_eq_false hc
    rw [k4, List.drop_eq_nil_of_le (by omega), runGo, show i = l.length by omega]
def VRun.pre (p : Par) (c : Cx) (l : List Hdr) (now : Int) : Prop := RunPre p c l now
noncomputable def VRun.fn (p : Par) (c : Cx) (l : List Hdr) (now : Int) : Cx × Int × Int := runFn p c l now
def VRun.inv4 (p : Par) (c : Cx) (l : List Hdr) (now : Int) (c' : Cx) (z : Cx) (i : Int) : Prop := runI p c l now c' i
def VRun.mes4 (p : Par) (c : Cx) (l : List Hdr) (now : Int) (c' : Cx) (z : Cx) (i : Int) : Nat := (l.length - i).toNat
def VRun.VC : Prop := ∀ (x0 : ((Int × ((List Int) × ((List Int) × (Int × (Int × (Int × Unit)))))) × ((List Int) × (Int × (Int × (Int × (Int × ((List (Int × ((List Int) × Unit))) × (Int × (Int × (Int × Unit))))))))))) (x1 : (Int × ((List Int) × (Int × (Int × ((List Int) × Unit)))))) (x2 : (List (Int × ((List Int) × ((List Int) × (Int × (Int × (Int × Unit)))))))) (x3 : Int), VRun.pre x0 x1 x2 x3 →
 (let v8h : (Int × ((List Int) × (Int × (Int × ((List Int) × Unit))))) := ((0 : Int), ((List.replicate 32 (0 : Int)), ((0 : Int), ((0 : Int), ([], ())))))
 VFits.pre x0 x1 ∧
 (((!(VFits.fn x0 x1)) = true →
 (let v18 : (Int × ((List Int) × (Int × (Int × ((List Int) × Unit))))) := ((0 : Int), ((List.replicate 32 (0 : Int)), ((0 : Int), ((0 : Int), ([], ())))))
 (Ret3 v18 (0 : Int) (6 : Int) (VRun.fn x0 x1 x2 x3)))) ∧
 ((!(VFits.fn x0 x1)) = false →
 (VRun.inv4 x0 x1 x2 x3 x1 v8h (0 : Int) ∧
 ∀ (v5 : (Int × ((List Int) × (Int × (Int × ((List Int) × Unit)))))) (v8_1 : (Int × ((List Int) × (Int × (Int × ((List Int) × Unit)))))) (v21 : Int), VRun.inv4 x0 x1 x2 x3 v5 v8_1 v21 →
 (((decide (v21 < (x2.length : Int))) = true →
 (0 ≤ v21 ∧ v21 < (x2.length : Int)) ∧
 (let v25 : (Int × ((List Int) × ((List Int) × (Int × (Int × (Int × Unit)))))) := (x2.getD (Int.toNat v21) ((0 : Int), ((List.replicate 32 (0 : Int)), ((List.replicate 32 (0 : Int)), ((0 : Int), ((0 : Int), ((0 : Int), ())))))))
 (let v12h : (Int × ((List Int) × ((List Int) × (Int × (Int × (Int × Unit)))))) := ((0 : Int), ((List.replicate 32 (0 : Int)), ((List.replicate 32 (0 : Int)), ((0 : Int), ((0 : Int), ((0 : Int), ()))))))
 VCheck.pre x0 v5 v25 x3 ∧
 ((((VCheck.fn x0 v5 v25 x3) != (0 : Int)) = true →
 (Ret3 v5 v21 (VCheck.fn x0 v5 v25 x3) (VRun.fn x0 x1 x2 x3))) ∧
 (((VCheck.fn x0 v5 v25 x3) != (0 : Int)) = false →
 VAdvance.pre x0 v5 v25 ∧
 (VRun.inv4 x0 x1 x2 x3 ((VAdvance.fn x0 v5 v25).1) v8_1 (IntKind.i64.wrap (v21 + (1 : Int))) ∧ VRun.mes4 x0 x1 x2 x3 ((VAdvance.fn x0 v5 v25).1) v8_1 (IntKind.i64.wrap (v21 + (1 : Int))) < VRun.mes4 x0 x1 x2 x3 v5 v8_1 v21)))))) ∧
 ((decide (v21 < (x2.length : Int))) = false →
 (Ret3 v5 (x2.length : Int) (0 : Int) (VRun.fn x0 x1 x2 x3))))))))
theorem VRun.vc : VRun.VC := by
  intro p c l now ⟨h1, h2, h3, h4, h5⟩
  simp only [VFits.fn, VRun.fn, ret3, VCheck.fn, VAdvance.fn]
  refine ⟨h1.1, fun hf => ?_, fun hf => ⟨⟨by omega, by omega, h2, ?_⟩, ?_⟩⟩
  · rw [runFn, if_pos (by simpa using hf)]; rfl
  · rw [runFn, if_neg (by simpa using hf)]; rfl
  rintro c' z i ⟨k1, k2, k3, k4⟩
  refine ⟨fun hc => ?_, fun hc => ?_⟩
  · have hc : i < l.length := of_decide_eq_true hc
    rw [drop_hdr k1 hc] at k4
    have hh := get_hdr h3 k1 hc
    generalize l.getD i.toNat _ = h at *
    have ha : AdvPre p c' h := ⟨h1, k3, hh⟩
    refine ⟨⟨k1, hc⟩, ⟨ha, h5⟩, fun he => ?_, fun he => ⟨ha, ?_⟩⟩
    · rw [k4, runGo, if_pos (by simpa using he)]
    · have he : checkFn p c' h now = 0 := by simpa using he
      rw [i64w (by omega) (by omega)]
      refine ⟨⟨by omega, by omega, adv_good ha, ?_⟩, by simp only [VRun.mes4]; omega⟩
      rw [k4, runGo, if_neg (by omega)]
  · have hc : ¬ i < l.length := of_decide_eq_false hc
    rw [k4, List.drop_eq_nil_of_le (by omega), runGo, show i = l.length by omega]

def sameFn (a b : Cx) : Bool := decide (a.1 = b.1 ∧ a.2.1 = b.2.1 ∧ a.2.2.1 = b.2.2.1 ∧ a.2.2.2.1 = b.2.2.2.1 ∧ a.2.2.2.2.1 = b.2.2.2.2.1)
theorem same_self (a : Cx) : sameFn a a = true := decide_eq_true ⟨rfl, rfl, rfl, rfl, rfl⟩
def VSameContext.pre (a b : Cx) : Prop := a.2.2.2.2.1.length ≤ 1000
def VSameContext.fn (a b : Cx) : Bool := sameFn a b
def VSameContext.inv4 (a b : Cx) (i : Int) : Prop := 0 ≤ i ∧ i ≤ a.2.2.2.2.1.length ∧ a.2.2.2.2.1.length = b.2.2.2.2.1.length ∧ ∀ j : Nat, j < i.toNat → a.2.2.2.2.1.getD j 0 = b.2.2.2.2.1.getD j 0
def VSameContext.mes4 (a b : Cx) (i : Int) : Nat := (a.2.2.2.2.1.length - i).toNat
def VSameContext.VC : Prop := ∀ (x0 : (Int × ((List Int) × (Int × (Int × ((List Int) × Unit)))))) (x1 : (Int × ((List Int) × (Int × (Int × ((List Int) × Unit)))))), VSameContext.pre x0 x1 →
 ((x0.1 != x1.1) = false → (x0.1 != x1.1) = false) ∧
 ((x0.1 != x1.1) = false → (x0.1 != x1.1) = false) ∧
 ((x0.1 != x1.1) = false → (x0.1 != x1.1) = false) ∧
 ((x0.1 != x1.1) = false → (x0.1 != x1.1) = false) ∧
 ((x0.1 != x1.1) = false → (x0.1 != x1.1) = false) ∧
 (let v17 : Bool := (bif (x0.1 != x1.1) then true else (!(Ty.beq (.arr 32 (.int .u8)) x0.2.1 x1.2.1)))
 (v17 = false → v17 = false) ∧
 (v17 = false → v17 = false) ∧
 (v17 = false → v17 = false) ∧
 (v17 = false → v17 = false) ∧
 (v17 = false → v17 = false) ∧
 ((bif v17 then true else (x0.2.2.1 != x1.2.2.1)) = false → (bif v17 then true else (x0.2.2.1 != x1.2.2.1)) = false) ∧
 ((bif v17 then true else (x0.2.2.1 != x1.2.2.1)) = false → (bif v17 then true else (x0.2.2.1 != x1.2.2.1)) = false) ∧
 ((bif v17 then true else (x0.2.2.1 != x1.2.2.1)) = false → (bif v17 then true else (x0.2.2.1 != x1.2.2.1)) = false) ∧
 ((bif v17 then true else (x0.2.2.1 != x1.2.2.1)) = false → (bif v17 then true else (x0.2.2.1 != x1.2.2.1)) = false) ∧
 ((bif v17 then true else (x0.2.2.1 != x1.2.2.1)) = false → (bif v17 then true else (x0.2.2.1 != x1.2.2.1)) = false) ∧
 (let v31 : Bool := (bif (bif v17 then true else (x0.2.2.1 != x1.2.2.1)) then true else (x0.2.2.2.1 != x1.2.2.2.1))
 (v31 = false → v31 = false) ∧
 (v31 = false → v31 = false) ∧
 (v31 = false → v31 = false) ∧
 (v31 = false → v31 = false) ∧
 (v31 = false → v31 = false) ∧
 (v31 = false → v31 = false) ∧
 (v31 = false → v31 = false) ∧
 (let v40 : Bool := (bif v31 then true else ((x0.2.2.2.2.1.length : Int) != (x1.2.2.2.2.1.length : Int)))
 ((v40 = true →
 (Ret1 false (VSameContext.fn x0 x1))) ∧
 (v40 = false →
 (VSameContext.inv4 x0 x1 (0 : Int) ∧
 ∀ (v44 : Int), VSameContext.inv4 x0 x1 v44 →
 (((decide (v44 < (x0.2.2.2.2.1.length : Int))) = true →
 (0 ≤ v44 ∧ v44 < (x0.2.2.2.2.1.length : Int)) ∧
 (0 ≤ v44 ∧ v44 < (x1.2.2.2.2.1.length : Int)) ∧
 (let v57 : Bool := ((x0.2.2.2.2.1.getD (Int.toNat v44) (0 : Int)) != (x1.2.2.2.2.1.getD (Int.toNat v44) (0 : Int)))
 ((v57 = true →
 (Ret1 false (VSameContext.fn x0 x1))) ∧
 (v57 = false →
 (VSameContext.inv4 x0 x1 (IntKind.i64.wrap (v44 + (1 : Int))) ∧ VSameContext.mes4 x0 x1 (IntKind.i64.wrap (v44 + (1 : Int))) < VSameContext.mes4 x0 x1 v44))))) ∧
 ((decide (v44 < (x0.2.2.2.2.1.length : Int))) = false →
 (Ret1 true (VSameContext.fn x0 x1))))))))))
theorem VSameContext.vc : VSameContext.VC := by
  intro a b hpre
  have hpre : a.2.2.2.2.1.length ≤ 1000 := hpre
  have hb : Ty.beq (.arr 32 (.int .u8)) a.2.1 b.2.1 = decide (a.2.1 = b.2.1) := by rw [Bool.eq_iff_iff, beq_iff, decide_eq_true_iff]
  simp only [imp_self, true_and, ret1, VSameContext.fn, Bool.cond_true_left, hb]
  refine ⟨fun h => ?_, fun h => ?_⟩
  · symm
    refine decide_eq_false (fun hs => ?_)
    obtain ⟨s1, s2, s3, s4, s5⟩ := hs
    rw [show b.2.2.2.2.1 = a.2.2.2.2.1 from s5.symm, ← s1, ← s2, ← s3, ← s4] at h
    simp at h
  · simp only [Bool.or_eq_false_iff, bne_eq_false_iff_eq, Bool.not_eq_false', decide_eq_true_eq] at h
    obtain ⟨⟨⟨⟨s1, s2⟩, s3⟩, s4⟩, s5⟩ := h
    have s5 : a.2.2.2.2.1.length = b.2.2.2.2.1.length := by omega
    refine ⟨⟨by omega, by omega, s5, fun j hj => by simp at hj⟩, ?_⟩
    rintro i ⟨k1, k2, k3, k4⟩
    refine ⟨fun hc => ?_, fun hc => ?_⟩
    · have hc : i < a.2.2.2.2.1.length := of_decide_eq_true hc
      refine ⟨⟨k1, hc⟩, ⟨k1, by omega⟩, fun hne => ?_, fun he => ?_⟩
      · symm
        refine decide_eq_false (fun hs => ?_)
        rw [show b.2.2.2.2.1 = a.2.2.2.2.1 from hs.2.2.2.2.symm] at hne
        simp at hne
      · have he : a.2.2.2.2.1.getD i.toNat 0 = b.2.2.2.2.1.getD i.toNat 0 := by simpa using he
        rw [i64w (by omega) (by omega)]
        refine ⟨⟨by omega, by omega, s5, fun j hj => ?_⟩, by simp only [VSameContext.mes4]; omega⟩
        by_cases hjk : j = i.toNat
        · rw [hjk]; exact he
        · exact k4 j (by omega)
    · have hc : ¬ i < a.2.2.2.2.1.length := of_decide_eq_false hc
      symm
      refine decide_eq_true ⟨s1, s2, s3, s4, ext_getD s5 (fun j hj => k4 j (by omega))⟩
end Lc
