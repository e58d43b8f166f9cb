/- The law PresyncContinues of chapter 17: its condition holds. -/
import Derived.Test.YtlabkmpegbnilaaGreatDoorFeeds
set_option linter.unusedVariables false
set_option maxRecDepth 100000
namespace Lc
open Go

def PresyncContinues.pre (v : Int) (seeds other salt : List Int) (more : Int) : Prop := (0 ≤ v ∧ v ≤ 255) ∧ Bytes seeds ∧ Bytes other ∧ HOk salt ∧ (0 ≤ more ∧ more ≤ 255)
def PresyncContinues.fn (v : Int) (seeds other salt : List Int) (more : Int) : Bool := true
noncomputable def conF (v : Int) (seeds salt : List Int) : Pst := (feedFn (madeParams v) (madeS v seeds salt 0) (madeL v seeds) 1073741824).1
noncomputable def conH (v : Int) (seeds : List Int) (more : Int) : List Hdr := (madeL v seeds).take (more % ((madeL v seeds).length + 1)).toNat
noncomputable def conR (v : Int) (seeds other : List Int) (more : Int) : List Hdr := conH v seeds more ++ headersGo (madeParams v) (ctxOf (madeParams v) (startFn (madeParams v)).1 (conH v seeds more)) (other.take 100)
noncomputable def conO (v : Int) (seeds other salt : List Int) (more : Int) : List Hdr := (feedFn (madeParams v) (conF v seeds salt) (conR v seeds other more) 1073741824).2.1
noncomputable def conB (v : Int) (seeds salt : List Int) : List Bool := bitsGo (madeParams v) salt (startFn (madeParams v)).1 (madeL v seeds)
noncomputable def conC (v : Int) (seeds other salt : List Int) (more : Int) (k : Nat) : Cx := ctxOf (madeParams v) (startFn (madeParams v)).1 ((conO v seeds other salt more).take k)
noncomputable def conU (v : Int) (seeds other salt : List Int) (more : Int) (k : Nat) : Nat := (bitsGo (madeParams v) salt (startFn (madeParams v)).1 ((conO v seeds other salt more).take k)).length
def PresyncContinues.inv19 (v : Int) (seeds other salt : List Int) (more : Int) (p : Par) (s t : Pst) (used : Int) (c : Cx) (i : Int) : Prop :=
  p = madeParams v ∧ s.2.1 = salt ∧ Few t ∧ 0 ≤ i ∧ i ≤ (conO v seeds other salt more).length ∧ c = conC v seeds other salt more i.toNat ∧ used = (min (conB v seeds salt).length (conU v seeds other salt more i.toNat) : Nat)
noncomputable def PresyncContinues.mes19 (v : Int) (seeds other salt : List Int) (more : Int) (p : Par) (s t : Pst) (used : Int) (c : Cx) (i : Int) : Nat := ((conO v seeds other salt more).length - i).toNat
def PresyncContinues.VC : Prop := ∀ (x0 : Int) (x1 : (List Int)) (x2 : (List Int)) (x3 : (List Int)) (x4 : Int), PresyncContinues.pre x0 x1 x2 x3 x4 → LSane.pre ∧ (((!(LSane.fn)) = true → (Ret1 false (PresyncContinues.fn x0 x1 x2 x3 x4))) ∧ ((!(LSane.fn)) = false → LBegun.pre x0 x1 x3 (0 : Int) ∧ (let v11h : Par := (hz, ((List.replicate 4 (0 : Int)), ((0 : Int), ((0 : Int), ((0 : Int), ((0 : Int), ([], ((0 : Int), ((0 : Int), ((0 : Int), ()))))))))))
 (let v12h : Pst := ((0 : Int), ((List.replicate 32 (0 : Int)), ((List.replicate 4 (0 : Int)), (zx, ((List.replicate 4 (0 : Int)), (zx, ((List.replicate 4 (0 : Int)), ((0 : Int), ([], ([], ()))))))))))
 (let v43 : Bool := (((LBegun.fn x0 x1 x3 (0 : Int)).2.2.length : Int) == (0 : Int))
 ((v43 = true → (Ret1 true (PresyncContinues.fn x0 x1 x2 x3 x4))) ∧ (v43 = false → PFeed.pre ((LBegun.fn x0 x1 x3 (0 : Int)).1) ((LBegun.fn x0 x1 x3 (0 : Int)).2.1) ((LBegun.fn x0 x1 x3 (0 : Int)).2.2) (1073741824 : Int) ∧ (let v48h : (List Hdr) := (PFeed.fn ((LBegun.fn x0 x1 x3 (0 : Int)).1) ((LBegun.fn x0 x1 x3 (0 : Int)).2.1) ((LBegun.fn x0 x1 x3 (0 : Int)).2.2) (1073741824 : Int)).2.1
 (let v49 : Pst := (PFeed.fn ((LBegun.fn x0 x1 x3 (0 : Int)).1) ((LBegun.fn x0 x1 x3 (0 : Int)).2.1) ((LBegun.fn x0 x1 x3 (0 : Int)).2.2) (1073741824 : Int)).1
 (let v51 : Int := (PFeed.fn ((LBegun.fn x0 x1 x3 (0 : Int)).1) ((LBegun.fn x0 x1 x3 (0 : Int)).2.1) ((LBegun.fn x0 x1 x3 (0 : Int)).2.2) (1073741824 : Int)).2.2
 ((v51 != (0 : Int)) = false → (v51 != (0 : Int)) = false) ∧ ((v51 != (0 : Int)) = false → (v51 != (0 : Int)) = false) ∧ ((v51 != (0 : Int)) = false → (v51 != (0 : Int)) = false) ∧ (let v58 : Bool := (bif (v51 != (0 : Int)) then true else (decide ((v48h.length : Int) > (0 : Int))))
 (v58 = false → v58 = false) ∧ (v58 = false → v58 = false) ∧ (v58 = false → v58 = false) ∧ (((bif v58 then true else (v49.1 != (2 : Int))) = true → (Ret1 false (PresyncContinues.fn x0 x1 x2 x3 x4))) ∧ ((bif v58 then true else (v49.1 != (2 : Int))) = false → (let v70 : Int := (IntKind.i64.wrap (((LBegun.fn x0 x1 x3 (0 : Int)).2.2.length : Int) + (1 : Int)))
 v70 ≠ 0 ∧ (0 ≤ (0 : Int) ∧ (0 : Int) ≤ (Int.tmod (IntKind.i64.wrap x4) v70) ∧ (Int.tmod (IntKind.i64.wrap x4) v70) ≤ ((LBegun.fn x0 x1 x3 (0 : Int)).2.2.length : Int)) ∧ (let v78 : (List Hdr) := (((LBegun.fn x0 x1 x3 (0 : Int)).2.2.drop (Int.toNat (0 : Int))).take ((Int.toNat (Int.tmod (IntKind.i64.wrap x4) v70)) - (Int.toNat (0 : Int))))
 VRun.pre ((LBegun.fn x0 x1 x3 (0 : Int)).1) v49.2.2.2.1 v78 (1073741824 : Int) ∧ (let v80 : Cx := (VRun.fn ((LBegun.fn x0 x1 x3 (0 : Int)).1) v49.2.2.2.1 v78 (1073741824 : Int)).1
 (let v81 : Int := (VRun.fn ((LBegun.fn x0 x1 x3 (0 : Int)).1) v49.2.2.2.1 v78 (1073741824 : Int)).2.1
 (let v82 : Int := (VRun.fn ((LBegun.fn x0 x1 x3 (0 : Int)).1) v49.2.2.2.1 v78 (1073741824 : Int)).2.2
 (let v18h : Cx := zx
 (0 ≤ (0 : Int) ∧ (0 : Int) ≤ (Int.tmod (IntKind.i64.wrap x4) v70) ∧ (Int.tmod (IntKind.i64.wrap x4) v70) ≤ ((LBegun.fn x0 x1 x3 (0 : Int)).2.2.length : Int)) ∧ (let v88 : (List Hdr) := (((LBegun.fn x0 x1 x3 (0 : Int)).2.2.drop (Int.toNat (0 : Int))).take ((Int.toNat (Int.tmod (IntKind.i64.wrap x4) v70)) - (Int.toNat (0 : Int))))
 Room v88.length 80 ∧ KSome.pre x2 (100 : Int) ∧ MHeaders.pre ((LBegun.fn x0 x1 x3 (0 : Int)).1) v80 (KSome.fn x2 (100 : Int)) ∧ (let v94h : (List Hdr) := (MHeaders.fn ((LBegun.fn x0 x1 x3 (0 : Int)).1) v80 (KSome.fn x2 (100 : Int)))
 Room (v88.length + v94h.length) 80 ∧ PFeed.pre ((LBegun.fn x0 x1 x3 (0 : Int)).1) v49 (v88 ++ v94h) (1073741824 : Int) ∧ (let v96h : (List Hdr) := (PFeed.fn ((LBegun.fn x0 x1 x3 (0 : Int)).1) v49 (v88 ++ v94h) (1073741824 : Int)).2.1
 (let v97 : Pst := (PFeed.fn ((LBegun.fn x0 x1 x3 (0 : Int)).1) v49 (v88 ++ v94h) (1073741824 : Int)).1
 (let v99 : Int := (PFeed.fn ((LBegun.fn x0 x1 x3 (0 : Int)).1) v49 (v88 ++ v94h) (1073741824 : Int)).2.2
 (let v21h : Pst := ((0 : Int), ((List.replicate 32 (0 : Int)), ((List.replicate 4 (0 : Int)), (zx, ((List.replicate 4 (0 : Int)), (zx, ((List.replicate 4 (0 : Int)), ((0 : Int), ([], ([], ()))))))))))
 VRun.pre ((LBegun.fn x0 x1 x3 (0 : Int)).1) v49.2.2.2.1 v96h (1073741824 : Int) ∧ (let v106 : Cx := (VRun.fn ((LBegun.fn x0 x1 x3 (0 : Int)).1) v49.2.2.2.1 v96h (1073741824 : Int)).1
 (let v107 : Int := (VRun.fn ((LBegun.fn x0 x1 x3 (0 : Int)).1) v49.2.2.2.1 v96h (1073741824 : Int)).2.1
 (let v108 : Int := (VRun.fn ((LBegun.fn x0 x1 x3 (0 : Int)).1) v49.2.2.2.1 v96h (1073741824 : Int)).2.2
 (let v24h : Cx := zx
 ((v108 != (0 : Int)) = false → (v108 != (0 : Int)) = false) ∧ ((v108 != (0 : Int)) = false → (v108 != (0 : Int)) = false) ∧ ((v108 != (0 : Int)) = false → (v108 != (0 : Int)) = false) ∧ ((v108 != (0 : Int)) = false → (v108 != (0 : Int)) = false) ∧ (let v116 : Bool := (bif (v108 != (0 : Int)) then true else (v107 != (v96h.length : Int)))
 (v116 = false → v116 = false) ∧ (v116 = false → v116 = false) ∧ (v116 = false → v116 = false) ∧ (v116 = false → v116 = false) ∧ (v116 = false → v116 = false) ∧ (v116 = false → v116 = false) ∧ (v116 = false → v116 = false) ∧ (v116 = false → v116 = false) ∧ (v116 = false → v116 = false) ∧ (let v127 : Bool := (bif v116 then true else (v106.1 != (IntKind.i64.wrap (v49.2.2.2.1.1 + (v96h.length : Int)))))
 ((v127 = true → (Ret1 false (PresyncContinues.fn x0 x1 x2 x3 x4))) ∧ (v127 = false → (let v28h : Cx := zx
 (PresyncContinues.inv19 x0 x1 x2 x3 x4 ((LBegun.fn x0 x1 x3 (0 : Int)).1) v49 v97 (0 : Int) v49.2.2.2.1 (0 : Int) ∧ ∀ (v11_1 : Par) (v12_1 : Pst) (v21_1 : Pst) (v27 : Int) (v28_1 : Cx) (v132 : Int), PresyncContinues.inv19 x0 x1 x2 x3 x4 v11_1 v12_1 v21_1 v27 v28_1 v132 → (((decide (v132 < (v96h.length : Int))) = true → (0 ≤ v132 ∧ v132 < (v96h.length : Int)) ∧ (let v135 : Hdr := (v96h.getD (Int.toNat v132) hz)
 (let v30h : Hdr := hz
 VAdvance.pre v11_1 v28_1 v135 ∧ VCommits17.pre v12_1 ((VAdvance.fn v11_1 v28_1 v135).1.1) ∧ ((VCommits17.fn v12_1 ((VAdvance.fn v11_1 v28_1 v135).1.1)) = true → (VCommits17.fn v12_1 ((VAdvance.fn v11_1 v28_1 v135).1.1)) = true) ∧ ((VCommits17.fn v12_1 ((VAdvance.fn v11_1 v28_1 v135).1.1)) = true → (VCommits17.fn v12_1 ((VAdvance.fn v11_1 v28_1 v135).1.1)) = true) ∧ ((VCommits17.fn v12_1 ((VAdvance.fn v11_1 v28_1 v135).1.1)) = true → (VCommits17.fn v12_1 ((VAdvance.fn v11_1 v28_1 v135).1.1)) = true) ∧ ((VCommits17.fn v12_1 ((VAdvance.fn v11_1 v28_1 v135).1.1)) = true → (VCommits17.fn v12_1 ((VAdvance.fn v11_1 v28_1 v135).1.1)) = true) ∧ (let v152 : Bool := (bif (VCommits17.fn v12_1 ((VAdvance.fn v11_1 v28_1 v135).1.1)) then (decide (v27 < (v49.2.2.2.2.2.2.2.2.1.length : Int))) else false)
 ((v152 = true → (0 ≤ v27 ∧ v27 < (v49.2.2.2.2.2.2.2.2.1.length : Int)) ∧ VCommitment17.pre v12_1 ((VAdvance.fn v11_1 v28_1 v135).1.2.1) ∧ (let v160 : Bool := (VCommitment17.fn v12_1 ((VAdvance.fn v11_1 v28_1 v135).1.2.1))
 (let v161 : Bool := (!(Ty.beq (.bool) (v49.2.2.2.2.2.2.2.2.1.getD (Int.toNat v27) false) v160))
 ((v161 = true → (Ret1 false (PresyncContinues.fn x0 x1 x2 x3 x4))) ∧ (v161 = false → (PresyncContinues.inv19 x0 x1 x2 x3 x4 v11_1 v12_1 v21_1 (IntKind.i64.wrap (v27 + (1 : Int))) ((VAdvance.fn v11_1 v28_1 v135).1) (IntKind.i64.wrap (v132 + (1 : Int))) ∧ PresyncContinues.mes19 x0 x1 x2 x3 x4 v11_1 v12_1 v21_1 (IntKind.i64.wrap (v27 + (1 : Int))) ((VAdvance.fn v11_1 v28_1 v135).1) (IntKind.i64.wrap (v132 + (1 : Int))) < PresyncContinues.mes19 x0 x1 x2 x3 x4 v11_1 v12_1 v21_1 v27 v28_1 v132)))))) ∧ (v152 = false → (PresyncContinues.inv19 x0 x1 x2 x3 x4 v11_1 v12_1 v21_1 v27 ((VAdvance.fn v11_1 v28_1 v135).1) (IntKind.i64.wrap (v132 + (1 : Int))) ∧ PresyncContinues.mes19 x0 x1 x2 x3 x4 v11_1 v12_1 v21_1 v27 ((VAdvance.fn v11_1 v28_1 v135).1) (IntKind.i64.wrap (v132 + (1 : Int))) < PresyncContinues.mes19 x0 x1 x2 x3 x4 v11_1 v12_1 v21_1 v27 v28_1 v132))))))) ∧ ((decide (v132 < (v96h.length : Int))) = false → PMemory.pre v21_1 ∧ (Ret1 (decide ((PMemory.fn v21_1) ≤ (1088 : Int))) (PresyncContinues.fn x0 x1 x2 x3 x4)))))))))))))))))))))))))))))))))))))))
theorem con_first {v : Int} {seeds salt : List Int} (hv : 0 ≤ v ∧ v ≤ 255) (hs : Bytes seeds) (hsalt : HOk salt) (hpos : 0 < (madeL v seeds).length) :
    (feedFn (madeParams v) (madeS v seeds salt 0) (madeL v seeds) 1073741824).2.2 = 0 ∧ (feedFn (madeParams v) (madeS v seeds salt 0) (madeL v seeds) 1073741824).2.1 = [] ∧ (conF v seeds salt).1 = 2 ∧ (conF v seeds salt).2.1 = salt ∧
    (conF v seeds salt).2.2.2.1 = (startFn (madeParams v)).1 ∧ (conF v seeds salt).2.2.2.2.2.1 = (startFn (madeParams v)).1 ∧ (conF v seeds salt).2.2.2.2.2.2.2.2.1 = conB v seeds salt ∧ (conF v seeds salt).2.2.2.2.2.2.2.2.2.1 = [] ∧
    SGood (conF v seeds salt) ∧ soundFn (madeParams v) (conF v seeds salt) = true := by
  obtain ⟨f1, ⟨⟨a1, a2, a3, a4, a5⟩, a6, a7⟩⟩ := rs_feed _ (made_rst hv hs hsalt hpos) (r := madeL v seeds) (rest := madeL v seeds) rfl
  rcases a5 with ⟨b1, _⟩ | ⟨k, b0, b1, b2, b3, b4, b5, b6⟩ | ⟨b1, _⟩
  · have b1 : 0 + (madeL v seeds).length < (madeL v seeds).length := b1
    omega
  · have b0 : 0 + (madeL v seeds).length = (madeL v seeds).length + k := b0
    have hk : k = 0 := by omega
    subst hk
    rw [List.take_zero, List.nil_append] at b6
    obtain ⟨c1, c2⟩ := List.append_eq_nil_iff.1 b6
    exact ⟨f1, c1, b2, a1, a3, b3, b5, c2, a6, a7⟩
  · have b1 : 0 + (madeL v seeds).length = (madeL v seeds).length + (madeL v seeds).length := b1
    omega
theorem con_second {v : Int} {seeds other salt : List Int} {more : Int} (hv : 0 ≤ v ∧ v ≤ 255) (hs : Bytes seeds) (ho : Bytes other) (hsalt : HOk salt) (hpos : 0 < (madeL v seeds).length) :
    FeedPre (madeParams v) (conF v seeds salt) (conR v seeds other more) 1073741824 ∧ Acc (madeParams v) 1073741824 (startFn (madeParams v)).1 (conO v seeds other salt more) ∧
    Match (conB v seeds salt) (bitsGo (madeParams v) salt (startFn (madeParams v)).1 (conO v seeds other salt more)) ∧ (∀ h, h ∈ conO v seeds other salt more → HdrOk h) ∧ (conO v seeds other salt more).length ≤ 264 ∧ (conR v seeds other more).length ≤ 200 := by
  obtain ⟨g1, g2⟩ := madeL_ok hv hs
  have hp := made_ok hv
  obtain ⟨_, _, b2, b3, b4, b5, b6, b7, b8, b9⟩ := con_first hv hs hsalt hpos
  have hH : ∀ h, h ∈ conH v seeds more → HdrOk h := fun h hh => g1 h (List.mem_of_mem_take hh)
  have hHl : (conH v seeds more).length ≤ 100 := by unfold conH; rw [List.length_take]; omega
  have hc := acc_good (now := 1073741824) hp (conH v seeds more) _ (start_good hp) hH
  obtain ⟨o1, o2⟩ := headers_ok hp (other.take 100) _ hc (ho.take _)
  have hR : ∀ h, h ∈ conR v seeds other more → HdrOk h := fun h hh => by
    rcases List.mem_append.1 hh with hh | hh
    · exact hH h hh
    · exact o1 h hh
  have hRl : (conR v seeds other more).length ≤ 200 := by
    unfold conR
    rw [List.length_append]
    rw [List.length_take] at o2
    omega
  have hf := feed_pre (l := conR v seeds other more) hp b8 hR (by omega)
  have hm := minv0 hp b8 (show U32 1073741824 from ⟨by decide, by decide⟩) b9
  have hO : conO v seeds other salt more = (feedGo (conF v seeds salt, madeParams v, 1073741824, [], ()) (conR v seeds other more)).2.1 := by
    unfold conO
    rw [feedFn, if_neg (by rw [b9]; simp)]
  have hol : oLen (conF v seeds salt, madeParams v, 1073741824, [], ()) = 0 := by
    show 0 + (conF v seeds salt).2.2.2.2.2.2.2.2.2.1.length = 0
    rw [b7]; rfl
  have hcs : CS (madeParams v) 1073741824 salt (startFn (madeParams v)).1 (conB v seeds salt) (conF v seeds salt, madeParams v, 1073741824, [], ()) := by
    have e : [] ++ (conF v seeds salt).2.2.2.2.2.2.2.2.2.1 = ([] : List Hdr) := by rw [b7]; rfl
    refine ⟨b3, b4, b6, .inl b2, fun _ => ?_, ?_, ?_, ?_⟩
    · show (conF v seeds salt).2.2.2.2.2.1 = ctxOf _ _ ([] ++ (conF v seeds salt).2.2.2.2.2.2.2.2.2.1); rw [e]; exact b5
    · show Acc _ _ _ ([] ++ (conF v seeds salt).2.2.2.2.2.2.2.2.2.1); rw [e]; trivial
    · show Match _ (bitsGo _ _ _ ([] ++ (conF v seeds salt).2.2.2.2.2.2.2.2.2.1)); rw [e]; intro k _ h; simp [bitsGo] at h
    · show ∀ h, h ∈ [] ++ (conF v seeds salt).2.2.2.2.2.2.2.2.2.1 → HdrOk h; rw [e]; intro h hh; cases hh
  obtain ⟨q1, q2, q3, q4⟩ := cs_go hsalt (start_fits (made_valid hv)) (conR v seeds other more) _ hm rfl rfl hR (by rw [hol]; omega) hcs
  rw [← hO] at q1 q2 q3 q4
  exact ⟨hf, q1, q2, q3, by omega, hRl⟩
theorem run_fn {p : Par} {c : Cx} {l : List Hdr} {now : Int} (hf : fitsFn p c = true) (h : Acc p now c l) : runFn p c l now = (ctxOf p c l, (l.length : Int), 0) := by
  rw [runFn, if_neg (by rw [hf]; simp), run_acc l c 0 h, Int.zero_add]
theorem PresyncContinues.vc : PresyncContinues.VC := by
  intro v seeds other salt more ⟨h1, h2, h3, h4, h5⟩
  obtain ⟨g1, g2⟩ := madeL_ok h1 h2
  have hp := made_ok h1
  simp only [imp_self, true_and, lsane, LBegun.fn, PFeed.fn, KSome.fn, PMemory.fn, VRun.fn, MHeaders.fn, VAdvance.fn, VCommits17.fn, VCommitment17.fn, ret1, PresyncContinues.fn]
  refine ⟨trivial, fun h => (by cases h), fun _ => ⟨⟨h1, h2, h4, by omega, by omega⟩, fun _ => trivial, fun hn => ?_⟩⟩
  have hn : 0 < (madeL v seeds).length := by
    have := of_decide_eq_false (show decide (((madeL v seeds).length : Int) = 0) = false from by rw [← hn]; rfl)
    omega
  obtain ⟨a1, a2, a3, a4, a5, a6, a7, a8, a9, a10⟩ := con_first h1 h2 h4 hn
  obtain ⟨c1, c2, c3, c4, c5, c6⟩ := con_second (other := other) (more := more) h1 h2 h3 h4 hn
  have hf0 := feed_pre (s := madeS v seeds salt 0) (l := madeL v seeds) hp (madeS_good h1 h4) g1 (by omega)
  have hF : (feedFn (madeParams v) (madeS v seeds salt 0) (madeL v seeds) 1073741824).1 = conF v seeds salt := rfl
  simp only [hF, a1, a2, a3, a5, a7]
  rw [i64w (n := more) (by omega) (by omega), i64w (n := ((madeL v seeds).length : Int) + 1) (by omega) (by omega)]
  have htm : Int.tmod more (((madeL v seeds).length : Int) + 1) = more % (((madeL v seeds).length : Int) + 1) := Int.tmod_eq_emod_of_nonneg h5.1
  rw [htm]
  have r1 := Int.emod_nonneg more (show ((madeL v seeds).length : Int) + 1 ≠ 0 by omega)
  have r2 := Int.emod_lt_of_pos more (show 0 < ((madeL v seeds).length : Int) + 1 by omega)
  have hK : ((madeL v seeds).drop (Int.toNat 0)).take ((more % (((madeL v seeds).length : Int) + 1)).toNat - Int.toNat 0) = conH v seeds more := rfl
  simp only [hK]
  have hst := start_good hp
  have hfit := start_fits (made_valid h1)
  have hH : ∀ h, h ∈ conH v seeds more → HdrOk h := fun h hh => g1 h (List.mem_of_mem_take hh)
  have hHl : (conH v seeds more).length ≤ 100 := by unfold conH; rw [List.length_take]; omega
  have haccH : Acc (madeParams v) 1073741824 (startFn (madeParams v)).1 (conH v seeds more) := acc_take (headers_acc _ _ _) _
  have late : U32 1073741824 := ⟨by decide, by decide⟩
  simp only [run_fn hfit haccH]
  have hRr : conH v seeds more ++ headersGo (madeParams v) (ctxOf (madeParams v) (startFn (madeParams v)).1 (conH v seeds more)) (other.take (Int.toNat 100)) = conR v seeds other more := rfl
  have hRl : (headersGo (madeParams v) (ctxOf (madeParams v) (startFn (madeParams v)).1 (conH v seeds more)) (other.take (Int.toNat 100))).length ≤ 200 := by
    have := congrArg List.length hRr
    rw [List.length_append] at this
    omega
  simp only [hRr]
  have hOo : (feedFn (madeParams v) (conF v seeds salt) (conR v seeds other more) 1073741824).2.1 = conO v seeds other salt more := rfl
  have hfew := (few_feed c1).1
  generalize hT : (feedFn (madeParams v) (conF v seeds salt) (conR v seeds other more) 1073741824).1 = T at *
  simp only [hOo, run_fn hfit c2]
  have hhgt := acc_height _ _ c2
  have hs0 : (startFn (madeParams v)).1.1 = 0 := by rw [startFn, if_neg (by rw [made_valid h1]; simp)]
  have hw : IntKind.i64.wrap ((startFn (madeParams v)).1.1 + ((conO v seeds other salt more).length : Int)) = (startFn (madeParams v)).1.1 + ((conO v seeds other salt more).length : Int) := i64w (by omega) (by omega)
  simp only [hw, hhgt]
  have ho100 : (other.take (Int.toNat 100)).length ≤ 1000 := by rw [List.length_take]; have : Int.toNat 100 = 100 := rfl; omega
  refine ⟨hf0, fun h => (by simp at h), fun _ => ⟨by omega, ⟨by omega, r1, by omega⟩, ⟨hp, hst, hH, by omega, late⟩, ⟨by omega, r1, by omega⟩, room_of (by omega) (by omega), by show (0 : Int) ≤ 100; omega, ⟨hp, acc_good (now := 1073741824) hp _ _ hst hH, h3.take _, ho100⟩, room_of (by omega) (by omega), c1, ⟨hp, hst, c4, by omega, late⟩, fun h => (by simp at h), fun _ => ⟨⟨rfl, a4, hfew, by omega, by omega, rfl, ?_⟩, ?_⟩⟩⟩
  · show (0 : Int) = ((min _ _ : Nat) : Int)
    simp [conU, bitsGo]
  rintro p s t used c i ⟨rfl, k1, k2, k3, k4, rfl, rfl⟩
  refine ⟨fun hc => ?_, fun _ => ⟨⟨by have := k2.2.1; omega, by have := k2.2.2; omega⟩, decide_eq_true (by have := k2.2.1; have := k2.2.2; unfold memFn; omega)⟩⟩
  have hc : i < (conO v seeds other salt more).length := of_decide_eq_true hc
  have hin : i.toNat < (conO v seeds other salt more).length := by omega
  have hx := get_mem hin
  have hh := c4 _ hx
  have hck := acc_at c2 hin
  have hcg : CGood (conC v seeds other salt more i.toNat) := acc_good (now := 1073741824) hp _ _ hst (fun h hh => c4 h (List.mem_of_mem_take hh))
  have hnext : (advFn (madeParams v) (conC v seeds other salt more i.toNat) ((conO v seeds other salt more).getD i.toNat hz)).1 = conC v seeds other salt more (i.toNat + 1) := by
    unfold conC
    rw [take_get hin, ctx_append]; rfl
  have hbits : bitsGo (madeParams v) salt (startFn (madeParams v)).1 ((conO v seeds other salt more).take (i.toNat + 1)) = bitsGo (madeParams v) salt (startFn (madeParams v)).1 ((conO v seeds other salt more).take i.toNat) ++ (if comFn salt (conC v seeds other salt more (i.toNat + 1)).1 = true then [bitFn salt (conC v seeds other salt more (i.toNat + 1)).2.1] else []) := by
    rw [← hnext]
    conv => lhs; rw [take_get hin, bits_append]
    rw [bitsGo, bitsGo, List.append_nil]; rfl
  have hcg2 : CGood (conC v seeds other salt more (i.toNat + 1)) := acc_good (now := 1073741824) hp _ _ hst (fun h hh => c4 h (List.mem_of_mem_take hh))
  have hBl : (conB v seeds salt).length ≤ 100 := Nat.le_trans (bits_le _ _ _ _) g2
  have hi1 : (i + 1).toNat = i.toNat + 1 := by omega
  rw [i64w (n := i + 1) (by omega) (by omega), i64w (n := ((min (conB v seeds salt).length (conU v seeds other salt more i.toNat) : Nat) : Int) + 1) (by omega) (by omega)]
  have hmes : ∀ u c u' c', PresyncContinues.mes19 v seeds other salt more (madeParams v) s t u c (i + 1) < PresyncContinues.mes19 v seeds other salt more (madeParams v) s t u' c' i := by intro u c u' c'; simp only [PresyncContinues.mes19]; omega
  simp only [hnext, k1]
  refine ⟨⟨k3, hc⟩, ⟨hp, hcg, hh⟩, (by show HOk s.2.1; rw [k1]; exact h4), fun hq => ?_, fun hq => ?_⟩
  · rw [Bool.cond_false_right, Bool.and_eq_true] at hq
    obtain ⟨q1, q2⟩ := hq
    have q2 := of_decide_eq_true q2
    have hu : conU v seeds other salt more i.toNat < (conB v seeds salt).length := by omega
    have hmin : min (conB v seeds salt).length (conU v seeds other salt more i.toNat) = conU v seeds other salt more i.toNat := by omega
    rw [hmin]
    have hU1 : conU v seeds other salt more (i.toNat + 1) = conU v seeds other salt more i.toNat + 1 := by
      unfold conU
      rw [hbits, if_pos q1, List.length_append, List.length_singleton]
    have hfull : bitsGo (madeParams v) salt (startFn (madeParams v)).1 (conO v seeds other salt more) = bitsGo (madeParams v) salt (startFn (madeParams v)).1 ((conO v seeds other salt more).take i.toNat) ++ (bitFn salt (conC v seeds other salt more (i.toNat + 1)).2.1 :: bitsGo (madeParams v) salt (conC v seeds other salt more (i.toNat + 1)) ((conO v seeds other salt more).drop (i.toNat + 1))) := by
      conv => lhs; rw [← List.take_append_drop (i.toNat + 1) (conO v seeds other salt more), bits_append, hbits, if_pos q1]
      rw [List.append_assoc]; rfl
    have hbit : (conB v seeds salt).getD (conU v seeds other salt more i.toNat) false = bitFn salt (conC v seeds other salt more (i.toNat + 1)).2.1 := by
      rw [← c3 (conU v seeds other salt more i.toNat) hu (by
        rw [hfull, List.length_append, List.length_cons]
        show conU v seeds other salt more i.toNat < conU v seeds other salt more i.toNat + _
        omega), hfull]
      show List.getD (_ ++ _) (bitsGo (madeParams v) salt (startFn (madeParams v)).1 ((conO v seeds other salt more).take i.toNat)).length false = _
      simp [List.getD_eq_getElem?_getD]
    rw [Int.toNat_natCast, hbit, beq_self]
    refine ⟨⟨by omega, by omega⟩, ⟨(by show HOk s.2.1; rw [k1]; exact h4), hcg2.2.1⟩, fun hbad => (by cases hbad), fun _ => ⟨⟨rfl, k1, k2, by omega, by omega, by rw [hi1], ?_⟩, hmes _ _ _ _⟩⟩
    rw [hi1, hU1]; omega
  · refine ⟨⟨rfl, k1, k2, by omega, by omega, by rw [hi1], ?_⟩, hmes _ _ _ _⟩
    rw [hi1]
    have hge : conU v seeds other salt more i.toNat ≤ conU v seeds other salt more (i.toNat + 1) := by
      unfold conU; rw [hbits, List.length_append]; omega
    by_cases hcm : comFn salt (conC v seeds other salt more (i.toNat + 1)).1 = true
    · rw [hcm, Bool.cond_false_right, Bool.true_and] at hq
      have hq := of_decide_eq_false hq
      omega
    · have : conU v seeds other salt more (i.toNat + 1) = conU v seeds other salt more i.toNat := by
        unfold conU; rw [hbits, if_neg hcm, List.append_nil]
      rw [this]
end Lc
