/- The law PresyncDivides of chapter 17: its condition holds. -/
import Derived.Test.YtlabkmpegbnilaaGreatDoorFeeds
set_option linter.unusedVariables false
set_option maxRecDepth 100000
namespace Lc
open Go

def PresyncDivides.pre (v : Int) (seeds salt : List Int) (cut at' b : Int) : Prop := (0 ≤ v ∧ v ≤ 255) ∧ Bytes seeds ∧ HOk salt ∧ (0 ≤ cut ∧ cut ≤ 255) ∧ (0 ≤ at' ∧ at' ≤ 255)
def PresyncDivides.fn (v : Int) (seeds salt : List Int) (cut at' b : Int) : Bool := true
def PresyncDivides.VC : Prop := ∀ (x0 : Int) (x1 : (List Int)) (x2 : (List Int)) (x3 : Int) (x4 : Int) (x5 : Int), PresyncDivides.pre x0 x1 x2 x3 x4 x5 → LSane.pre ∧ (((!(LSane.fn)) = true → (Ret1 false (PresyncDivides.fn x0 x1 x2 x3 x4 x5))) ∧ ((!(LSane.fn)) = false → LBegun.pre x0 x1 x2 (0 : Int) ∧ (let v13h : Par := (((0 : Int), ((List.replicate 32 (0 : Int)), ((List.replicate 32 (0 : Int)), ((0 : Int), ((0 : Int), ((0 : Int), ())))))), ((List.replicate 4 (0 : Int)), ((0 : Int), ((0 : Int), ((0 : Int), ((0 : Int), ([], ((0 : Int), ((0 : Int), ((0 : Int), ()))))))))))
 (let v14h : Pst := ((0 : Int), ((List.replicate 32 (0 : Int)), ((List.replicate 4 (0 : Int)), (((0 : Int), ((List.replicate 32 (0 : Int)), ((0 : Int), ((0 : Int), ([], ()))))), ((List.replicate 4 (0 : Int)), (((0 : Int), ((List.replicate 32 (0 : Int)), ((0 : Int), ((0 : Int), ([], ()))))), ((List.replicate 4 (0 : Int)), ((0 : Int), ([], ([], ()))))))))))
 (let v39 : Bool := (((LBegun.fn x0 x1 x2 (0 : Int)).2.2.length : Int) == (0 : Int))
 ((v39 = true → (Ret1 true (PresyncDivides.fn x0 x1 x2 x3 x4 x5))) ∧ (v39 = false → Room (LBegun.fn x0 x1 x2 (0 : Int)).2.2.length 80 ∧ Room ((LBegun.fn x0 x1 x2 (0 : Int)).2.2.length + (LBegun.fn x0 x1 x2 (0 : Int)).2.2.length) 80 ∧ (let v43h : (List Hdr) := ((LBegun.fn x0 x1 x2 (0 : Int)).2.2 ++ (LBegun.fn x0 x1 x2 (0 : Int)).2.2)
 (v43h.length : Int) ≠ 0 ∧ (0 ≤ (Int.tmod (IntKind.i64.wrap x4) (v43h.length : Int)) ∧ (Int.tmod (IntKind.i64.wrap x4) (v43h.length : Int)) < (v43h.length : Int)) ∧ (let v52 : Int := (v43h.getD (Int.toNat (Int.tmod (IntKind.i64.wrap x4) (v43h.length : Int))) ((0 : Int), ((List.replicate 32 (0 : Int)), ((List.replicate 32 (0 : Int)), ((0 : Int), ((0 : Int), ((0 : Int), ()))))))).2.2.2.1
 (3 : Int) ≠ 0 ∧ (let v56 : Int := (IntKind.u32.wrap (v52 + (IntKind.u32.wrap (Int.tmod x5 (3 : Int)))))
 (0 ≤ (Int.tmod (IntKind.i64.wrap x4) (v43h.length : Int)) ∧ (Int.tmod (IntKind.i64.wrap x4) (v43h.length : Int)) < (v43h.length : Int)) ∧ (let v43_1h : (List Hdr) := (v43h.set (Int.toNat (Int.tmod (IntKind.i64.wrap x4) (v43h.length : Int))) ((v43h.getD (Int.toNat (Int.tmod (IntKind.i64.wrap x4) (v43h.length : Int))) ((0 : Int), ((List.replicate 32 (0 : Int)), ((List.replicate 32 (0 : Int)), ((0 : Int), ((0 : Int), ((0 : Int), ()))))))).1, ((v43h.getD (Int.toNat (Int.tmod (IntKind.i64.wrap x4) (v43h.length : Int))) ((0 : Int), ((List.replicate 32 (0 : Int)), ((List.replicate 32 (0 : Int)), ((0 : Int), ((0 : Int), ((0 : Int), ()))))))).2.1, ((v43h.getD (Int.toNat (Int.tmod (IntKind.i64.wrap x4) (v43h.length : Int))) ((0 : Int), ((List.replicate 32 (0 : Int)), ((List.replicate 32 (0 : Int)), ((0 : Int), ((0 : Int), ((0 : Int), ()))))))).2.2.1, (v56, (v43h.getD (Int.toNat (Int.tmod (IntKind.i64.wrap x4) (v43h.length : Int))) ((0 : Int), ((List.replicate 32 (0 : Int)), ((List.replicate 32 (0 : Int)), ((0 : Int), ((0 : Int), ((0 : Int), ()))))))).2.2.2.2)))))
 (v43_1h.length : Int) ≠ 0 ∧ PFeed.pre ((LBegun.fn x0 x1 x2 (0 : Int)).1) ((LBegun.fn x0 x1 x2 (0 : Int)).2.1) v43_1h (1073741824 : Int) ∧ (let v68h : (List Hdr) := (PFeed.fn ((LBegun.fn x0 x1 x2 (0 : Int)).1) ((LBegun.fn x0 x1 x2 (0 : Int)).2.1) v43_1h (1073741824 : Int)).2.1
 (let v69 : Pst := (PFeed.fn ((LBegun.fn x0 x1 x2 (0 : Int)).1) ((LBegun.fn x0 x1 x2 (0 : Int)).2.1) v43_1h (1073741824 : Int)).1
 (let v71 : Int := (PFeed.fn ((LBegun.fn x0 x1 x2 (0 : Int)).1) ((LBegun.fn x0 x1 x2 (0 : Int)).2.1) v43_1h (1073741824 : Int)).2.2
 (let v18h : Pst := ((0 : Int), ((List.replicate 32 (0 : Int)), ((List.replicate 4 (0 : Int)), (((0 : Int), ((List.replicate 32 (0 : Int)), ((0 : Int), ((0 : Int), ([], ()))))), ((List.replicate 4 (0 : Int)), (((0 : Int), ((List.replicate 32 (0 : Int)), ((0 : Int), ((0 : Int), ([], ()))))), ((List.replicate 4 (0 : Int)), ((0 : Int), ([], ([], ()))))))))))
 (0 ≤ (0 : Int) ∧ (0 : Int) ≤ (Int.tmod (IntKind.i64.wrap x3) (v43_1h.length : Int)) ∧ (Int.tmod (IntKind.i64.wrap x3) (v43_1h.length : Int)) ≤ (v43_1h.length : Int)) ∧ (Int.toNat (0 : Int)) + ((Int.toNat (Int.tmod (IntKind.i64.wrap x3) (v43_1h.length : Int))) - (Int.toNat (0 : Int))) ≤ v43_1h.length ∧ PFeed.pre ((LBegun.fn x0 x1 x2 (0 : Int)).1) ((LBegun.fn x0 x1 x2 (0 : Int)).2.1) ((v43_1h.drop (Int.toNat (0 : Int))).take ((Int.toNat (Int.tmod (IntKind.i64.wrap x3) (v43_1h.length : Int))) - (Int.toNat (0 : Int)))) (1073741824 : Int) ∧ (let v78h : (List Hdr) := (PFeed.fn ((LBegun.fn x0 x1 x2 (0 : Int)).1) ((LBegun.fn x0 x1 x2 (0 : Int)).2.1) ((v43_1h.drop (Int.toNat (0 : Int))).take ((Int.toNat (Int.tmod (IntKind.i64.wrap x3) (v43_1h.length : Int))) - (Int.toNat (0 : Int)))) (1073741824 : Int)).2.1
 (let v79 : Pst := (PFeed.fn ((LBegun.fn x0 x1 x2 (0 : Int)).1) ((LBegun.fn x0 x1 x2 (0 : Int)).2.1) ((v43_1h.drop (Int.toNat (0 : Int))).take ((Int.toNat (Int.tmod (IntKind.i64.wrap x3) (v43_1h.length : Int))) - (Int.toNat (0 : Int)))) (1073741824 : Int)).1
 (let v81 : Int := (PFeed.fn ((LBegun.fn x0 x1 x2 (0 : Int)).1) ((LBegun.fn x0 x1 x2 (0 : Int)).2.1) ((v43_1h.drop (Int.toNat (0 : Int))).take ((Int.toNat (Int.tmod (IntKind.i64.wrap x3) (v43_1h.length : Int))) - (Int.toNat (0 : Int)))) (1073741824 : Int)).2.2
 (let v21h : Pst := ((0 : Int), ((List.replicate 32 (0 : Int)), ((List.replicate 4 (0 : Int)), (((0 : Int), ((List.replicate 32 (0 : Int)), ((0 : Int), ((0 : Int), ([], ()))))), ((List.replicate 4 (0 : Int)), (((0 : Int), ((List.replicate 32 (0 : Int)), ((0 : Int), ((0 : Int), ([], ()))))), ((List.replicate 4 (0 : Int)), ((0 : Int), ([], ([], ()))))))))))
 (((v81 != (0 : Int)) = true → ((v71 == v81) = true → (v71 == v81) = true) ∧ ((v71 == v81) = true → (v71 == v81) = true) ∧ ((v71 == v81) = true → VSame17.pre v69 v79) ∧ ((v71 == v81) = true → (v71 == v81) = true) ∧ ((bif (v71 == v81) then (VSame17.fn v69 v79) else false) = true → (bif (v71 == v81) then (VSame17.fn v69 v79) else false) = true) ∧ ((bif (v71 == v81) then (VSame17.fn v69 v79) else false) = true → (bif (v71 == v81) then (VSame17.fn v69 v79) else false) = true) ∧ ((bif (v71 == v81) then (VSame17.fn v69 v79) else false) = true → QSameHdrs.pre v68h v78h) ∧ ((bif (v71 == v81) then (VSame17.fn v69 v79) else false) = true → (bif (v71 == v81) then (VSame17.fn v69 v79) else false) = true) ∧ (let v96 : Bool := (bif (bif (v71 == v81) then (VSame17.fn v69 v79) else false) then (QSameHdrs.fn v68h v78h) else false)
 (Ret1 v96 (PresyncDivides.fn x0 x1 x2 x3 x4 x5)))) ∧ ((v81 != (0 : Int)) = false → (0 ≤ (Int.tmod (IntKind.i64.wrap x3) (v43_1h.length : Int)) ∧ (Int.tmod (IntKind.i64.wrap x3) (v43_1h.length : Int)) ≤ (v43_1h.length : Int) ∧ (v43_1h.length : Int) ≤ (v43_1h.length : Int)) ∧ (Int.toNat (Int.tmod (IntKind.i64.wrap x3) (v43_1h.length : Int))) + ((Int.toNat (v43_1h.length : Int)) - (Int.toNat (Int.tmod (IntKind.i64.wrap x3) (v43_1h.length : Int)))) ≤ v43_1h.length ∧ PFeed.pre ((LBegun.fn x0 x1 x2 (0 : Int)).1) v79 ((v43_1h.drop (Int.toNat (Int.tmod (IntKind.i64.wrap x3) (v43_1h.length : Int)))).take ((Int.toNat (v43_1h.length : Int)) - (Int.toNat (Int.tmod (IntKind.i64.wrap x3) (v43_1h.length : Int))))) (1073741824 : Int) ∧ (let v103h : (List Hdr) := (PFeed.fn ((LBegun.fn x0 x1 x2 (0 : Int)).1) v79 ((v43_1h.drop (Int.toNat (Int.tmod (IntKind.i64.wrap x3) (v43_1h.length : Int)))).take ((Int.toNat (v43_1h.length : Int)) - (Int.toNat (Int.tmod (IntKind.i64.wrap x3) (v43_1h.length : Int))))) (1073741824 : Int)).2.1
 (let v104 : Pst := (PFeed.fn ((LBegun.fn x0 x1 x2 (0 : Int)).1) v79 ((v43_1h.drop (Int.toNat (Int.tmod (IntKind.i64.wrap x3) (v43_1h.length : Int)))).take ((Int.toNat (v43_1h.length : Int)) - (Int.toNat (Int.tmod (IntKind.i64.wrap x3) (v43_1h.length : Int))))) (1073741824 : Int)).1
 (let v106 : Int := (PFeed.fn ((LBegun.fn x0 x1 x2 (0 : Int)).1) v79 ((v43_1h.drop (Int.toNat (Int.tmod (IntKind.i64.wrap x3) (v43_1h.length : Int)))).take ((Int.toNat (v43_1h.length : Int)) - (Int.toNat (Int.tmod (IntKind.i64.wrap x3) (v43_1h.length : Int))))) (1073741824 : Int)).2.2
 (let v24h : Pst := ((0 : Int), ((List.replicate 32 (0 : Int)), ((List.replicate 4 (0 : Int)), (((0 : Int), ((List.replicate 32 (0 : Int)), ((0 : Int), ((0 : Int), ([], ()))))), ((List.replicate 4 (0 : Int)), (((0 : Int), ((List.replicate 32 (0 : Int)), ((0 : Int), ((0 : Int), ([], ()))))), ((List.replicate 4 (0 : Int)), ((0 : Int), ([], ([], ()))))))))))
 ((v71 == v106) = true → (v71 == v106) = true) ∧ ((v71 == v106) = true → (v71 == v106) = true) ∧ ((v71 == v106) = true → VSame17.pre v69 v104) ∧ ((v71 == v106) = true → (v71 == v106) = true) ∧ ((bif (v71 == v106) then (VSame17.fn v69 v104) else false) = true → (bif (v71 == v106) then (VSame17.fn v69 v104) else false) = true) ∧ ((bif (v71 == v106) then (VSame17.fn v69 v104) else false) = true → (bif (v71 == v106) then (VSame17.fn v69 v104) else false) = true) ∧ ((bif (v71 == v106) then (VSame17.fn v69 v104) else false) = true → Room (v78h.length + v103h.length) 80) ∧ ((bif (v71 == v106) then (VSame17.fn v69 v104) else false) = true → (bif (v71 == v106) then (VSame17.fn v69 v104) else false) = true) ∧ ((bif (v71 == v106) then (VSame17.fn v69 v104) else false) = true → (bif (v71 == v106) then (VSame17.fn v69 v104) else false) = true) ∧ ((bif (v71 == v106) then (VSame17.fn v69 v104) else false) = true → QSameHdrs.pre v68h (v78h ++ v103h)) ∧ ((bif (v71 == v106) then (VSame17.fn v69 v104) else false) = true → (bif (v71 == v106) then (VSame17.fn v69 v104) else false) = true) ∧ (let v121 : Bool := (bif (bif (v71 == v106) then (VSame17.fn v69 v104) else false) then (QSameHdrs.fn v68h (v78h ++ v103h)) else false)
 (Ret1 v121 (PresyncDivides.fn x0 x1 x2 x3 x4 x5))))))))))))))))))))))))))))
theorem few_same {s : Pst} (h : Few s) : VSame17.pre s s := ⟨by have := h.2.1; omega, by have := h.2.2; omega, h.1.2.2.1, h.1.2.2.2.2.1⟩
theorem set_hdr17 {l : List Hdr} (hl : ∀ h, h ∈ l → HdrOk h) {k : Nat} {x : Hdr} (hx : HdrOk x) : ∀ h, h ∈ l.set k x → HdrOk h := by
  intro h hh
  rcases List.mem_or_eq_of_mem_set hh with hh | rfl
  · exact hl h hh
  · exact hx
theorem PresyncDivides.vc : PresyncDivides.VC := by
  intro v seeds salt cut at' b ⟨h1, h2, h3, h4, h5⟩
  obtain ⟨g1, g2⟩ := madeL_ok h1 h2
  have hp := made_ok h1
  have hs : SGood (madeS v seeds salt 0) := madeS_good h1 h3
  simp only [imp_self, true_and, lsane, LBegun.fn, PFeed.fn, VSame17.fn, QSameHdrs.fn, ret1, PresyncDivides.fn]
  generalize madeS v seeds salt 0 = s at *
  generalize madeL v seeds = l at *
  generalize madeParams v = p at *
  rw [i64w (n := cut) (by omega) (by omega), i64w (n := at') (by omega) (by omega)]
  refine ⟨trivial, fun h => (by cases h), fun _ => ⟨⟨h1, h2, h3, by omega, by omega⟩, fun _ => trivial, fun hn => ?_⟩⟩
  have hn : 0 < l.length := by
    have := of_decide_eq_false (show decide ((l.length : Int) = 0) = false from by rw [← hn]; rfl)
    omega
  have hLL : (l ++ l).length = l.length + l.length := List.length_append
  have hok : ∀ h, h ∈ l ++ l → HdrOk h := fun h hh => by rcases List.mem_append.1 hh with hh | hh <;> exact g1 h hh
  have tm : ∀ n : Int, Int.tmod at' n = at' % n := fun n => Int.tmod_eq_emod_of_nonneg h5.1
  have tc : ∀ n : Int, Int.tmod cut n = cut % n := fun n => Int.tmod_eq_emod_of_nonneg h4.1
  simp only [tm, tc]
  have r1 := Int.emod_nonneg at' (show ((l ++ l).length : Int) ≠ 0 by omega)
  have r2 := Int.emod_lt_of_pos at' (show 0 < ((l ++ l).length : Int) by omega)
  have hx := get_hdr hok r1 r2
  generalize at' % ((l ++ l).length : Int) = q at *
  have hset : HdrOk (((l ++ l).getD q.toNat hz).1, ((l ++ l).getD q.toNat hz).2.1, ((l ++ l).getD q.toNat hz).2.2.1, IntKind.u32.wrap (((l ++ l).getD q.toNat hz).2.2.2.1 + IntKind.u32.wrap (Int.tmod b 3)), ((l ++ l).getD q.toNat hz).2.2.2.2) := ⟨hx.1, hx.2.1, hx.2.2.1, u32r _, hx.2.2.2.2⟩
  have hA := set_hdr17 (k := q.toNat) hok hset
  have hAl : ((l ++ l).set q.toNat (((l ++ l).getD q.toNat hz).1, ((l ++ l).getD q.toNat hz).2.1, ((l ++ l).getD q.toNat hz).2.2.1, IntKind.u32.wrap (((l ++ l).getD q.toNat hz).2.2.2.1 + IntKind.u32.wrap (Int.tmod b 3)), ((l ++ l).getD q.toNat hz).2.2.2.2)).length = l.length + l.length := by rw [List.length_set, hLL]
  refine ⟨room_of (by omega) (by omega), room_of (by omega) (by omega), by omega, ⟨r1, r2⟩, by omega, ?_⟩
  generalize (l ++ l).set q.toNat (((l ++ l).getD q.toNat hz).1, ((l ++ l).getD q.toNat hz).2.1, ((l ++ l).getD q.toNat hz).2.2.1, IntKind.u32.wrap (((l ++ l).getD q.toNat hz).2.2.2.1 + IntKind.u32.wrap (Int.tmod b 3)), ((l ++ l).getD q.toNat hz).2.2.2.2) = A at *
  have c1 := Int.emod_nonneg cut (show (A.length : Int) ≠ 0 by omega)
  have c2 := Int.emod_lt_of_pos cut (show 0 < (A.length : Int) by omega)
  generalize cut % (A.length : Int) = k at *
  have e1 : (A.drop (Int.toNat 0)).take (k.toNat - Int.toNat 0) = A.take k.toNat := rfl
  have e2 : (A.drop k.toNat).take (Int.toNat (A.length : Int) - k.toNat) = A.drop k.toNat := by rw [List.take_of_length_le]; rw [List.length_drop]; omega
  have hta : ∀ h, h ∈ A.take k.toNat → HdrOk h := fun h hh => hA h (List.mem_of_mem_take hh)
  have htd : ∀ h, h ∈ A.drop k.toNat → HdrOk h := fun h hh => hA h (List.mem_of_mem_drop hh)
  have hf := feed_pre (s := s) (l := A) hp hs hA (by omega)
  have hf1 := feed_pre (s := s) (l := A.take k.toNat) hp hs hta (by rw [List.length_take]; omega)
  have hfew := few_feed hf
  have hfew1 := few_feed hf1
  have hf2 := feed_pre (s := (feedFn p s (A.take k.toNat) 1073741824).1) (l := A.drop k.toNat) hp hfew1.1.1 htd (by rw [List.length_drop]; omega)
  have hfew2 := few_feed hf2
  have hsplit := feed_parts (A.take k.toNat) (A.drop k.toNat) hf1
  rw [List.take_append_drop] at hsplit
  have l1 : (A.take k.toNat).length ≤ 200 := by rw [List.length_take]; omega
  have l2 : (A.drop k.toNat).length ≤ 200 := by rw [List.length_drop]; omega
  have z2 : Int.toNat 0 + (k.toNat - Int.toNat 0) ≤ A.length := by show 0 + (k.toNat - 0) ≤ _; omega
  have z4 : k.toNat + (Int.toNat (A.length : Int) - k.toNat) ≤ A.length := by rw [Int.toNat_natCast]; omega
  refine ⟨⟨r1, by omega⟩, by omega, ?_⟩
  simp only [e1, e2]
  refine ⟨hf, ⟨by omega, by omega, by omega⟩, z2, hf1, fun he => ?_, fun he => ?_⟩
  · have he : (feedFn p s (A.take k.toNat) 1073741824).2.2 ≠ 0 := by simpa using he
    rw [if_pos he] at hsplit
    rw [hsplit]
    simp only [BEq.rfl, cond_true, eqB_iff.2 rfl]
    exact ⟨fun _ => few_same hfew1.1, fun _ => (by show _ ≤ 1000000000; omega), trivial⟩
  · have he : (feedFn p s (A.take k.toNat) 1073741824).2.2 = 0 := by simpa using he
    rw [if_neg (by omega)] at hsplit
    generalize feedFn p s (A.take k.toNat) 1073741824 = F1 at *
    generalize feedFn p F1.1 (A.drop k.toNat) 1073741824 = F2 at *
    rw [hsplit]
    have q1 : eqB F2.1 F2.1 = true := eqB_iff.2 rfl
    have q2 : eqB (F1.2.1 ++ F2.2.1) (F1.2.1 ++ F2.2.1) = true := eqB_iff.2 rfl
    simp only [BEq.rfl, cond_true, q1, q2]
    exact ⟨⟨by omega, by omega, by omega⟩, z4, hf2, fun _ => few_same hfew2.1, fun _ => room_of (by omega) (by omega), fun _ => (by show (F1.2.1 ++ F2.2.1).length ≤ 1000000000; rw [List.length_append]; omega), trivial⟩
end Lc
