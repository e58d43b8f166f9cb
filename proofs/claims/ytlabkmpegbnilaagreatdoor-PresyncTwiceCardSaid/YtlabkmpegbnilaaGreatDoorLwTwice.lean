/- The law PresyncTwice of chapter 17: its condition holds. -/
import Derived.Test.YtlabkmpegbnilaaGreatDoorFeeds
set_option linter.unusedVariables false
set_option maxRecDepth 100000
namespace Lc
open Go

def PresyncTwice.pre (v : Int) (seeds salt cuts : List Int) : Prop := (0 ≤ v ∧ v ≤ 255) ∧ Bytes seeds ∧ HOk salt ∧ Bytes cuts ∧ (cuts.length : Int) ≤ 9223372036854775807
def PresyncTwice.fn (v : Int) (seeds salt cuts : List Int) : Bool := true
def PresyncTwice.inv9 (v : Int) (seeds salt cuts : List Int) (p : Par) (s : Pst) (out rest : List Hdr) (i : Int) : Prop :=
  p = madeParams v ∧ (0 < rest.length → 0 ≤ i ∧ i ≤ cuts.length) ∧
  ∃ (hv : 0 ≤ v ∧ v ≤ 255) (hs : Bytes seeds) (hsalt : HOk salt) (hpos : 0 < (madeL v seeds).length) (j : Nat), RSt (mkSetup v seeds salt hv hs hsalt hpos) j s out ∧ rest = (madeL v seeds ++ madeL v seeds).drop j ∧ Few s
def PresyncTwice.mes9 (v : Int) (seeds salt cuts : List Int) (p : Par) (s : Pst) (out rest : List Hdr) (i : Int) : Nat := if rest.length = 0 then 0 else (cuts.length + 1 - i).toNat
def PresyncTwice.VC : Prop := ∀ (x0 : Int) (x1 : (List Int)) (x2 : (List Int)) (x3 : (List Int)), PresyncTwice.pre x0 x1 x2 x3 → LSane.pre ∧ (((!(LSane.fn)) = true → (Ret1 false (PresyncTwice.fn x0 x1 x2 x3))) ∧ ((!(LSane.fn)) = false → LBegun.pre x0 x1 x2 (0 : Int) ∧ (let v9h : Par := (((0 : Int), ((List.replicate 32 (0 : Int)), ((List.replicate 32 (0 : Int)), ((0 : Int), ((0 : Int), ((0 : Int), ())))))), ((List.replicate 4 (0 : Int)), ((0 : Int), ((0 : Int), ((0 : Int), ((0 : Int), ([], ((0 : Int), ((0 : Int), ((0 : Int), ()))))))))))
 (let v10h : Pst := ((0 : Int), ((List.replicate 32 (0 : Int)), ((List.replicate 4 (0 : Int)), (((0 : Int), ((List.replicate 32 (0 : Int)), ((0 : Int), ((0 : Int), ([], ()))))), ((List.replicate 4 (0 : Int)), (((0 : Int), ((List.replicate 32 (0 : Int)), ((0 : Int), ((0 : Int), ([], ()))))), ((List.replicate 4 (0 : Int)), ((0 : Int), ([], ([], ()))))))))))
 (let v31 : Bool := (((LBegun.fn x0 x1 x2 (0 : Int)).2.2.length : Int) == (0 : Int))
 ((v31 = true → (Ret1 true (PresyncTwice.fn x0 x1 x2 x3))) ∧ (v31 = false → Room (LBegun.fn x0 x1 x2 (0 : Int)).2.2.length 80 ∧ Room ((LBegun.fn x0 x1 x2 (0 : Int)).2.2.length + (LBegun.fn x0 x1 x2 (0 : Int)).2.2.length) 80 ∧ (let v35h : (List Hdr) := ((LBegun.fn x0 x1 x2 (0 : Int)).2.2 ++ (LBegun.fn x0 x1 x2 (0 : Int)).2.2)
 (PresyncTwice.inv9 x0 x1 x2 x3 ((LBegun.fn x0 x1 x2 (0 : Int)).1) ((LBegun.fn x0 x1 x2 (0 : Int)).2.1) [] v35h (0 : Int) ∧ ∀ (v9_1 : Par) (v10_1 : Pst) (v12 : (List Hdr)) (v13 : (List Hdr)) (v14 : Int), PresyncTwice.inv9 x0 x1 x2 x3 v9_1 v10_1 v12 v13 v14 → (((decide ((v13.length : Int) > (0 : Int))) = true → (((decide (v14 < (x3.length : Int))) = true → (0 ≤ v14 ∧ v14 < (x3.length : Int)) ∧ (let v53 : Int := (if (IntKind.i64.wrap (x3.getD (Int.toNat v14) (0 : Int))) < (v13.length : Int) then (IntKind.i64.wrap (x3.getD (Int.toNat v14) (0 : Int))) else (v13.length : Int))
 (0 ≤ (0 : Int) ∧ (0 : Int) ≤ v53 ∧ v53 ≤ (v13.length : Int)) ∧ (let v59 : (List Hdr) := ((v13.drop (Int.toNat (0 : Int))).take ((Int.toNat v53) - (Int.toNat (0 : Int))))
 PFeed.pre v9_1 v10_1 v59 (1073741824 : Int) ∧ (let v16h : Pst := ((0 : Int), ((List.replicate 32 (0 : Int)), ((List.replicate 4 (0 : Int)), (((0 : Int), ((List.replicate 32 (0 : Int)), ((0 : Int), ((0 : Int), ([], ()))))), ((List.replicate 4 (0 : Int)), (((0 : Int), ((List.replicate 32 (0 : Int)), ((0 : Int), ((0 : Int), ([], ()))))), ((List.replicate 4 (0 : Int)), ((0 : Int), ([], ([], ()))))))))))
 (let v65 : Bool := ((PFeed.fn v9_1 v10_1 v59 (1073741824 : Int)).2.2 != (0 : Int))
 (v65 = false → v65 = false) ∧ (v65 = false → PMemory.pre ((PFeed.fn v9_1 v10_1 v59 (1073741824 : Int)).1)) ∧ (v65 = false → v65 = false) ∧ (v65 = false → v65 = false) ∧ (let v70 : Bool := (bif v65 then true else (decide ((PMemory.fn ((PFeed.fn v9_1 v10_1 v59 (1073741824 : Int)).1)) > (1088 : Int))))
 ((v70 = true → (Ret1 false (PresyncTwice.fn x0 x1 x2 x3))) ∧ (v70 = false → Room (v12.length + (PFeed.fn v9_1 v10_1 v59 (1073741824 : Int)).2.1.length) 80 ∧ (0 ≤ v53 ∧ v53 ≤ (v13.length : Int) ∧ (v13.length : Int) ≤ (v13.length : Int)) ∧ (let v77 : (List Hdr) := ((v13.drop (Int.toNat v53)).take ((Int.toNat (v13.length : Int)) - (Int.toNat v53)))
 (PresyncTwice.inv9 x0 x1 x2 x3 v9_1 ((PFeed.fn v9_1 v10_1 v59 (1073741824 : Int)).1) (v12 ++ (PFeed.fn v9_1 v10_1 v59 (1073741824 : Int)).2.1) v77 (IntKind.i64.wrap (v14 + (1 : Int))) ∧ PresyncTwice.mes9 x0 x1 x2 x3 v9_1 ((PFeed.fn v9_1 v10_1 v59 (1073741824 : Int)).1) (v12 ++ (PFeed.fn v9_1 v10_1 v59 (1073741824 : Int)).2.1) v77 (IntKind.i64.wrap (v14 + (1 : Int))) < PresyncTwice.mes9 x0 x1 x2 x3 v9_1 v10_1 v12 v13 v14)))))))))) ∧ ((decide (v14 < (x3.length : Int))) = false → (0 ≤ (0 : Int) ∧ (0 : Int) ≤ (v13.length : Int) ∧ (v13.length : Int) ≤ (v13.length : Int)) ∧ (let v59_1 : (List Hdr) := ((v13.drop (Int.toNat (0 : Int))).take ((Int.toNat (v13.length : Int)) - (Int.toNat (0 : Int))))
 PFeed.pre v9_1 v10_1 v59_1 (1073741824 : Int) ∧ (let v16_1h : Pst := ((0 : Int), ((List.replicate 32 (0 : Int)), ((List.replicate 4 (0 : Int)), (((0 : Int), ((List.replicate 32 (0 : Int)), ((0 : Int), ((0 : Int), ([], ()))))), ((List.replicate 4 (0 : Int)), (((0 : Int), ((List.replicate 32 (0 : Int)), ((0 : Int), ((0 : Int), ([], ()))))), ((List.replicate 4 (0 : Int)), ((0 : Int), ([], ([], ()))))))))))
 (let v65_1 : Bool := ((PFeed.fn v9_1 v10_1 v59_1 (1073741824 : Int)).2.2 != (0 : Int))
 (v65_1 = false → v65_1 = false) ∧ (v65_1 = false → PMemory.pre ((PFeed.fn v9_1 v10_1 v59_1 (1073741824 : Int)).1)) ∧ (v65_1 = false → v65_1 = false) ∧ (v65_1 = false → v65_1 = false) ∧ (let v70_1 : Bool := (bif v65_1 then true else (decide ((PMemory.fn ((PFeed.fn v9_1 v10_1 v59_1 (1073741824 : Int)).1)) > (1088 : Int))))
 ((v70_1 = true → (Ret1 false (PresyncTwice.fn x0 x1 x2 x3))) ∧ (v70_1 = false → Room (v12.length + (PFeed.fn v9_1 v10_1 v59_1 (1073741824 : Int)).2.1.length) 80 ∧ (0 ≤ (v13.length : Int) ∧ (v13.length : Int) ≤ (v13.length : Int) ∧ (v13.length : Int) ≤ (v13.length : Int)) ∧ (let v77_1 : (List Hdr) := ((v13.drop (Int.toNat (v13.length : Int))).take ((Int.toNat (v13.length : Int)) - (Int.toNat (v13.length : Int))))
 (PresyncTwice.inv9 x0 x1 x2 x3 v9_1 ((PFeed.fn v9_1 v10_1 v59_1 (1073741824 : Int)).1) (v12 ++ (PFeed.fn v9_1 v10_1 v59_1 (1073741824 : Int)).2.1) v77_1 (IntKind.i64.wrap (v14 + (1 : Int))) ∧ PresyncTwice.mes9 x0 x1 x2 x3 v9_1 ((PFeed.fn v9_1 v10_1 v59_1 (1073741824 : Int)).1) (v12 ++ (PFeed.fn v9_1 v10_1 v59_1 (1073741824 : Int)).2.1) v77_1 (IntKind.i64.wrap (v14 + (1 : Int))) < PresyncTwice.mes9 x0 x1 x2 x3 v9_1 v10_1 v12 v13 v14))))))))))) ∧ ((decide ((v13.length : Int) > (0 : Int))) = false → ((v10_1.1 == (3 : Int)) = true → (v10_1.1 == (3 : Int)) = true) ∧ ((v10_1.1 == (3 : Int)) = true → (v10_1.1 == (3 : Int)) = true) ∧ ((v10_1.1 == (3 : Int)) = true → QSameHdrs.pre v12 ((LBegun.fn x0 x1 x2 (0 : Int)).2.2)) ∧ ((v10_1.1 == (3 : Int)) = true → (v10_1.1 == (3 : Int)) = true) ∧ (let v85 : Bool := (bif (v10_1.1 == (3 : Int)) then (QSameHdrs.fn v12 ((LBegun.fn x0 x1 x2 (0 : Int)).2.2)) else false)
 (v85 = true → v85 = true) ∧ (v85 = true → PMemory.pre v10_1) ∧ (v85 = true → v85 = true) ∧ (v85 = true → v85 = true) ∧ (v85 = true → (16 : Int) ≠ 0) ∧ (v85 = true → v85 = true) ∧ (v85 = true → v85 = true) ∧ (v85 = true → v85 = true) ∧ (v85 = true → v85 = true) ∧ (let v94 : Bool := (bif v85 then (decide ((PMemory.fn v10_1) ≤ (IntKind.i64.wrap ((IntKind.i64.wrap (Int.tdiv ((LBegun.fn x0 x1 x2 (0 : Int)).2.2.length : Int) (16 : Int))) + (1 : Int))))) else false)
 (Ret1 v94 (PresyncTwice.fn x0 x1 x2 x3)))))))))))))))
theorem rs_len {S : Setup} {j : Nat} {s : Pst} {acc : List Hdr} (h : RS S j s acc) : acc.length ≤ S.l.length := by
  obtain ⟨_, _, _, _, h⟩ := h
  rcases h with ⟨_, _, _, _, _, _, h⟩ | ⟨k, _, _, _, _, _, _, h⟩ | ⟨_, _, _, _, h⟩
  · rw [h]; exact Nat.zero_le _
  · have := congrArg List.length h
    rw [List.length_append, List.length_take] at this
    omega
  · rw [h]; exact Nat.le_refl _
theorem twice_step {v : Int} {seeds salt cuts : List Int} {s : Pst} {out rest : List Hdr} {i : Int} (h : PresyncTwice.inv9 v seeds salt cuts (madeParams v) s out rest i) (n : Nat) :
    FeedPre (madeParams v) s (rest.take n) 1073741824 ∧ (feedFn (madeParams v) s (rest.take n) 1073741824).2.2 = 0 ∧ memFn (feedFn (madeParams v) s (rest.take n) 1073741824).1 ≤ 1088 ∧ PMemory.pre (feedFn (madeParams v) s (rest.take n) 1073741824).1 ∧
    Room (out.length + (feedFn (madeParams v) s (rest.take n) 1073741824).2.1.length) 80 ∧ ∀ i' : Int, (0 < (rest.drop n).length → 0 ≤ i' ∧ i' ≤ cuts.length) → PresyncTwice.inv9 v seeds salt cuts (madeParams v) (feedFn (madeParams v) s (rest.take n) 1073741824).1 (out ++ (feedFn (madeParams v) s (rest.take n) 1073741824).2.1) (rest.drop n) i' := by
  obtain ⟨_, _, hv, hs, hsalt, hpos, j, hr, he, hfew⟩ := h
  obtain ⟨g1, g2⟩ := madeL_ok hv hs
  have hrest : ∀ x, x ∈ rest → HdrOk x := fun x hx => by
    rw [he] at hx
    have hx := List.mem_of_mem_drop hx
    rcases List.mem_append.1 hx with hx | hx <;> exact g1 x hx
  have hlen : rest.length ≤ 200 := by rw [he, List.length_drop, List.length_append]; omega
  have htl : (rest.take n).length ≤ 200 := by rw [List.length_take]; omega
  have hf := feed_pre (s := s) (l := rest.take n) (made_ok hv) hfew.1 (fun x hx => hrest x (List.mem_of_mem_take hx)) (by omega)
  obtain ⟨f1, f2⟩ := few_feed hf
  have hsp : (madeL v seeds ++ madeL v seeds).drop j = rest.take n ++ rest.drop n := by rw [List.take_append_drop]; exact he.symm
  obtain ⟨q1, q2⟩ := rs_feed _ hr hsp
  have ho := rs_len hr.1
  have ho : out.length ≤ (madeL v seeds).length := ho
  refine ⟨hf, q1, ?_, ⟨by have := f1.2.1; omega, by have := f1.2.2; omega⟩, room_of (by omega) (by omega), fun i' hi' => ⟨rfl, hi', hv, hs, hsalt, hpos, _, q2, ?_, f1⟩⟩
  · have := f1.2.1
    have := f1.2.2
    unfold memFn; omega
  · rw [he, List.drop_drop]
    by_cases hle : n ≤ rest.length
    · congr 1; rw [List.length_take, Nat.min_eq_left]; rw [← he]; exact hle
    · rw [List.drop_eq_nil_of_le, List.drop_eq_nil_of_le]
      · rw [List.length_take]
        have : (List.drop j (madeL v seeds ++ madeL v seeds)).length = rest.length := by rw [← he]
        rw [List.length_drop] at this
        rw [List.length_drop]; omega
      · have : (List.drop j (madeL v seeds ++ madeL v seeds)).length = rest.length := by rw [← he]
        rw [List.length_drop] at this
        omega
theorem twice_end {v : Int} {seeds salt cuts : List Int} {s : Pst} {out : List Hdr} {i : Int} (h : PresyncTwice.inv9 v seeds salt cuts (madeParams v) s out [] i) :
    s.1 = 3 ∧ out = madeL v seeds ∧ memFn s ≤ ((madeL v seeds).length : Int) / 16 + 1 ∧ PMemory.pre s := by
  obtain ⟨_, _, hv, hs, hsalt, hpos, j, ⟨⟨_, _, _, _, hr⟩, _, _⟩, he, hfew⟩ := h
  have hj := congrArg List.length he
  rw [List.length_drop, List.length_append, List.length_nil] at hj
  rcases hr with ⟨b1, _⟩ | ⟨k, b0, b1, _⟩ | ⟨_, b1, b2, b3, b4⟩
  · have b1 : j < (madeL v seeds).length := b1
    omega
  · have b0 : j = (madeL v seeds).length + k := b0
    have b1 : k < (madeL v seeds).length := b1
    omega
  · have hst : (startFn (madeParams v)).1.1 = 0 := by rw [startFn, if_neg (by rw [made_valid hv]; simp)]
    have hc := bits_count hsalt (madeL v seeds) (startFn (madeParams v)).1 (by omega) (headers_acc (madeParams v) (seeds.take 100) _)
    have b2 : s.2.2.2.2.2.2.2.2.1 = bitsGo (madeParams v) salt (startFn (madeParams v)).1 (madeL v seeds) := b2
    refine ⟨b1, b4, ?_, ⟨by have := hfew.2.1; omega, by have := hfew.2.2; omega⟩⟩
    unfold memFn
    rw [b3, b2, hc, hst, List.length_nil]
    have hb := hsalt.2.getD 0
    unfold upFn
    split <;> split <;> omega
theorem twice_mes {v : Int} {seeds salt cuts : List Int} {p p' : Par} {s s' : Pst} {out out' rest rest' : List Hdr} {i j : Int} (h : 0 < rest.length) (h0 : 0 ≤ i) (h1 : i ≤ cuts.length) (hj : ¬ rest'.length = 0 → j = i + 1) :
    PresyncTwice.mes9 v seeds salt cuts p' s' out' rest' j < PresyncTwice.mes9 v seeds salt cuts p s out rest i := by
  unfold PresyncTwice.mes9
  rw [if_neg (show ¬ rest.length = 0 by omega)]
  split
  · omega
  · rename_i hr; have := hj hr; omega
theorem PresyncTwice.vc : PresyncTwice.VC := by
  intro v seeds salt cuts ⟨h1, h2, h3, h4, h5⟩
  obtain ⟨g1, g2⟩ := madeL_ok h1 h2
  simp only [imp_self, true_and, lsane, LBegun.fn, PFeed.fn, QSameHdrs.fn, PMemory.fn, ret1, PresyncTwice.fn]
  refine ⟨trivial, fun h => (by cases h), fun _ => ⟨⟨h1, h2, h3, by omega, by omega⟩, fun _ => trivial, fun hn => ?_⟩⟩
  have hn : 0 < (madeL v seeds).length := by
    have := of_decide_eq_false (show decide (((madeL v seeds).length : Int) = 0) = false from by rw [← hn]; rfl)
    omega
  have hR := made_rst h1 h2 h3 hn
  have hm0 := minv0 (made_ok h1) hR.2.1 (show U32 1073741824 from ⟨by decide, by decide⟩) hR.2.2
  refine ⟨room_of (by omega) (by omega), room_of (by omega) (by omega), ⟨rfl, fun _ => ⟨by omega, by omega⟩, h1, h2, h3, hn, 0, hR, rfl, hR.2.1, hm0.bits, hm0.buf⟩, ?_⟩
  rintro p s out rest i hi
  obtain rfl : p = madeParams v := hi.1
  have e0 : ∀ k : Int, (rest.drop (Int.toNat 0)).take (k.toNat - Int.toNat 0) = rest.take k.toNat := fun k => rfl
  have e1 : ∀ k : Int, k ≤ rest.length → (rest.drop k.toNat).take (Int.toNat (rest.length : Int) - k.toNat) = rest.drop k.toNat := fun k hk => by
    rw [List.take_of_length_le]; rw [List.length_drop]; omega
  refine ⟨fun hc => ?_, fun hc => ?_⟩
  · have hc : 0 < rest.length := by have := of_decide_eq_true hc; omega
    obtain ⟨i1, i2⟩ := hi.2.1 hc
    refine ⟨fun hd => ?_, fun hd => ?_⟩
    · have hd : i < cuts.length := of_decide_eq_true hd
      have hb := h4.getD i.toNat
      rw [i64w (n := cuts.getD i.toNat 0) (by omega) (by omega)]
      have hk : ∃ k : Int, (if cuts.getD i.toNat 0 < (rest.length : Int) then cuts.getD i.toNat 0 else (rest.length : Int)) = k ∧ 0 ≤ k ∧ k ≤ rest.length := by
        by_cases hlt : cuts.getD i.toNat 0 < (rest.length : Int)
        · exact ⟨_, if_pos hlt, hb.1, by omega⟩
        · exact ⟨_, if_neg hlt, by omega, by omega⟩
      obtain ⟨k, hk, hk0, hk1⟩ := hk
      simp only [hk, e0, e1 k hk1]
      obtain ⟨s1, s2, s3, s4, s5, s6⟩ := twice_step hi k.toNat
      have sv := s6 (i + 1) (fun _ => ⟨by omega, by omega⟩)
      rw [s2, i64w (n := i + 1) (by omega) (by omega)]
      rw [decide_eq_false (by omega)]
      refine ⟨⟨i1, hd⟩, ⟨by omega, hk0, hk1⟩, s1, fun _ => s4, fun hbad => (by cases hbad), fun _ => ⟨s5, ⟨hk0, hk1, by omega⟩, sv, ?_⟩⟩
      exact twice_mes hc i1 i2 (fun _ => rfl)
    · have hd : ¬ i < cuts.length := of_decide_eq_false hd
      simp only [e0, e1 (rest.length : Int) (by omega)]
      obtain ⟨s1, s2, s3, s4, s5, s6⟩ := twice_step hi (Int.toNat (rest.length : Int))
      have hz : (rest.drop (Int.toNat (rest.length : Int))).length = 0 := by rw [List.length_drop]; omega
      have sv := s6 (IntKind.i64.wrap (i + 1)) (fun h => by omega)
      rw [s2, decide_eq_false (by omega)]
      refine ⟨⟨by omega, by omega, by omega⟩, s1, fun _ => s4, fun hbad => (by cases hbad), fun _ => ⟨s5, ⟨by omega, by omega, by omega⟩, sv, ?_⟩⟩
      exact twice_mes hc i1 i2 (fun h => absurd hz h)
  · have hc : rest = [] := by
      have := of_decide_eq_false hc
      exact List.eq_nil_of_length_eq_zero (by omega)
    subst hc
    obtain ⟨t1, t2, t3, t4⟩ := twice_end hi
    have q : eqB out (madeL v seeds) = true := eqB_iff.2 t2
    have hdv : Int.tdiv ((madeL v seeds).length : Int) 16 = ((madeL v seeds).length : Int) / 16 := Int.tdiv_eq_ediv_of_nonneg (by omega)
    have hX : memFn s ≤ IntKind.i64.wrap (IntKind.i64.wrap (Int.tdiv ((madeL v seeds).length : Int) 16) + 1) := by
      rw [hdv, i64w (n := ((madeL v seeds).length : Int) / 16) (by omega) (by omega), i64w (by omega) (by omega)]; exact t3
    rw [t1]
    refine ⟨fun _ => (by show out.length ≤ 1000000000; rw [t2]; omega), fun _ => t4, fun _ => by omega, ?_⟩
    rw [q]; exact decide_eq_true hX
end Lc
