/- The engine, part N, third text: function values, tails of rows, structs with their rows. -/
import Derived.Test.YtbaiojghpadffaaEngNm
namespace Lc
open Go Go.RowKit
set_option linter.unusedVariables false
set_option linter.unusedSimpArgs false

section
variable {E : Env} {B0 : Nat → Prop} {F : FH} {ρ : RM} {L : HL} {w : World} {o : Oper} {ev : Operand → Value} {r : Res}

theorem cap_rep {H : Array Obj} (hR : HRel F ρ L H B0) {a : AV} {b : Option Blk} {v : Value} {tv : TV} (ha : RepAV F ρ L a v) (hb : b = blkL L a) (e : capAV a b = some tv) : RepV F tv.t tv.x v := by
  unfold capAV at e
  split at e
  · cases e; exact repAV_val.1 ha
  · cases e
    obtain ⟨bb, off, cs, hv, h1, h2⟩ := repAV_cptr.1 ha
    subst hv
    simp only [RepV, Ty.isAgg]
    exact ⟨bb, off, cs, rfl, h1, h2⟩
  · rename_i k root path blk
    split at e
    · rename_i hz
      simp only [Bool.and_eq_true, Bool.not_eq_true'] at hz
      obtain ⟨hz, hrow⟩ := hz
      split at e
      · rename_i t x hg
        cases e
        obtain ⟨k', hk', hL⟩ := blkL_some hb
        cases hk'
        obtain ⟨rfl, hok, bb, cap, u', off, h1, h2, h3⟩ := repAV_ptr.1 ha blk hL
        obtain ⟨c, eid, fr, hd, cl, rest, g1, g2, g3, g4, g5, g6⟩ := hR.live hL h1 (notMap_row h2 hrow)
        obtain ⟨o2, n1, n2, n3⟩ := blk_get g5 hok hrow hg
        rw [h2] at n1; cases n1
        subst h3
        simp only [RepV, Ty.isAgg]
        exact ⟨bb, cap.2 + off, _, rfl, n3, fun i c hc => by rw [Nat.add_assoc, g6, if_pos hz]; exact take_drop_get hc⟩
      · cases e
    · cases e
  · cases e

theorem fn_cap {f : Nat} {c : Ty} {x : c.den} {v : Value} : RepV F (.fn f c) x v ↔ ∃ cv, v = .func (.func f) #[] #[cv] ∧ RepV F c x cv := by
  constructor
  · rintro ⟨cv, h1, h2⟩
    simp only [List.cons.injEq, and_true] at h1
    exact ⟨cv, h1, h2⟩
  · rintro ⟨cv, rfl, h2⟩
    exact ⟨cv, rfl, h2⟩

theorem sound_makeFunc (hI : In E B0 F ρ L w) {fn : Fn} {first captured : Array Operand} {args : List (AV × Option Blk)} (hop : o.op = .makeFunc fn first captured) (ha : ArgsOk F ρ L args ((first ++ captured).toList.map ev))
    (e : evalMakeFunc fn first.size args = some r) : Does E.P o ev w (Post B0 F ρ L w r.v (r.L L)) := by
  unfold evalMakeFunc at e
  split at e
  · rename_i f a b hsz
    split at e
    · rename_i tv htv
      cases e
      have hf : first = #[] := Array.eq_empty_of_size_eq_zero hsz
      subst hf
      simp only [Array.empty_append] at ha
      obtain ⟨X, hX⟩ : ∃ X, captured.toList = [X] := by
        match hc : captured.toList, ha with
        | [X], _ => exact ⟨X, rfl⟩
        | [], ha => exact ha.elim
        | _ :: _ :: _, ha => exact ha.2.elim
      rw [hX] at ha
      have hcap : captured = #[X] := by apply Array.ext'; simpa using hX
      have hr := cap_rep hI.rel ha.1.1 ha.1.2 htv
      refine does_pure hI (v := .func (.func f) #[] #[ev X]) ?_ (repAV_val.2 (fn_cap.2 ⟨ev X, rfl, hr⟩)) rfl
      simp [execOp, hop, Instr.makeFunc, hcap]
    · cases e
  · cases e

theorem argsOk_snoc {a : AV × Option Blk} {v : Value} (h : Arg F ρ L a v) : ∀ (as : List (AV × Option Blk)) (vs : List Value), ArgsOk F ρ L as vs → ArgsOk F ρ L (as ++ [a]) (vs ++ [v])
  | [], [], _ => ⟨h, trivial⟩
  | _ :: as, _ :: vs, h2 => ⟨h2.1, argsOk_snoc h as vs h2.2⟩
  | [], _ :: _, h2 => h2.elim
  | _ :: _, [], h2 => h2.elim

/-- The call of a function value. -/
theorem sound_callC (hI : In E B0 F ρ L w) (hgl : GlobOk E.glob F) {c : Call} {X : Operand} {args : List (AV × Option Blk)} {f : FuncId} {cn : Con} {cv : Value} (hop : o.op = .call c) (hcal : c.callee = .value X) (hX : ev X = .func (.func f) #[] #[cv])
    (hs : Sound E.P E.glob f cn) (ha : ArgsOk F ρ L args (c.args.toList.map ev ++ [cv])) {xs : Tup cn.params} {cs : List Prop} (hargs : mkArgs (!(cn.rets.all RK.flatOk)) cn.params args = some (xs, cs)) (hcs : ∀ c, c ∈ cs → c) (hpre : cn.pre xs)
    {d : Nat} (hnew : ∀ p, p ∈ (mkRets E.fz d 0 cn.rets (cn.fn xs)).2 → L p.1 = none) (hkn : ((mkRets E.fz d 0 cn.rets (cn.fn xs)).2.map (·.1)).Nodup) :
    Does E.P o ev w (Post B0 F ρ L w (oneAV cn.rets (mkRets E.fz d 0 cn.rets (cn.fn xs)).1) (withNew (mkRets E.fz d 0 cn.rets (cn.fn xs)).2 L)) := by
  obtain ⟨fn, hf1, hf2, hf3⟩ := hs.fn
  have hrun : (execOp ev o).run E.P w = .ok (.enter f (c.args.toList.map ev ++ [cv]).toArray) w := by
    have e1 : c.args.map ev ++ #[cv] = (c.args.toList.map ev ++ [cv]).toArray := by apply Array.ext'; simp
    have hn : fn.name ≠ "runtime.NumGoroutine" := by simpa using hf2
    have hb : fn.body ≠ none := by intro h; rw [h] at hf3; cases hf3
    simp only [execOp, hop, resolve, hcal, hX, Deferred.ofValue, invoke, callFunc, Sem.run_bind, Sem.run_pure, Result.andThen_ok, Array.empty_append]
    rw [← e1]
    simp [hf1, hn, hb]
  have hrep := mkArgs_sound hI _ _ _ _ _ _ ha hargs hcs
  have hFl : F.le (if (!(cn.rets.all RK.flatOk)) then F else full w.heap) := by
    split
    · exact FH.le.rfl
    · exact hI.rel.le_full
  have hcons : ∀ b i v, (if (!(cn.rets.all RK.flatOk)) then F else full w.heap) b i = some v → cellAt w.heap b i = some v := by
    split
    · exact hI.rel.cons
    · exact fun _ _ _ h => h
  refine does_enter hrun ((hs.calls _ w xs _ hcons (hgl.mono hFl) hrep hpre).mono ?_)
  rintro e w' ⟨v, F1, rv, bs, rfl, k1, k2, k3, k4, k5, k6, k7⟩
  exact ⟨v, rfl, call_post hI k1 k2 k3 k4 k5 k6 k7 hnew hkn⟩

theorem sound_extC (hI : In E B0 F ρ L w) {c : Call} {X : Operand} {args : List (AV × Option Blk)} {f : FuncId} {cn : Con} {cv : Value} (hop : o.op = .call c) (hcal : c.callee = .value X) (hX : ev X = .func (.func f) #[] #[cv])
    (hs : SoundE E.P f cn) (ha : ArgsOk F ρ L args (c.args.toList.map ev ++ [cv])) {xs : Tup cn.params} {cs : List Prop} (hargs : mkArgs (!(cn.rets.all RK.flatOk)) cn.params args = some (xs, cs)) (hcs : ∀ c, c ∈ cs → c) (hpre : cn.pre xs)
    {d : Nat} (hnew : ∀ p, p ∈ (mkRets E.fz d 0 cn.rets (cn.fn xs)).2 → L p.1 = none) (hkn : ((mkRets E.fz d 0 cn.rets (cn.fn xs)).2.map (·.1)).Nodup) :
    Does E.P o ev w (Post B0 F ρ L w (oneAV cn.rets (mkRets E.fz d 0 cn.rets (cn.fn xs)).1) (withNew (mkRets E.fz d 0 cn.rets (cn.fn xs)).2 L)) := by
  have hrep := mkArgs_sound hI _ _ _ _ _ _ ha hargs hcs
  have hcons : ∀ b i v, (if (!(cn.rets.all RK.flatOk)) then F else full w.heap) b i = some v → cellAt w.heap b i = some v := by
    split
    · exact hI.rel.cons
    · exact fun _ _ _ h => h
  obtain ⟨v, rv, h1, h2, h3⟩ := hs.run _ w xs _ hrep hpre
  have hrun : (execOp ev o).run E.P w = .ok (.value v) w := by
    have e1 : c.args.map ev ++ #[cv] = (c.args.toList.map ev ++ [cv]).toArray := by apply Array.ext'; simp
    simp only [execOp, hop, resolve, hcal, hX, Deferred.ofValue, invoke, Sem.run_bind, Sem.run_pure, Result.andThen_ok, Array.empty_append]
    rw [e1, h1]
  exact does_ok hrun (call_post hI FH.le.rfl (fun _ _ => rfl) hcons h2 List.nodup_nil h3 (Below.refl _ _) hnew hkn)

theorem sound_tail (hI : In E B0 F ρ L w) {t : TypeId} {X LO : Operand} {x : AV × Option Blk} {l : AV} (hop : o.op = .slice t X (some LO) none none) (hx : Arg F ρ L x (ev X)) (hl : RepAV F ρ L l (ev LO)) (hnew : ∀ p, p ∈ r.new → L p.1 = none)
    (e : evalTail (E.ty t) o.dst x l = some r) (hc : ∀ c, c ∈ r.cs → c) : Does E.P o ev w (Post B0 F ρ L w r.v (r.L L)) := by
  obtain ⟨a, b⟩ := x
  obtain ⟨ha, hb⟩ := hx
  simp only at ha hb
  unfold evalTail at e
  simp only at e
  split at e
  · rename_i u k root m ww xs lk d n ht hd hn
    split at e
    · rename_i xs' e2
      have := TV.as_eq e2
      cases this
      cases e
      obtain ⟨l0, l1⟩ := one_mem hc
      obtain ⟨kd, hv⟩ := num_rep hl hn
      have hk : L d = none := hnew _ (List.mem_singleton.2 rfl)
      obtain ⟨k', hk', hL⟩ := blkL_some hb
      cases hk'
      obtain ⟨hrt, hok, hw⟩ := repAV_whole.1 ha _ hL
      obtain ⟨eid, g1, g2⟩ := (hI.env.ty _ _ ht).slc
      rcases hw with ⟨h1, h2, h3, h4, h5⟩ | ⟨bb, cap, n', u', off, h1, h2, h3⟩
      · exfalso
        have h4 : List.length xs' = 0 := h4
        rw [h4] at l1; omega
      · have hroot : root = .arr m u := hrt.symm
        subst hroot
        simp only [Ty.nav, Option.some.injEq, Prod.mk.injEq, Ty.arr.injEq] at h2
        obtain ⟨⟨rfl, rfl⟩, rfl⟩ := h2
        simp only [lcap, List.isEmpty_nil, Bool.and_self, if_true, Blk.len, lenT, Nat.add_zero] at h3
        obtain ⟨cc, ce, fr, hd2, cl, rest, q1, q2, q3, q4, q5, q6⟩ := hI.rel.live hL h1 rfl
        simp only [RepC, if_true] at q5
        have hle : n.toNat < List.length xs' := by omega
        have hcap : ¬ cap.1 = n.toNat := by have := q5.2.2; omega
        have hrun : (execOp ev o).run E.P w = .ok (.value (.slice (some ⟨bb, cap.2 + n.toNat * u.size, none⟩) (List.length xs' - n.toNat) (cap.1 - n.toNat))) w := by
          have hb1 : Bd 0 (some (ev LO)) n := .inr ⟨kd, by rw [hv]⟩
          have hb2 : Bd (List.length xs' : Nat) (none : Option Value) ((List.length xs' : Nat) : Int) := .inl ⟨rfl, rfl⟩
          have hsb := run_sliceBounds (P := E.P) (w := w) true (List.length xs') cap.1 hb1 hb2 ⟨l0, by omega, by have := q5.2.2; omega⟩
          simp [execOp, hop, h3, Instr.sliceAt, Instr.slice, run_underlying g1, hsb, run_sizeOf' g2, hcap, addr_add]
        rw [L_move]
        refine does_ok hrun ⟨F, _, ?_, hI.rel.tail (n := n.toNat) hL hk h1 (by omega), FH.le.rfl, fun _ _ => rfl, ?_, Kept.refl _ _⟩
        · refine repAV_whole.2 (fun blk hL' => ?_)
          rw [upd_same] at hL'
          cases hL'
          refine ⟨rfl, by simp [okB], .inr ⟨bb, (cap.1 - n.toNat, cap.2 + n.toNat * u.size), 0, u, 0, by rw [upd_same], rfl, ?_⟩⟩
          simp only [lcap, List.isEmpty_nil, Bool.and_self, if_true, Blk.len, lenT, List.length_drop, Nat.add_zero]
        · intro k1 hs b1 e1
          by_cases h4 : k1 = d
          · subst h4; rw [hk] at hs; cases hs
          · rw [upd_ne _ _ h4] at e1 ⊢
            by_cases h5 : k1 = k
            · subst h5; rw [upd_same] at e1; cases e1
            · rw [upd_ne _ _ h5] at e1; exact ⟨b1, e1, rfl, rfl, rfl, rfl⟩
    · cases e
  · cases e

theorem lkUnder_eq : ∀ (p q r : List Stp), lkUnder p q = some r → q = p ++ r := by
  intro p
  induction p with
  | nil => intro q r e; simp [lkUnder] at e; subst e; rfl
  | cons s p ih =>
    intro q r e
    cases s with
    | idx i => simp [lkUnder] at e
    | fld i =>
      cases q with
      | nil => simp [lkUnder] at e
      | cons s q =>
        cases s with
        | idx j => simp [lkUnder] at e
        | fld j =>
          simp only [lkUnder] at e
          split at e
          · rename_i hij
            have : i = j := by simpa using hij
            subst this
            rw [ih q r e]; rfl
          · cases e

theorem fld_split : ∀ {p q : List Stp}, fldOnly (p ++ q) = true → fldOnly p = true ∧ fldOnly q = true := by
  intro p
  induction p with
  | nil => intro q h; exact ⟨rfl, h⟩
  | cons s p ih =>
    intro q h
    cases s with
    | fld i => simp only [List.cons_append, fldOnly] at h ⊢; exact ih h
    | idx i => simp [fldOnly] at h

theorem nav_split : ∀ (root : Ty) (p q : List Stp) (t u : Ty) (o1 o2 : Nat), root.nav p = some (t, o1) → root.nav (p ++ q) = some (u, o2) → fldOnly p = true → ∃ o', t.nav q = some (u, o') ∧ o2 = o1 + o' := by
  intro root
  induction root with
  | pair a b iha ihb =>
    intro p q t u o1 o2 h1 h2 hf
    cases p with
    | nil => simp [Ty.nav] at h1; obtain ⟨rfl, rfl⟩ := h1; exact ⟨o2, by simpa using h2, by omega⟩
    | cons s p =>
      cases s with
      | idx i => simp [fldOnly] at hf
      | fld i =>
        cases i with
        | zero =>
          simp only [List.cons_append, Ty.nav] at h1 h2
          exact iha p q t u o1 o2 h1 h2 hf
        | succ i =>
          simp only [List.cons_append, Ty.nav] at h1 h2
          split at h1
          · rename_i v ov e
            cases h1
            split at h2
            · rename_i v2 ov2 e2
              cases h2
              obtain ⟨o', q1, q2⟩ := ihb (.fld i :: p) q t u ov ov2 e e2 hf
              exact ⟨o', q1, by omega⟩
            · cases h2
          · cases h1
  | _ =>
    intro p q t u o1 o2 h1 h2 hf
    cases p with
    | nil => simp [Ty.nav] at h1; obtain ⟨rfl, rfl⟩ := h1; exact ⟨o2, by simpa using h2, by omega⟩
    | cons s p => cases s <;> simp [Ty.nav, fldOnly] at h1 hf

theorem sound_loadL (hI : In E B0 F ρ L w) {t : TypeId} {X : Operand} {x : AV × Option Blk} (hop : o.op = .load t X) (hx : Arg F ρ L x (ev X)) (e : evalLoadL (E.ty t) x.1 x.2 = some r) : Does E.P o ev w (Post B0 F ρ L w r.v (r.L L)) := by
  obtain ⟨a, b⟩ := x
  obtain ⟨ha, hb⟩ := hx
  simp only at ha hb e
  unfold evalLoadL at e
  split at e
  · rename_i t' k root path blk ht
    split at e
    · cases e
    rename_i hrw
    have hrow0 : blk.row = false := by simpa using hrw
    have hrow : (blk.row && path.isEmpty) = false := by rw [hrow0]; rfl
    split at e
    · rename_i u y hg
      split at e
      · rename_i hu; subst hu
        cases e
        obtain ⟨k', hk', hL⟩ := blkL_some hb
        cases hk'
        obtain ⟨rfl, hok, bb, cap, u', off, h1, h2, h3⟩ := repAV_ptr.1 ha blk hL
        obtain ⟨c, e, fr, hd, cl, rest, g1, g2, g3, g4, g5, g6⟩ := hI.rel.live hL h1 (notMap_row h2 hrow)
        obtain ⟨o2, n1, n2, n3⟩ := blk_get g5 hok hrow hg
        rw [h2] at n1; cases n1
        have hty := hI.env.ty _ _ ht
        have hl := run_loadVar' hty w bb (cap.2 + off) _ (rep_len _ _ _ n3) (fun i c' hc => by
          have hc2 := take_drop_get hc
          simp only [cellAt, g2]
          rw [Nat.add_assoc]; exact at_of g4.1 g4.2.2 hc2)
        have hmk : (mkV u ((cl.drop off).take u.size)).cells.toList = (cl.drop off).take u.size := by
          have hlen := rep_len _ _ _ n3
          unfold mkV
          split
          · simp [Value.cells]
          · rename_i hag
            have h1' : u.size = 1 := by cases u <;> simp_all [Ty.isAgg, Ty.size]
            have : ((cl.drop off).take u.size).length = 1 := by rw [hlen, h1']
            match hq : (cl.drop off).take u.size, this with
            | [q], _ =>
              have h8 := rep_one _ _ _ n3 q (by rw [hq]; exact List.mem_singleton.2 rfl)
              simp only [List.getElem?_cons_zero, Option.getD_some]
              cases q <;> simp_all [Value.oneCell', Value.cells]
        refine does_pure hI (v := mkV u ((cl.drop off).take u.size)) ?_ ?_ rfl
        · simp [execOp, hop, h3, Instr.loadAt, Instr.sureAddr, hl]
        · refine repAV_nt rfl ⟨_, rfl, repV_mk n3, fun p kk hm => ?_⟩
          obtain ⟨⟨pq, kq⟩, hq1, hq2⟩ := List.mem_filterMap.1 hm
          cases hlu : lkUnder path pq with
          | none => rw [hlu] at hq2; cases hq2
          | some rr =>
            rw [hlu] at hq2
            simp only [Option.map_some, Option.some.injEq, Prod.mk.injEq] at hq2
            obtain ⟨rfl, rfl⟩ := hq2
            have hpe := lkUnder_eq _ _ _ hlu
            subst hpe
            obtain ⟨_, q2⟩ := hI.rel.lnk k blk hL _ _ hq1
            obtain ⟨f0, u3, off3, v3, m1, m2, m3⟩ := q2 bb cap h1
            obtain ⟨fp, fr'⟩ := fld_split f0
            obtain ⟨o', n4, n5⟩ := nav_split _ _ _ _ _ _ _ h2 m1 fp
            subst n5
            have hlt := nav_le u rr _ _ (fld_ok _ _ _ _ fr' n4) n4
            simp only [Ty.size] at hlt
            simp only at n2
            refine ⟨fr', u3, o', v3, n4, ?_, fun b3 hb3 => repAV_whole.1 m3 b3 hb3⟩
            rw [hmk, List.getElem?_take, if_pos (by omega), List.getElem?_drop]
            have hv4 : c.toList[cap.2 + (off + o')]? = some v3 := by simp only [cellAt, g2] at m2; simpa using m2
            rw [g4.2.2, List.getElem?_append_right (by omega), g4.1, Nat.add_sub_cancel_left, List.getElem?_append_left (by omega)] at hv4
            exact hv4
      · cases e
    · cases e
  · cases e
end
end Lc
