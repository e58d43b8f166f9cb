/- The engine, part T: a function's condition gives its contract. -/
import Derived.Test.YtbaiojghpadffaaEngS
namespace Lc
open Go Go.RowKit
set_option linter.unusedVariables false
set_option linter.unusedSimpArgs false

section
variable {E : Env} {fix : Nat → Option Value} {F0 : FH} {w0 : Ctx} {F : FH} {ρ : RM} {st : St} {a : Act} {w : World}

def resRun (tmps : Array Value) : ResultVar → Sem Value
  | .tmp t => pure (tmps.getD t undef)
  | .cell a t => do loadVar t (← asAddr (tmps.getD a undef))

theorem results_eq (fn : Func) (tmps : Array Value) : results fn tmps = (do let vs ← fn.results.mapM (resRun tmps); pure (if h : vs.size = 1 then vs[0] else .tuple vs)) := by
  unfold results
  congr 1

theorem getP_nil (t : Ty) (x : t.den) : getP t x [] = some ⟨t, x⟩ := by cases t <;> rfl

theorem resAV_sound (hE : Ok E) (R : Rel E fix F0 w0 F ρ st a w) {v : ResultVar} {av : AV} (e : resAV E st v = some av) : ∃ u, (resRun a.tmps v).run E.P w = .ok u w ∧ RepAV F ρ (hl st.hp) av u := by
  cases v with
  | tmp t => exact ⟨_, rfl, R.tm _ _ e⟩
  | cell x tid =>
    simp only [resAV] at e
    split at e
    · rename_i k root hx
      split at e
      · rename_i blk hL
        split at e
        · cases e
        rename_i hrow
        have hrow : blk.row = false := by simpa using hrow
        split at e
        · rename_i ht
          cases e
          obtain ⟨rfl, q2, bb, cap, u, off, z1, z2, z3⟩ := repAV_ptr.1 (R.tm _ _ hx) blk hL
          have hoff : off = 0 := by simp [Ty.nav] at z2; exact z2.2.symm
          subst hoff
          obtain ⟨c, eid, fr, hd, cl, rest, g1, g2, g3, g4, g5, g6⟩ := R.rel.live hL z1 (by rw [hrow]; rfl)
          obtain ⟨o2, n1, n2, n3⟩ := blk_get g5 q2 (by simp [hrow]) (getP_nil blk.t blk.x)
          have ho2 : o2 = 0 := by
            have : blk.t.nav [] = some (blk.t, 0) := by cases blk.t <;> rfl
            rw [this] at n1; simp at n1; exact n1.symm
          subst ho2
          have hl := run_loadVar' (hE.env.ty _ _ ht) w bb (cap.2 + 0) _ (rep_len _ _ _ n3) (fun i c' hc => by
            have hc2 := take_drop_get hc
            simp only [cellAt, g2]
            rw [Nat.add_assoc]; exact at_of g4.1 g4.2.2 hc2)
          refine ⟨_, ?_, repAV_val.2 (repV_mk n3)⟩
          simp only [resRun, Sem.run_bind, z3, asAddr, Sem.run_pure, Result.andThen_ok, hl]
        · cases e
      · cases e
    · cases e

/-- What a row that a slice of data points at holds. -/
theorem row_data {H : Array Obj} {B0 : Nat → Prop} {L : HL} (h : HRel F ρ L H B0) {kk m : Nat} {u : Ty} {z xs : List u.den} {hv : Value} {lk' : List (List Stp × Nat)} (hkk : L kk = some (some ⟨true, .arr m u, xs, true, lk'⟩))
    (hs : SlcV F z.length (RepL (Rep F u) z) hv) (w3 : HW (ρ kk) true xs.length (.arr m u) [] hv) : z = xs := by
  rcases w3 with ⟨_, _, _, r4, rfl⟩ | ⟨bb, cap', n', u'', off', r1, r2, rfl⟩
  · have hx : xs = [] := List.eq_nil_of_length_eq_zero r4
    rcases hs with ⟨_, s1, _⟩ | ⟨_, _, _, _, s0, _⟩
    · rw [hx]; exact List.eq_nil_of_length_eq_zero s1
    · cases s0
  · have hoff : off' = 0 := by
      simp [Ty.nav] at r2; exact r2.2.symm
    subst hoff
    obtain ⟨c2, eid2, fr2, hd2, cl2, rest2, k1, k2, k3, k4, k5, k6⟩ := h.live hkk r1 rfl
    simp only [RepC, if_true] at k5
    have hlen : (lcap true [] xs.length cap' n').1 = xs.length := by simp [lcap]
    rw [hlen] at hs
    rcases hs with ⟨s0, _⟩ | ⟨b3, off3, cap3, cs3, s0, s1, s2, s3⟩
    · cases s0
    · injection s0 with q1 q2 q3
      injection q1 with q1
      injection q1 with q4 q5 q6
      subst q4; subst q5
      have hF : FAt F bb (cap'.2 + 0) cl2 := by
        intro i c hc
        rw [Nat.add_zero, k6]; simpa using hc
      have := fat_fun s3 hF (by rw [repL_rep_len s2, repL_rep_len k5.1, q2])
      subst this
      exact repL_fun (fun x cs => rep_len u x cs) (fun x y cs => rep_fun u x y cs) z xs cs3 q2.symm s2 k5.1

/-- A row as a result. -/
theorem own_ret (R : Rel E fix F0 w0 F ρ st a w) (hU : ∀ b, w0.U b → w0.w.heap.size ≤ b) {k m : Nat} {root t : Ty} {xs : List t.den} {fz : Bool} {lk : List (List Stp × Nat)} {u : Value} (hL : hl st.hp k = some (some ⟨true, .arr m t, xs, fz, lk⟩))
    (hw : HW (ρ k) true xs.length root [] u) (hr : root = .arr m t) (wb : Bool) (hwb : wb = true → fz = false) {need : Bool} {G : FH} (hG1 : need = true → G = F) (hG0 : need = false → ∀ b i, w0.w.heap.size ≤ b → G b i = none) (hf : need = false → t.flat = true) :
    (ρ k = none ∧ u = .slice none 0 0 ∧ xs = []) ∨ ∃ b cap, ρ k = some (b, cap) ∧ OwnAt wb G w.heap w0.w.heap.size t xs u b := by
  subst hr
  rcases hw with ⟨z1, z2, z3, z4, z5⟩ | ⟨bb, cap, n, u', off, z1, z2, z3⟩
  · exact .inl ⟨z1, z5, List.eq_nil_of_length_eq_zero z4⟩
  · refine .inr ⟨bb, cap, z1, ?_⟩
    obtain ⟨c, eid, fr, hd, cl, rest, g1, g2, g3, g4, g5, g6⟩ := R.rel.live hL z1 rfl
    simp only [RepC, if_true] at g5
    have hoff : off = 0 := by simp [Ty.nav] at z2; exact z2.2.symm
    subst hoff
    have hrep : RepL (Rep G t) xs cl := by
      cases need
      · exact repL_mono (fun x cs => rep_flat t (hf rfl) x cs) _ _ g5.1
      · rw [hG1 rfl]; exact g5.1
    refine ⟨cap, c, eid, fr, hd, cl, rest, by simpa [lcap] using z3, hU bb g1, g2, g3, ⟨g4.1, g4.2.2⟩, hrep, g5.2.1, g5.2.2, ?_⟩
    cases wb with
    | true =>
      have hz := hwb rfl
      have h0 := R.rel.base0 hL z1 hz
      refine ⟨h0, fun i => ?_⟩
      cases need
      · exact hG0 rfl bb i (hU bb g1)
      · rw [hG1 rfl]
        have := g6 i
        rw [h0, Nat.zero_add] at this
        rw [this, hz]; rfl
    | false =>
      show (∀ i, G bb (cap.2 + i) = none) ∨ ∀ i, G bb (cap.2 + i) = cl[i]?
      cases need
      · exact .inl (fun i => hG0 rfl bb _ (hU bb g1))
      · rw [hG1 rfl]
        cases fz with
        | true => exact .inr (fun i => by rw [g6 i]; rfl)
        | false => exact .inl (fun i => by rw [g6 i]; rfl)

theorem rows_ret (R : Rel E fix F0 w0 F ρ st a w) (hU : ∀ b, w0.U b → w0.w.heap.size ≤ b) {t : Ty} {x : t.den} {v : Value} {l : List (List Stp × Nat)} (hv : RepAV F ρ (hl st.hp) (.vlk t x l) v) : ∀ (ps : List (List Stp × Ty × Nat)) (l2 : List (Nat × Nat)), readL st t l ps = some l2 →
    RowsAt F w.heap w0.w.heap.size t x v ps ((l2.map (·.2)).filterMap (fun k => (ρ k).map (·.1))) ∧ ∀ k, k ∈ l2.map (·.2) → ∃ b, hl st.hp k = some (some b) := by
  obtain ⟨v', e0, hr, hlk⟩ := repA_nt hv rfl
  simp only [List.cons.injEq, and_true] at e0
  subst e0
  intro ps
  induction ps with
  | nil => intro l2 e; cases e; exact ⟨rfl, fun k hk => by cases hk⟩
  | cons q ps ih =>
    obtain ⟨p, u, m⟩ := q
    intro l2 e
    simp only [readL] at e
    split at e
    · rename_i hn
      split at e
      · rename_i kk l3 e1 e2
        split at e
        · rename_i n' u' xs lk' e3
          split at e
          · rename_i hu
            subst hu
            cases e
            obtain ⟨i1, i2⟩ := ih l3 e2
            obtain ⟨f0, u2, off, hvv, f1, f2, f3⟩ := hlk p kk (lkAt_mem _ e1)
            have hu2 : u2 = u' := by rw [f1] at hn; simpa using hn
            subst hu2
            have hL : hl st.hp kk = some (some ⟨true, .arr n' u2, xs, true, lk'⟩) := e3
            obtain ⟨w1, w2, w3⟩ := f3 _ hL
            simp only [Blk.len, lenT] at w1 w3
            obtain ⟨z, hz⟩ := getP_fld t x p _ _ f0 f1
            obtain ⟨o2, o3, o4, o5⟩ := getP_rep t x _ p (repV_cells hr) (fld_ok _ _ _ _ f0 f1) ⟨.slc u2, z⟩ hz
            simp only at o3 o4 o5
            rw [f1] at o3; cases o3
            have hlt : off < v.cells.toList.length := (List.getElem?_eq_some_iff.1 f2).1
            have hcell : (v.cells.toList.drop off).take (Ty.slc u2).size = [hvv] := by
              have h2 := List.getElem?_eq_some_iff.1 f2
              rw [List.drop_eq_getElem_cons hlt, h2.2]; rfl
            rw [hcell] at o5
            obtain ⟨v2, e5, hs⟩ := o5
            cases e5
            have hrow : rowOf t x p u2 = z := by
              simp only [rowOf, hz, TV.as, castT]
              simp
            have hm0 : n' = 0 := by injection w1
            subst hm0
            have hzx := row_data R.rel hL hs w3
            refine ⟨⟨f0, off, hvv, f1, f2, ?_⟩, fun k hk => ?_⟩
            · simp only [hrow, hzx]
              rcases own_ret R hU hL w3 rfl false (fun h => by cases h) (need := true) (G := F) (fun _ => rfl) (fun h => by cases h) (fun h => by cases h) with ⟨a1, a2, a3⟩ | ⟨b, cap, a1, a2⟩
              · refine .inl ⟨a2, a3, ?_⟩
                rw [List.map_cons, List.filterMap_cons, a1]; exact i1
              · refine .inr ⟨b, _, by rw [List.map_cons, List.filterMap_cons, a1]; rfl, a2, i1⟩
            · rcases List.mem_cons.1 hk with rfl | hk
              · exact ⟨_, hL⟩
              · exact i2 k hk
          · cases e
        · cases e
      · cases e
    · cases e

theorem readR_sound (hE : Ok E) (R : Rel E fix F0 w0 F ρ st a w) {need : Bool} {G : FH} (hG1 : need = true → G = F) (hG0 : need = false → ∀ b i, w0.w.heap.size ≤ b → G b i = none) (hU : ∀ b, w0.U b → w0.w.heap.size ≤ b) :
    ∀ (rs : List RK) (vs : List ResultVar) (r : RTup rs) (cs : List Prop) (ks : List Nat), (need = false → rs.all RK.flatOk = true) → readR E st need rs vs = some (r, cs, ks) → (∀ c, c ∈ cs → c) →
    ∃ us, (vs.mapM (resRun a.tmps)).run E.P w = .ok us w ∧ RepRets G w.heap w0.w.heap.size rs r us (ks.filterMap (fun k => (ρ k).map (·.1))) ∧ ∀ k, k ∈ ks → ∃ b, hl st.hp k = some (some b) := by
  intro rs
  induction rs with
  | nil =>
    intro vs r cs ks _ e _
    cases vs with
    | nil => cases e; exact ⟨[], by simp, ⟨rfl, rfl⟩, (fun k hk => by cases hk)⟩
    | cons v vs => simp [readR] at e
  | cons rk rs ih =>
    intro vs r cs ks hf e hc
    cases vs with
    | nil => simp [readR] at e
    | cons v vs =>
      simp only [readR] at e
      split at e
      · cases e
      rename_i y cs1 ks1 e1
      split at e
      · cases e
      rename_i av hav
      obtain ⟨u, hu1, hu2⟩ := resAV_sound hE R hav
      have hf2 : need = false → rs.all RK.flatOk = true := fun h => by have := hf h; simp only [List.all_cons, Bool.and_eq_true] at this; exact this.2
      have hf1 : need = false → rk.flatOk = true := fun h => by have := hf h; simp only [List.all_cons, Bool.and_eq_true] at this; exact this.1
      have hrun : ∀ us, (vs.mapM (resRun a.tmps)).run E.P w = .ok us w → ((v :: vs).mapM (resRun a.tmps)).run E.P w = .ok (u :: us) w := by
        intro us h
        simp only [List.mapM_cons, Sem.run_bind, hu1, h, Result.andThen_ok, Sem.run_pure]
      cases rk with
      | deep t =>
        simp only at e
        split at e
        · rename_i x cs2 e2
          cases e
          obtain ⟨c1, c2⟩ := mem2 hc
          obtain ⟨us, i1, i2, i3⟩ := ih vs y cs1 _ hf2 e1 c2
          have hr := deepV_sound (E := need) R.rel hu2 (blkOf_eq st.hp av) e2 c1
          have hr' : RepV G t x u := by
            cases need
            · exact repV_flat (hf1 rfl) hr
            · rw [hG1 rfl]; exact hr
          exact ⟨u :: us, hrun us i1, ⟨u, us, rfl, hr', i2⟩, i3⟩
        · cases e
      | own t =>
        simp only at e
        split at e
        · cases e
          obtain ⟨us, i1, i2, i3⟩ := ih vs y _ _ hf2 e1 hc
          have hv : u = .slice none 0 0 := by have := repA_nt hu2 rfl; simpa [RepA] using this
          exact ⟨u :: us, hrun us i1, ⟨u, us, rfl, .inl ⟨hv, rfl, i2⟩⟩, i3⟩
        · rename_i k root
          split at e
          · rename_i m w' xs fz lk hL
            split at e
            · rename_i x e2
              cases e
              have := TV.as_eq e2
              cases this
              obtain ⟨us, i1, i2, i3⟩ := ih vs y _ _ hf2 e1 hc
              have hL' : hl st.hp k = some (some ⟨true, .arr m t, x, fz, lk⟩) := hL
              obtain ⟨q1, q2, q3⟩ := repAV_whole.1 hu2 _ hL'
              refine ⟨u :: us, hrun us i1, ⟨u, us, rfl, ?_⟩, fun k' hk' => ?_⟩
              · rcases own_ret R hU hL' (by simpa [Blk.len, lenT] using q3) q1.symm false (fun h => by cases h) hG1 hG0 hf1 with ⟨a1, a2, a3⟩ | ⟨b, cap, a1, a2⟩
                · refine .inl ⟨a2, a3, ?_⟩
                  rw [List.filterMap_cons, a1]; exact i2
                · exact .inr ⟨b, _, by rw [List.filterMap_cons, a1]; rfl, a2, i2⟩
              · rcases List.mem_cons.1 hk' with rfl | h
                · exact ⟨_, hL'⟩
                · exact i3 k' h
            · cases e
          · cases e
        · cases e
      | ownw t =>
        simp only at e
        split at e
        · cases e
          obtain ⟨us, i1, i2, i3⟩ := ih vs y _ _ hf2 e1 hc
          have hv : u = .slice none 0 0 := by have := repA_nt hu2 rfl; simpa [RepA] using this
          exact ⟨u :: us, hrun us i1, ⟨u, us, rfl, .inl ⟨hv, rfl, i2⟩⟩, i3⟩
        · rename_i k root
          split at e
          · rename_i m w' xs lk hL
            split at e
            · rename_i x e2
              cases e
              have := TV.as_eq e2
              cases this
              obtain ⟨us, i1, i2, i3⟩ := ih vs y _ _ hf2 e1 hc
              have hL' : hl st.hp k = some (some ⟨true, .arr m t, x, false, lk⟩) := hL
              obtain ⟨q1, q2, q3⟩ := repAV_whole.1 hu2 _ hL'
              refine ⟨u :: us, hrun us i1, ⟨u, us, rfl, ?_⟩, fun k' hk' => ?_⟩
              · rcases own_ret R hU hL' (by simpa [Blk.len, lenT] using q3) q1.symm true (fun _ => rfl) hG1 hG0 hf1 with ⟨a1, a2, a3⟩ | ⟨b, cap, a1, a2⟩
                · refine .inl ⟨a2, a3, ?_⟩
                  rw [List.filterMap_cons, a1]; exact i2
                · exact .inr ⟨b, _, by rw [List.filterMap_cons, a1]; rfl, a2, i2⟩
              · rcases List.mem_cons.1 hk' with rfl | h
                · exact ⟨_, hL'⟩
                · exact i3 k' h
            · cases e
          · cases e
        · cases e
      | vlk t ps =>
        have hneed : need = true := by
          cases need
          · have := hf1 rfl; cases this
          · rfl
        simp only at e
        split at e
        · rename_i t' x' l
          split at e
          · rename_i x e2
            have := TV.as_eq e2
            cases this
            split at e
            · rename_i l2 e3
              cases e
              obtain ⟨us, i1, i2, i3⟩ := ih vs y _ _ hf2 e1 hc
              obtain ⟨j1, j2⟩ := rows_ret R hU hu2 ps l2 e3
              obtain ⟨v', e0, hr, _⟩ := repA_nt hu2 rfl
              simp only [List.cons.injEq, and_true] at e0
              subst e0
              rw [hG1 hneed] at i2 ⊢
              refine ⟨u :: us, hrun us i1, ⟨u, us, _, _, rfl, List.filterMap_append, hr, j1, i2⟩, fun k hk => ?_⟩
              rcases List.mem_append.1 hk with hk | hk
              · exact j2 k hk
              · exact i3 k hk
            · cases e
          · cases e
        · cases e

theorem argAV_rep {t : Ty} {x : t.den} {v : Value} (h : RepV F t x v) : (argAV t x).keys = [] ∧ ∀ ρ L, RepAV F ρ L (argAV t x) v := by
  cases t <;> first
    | exact ⟨rfl, fun ρ L => repAV_val.2 h⟩
    | (refine ⟨rfl, fun ρ L => ?_⟩
       obtain ⟨b, off, ds, e, h1, h2⟩ := h
       simp only [List.cons.injEq, and_true] at e
       exact repAV_cptr.2 ⟨b, off, ds, e, h1, h2⟩)

theorem initTm_look : ∀ (ts : List Ty) (i : Nat) (xs : Tup ts) (vs : List Value) (n : Nat) (av : AV), RepArgs F ts xs vs → look n (initTm i ts xs) = some av → av.keys = [] ∧ ∃ v, vs[n - i]? = some v ∧ i ≤ n ∧ ∀ ρ L, RepAV F ρ L av v := by
  intro ts
  induction ts with
  | nil => intro i xs vs n av _ h; cases h
  | cons t ts ih =>
    rintro i xs vs n av ⟨v, r, rfl, h1, h2⟩ h
    simp only [initTm, look_cons] at h
    split at h
    · rename_i hn; subst hn; cases h
      exact ⟨(argAV_rep h1).1, v, by simp, Nat.le_refl _, (argAV_rep h1).2⟩
    · rename_i hn
      obtain ⟨k1, u, k2, k3, k4⟩ := ih (i + 1) xs.2 r n av h2 h
      refine ⟨k1, u, ?_, by omega, k4⟩
      rw [show n - i = (n - (i + 1)) + 1 by omega, List.getElem?_cons_succ]; exact k2

theorem repArgs_len : ∀ (ts : List Ty) (xs : Tup ts) (vs : List Value), RepArgs F ts xs vs → vs.length = ts.length := by
  intro ts
  induction ts with
  | nil => intro xs vs h; cases h; rfl
  | cons t ts ih => rintro xs vs ⟨v, r, rfl, _, h⟩; simp [ih _ _ h]

/-- A FUNCTION'S CONDITION GIVES ITS CONTRACT. -/
theorem fn_sound (hE : Ok E) (hm : E.P.follows .mixedOrders = true) {f : FuncId} {fn : Func} {body : Code} {c : Con} {N : Tup c.params → Notes} (hf : E.P.funcs[f]? = some fn) (hn : (fn.name == "runtime.NumGoroutine") = false)
    (hb : fn.body = some body) (hnt : E.ntm = fn.ntmps) (hpl : c.params.length ≤ fn.ntmps) (h : fnVC E c N body fn.results.toList) : Sound E.P E.glob f c := by
  refine ⟨⟨fn, hf, hn, by rw [hb]; rfl⟩, ?_⟩
  intro F w xs vs hcons hgl hargs hpre
  have hvl := repArgs_len _ _ _ hargs
  refine calls_of_wp hf hb ?_
  have hvc := tall_at _ _ h xs hpre
  have R : Rel E (fun _ => none) F ⟨w, fun b => w.heap.size ≤ b⟩ F (fun _ => none) ⟨initTm 0 c.params xs, []⟩ { tmps := vs.toArray ++ Array.replicate (fn.ntmps - vs.toArray.size) undef, defers := [] } w := by
    refine ⟨⟨hcons, (fun k blk h => by cases h), (fun k k' x x' b c c' h => by cases h), (fun k blk h => by cases h)⟩, Kept.refl _ _, (fun b hb => hb), hgl, FH.le.rfl, fun _ _ => rfl, fun n av hn => ?_, fun n av hn k hk => ?_, ?_, rfl, (fun n v h => by cases h), (fun n v h => by cases h)⟩
    · obtain ⟨_, v, h1, _, h2⟩ := initTm_look _ _ _ _ _ _ hargs hn
      simp only [Nat.sub_zero] at h1
      have hlt : n < vs.length := (List.getElem?_eq_some_iff.1 h1).1
      have : (vs.toArray ++ Array.replicate (fn.ntmps - vs.toArray.size) undef).getD n undef = v := by
        rw [Array.getD_eq_getD_getElem?, Array.getElem?_append_left (by simpa using hlt)]
        simp [h1]
      rw [this]; exact h2 _ _
    · obtain ⟨h1, _⟩ := initTm_look _ _ _ _ _ _ hargs hn
      rw [h1] at hk; cases hk
    · rw [hnt]; simp; omega
  refine wp_mono (wpA_sound body hE hm R hvc) ?_
  rintro e a' w' ⟨st', F', ρ', R', hq⟩
  have fin : retQ E c fn.results.toList xs .ret st' → a'.defers = [] ∧ ∃ v, (results fn a'.tmps).run E.P w' = .ok v w' ∧ ∃ u F'' rv bs, Ending.returned v = .returned u ∧ F.le F'' ∧ (∀ b, b < w.heap.size → F'' b = F b) ∧ (∀ b i v, F'' b i = some v → cellAt w'.heap b i = some v) ∧
      RepRets F'' w'.heap w.heap.size c.rets (c.fn xs) rv bs ∧ bs.Nodup ∧ RetV rv u ∧ Below w.heap.size w w' := by
    intro hq
    simp only [retQ] at hq
    split at hq
    · rename_i r cs ks er
      split at hq
      · rename_i hks
        obtain ⟨hc, hr⟩ := conjK_out cs hq
        have hkn := nodup_of hks
        have hG : ∃ G : FH, ((!(c.rets.all RK.flatOk)) = true → G = F') ∧ ((!(c.rets.all RK.flatOk)) = false → ∀ b i, w.heap.size ≤ b → G b i = none) ∧ F.le G ∧ (∀ b, b < w.heap.size → G b = F b) ∧ (∀ b i v, G b i = some v → cellAt w'.heap b i = some v) := by
          cases hfl : c.rets.all RK.flatOk
          · exact ⟨F', fun _ => rfl, (fun h => by cases h), R'.le, fun b hb => R'.base b (Nat.not_le_of_lt hb), R'.rel.cons⟩
          · refine ⟨F, (fun h => by cases h), fun _ b i hb => ?_, FH.le.rfl, fun _ _ => rfl, fun b i v h => R'.rel.cons _ _ _ (R'.le _ _ _ h)⟩
            cases hq2 : F b i with
            | none => rfl
            | some v => have := cellAt_lt (hcons _ _ _ hq2); omega
        obtain ⟨G, g1, g2, g3, g4, g5⟩ := hG
        obtain ⟨us, i1, i2, i3⟩ := readR_sound hE R' g1 g2 (fun b hb => hb) c.rets fn.results.toList r cs ks (fun h => by simpa using h) er hc
        have hrun : (results fn a'.tmps).run E.P w' = .ok (if h : us.toArray.size = 1 then us.toArray[0] else .tuple us.toArray) w' := by
          rw [results_eq, Array.mapM_eq_mapM_toList, Sem.run_bind, Sem.run_map, i1]
          simp
        refine ⟨R'.defers, _, hrun, _, G, us, _, rfl, g3, g4, g5, by rw [← hr]; exact i2, ?_, ?_, ⟨R'.below.os, R'.below.tape, R'.below.output, R'.below.size, fun k hk => R'.below.block k (Nat.not_le_of_lt hk)⟩⟩
        · -- the blocks are apart
          clear i2 hr er hq
          induction ks with
          | nil => exact List.nodup_nil
          | cons k ks ih =>
            rw [List.nodup_cons] at hkn
            simp only [nodupB, Bool.and_eq_true] at hks
            rw [List.filterMap_cons]
            have i4 := ih hks.2 hkn.2 (fun k' h => i3 k' (List.mem_cons_of_mem _ h))
            cases hρ : ρ' k with
            | none => exact i4
            | some p =>
              obtain ⟨b, cap⟩ := p
              simp only [Option.map_some]
              rw [List.nodup_cons]
              refine ⟨fun hmem => ?_, i4⟩
              simp only [List.mem_filterMap] at hmem
              obtain ⟨k', hk', hb'⟩ := hmem
              obtain ⟨b1, hb1⟩ := i3 k List.mem_cons_self
              obtain ⟨b2, hb2⟩ := i3 k' (List.mem_cons_of_mem _ hk')
              cases hρ2 : ρ' k' with
              | none => rw [hρ2] at hb'; cases hb'
              | some p2 =>
                obtain ⟨b', cap'⟩ := p2
                rw [hρ2] at hb'
                simp at hb'
                subst hb'
                have := R'.rel.inj _ _ _ _ _ _ _ hb1 hb2 hρ hρ2
                subst this
                exact hkn.1 hk'
        · by_cases h1 : us.length = 1
          · refine .inl ⟨us.toArray[0]'(by simp [h1]), ?_, by simp [h1]⟩
            obtain ⟨x, rfl⟩ := List.length_eq_one_iff.1 h1
            rfl
          · exact .inr ⟨h1, by simp [h1]⟩
      · exact hq.elim
    · exact hq.elim
  cases e with
  | normal => exact fin hq
  | ret => exact fin hq
  | _ => exact hq.elim

/-! ## Methods with a pointer to a struct -/
def initP (c : ConP) (x : c.t.den) (ys : Tup c.params) : St := ⟨(0, .ptr base c.t []) :: initTm 1 c.params ys, mkHp c.vars (x, ())⟩

def retP (E : Env) (c : ConP) (res : List ResultVar) (x : c.t.den) (ys : Tup c.params) (e : Exit) (s : St) : Prop :=
  match e with
  | .normal | .ret => match readV s c.vars, readR E s false c.rets res with
    | some (y, ks), some (r, cs, _) => if nodupB (ks.map (·.2)) then conjK cs ((y.1, r) = c.fn x ys) else False
    | _, _ => False
  | _ => False

/-- THE CONDITION OF A METHOD. -/
def fnVCP (E : Env) (c : ConP) (N : c.t.den → Tup c.params → Notes) (body : Code) (res : List ResultVar) : Prop :=
  ∀ x : c.t.den, tall c.params (fun ys => c.pre x ys → wpA (N x ys) E body (retP E c res x ys) (initP c x ys))

theorem readR_plain (hE : Ok E) (R : Rel E fix F0 w0 F ρ st a w) :
    ∀ (rs : List RK) (vs : List ResultVar) (r : RTup rs) (cs : List Prop) (ks : List Nat), rs.all RK.plain = true → readR E st false rs vs = some (r, cs, ks) → (∀ c, c ∈ cs → c) →
    ∃ us, (vs.mapM (resRun a.tmps)).run E.P w = .ok us w ∧ ∀ (G : FH) (H : Array Obj) (B : Nat), RepRets G H B rs r us [] := by
  intro rs
  induction rs with
  | nil =>
    intro vs r cs ks _ e _
    cases vs with
    | nil => cases e; exact ⟨[], by simp, fun _ _ _ => ⟨rfl, rfl⟩⟩
    | cons v vs => simp [readR] at e
  | cons rk rs ih =>
    intro vs r cs ks hf e hc
    simp only [List.all_cons, Bool.and_eq_true] at hf
    cases vs with
    | nil => simp [readR] at e
    | cons v vs =>
      simp only [readR] at e
      split at e
      · cases e
      rename_i y cs1 ks1 e1
      split at e
      · cases e
      rename_i av hav
      obtain ⟨u, hu1, hu2⟩ := resAV_sound hE R hav
      cases rk with
      | deep t =>
        simp only at e
        split at e
        · rename_i x cs2 e2
          cases e
          obtain ⟨c1, c2⟩ := mem2 hc
          obtain ⟨us, i1, i2⟩ := ih vs y cs1 _ hf.2 e1 c2
          have hr := deepV_sound (E := false) R.rel hu2 (blkOf_eq st.hp av) e2 c1
          refine ⟨u :: us, ?_, fun G H B => ⟨u, us, rfl, repV_flat hf.1 hr, i2 G H B⟩⟩
          simp only [List.mapM_cons, Sem.run_bind, hu1, i1, Result.andThen_ok, Sem.run_pure]
        · cases e
      | own t => simp [RK.plain] at hf
      | ownw t => simp [RK.plain] at hf
      | vlk t ps => simp [RK.plain] at hf

/-- A METHOD'S CONDITION GIVES ITS CONTRACT. -/
theorem fnP_sound (hE : Ok E) (hm : E.P.follows .mixedOrders = true) {f : FuncId} {fn : Func} {body : Code} {c : ConP} {N : c.t.den → Tup c.params → Notes} (hf : E.P.funcs[f]? = some fn) (hn : (fn.name == "runtime.NumGoroutine") = false)
    (hb : fn.body = some body) (hnt : E.ntm = fn.ntmps) (hpl : c.params.length + 1 ≤ fn.ntmps) (hlk : 0 ∈ E.lock) (hnm : nodupB (0 :: c.ps.map (·.2.2)) = true) (hplain : c.rets.all RK.plain = true)
    (h : fnVCP E c N body fn.results.toList) : SoundP E.P E.glob f c := by
  refine ⟨⟨fn, hf, hn, by rw [hb]; rfl⟩, ?_⟩
  intro F U w ρ x ys b cap vs hrel hρ hup hgl hargs hpre
  have hvl := repArgs_len _ _ _ hargs
  have hvn : (c.vars.flatMap names).Nodup := by
    simpa [ConP.vars, names] using nodup_of hnm
  refine calls_of_wp hf hb ?_
  have hvc := tall_at _ _ (h x) ys hpre
  have hpb : hl (mkHp c.vars (x, ())) base = some (some ⟨false, c.t, x, false, c.ps.map (fun q => (q.1, base + q.2.2))⟩) := by
    have := look_mkHp_at (vs := c.vars) (x := (x, ())) hvn (m := 0) (blk := ⟨false, c.t, x, false, c.ps.map (fun q => (q.1, base + q.2.2))⟩) (by simp [ConP.vars, allBlks, blksOf])
    exact this
  have hnav : c.t.nav [] = some (c.t, 0) := by cases c.t <;> rfl
  have tm0 : ((Value.pointer (some ⟨b, 0, none⟩) :: vs).toArray ++ Array.replicate (fn.ntmps - (Value.pointer (some ⟨b, 0, none⟩) :: vs).toArray.size) undef).getD 0 undef = .pointer (some ⟨b, 0, none⟩) := by
    rw [Array.getD_eq_getD_getElem?, Array.getElem?_append_left (by simp)]; simp
  have R : Rel E (fun n => if n = 0 then some (.pointer (some ⟨b, 0, none⟩)) else none) F ⟨w, U⟩ F ρ (initP c x ys) { tmps := (Value.pointer (some ⟨b, 0, none⟩) :: vs).toArray ++ Array.replicate (fn.ntmps - (Value.pointer (some ⟨b, 0, none⟩) :: vs).toArray.size) undef, defers := [] } w := by
    refine ⟨hrel, Kept.refl _ _, hup, hgl, FH.le.rfl, fun _ _ => rfl, fun n av hn => ?_, fun n av hn k hk => ?_, ?_, rfl, fun n v hfx => ?_, fun n v hfx => ?_⟩
    · simp only [initP, look_cons] at hn
      split at hn
      · rename_i h0
        subst h0
        cases hn
        rw [tm0]
        refine repAV_ptr.2 (fun blk hb => ?_)
        have hb : hl (mkHp c.vars (x, ())) base = some (some blk) := hb
        rw [hpb] at hb
        cases hb
        exact ⟨rfl, by simp [okB, okT], b, cap, c.t, 0, hρ, hnav, by rw [hrel.base0 hpb hρ rfl]⟩
      · rename_i h0
        obtain ⟨_, v, h1, h3, h2⟩ := initTm_look _ _ _ _ _ _ hargs hn
        have hlt : n - 1 < vs.length := (List.getElem?_eq_some_iff.1 h1).1
        have : ((Value.pointer (some ⟨b, 0, none⟩) :: vs).toArray ++ Array.replicate (fn.ntmps - (Value.pointer (some ⟨b, 0, none⟩) :: vs).toArray.size) undef).getD n undef = v := by
          rw [Array.getD_eq_getD_getElem?, Array.getElem?_append_left (by simp; omega)]
          have : n = (n - 1) + 1 := by omega
          rw [this]
          simp [h1]
        rw [this]; exact h2 _ _
    · simp only [initP, look_cons] at hn
      split at hn
      · cases hn
        simp only [AV.keys, List.mem_singleton] at hk
        subst hk
        show (hl (mkHp c.vars (x, ())) base).isSome = true
        rw [hpb]; rfl
      · obtain ⟨h1, _⟩ := initTm_look _ _ _ _ _ _ hargs hn
        rw [h1] at hk; cases hk
    · rw [hnt]; simp; omega
    · split at hfx
      · rename_i h0; subst h0; cases hfx; exact tm0
      · cases hfx
    · split at hfx
      · rename_i h0; subst h0; exact hlk
      · cases hfx
  refine wp_mono (wpA_sound body hE hm R hvc) ?_
  rintro e a' w' ⟨st', F', ρ', R', hq⟩
  have fin : retP E c fn.results.toList x ys .ret st' → a'.defers = [] ∧ ∃ v, (results fn a'.tmps).run E.P w' = .ok v w' ∧ ∃ u F'' ρ'' rv, Ending.returned v = .returned u ∧ F.le F'' ∧ (∀ b, ¬ U b → F'' b = F b) ∧ HRel F'' ρ'' (hl (mkHp c.vars ((c.fn x ys).1, ()))) w'.heap U ∧ (∃ cap', ρ'' base = some (b, cap')) ∧
      RepRets F'' w'.heap w.heap.size c.rets (c.fn x ys).2 rv [] ∧ RetV rv u ∧ Kept U w w' := by
    intro hq
    simp only [retP] at hq
    split at hq
    · rename_i y ks r cs ks2 er1 er2
      split at hq
      · rename_i hks
        obtain ⟨hc, hr⟩ := conjK_out cs hq
        obtain ⟨us, i1, i2⟩ := readR_plain hE R' c.rets fn.results.toList r cs _ hplain er2 hc
        have hrun : (results fn a'.tmps).run E.P w' = .ok (if h : us.toArray.size = 1 then us.toArray[0] else .tuple us.toArray) w' := by
          rw [results_eq, Array.mapM_eq_mapM_toList, Sem.run_bind, Sem.run_map, i1]
          simp
        have hsl : slotsOk (⟨[], [], c.vars, fun _ => True, fun _ => 0⟩ : Ann) = true := by
          show nodupB _ = true
          simpa [ConP.vars, names] using hnm
        have R2 := cut_sound (A := ⟨[], [], c.vars, fun _ => True, fun _ => 0⟩) hsl R' er1 hks (kept := []) (fun n av h => by cases h)
        have h0 := R2.tm 0 (.ptr base c.t []) rfl
        rw [R2.fixed 0 _ (if_pos rfl)] at h0
        obtain ⟨y1, yu⟩ := y
        have hpb2 : hl (mkHp c.vars (y1, yu)) base = some (some ⟨false, c.t, y1, false, c.ps.map (fun q => (q.1, base + q.2.2))⟩) := by
          have := look_mkHp_at (vs := c.vars) (x := (y1, yu)) hvn (m := 0) (blk := ⟨false, c.t, y1, false, c.ps.map (fun q => (q.1, base + q.2.2))⟩) (by simp [ConP.vars, allBlks, blksOf])
          exact this
        obtain ⟨_, _, b', cap', u', off', g1, g2, g3⟩ := repAV_ptr.1 h0 _ hpb2
        have hbb : b' = b := by
          simp only [Value.pointer.injEq, Option.some.injEq, Addr.mk.injEq] at g3
          exact g3.1.symm
        subst hbb
        rw [← hr]
        refine ⟨R'.defers, _, hrun, _, F', cutρ ks ρ', us, rfl, R'.le, R'.base, R2.rel, ⟨cap', g1⟩, i2 _ _ _, ?_, R'.below⟩
        by_cases h1 : us.length = 1
        · refine .inl ⟨us.toArray[0]'(by simp [h1]), ?_, by simp [h1]⟩
          obtain ⟨x, rfl⟩ := List.length_eq_one_iff.1 h1
          rfl
        · exact .inr ⟨h1, by simp [h1]⟩
      · exact hq.elim
    · exact hq.elim
  cases e with
  | normal => exact fin hq
  | ret => exact fin hq
  | _ => exact hq.elim

end
end Lc
