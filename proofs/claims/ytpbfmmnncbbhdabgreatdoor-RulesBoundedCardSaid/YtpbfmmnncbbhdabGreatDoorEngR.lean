/- The engine, part R: cuts, loops, and the soundness of a function's condition. -/
import Derived.Test.YtpbfmmnncbbhdabGreatDoorEngQ
namespace Lc
open Go Go.RowKit

section
variable {E : Env} {fix : Nat → Option Value} {F0 : FH} {w0 : Ctx} {F : FH} {ρ : RM} {st : St} {a : Act} {w : World}

theorem set_self {H : Array Obj} {b : Nat} {o : Obj} (h : H[b]? = some o) : H.setIfInBounds b o = H := by
  apply Array.ext_getElem?
  intro j
  rw [Array.getElem?_setIfInBounds]
  split
  · rename_i hj; subst hj
    rw [if_pos (Array.getElem?_eq_some_iff.1 h).1, h]
  · rfl

/-- FREEZING leaves the world as it is. -/
theorem freeze_sound : ∀ (ns : List Nat) {F : FH} {ρ : RM}, Rel E fix F0 w0 F ρ st a w → ∃ F' ρ', Rel E fix F0 w0 F' ρ' (freeze st ns) a w := by
  intro ns
  induction ns with
  | nil => intro F ρ R; exact ⟨F, ρ, R⟩
  | cons n ns ih =>
    intro F ρ R
    obtain ⟨F1, ρ1, R1⟩ := ih R
    simp only [freeze]
    generalize freeze st ns = s at R1
    split
    · exact ⟨F1, ρ1, R1⟩
    · rename_i av hav
      split
      · exact ⟨F1, ρ1, R1⟩
      · rename_i k hk
        split
        · rename_i blk hb
          have hL : hl s.hp k = some (some blk) := hb
          have build : ∀ (F' : FH) (ρ' : RM), F1.le F' → (∀ b, ¬ w0.U b → F' b = F1 b) → HRel F' ρ' (upd (hl s.hp) k (some (some ⟨blk.row, blk.t, blk.x, true, []⟩))) w.heap w0.U →
              LLe (hl s.hp) ρ1 (upd (hl s.hp) k (some (some ⟨blk.row, blk.t, blk.x, true, []⟩))) ρ' → Rel E fix F0 w0 F' ρ' ⟨s.tm, (k, some ⟨blk.row, blk.t, blk.x, true, []⟩) :: s.hp⟩ a w := by
            intro F' ρ' h1 h2 h3 h4
            refine ⟨by rw [hl_cons]; exact h3, R1.below, R1.up, R1.glob, R1.le.trans h1, fun b hb => (h2 b hb).trans (R1.base b hb), fun m av hm => ?_, fun m av hm q hq => ?_, R1.ntm, R1.defers, R1.fixed, R1.lock⟩
            · rw [hl_cons]; exact repAV_ext h1 h4 (R1.keys _ _ hm) (R1.tm _ _ hm)
            · rw [hl_cons]
              have := R1.keys _ _ hm q hq
              by_cases hqk : q = k
              · subst hqk; rw [upd_same]; rfl
              · rw [upd_ne _ _ hqk]; exact this
          have e0 : upd (upd (hl s.hp) k (some none)) k (some (some (⟨blk.row, blk.t, blk.x, true, []⟩ : Blk))) = upd (hl s.hp) k (some (some ⟨blk.row, blk.t, blk.x, true, []⟩)) := by
            funext q; by_cases h : q = k <;> simp [upd, h]
          rcases R1.rel.blk _ _ hL with h1 | ⟨b, cap, c, e, fr, cs, rest, g1, g2, g3, g4, g5, g6, g7⟩
          · have hLL := LLe.redo (ρ := ρ1) (blk' := ⟨blk.row, blk.t, blk.x, true, []⟩) hL (.inl ⟨rfl, rfl, rfl, rfl⟩) h1
            rw [e0] at hLL
            exact ⟨F1, upd ρ1 k none, build F1 _ FH.le.rfl (fun _ _ => rfl) (R1.rel.freshNil hLL rfl) hLL⟩
          · obtain ⟨F', f1, f2, f3⟩ := R1.rel.redo (k' := k) (blk' := ⟨blk.row, blk.t, blk.x, true, []⟩) (c' := c) (cs := cs) (cs' := cs) (rest' := rest) hL (.inl ⟨rfl, rfl, rfl, rfl⟩) g1 g3 g2 g4 g7 rfl g5 g6 (fun _ => ⟨rfl, fun _ _ h => h⟩) (fun p kk hm => by cases hm)
            rw [set_self g3, e0] at f3
            refine ⟨F', _, build F' _ f1 (fun b' hb' => f2 b' (fun e => hb' (by rw [e]; exact g2))) f3 ?_⟩
            have := LLe.redo (ρ := ρ1) (blk' := ⟨blk.row, blk.t, blk.x, true, []⟩) hL (.inl ⟨rfl, rfl, rfl, rfl⟩) g1
            rw [e0] at this
            exact this
        · exact ⟨F1, ρ1, R1⟩

/-! ### Cuts -/
def avOf (n : Nat) : (s : Shape) → s.den → AV
  | .val t, x => .val t x
  | .own t _, _ => .whole (base + n) (.arr 0 t) []
  | .ptr t, _ => .ptr (base + n) t []

def blkOfS : (s : Shape) → s.den → Option Blk
  | .val _, _ => none
  | .own t fz, xs => some ⟨true, .arr 0 t, xs, fz, []⟩
  | .ptr t, x => some ⟨false, t, x, false, []⟩

theorem look_mkTm : ∀ (vs : List (Nat × Shape)) (x : VDen vs) (ks : List Nat) (n : Nat) (av : AV), readV st vs = some (x, ks) → look n (mkTm vs x) = some av →
    ∃ s y l, (n, s) ∈ vs ∧ readS st n s = some (y, l) ∧ av = avOf n s y := by
  intro vs
  induction vs with
  | nil => intro x ks n av _ h; cases h
  | cons p vs ih =>
    intro x ks n av e h
    obtain ⟨m, s⟩ := p
    simp only [readV] at e
    split at e
    · rename_i y ks1 z ks2 e1 e2
      cases e
      have hm : look n (mkTm ((m, s) :: vs) (y, z)) = if n = m then some (avOf m s y) else look n (mkTm vs z) := by
        cases s <;> simp only [mkTm, look_cons, avOf]
      rw [hm] at h
      split at h
      · rename_i hnm; subst hnm; cases h; exact ⟨s, y, ks1, List.mem_cons_self, e1, rfl⟩
      · obtain ⟨s', y', l, h1, h2, h3⟩ := ih z ks2 n av e2 h
        exact ⟨s', y', l, List.mem_cons_of_mem _ h1, h2, h3⟩
    · cases e

theorem look_mkHp : ∀ (vs : List (Nat × Shape)) (x : VDen vs) (ks : List Nat) (m : Nat) (ob : Option Blk), readV st vs = some (x, ks) → look m (mkHp vs x) = some ob →
    ∃ n s y l, m = base + n ∧ (n, s) ∈ vs ∧ readS st n s = some (y, l) ∧ ob = blkOfS s y ∧ ob ≠ none := by
  intro vs
  induction vs with
  | nil => intro x ks m ob _ h; cases h
  | cons p vs ih =>
    intro x ks m ob e h
    obtain ⟨n, s⟩ := p
    simp only [readV] at e
    split at e
    · rename_i y ks1 z ks2 e1 e2
      cases e
      have next : look m (mkHp vs z) = some ob → ∃ n' s' y' l, m = base + n' ∧ (n', s') ∈ (n, s) :: vs ∧ readS st n' s' = some (y', l) ∧ ob = blkOfS s' y' ∧ ob ≠ none := by
        intro h
        obtain ⟨n', s', y', l, h1, h2, h3, h4, h5⟩ := ih z ks2 m ob e2 h
        exact ⟨n', s', y', l, h1, List.mem_cons_of_mem _ h2, h3, h4, h5⟩
      cases s with
      | val t => exact next h
      | own t fz =>
        simp only [mkHp, look_cons] at h
        split at h
        · rename_i hm; cases h; exact ⟨n, .own t fz, y, ks1, hm, List.mem_cons_self, e1, rfl, by simp⟩
        · exact next h
      | ptr t =>
        simp only [mkHp, look_cons] at h
        split at h
        · rename_i hm; cases h; exact ⟨n, .ptr t, y, ks1, hm, List.mem_cons_self, e1, rfl, by simp⟩
        · exact next h
    · cases e

theorem look_mkHp_some : ∀ (vs : List (Nat × Shape)) (x : VDen vs) (n : Nat) (s : Shape), (n, s) ∈ vs → (∀ t, s ≠ .val t) → (look (base + n) (mkHp vs x)).isSome := by
  intro vs
  induction vs with
  | nil => intro x n s h; cases h
  | cons p vs ih =>
    intro x n s h hs
    obtain ⟨m, s'⟩ := p
    have next : (n, s) ∈ vs → (look (base + n) (mkHp vs x.2)).isSome := fun h => ih x.2 n s h hs
    cases s' with
    | val t =>
      rcases List.mem_cons.1 h with h | h
      · cases h; exact absurd rfl (hs t)
      · exact next h
    | own t fz =>
      simp only [mkHp, look_cons]
      split
      · rfl
      · rename_i hne
        rcases List.mem_cons.1 h with h | h
        · cases h; exact absurd rfl hne
        · exact next h
    | ptr t =>
      simp only [mkHp, look_cons]
      split
      · rfl
      · rename_i hne
        rcases List.mem_cons.1 h with h | h
        · cases h; exact absurd rfl hne
        · exact next h

theorem readV_mem : ∀ (vs : List (Nat × Shape)) (x : VDen vs) (ks : List Nat), readV st vs = some (x, ks) → ∀ n s y l, (n, s) ∈ vs → readS st n s = some (y, l) → ∀ k, k ∈ l → k ∈ ks := by
  intro vs
  induction vs with
  | nil => intro x ks _ n s y l h; cases h
  | cons p vs ih =>
    intro x ks e n s y l h hr k hk
    obtain ⟨m, s'⟩ := p
    simp only [readV] at e
    split at e
    · rename_i y1 ks1 z ks2 e1 e2
      cases e
      rcases List.mem_cons.1 h with h | h
      · cases h; rw [e1] at hr; cases hr; exact List.mem_append_left _ hk
      · exact List.mem_append_right _ (ih z ks2 e2 n s y l h hr k hk)
    · cases e

theorem readV_apart : ∀ (vs : List (Nat × Shape)) (x : VDen vs) (ks : List Nat), readV st vs = some (x, ks) → ks.Nodup → (vs.map (·.1)).Nodup → ∀ n s y l n' s' y' l', (n, s) ∈ vs → (n', s') ∈ vs → n ≠ n' → readS st n s = some (y, l) → readS st n' s' = some (y', l') →
    ∀ k, k ∈ l → k ∈ l' → False := by
  intro vs
  induction vs with
  | nil => intro x ks _ _ _ n s y l n' s' y' l' h; cases h
  | cons p vs ih =>
    intro x ks e hnd hvn n s y l n' s' y' l' h h' hne hr hr' k hk hk'
    obtain ⟨m, s0⟩ := p
    simp only [readV] at e
    split at e
    · rename_i y1 ks1 z ks2 e1 e2
      cases e
      rw [List.nodup_append] at hnd
      simp only [List.map_cons, List.nodup_cons] at hvn
      rcases List.mem_cons.1 h with q | q <;> rcases List.mem_cons.1 h' with q' | q'
      · cases q; cases q'; exact hne rfl
      · cases q
        rw [e1] at hr; cases hr
        exact hnd.2.2 k hk k (readV_mem vs z ks2 e2 _ _ _ _ q' hr' k hk') rfl
      · cases q'
        rw [e1] at hr'; cases hr'
        exact hnd.2.2 k hk' k (readV_mem vs z ks2 e2 _ _ _ _ q hr k hk) rfl
      · exact ih z ks2 e2 hnd.2.1 hvn.2 n s y l n' s' y' l' q q' hne hr hr' k hk hk'
    · cases e

theorem shape_unique {vs : List (Nat × Shape)} (h : (vs.map (·.1)).Nodup) {n : Nat} {s s' : Shape} (h1 : (n, s) ∈ vs) (h2 : (n, s') ∈ vs) : s = s' := by
  induction vs with
  | nil => cases h1
  | cons p vs ih =>
    obtain ⟨m, s0⟩ := p
    simp only [List.map_cons, List.nodup_cons] at h
    rcases List.mem_cons.1 h1 with q1 | q1 <;> rcases List.mem_cons.1 h2 with q2 | q2
    · cases q1; cases q2; rfl
    · cases q1; exact absurd (List.mem_map.2 ⟨_, q2, rfl⟩) h.1
    · cases q2; exact absurd (List.mem_map.2 ⟨_, q1, rfl⟩) h.1
    · exact ih h.2 q1 q2

/-- The blocks under their new names. -/
def cutρ (st : St) (ρ : RM) : RM := fun m => match look (m - base) st.tm with
  | some (.whole k _ _) => ρ k
  | some (.ptr k _ _) => ρ k
  | _ => none

theorem cutρ_at (st : St) (ρ : RM) (n : Nat) : cutρ st ρ (base + n) = match look n st.tm with
  | some (.whole k _ _) => ρ k
  | some (.ptr k _ _) => ρ k
  | _ => none := by
  unfold cutρ
  rw [Nat.add_sub_cancel_left]

theorem repAV_keyless {L L' : HL} {ρ ρ' : RM} {F F' : FH} (hF : F.le F') {av : AV} {v : Value} (h : RepAV F ρ L av v) (hf : fixAV av none = some av) : RepAV F' ρ' L' av v := by
  cases av with
  | val t x => exact repAV_val.2 (repV_mono hF (repAV_val.1 h))
  | cptr t x =>
    obtain ⟨b, off, cs, h1, h2, h3⟩ := repAV_cptr.1 h
    exact repAV_cptr.2 ⟨b, off, cs, h1, rep_mono hF _ _ _ h2, fun i c hc => hF _ _ _ (h3 i c hc)⟩
  | nil => exact repAV_nt rfl (repA_nt h rfl)
  | raw u => exact repAV_nt rfl (repA_nt h rfl)
  | cut t xs =>
    refine repAV_nt rfl ?_
    rcases repA_nt h rfl with h1 | ⟨b, off, cs, e, h1, h2⟩
    · exact .inl h1
    · exact .inr ⟨b, off, cs, e, repL_mono (fun x cs => rep_mono hF t x cs) _ _ h1, fun i c hc => hF _ _ _ (h2 i c hc)⟩
  | _ => simp [fixAV] at hf

/-- What is kept, in a frame. -/
def KeptOk (F : FH) (kept : List (Nat × AV)) (a : Act) : Prop := ∀ n av, look n kept = some av → av.keys = [] ∧ ∀ ρ L, RepAV F ρ L av (a.tmps.getD n undef)

theorem fixAV_sound (R : Rel E fix F0 w0 F ρ st a w) {n : Nat} {av av' : AV} (hn : look n st.tm = some av) (e : fixAV av (blkOf st.hp av) = some av') : av'.keys = [] ∧ ∀ ρ' L', RepAV F ρ' L' av' (a.tmps.getD n undef) := by
  have h := R.tm _ _ hn
  cases av with
  | val t x => simp only [fixAV, Option.some.injEq] at e; subst e; exact ⟨rfl, fun _ _ => repAV_keyless FH.le.rfl h rfl⟩
  | cptr t x => simp only [fixAV, Option.some.injEq] at e; subst e; exact ⟨rfl, fun _ _ => repAV_keyless FH.le.rfl h rfl⟩
  | nil => simp only [fixAV, Option.some.injEq] at e; subst e; exact ⟨rfl, fun _ _ => repAV_keyless FH.le.rfl h rfl⟩
  | raw u => simp only [fixAV, Option.some.injEq] at e; subst e; exact ⟨rfl, fun _ _ => repAV_keyless FH.le.rfl h rfl⟩
  | cut t xs => simp only [fixAV, Option.some.injEq] at e; subst e; exact ⟨rfl, fun _ _ => repAV_keyless FH.le.rfl h rfl⟩
  | ptr k root path =>
    cases hb : blkOf st.hp (.ptr k root path) with
    | none => rw [hb] at e; simp [fixAV] at e
    | some blk =>
      rw [hb] at e
      simp only [fixAV] at e
      split at e
      · rename_i hz
        simp only [Bool.and_eq_true, Bool.not_eq_true'] at hz
        obtain ⟨hz, hrow⟩ := hz
        split at e
        · rename_i t x hg
          cases e
          rw [blkOf_eq] at hb
          obtain ⟨k', hk', hL⟩ := blkL_some hb.symm
          cases hk'
          obtain ⟨rfl, hok, bb, cap, u', off, h1, h2, h3⟩ := repAV_ptr.1 h blk hL
          refine ⟨rfl, fun _ _ => ?_⟩
          obtain ⟨c, eid, fr, cl, rest, g1, g2, g3, g4, g5, g6⟩ := R.rel.live hL h1
          obtain ⟨o2, n1, n2, n3⟩ := blk_get g5 hok hrow hg
          rw [h2] at n1; cases n1
          exact repAV_cptr.2 ⟨bb, off, _, h3, n3, fun i c hc => by rw [g6, if_pos hz]; exact take_drop_get hc⟩
        · cases e
      · cases e
  | whole k root path =>
    cases hb : blkOf st.hp (.whole k root path) with
    | none => rw [hb] at e; simp [fixAV] at e
    | some blk =>
      rw [hb] at e
      simp only [fixAV] at e
      split at e
      · rename_i hz
        split at e
        · rename_i n t xs hg
          cases e
          refine ⟨rfl, fun _ _ => repAV_val.2 ?_⟩
          have := deepV_sound (E := true) (t := .slc t) (b := some blk) (x := xs) (cs := []) R.rel h (by rw [blkOf_eq] at hb; exact hb.symm) (by
            simp only [deepV, hz, Bool.not_true, Bool.and_false, Bool.false_eq_true, if_false, hg, TV.as, castT]
            simp) (fun c hc => by cases hc)
          simpa using this
        · cases e
      · cases e
  | sub k root path o l => cases hb : blkOf st.hp (.sub k root path o l) <;> rw [hb] at e <;> simp [fixAV] at e
  | _ => simp [fixAV] at e

theorem keepTm_sound (R : Rel E fix F0 w0 F ρ st a w) : ∀ (ns : List Nat) (kept : List (Nat × AV)), keepTm st ns = some kept → KeptOk F kept a ∧ ∀ n, (look n kept).isSome → n ∈ ns := by
  intro ns
  induction ns with
  | nil => intro kept e; cases e; exact ⟨(fun n av h => by cases h), (fun n h => by cases h)⟩
  | cons m ns ih =>
    intro kept e
    simp only [keepTm] at e
    split at e
    · cases e
    rename_i av hav
    split at e
    · rename_i av' l e1 e2
      cases e
      obtain ⟨i1, i2⟩ := ih l e2
      refine ⟨fun n v h => ?_, fun n h => ?_⟩
      · rw [look_cons] at h
        split at h
        · rename_i hn; subst hn; cases h; exact fixAV_sound R hav e1
        · exact i1 n v h
      · rw [look_cons] at h
        split at h
        · rename_i hn; rw [hn]; exact List.mem_cons_self
        · exact List.mem_cons_of_mem _ (i2 n h)
    · cases e

/-- AT A CUT: the state under its new names. -/
theorem cut_sound {A : Ann} (hsl : slotsOk A = true) (R : Rel E fix F0 w0 F ρ st a w) {x : VDen A.vars} {ks : List Nat} (e : readV st A.vars = some (x, ks)) (hks : nodupB ks = true) {kept : List (Nat × AV)} (hk : KeptOk F kept a) :
    Rel E fix F0 w0 F (cutρ st ρ) (A.at kept x) a w := by
  have hvn := nodup_of hsl
  have hkn := nodup_of hks
  have hlook : ∀ n, look n (A.at kept x).tm = match look n (mkTm A.vars x) with | some v => some v | none => look n kept := by
    intro n
    show look n (mkTm A.vars x ++ kept) = _
    rw [look_append]
    cases look n (mkTm A.vars x) <;> rfl
  -- a block under its new name
  have blkAt : ∀ n s y l blk, (n, s) ∈ A.vars → readS st n s = some (y, l) → blkOfS s y = some blk →
      (∃ k b0, l = [k] ∧ hl st.hp k = some (some b0) ∧ cutρ st ρ (base + n) = ρ k ∧ blk.row = b0.row ∧ blk.fz = b0.fz ∧ RepB F w.heap w0.U (ρ k) blk ∧ blk.len = b0.len ∧
        ((∃ t fz root, s = .own t fz ∧ look n st.tm = some (.whole k root [])) ∨ (∃ t root, s = .ptr t ∧ look n st.tm = some (.ptr k root [])))) ∨
      (l = [] ∧ cutρ st ρ (base + n) = none ∧ blk.row = true ∧ blk.len = 0 ∧ look n st.tm = some .nil ∧ ∃ t fz, s = .own t fz) := by
    intro n s y l blk hm hr hb
    cases s with
    | val t => cases hb
    | own t fz =>
      cases hb
      simp only [readS] at hr
      split at hr
      · rename_i hn
        cases hr
        exact .inr ⟨rfl, by rw [cutρ_at, hn], rfl, rfl, hn, t, fz, rfl⟩
      · rename_i k root hn
        split at hr
        · rename_i m u xs fz' lk' hL
          split at hr
          · cases hr
          rename_i hfz
          have hfz : fz' = fz := by simpa using hfz
          subst hfz
          split at hr
          · rename_i y' e1
            cases hr
            have := TV.as_eq e1
            cases this
            refine .inl ⟨k, _, rfl, hL, by rw [cutρ_at, hn], rfl, rfl, ?_, rfl, .inl ⟨t, fz', root, rfl, hn⟩⟩
            rcases R.rel.blk _ _ hL with h1 | ⟨b, cap, c, e, fr, cs, rest, g1, g2, g3, g4, g5, g6, g7⟩
            · exact .inl h1
            · exact .inr ⟨b, cap, c, e, fr, cs, rest, g1, g2, g3, g4, g5, by simpa only [RepC, if_true] using g6, g7⟩
          · cases hr
        · cases hr
      · cases hr
    | ptr t =>
      cases hb
      simp only [readS] at hr
      split at hr
      · rename_i k root hn
        split at hr
        · rename_i u x0 lk' hL
          split at hr
          · rename_i y' e1
            cases hr
            have := TV.as_eq e1
            cases this
            refine .inl ⟨k, _, rfl, hL, by rw [cutρ_at, hn], rfl, rfl, (show RepB F w.heap w0.U (ρ k) ⟨false, t, y, false, lk'⟩ from R.rel.blk _ _ hL), rfl, .inr ⟨t, root, rfl, hn⟩⟩
          · cases hr
        · cases hr
      · cases hr
  have blkOf' : ∀ m blk, look m (mkHp A.vars x) = some (some blk) → ∃ n s y l, m = base + n ∧ (n, s) ∈ A.vars ∧ readS st n s = some (y, l) ∧ blkOfS s y = some blk := by
    intro m blk h
    obtain ⟨n, s, y, l, h1, h2, h3, h4, _⟩ := look_mkHp A.vars x ks m _ e h
    exact ⟨n, s, y, l, h1, h2, h3, h4.symm⟩
  have lk0 : ∀ s y blk, blkOfS s y = some blk → blk.lk = [] := by
    intro s y blk h
    cases s <;> simp only [blkOfS, Option.some.injEq] at h <;> first | (subst h; rfl) | cases h
  refine ⟨⟨R.rel.cons, ?_, ?_, ?_⟩, R.below, R.up, R.glob, R.le, R.base, ?_, ?_, R.ntm, R.defers, R.fixed, R.lock⟩
  · intro m blk h
    obtain ⟨n, s, y, l, rfl, h2, h3, h4⟩ := blkOf' m blk h
    rcases blkAt n s y l blk h2 h3 h4 with ⟨k, b0, _, _, hc, _, _, hB, _⟩ | ⟨_, hc, hr, hl0, _⟩
    · rw [hc]; exact hB
    · rw [hc]; exact .inl (rfl)
  · intro m m' x1 x2 b c c' h h' hr hr'
    obtain ⟨n, s, y, l, rfl, h2, h3, h4⟩ := blkOf' m x1 h
    obtain ⟨n', s', y', l', rfl, h2', h3', h4'⟩ := blkOf' m' x2 h'
    rcases blkAt n s y l x1 h2 h3 h4 with ⟨k, b0, hl1, hL, hc, _⟩ | ⟨_, hc, _⟩
    · rcases blkAt n' s' y' l' x2 h2' h3' h4' with ⟨k', b0', hl1', hL', hc', _⟩ | ⟨_, hc', _⟩
      · rw [hc] at hr
        rw [hc'] at hr'
        have hkk := R.rel.inj _ _ _ _ _ _ _ hL hL' hr hr'
        by_cases hnn : n = n'
        · rw [hnn]
        · exfalso
          exact readV_apart A.vars x ks e hkn hvn n s y l n' s' y' l' h2 h2' hnn h3 h3' k (by rw [hl1]; simp) (by rw [hl1', hkk]; simp)
      · rw [hc'] at hr'; cases hr'
    · rw [hc] at hr; cases hr
  · intro kb blk h p kk hm
    obtain ⟨n, s, y, l, rfl, h2, h3, h4⟩ := blkOf' kb blk h
    rw [lk0 s y blk h4] at hm; cases hm
  · intro n av hn
    rw [hlook] at hn
    split at hn
    · rename_i v hv
      cases hn
      obtain ⟨s, y, l, h2, h3, rfl⟩ := look_mkTm A.vars x ks n _ e hv
      cases s with
      | val t =>
        simp only [readS] at h3
        split at h3
        · cases h3
        rename_i av' hav'
        split at h3
        · rename_i x' e1
          cases h3
          have := deepV_sound (E := true) R.rel (R.tm _ _ hav') (blkOf_eq st.hp av') e1 (fun c hc => by cases hc)
          exact repAV_val.2 (by simpa using this)
        · cases h3
      | own t fz =>
        refine repAV_whole.2 (fun blk hL => ?_)
        obtain ⟨n', s', y', l', hb, h2', h3', h4'⟩ := blkOf' _ blk hL
        have hnn : n' = n := by omega
        subst hnn
        have := shape_unique hvn h2 h2'
        subst this
        rw [h3] at h3'; cases h3'
        rcases blkAt n' _ y l blk h2 h3 h4' with ⟨k, b0, hl1, hL0, hc, hrow, _, _, hlen, hcase⟩ | ⟨_, hc, hr, hl0, hnil, _⟩
        · cases h4'
          refine ⟨rfl, by simp [okB], ?_⟩
          rcases hcase with ⟨t', fz', root, hs, hlk⟩ | ⟨t', root, hs, _⟩
          · have hw := R.tm _ _ hlk
            obtain ⟨q1, q2, q3⟩ := repAV_whole.1 hw b0 hL0
            rw [hc]
            have hrow' : b0.row = true := hrow.symm
            rw [hrow', ← hlen] at q3
            rcases q3 with ⟨z1, z2, z3, z4, z5⟩ | ⟨bb, cap, m, u, off, z1, z2, z3⟩
            · exact .inl ⟨z1, rfl, rfl, z4, z5⟩
            · have hoff : off = 0 := by
                simp [Ty.nav] at z2; exact z2.2.symm
              subst hoff
              exact .inr ⟨bb, cap, 0, t, 0, z1, rfl, by simpa [lcap] using z3⟩
          · cases hs
        · cases h4'
          refine ⟨rfl, by simp [okB], .inl ⟨hc, rfl, rfl, hl0, ?_⟩⟩
          have := repA_nt (R.tm _ _ hnil) rfl
          simpa [RepA] using this
      | ptr t =>
        refine repAV_ptr.2 (fun blk hL => ?_)
        obtain ⟨n', s', y', l', hb, h2', h3', h4'⟩ := blkOf' _ blk hL
        have hnn : n' = n := by omega
        subst hnn
        have := shape_unique hvn h2 h2'
        subst this
        rw [h3] at h3'; cases h3'
        rcases blkAt n' _ y l blk h2 h3 h4' with ⟨k, b0, hl1, hL0, hc, hrow, _, _, hlen, hcase⟩ | ⟨_, _, _, _, _, t', fz', hs⟩
        · cases h4'
          rcases hcase with ⟨t', fz', root, hs, _⟩ | ⟨t', root, hs, hlk⟩
          · cases hs
          · have hw := R.tm _ _ hlk
            obtain ⟨q1, q2, bb, cap, u, off, z1, z2, z3⟩ := repAV_ptr.1 hw b0 hL0
            have hoff : off = 0 := by
              simp [Ty.nav] at z2; exact z2.2.symm
            subst hoff
            exact ⟨rfl, by simp only [okB, Bool.false_eq_true, if_false]; exact okT_nil _, bb, cap, t, 0, by rw [hc]; exact z1, by cases t <;> rfl, z3⟩
        · cases hs
    · exact (hk n av hn).2 _ _
  · intro n av hn k hk2
    rw [hlook] at hn
    split at hn
    · rename_i v hv
      cases hn
      obtain ⟨s, y, l, h2, h3, rfl⟩ := look_mkTm A.vars x ks n _ e hv
      cases s with
      | val t => cases hk2
      | own t fz =>
        simp only [avOf, AV.keys, List.mem_singleton] at hk2
        subst hk2
        exact look_mkHp_some A.vars x n _ h2 (by simp)
      | ptr t =>
        simp only [avOf, AV.keys, List.mem_singleton] at hk2
        subst hk2
        exact look_mkHp_some A.vars x n _ h2 (by simp)
    · rw [(hk n av hn).1] at hk2; cases hk2

end
end Lc
