/- The engine, part S: the soundness of a function's condition. -/
import Derived.Test.YtbaiojghpadffaaEngQ
import Derived.Scope
import Derived.Deep.LoopGhost
namespace Lc
open Go Go.RowKit
set_option linter.unusedVariables false
set_option linter.unusedSimpArgs false

theorem conjK_out {K : Prop} : ∀ (cs : List Prop), conjK cs K → (∀ c, c ∈ cs → c) ∧ K := by
  intro cs
  induction cs with
  | nil => intro h; exact ⟨(fun c hc => by cases hc), h⟩
  | cons c cs ih =>
    rintro ⟨h1, h2⟩
    obtain ⟨i1, i2⟩ := ih h2
    exact ⟨fun c' hc => by
      rcases List.mem_cons.1 hc with rfl | h
      · exact h1
      · exact i1 c' h, i2⟩

theorem vall_at : ∀ (vs : List (Nat × Shape)) (f : VDen vs → Prop), vall vs f → ∀ x, f x := by
  intro vs
  induction vs with
  | nil => intro f h x; exact h
  | cons p vs ih => intro f h x; exact ih (fun y => f (x.1, y)) (h x.1) x.2

theorem tall_at : ∀ (ts : List Ty) (f : Tup ts → Prop), tall ts f → ∀ x, f x := by
  intro ts
  induction ts with
  | nil => intro f h x; exact h
  | cons t ts ih => intro f h x; exact ih (fun y => f (x.1, y)) (h x.1) x.2

section
variable {w0 : Ctx}

theorem Ok.locked {E : Env} (h : Ok E) (l : List Nat) : Ok (E.locked l) := ⟨⟨h.env.ty, h.env.bytes, h.env.turn⟩, h.con, h.ptr⟩

/-- Slots that are kept. -/
def fixUp (fix : Nat → Option Value) (keep : List Nat) (a : Act) : Nat → Option Value := fun n => if keep.contains n then some (a.tmps.getD n undef) else fix n

theorem Rel.enter {E : Env} {fix : Nat → Option Value} {F0 F : FH} {ρ : RM} {st : St} {a : Act} {w : World} (R : Rel E fix F0 w0 F ρ st a w) (keep : List Nat) : Rel (E.locked keep) (fixUp fix keep a) F w0 F ρ st a w := by
  refine ⟨R.rel, R.below, R.up, R.glob.mono R.le, FH.le.rfl, fun _ _ => rfl, R.tm, R.keys, R.ntm, R.defers, fun n v h => ?_, fun n v h => ?_⟩
  · unfold fixUp at h
    split at h
    · cases h; rfl
    · exact R.fixed n v h
  · unfold fixUp at h
    show n ∈ keep ++ E.lock
    split at h
    · rename_i hk; exact List.mem_append_left _ (by simpa using hk)
    · exact List.mem_append_right _ (R.lock n v h)

theorem Rel.leave {E : Env} {fix : Nat → Option Value} {F0 F F' : FH} {ρ ρ' : RM} {st st' : St} {a a' : Act} {w w' : World} {keep : List Nat} (R : Rel E fix F0 w0 F ρ st a w) (R' : Rel (E.locked keep) (fixUp fix keep a) F w0 F' ρ' st' a' w') :
    Rel E fix F0 w0 F' ρ' st' a' w' := by
  refine ⟨R'.rel, R'.below, R'.up, R.glob, R.le.trans R'.le, fun b hb => (R'.base b hb).trans (R.base b hb), R'.tm, R'.keys, R'.ntm, R'.defers, fun n v h => ?_, R.lock⟩
  by_cases hk : keep.contains n = true
  · have := R'.fixed n (a.tmps.getD n undef) (by unfold fixUp; rw [if_pos hk])
    rw [this]; exact R.fixed n v h
  · exact R'.fixed n v (by unfold fixUp; rw [if_neg hk]; exact h)

theorem KeptOk.later {E : Env} {fix : Nat → Option Value} {F F' : FH} {ρ' : RM} {st' : St} {a a' : Act} {w' : World} {keep : List Nat} {kept : List (Nat × AV)} (hk : KeptOk F kept a) (hd : ∀ n, (look n kept).isSome → n ∈ keep)
    (R' : Rel (E.locked keep) (fixUp fix keep a) F w0 F' ρ' st' a' w') : KeptOk F' kept a' := by
  intro n av hn
  have hmem := hd n (by rw [hn]; rfl)
  have hv := R'.fixed n (a.tmps.getD n undef) (by unfold fixUp; rw [if_pos (by simpa using hmem)])
  obtain ⟨h1, h2⟩ := hk n av hn
  refine ⟨h1, fun ρ L => ?_⟩
  rw [hv]
  exact repAV_ext (L := fun _ => none) (ρ := ρ) R'.le (fun k hk => by cases hk) (fun k hk => by rw [h1] at hk; cases hk) (h2 ρ _)

theorem wpA_sound {N : Notes} : ∀ (c : Code) {E : Env} {fix : Nat → Option Value} {F0 : FH} {QA : Exit → St → Prop} {st : St} {a : Act} {w : World} {F : FH} {ρ : RM}, Ok E → E.P.follows .mixedOrders = true → Rel E fix F0 w0 F ρ st a w →
    wpA N E c QA st → c.wp E.P (fun e a' w' => ∃ st' F' ρ', Rel E fix F0 w0 F' ρ' st' a' w' ∧ QA e st') a w := by
  intro c
  induction c with
  | skip => intro E fix F0 QA st a w F ρ hE hm R h; exact wp_skip ⟨st, F, ρ, R, h⟩
  | region id ops draw =>
    intro E fix F0 QA st a w F ρ hE hm R h
    simp only [wpA] at h
    split at h
    · exact h.elim
    rename_i hd
    split at h
    · rename_i cs st' e
      obtain ⟨F1, ρ1, R1⟩ := freeze_sound (N.frz id) R
      obtain ⟨hc, hq⟩ := conjK_out cs h
      exact region_sound hE hm (by simpa using hd) R1 e hc (fun F' ρ' a' w' R' => ⟨st', F', ρ', R', hq⟩)
    · exact h.elim
  | seq x y ihx ihy =>
    intro E fix F0 QA st a w F ρ hE hm R h
    simp only [wpA] at h
    split at h
    · refine wp_seq (wp_mono (ihx hE hm R h) ?_)
      rintro e a' w' ⟨st', F', ρ', R', hq⟩
      cases e with
      | normal => exact ihy hE hm R' hq
      | _ => exact ⟨st', F', ρ', R', hq⟩
    · rename_i A hA
      obtain ⟨F1, ρ1, R1⟩ := freeze_sound A.frz R
      split at h
      · exact h.elim
      rename_i kept hkept
      split at h
      · rename_i hsl
        obtain ⟨h1, h2⟩ := h
        obtain ⟨k1, k2⟩ := keepTm_sound R1 _ _ hkept
        refine wp_seq (wp_mono (ihx (E := E.locked A.keep) (hE.locked A.keep) hm (R1.enter A.keep) h1) ?_)
        rintro e a' w' ⟨st', F', ρ', R', hq⟩
        cases e with
        | normal =>
          simp only [Exit.thenA, atCut] at hq
          split at hq
          · rename_i xx ks er
            split at hq
            · rename_i hks
              have hcut := cut_sound hsl R' er hks (k1.later k2 R')
              exact ihy hE hm (R1.leave hcut) (vall_at _ _ h2 xx hq)
            · exact hq.elim
          · exact hq.elim
        | _ => exact ⟨st', F', ρ', R1.leave R', hq⟩
      · exact h.elim
  | cond cc x y ihx ihy =>
    intro E fix F0 QA st a w F ρ hE hm R h
    simp only [wpA] at h
    split at h
    · rename_i b hb
      have hv := repAV_bool.1 (evalO_rep R hb).1
      refine wp_cond_split hv (fun ht => ihx hE hm R (h.1 ht)) (fun ht => ihy hE hm R (h.2 ht))
    · exact h.elim
  | block id x ih =>
    intro E fix F0 QA st a w F ρ hE hm R h
    simp only [wpA] at h
    refine wp_block (wp_mono (ih hE hm R h) ?_)
    rintro e a' w' ⟨st', F', ρ', R', hq⟩
    cases e with
    | exit j =>
      simp only [Exit.inBlockA] at hq
      simp only [Exit.inBlock]
      split
      · rename_i hj; rw [if_pos hj] at hq; exact ⟨st', F', ρ', R', hq⟩
      · rename_i hj; rw [if_neg hj] at hq; exact ⟨st', F', ρ', R', hq⟩
    | _ => exact ⟨st', F', ρ', R', hq⟩
  | loop x ih =>
    intro E fix F0 QA st a w F ρ hE hm R h
    simp only [wpA] at h
    split at h
    · exact h.elim
    rename_i A hA
    obtain ⟨F1, ρ1, R1⟩ := freeze_sound A.frz R
    split at h
    · exact h.elim
    rename_i kept hkept
    split at h
    · rename_i hsl
      obtain ⟨h1, h2⟩ := h
      obtain ⟨k1, k2⟩ := keepTm_sound R1 _ _ hkept
      simp only [atCut] at h1
      split at h1
      · rename_i x0 ks er
        split at h1
        · rename_i hks
          have hR0 := cut_sound hsl (R1.enter A.keep) er hks (k1.later k2 (R1.enter A.keep))
          refine wp_loop_ghost (fun n a' w' => ∃ y F' ρ', vapp A.vars A.mes y = n ∧ vapp A.vars A.inv y ∧ Rel (E.locked A.keep) (fixUp fix A.keep a) F1 w0 F' ρ' (A.at kept y) a' w') _ ⟨x0, _, _, rfl, h1, hR0⟩ ?_
          rintro n a' w' ⟨y, F', ρ', rfl, hinv, R'⟩
          refine wp_mono (ih (E := E.locked A.keep) (hE.locked A.keep) hm R' (vall_at _ _ h2 y hinv)) ?_
          rintro e a2 w2 ⟨st2, F2, ρ2, R2, hq⟩
          cases e with
          | normal =>
            simp only [Exit.thenA, atCut] at hq
            split at hq
            · rename_i z ks2 er2
              split at hq
              · rename_i hks2
                refine ⟨_, hq.2, z, F2, _, rfl, hq.1, cut_sound hsl R2 er2 hks2 (k1.later k2 R2)⟩
              · exact hq.elim
            · exact hq.elim
          | _ => exact ⟨st2, F2, ρ2, R1.leave R2, hq⟩
        · exact h1.elim
      · exact h1.elim
    · exact h.elim
  | scope x ih =>
    intro E fix F0 QA st a w F ρ hE hm R h
    simp only [wpA] at h
    refine wp_scope_straight (wp_mono (ih hE hm R h) ?_)
    rintro e a' w' ⟨st', F', ρ', R', hq⟩
    cases e with
    | goto l => exact hq.elim
    | _ => exact ⟨st', F', ρ', R', hq⟩
  | label l => intro E fix F0 QA st a w F ρ hE hm R h; exact wp_label ⟨st, F, ρ, R, h⟩
  | exit id => intro E fix F0 QA st a w F ρ hE hm R h; exact wp_exit ⟨st, F, ρ, R, h⟩
  | ret => intro E fix F0 QA st a w F ρ hE hm R h; exact wp_ret ⟨st, F, ρ, R, h⟩
  | _ => intros; rename_i h; simp only [wpA] at h

end
end Lc
