/- The engine, part P: a step in a state. -/
import Derived.Test.YtbaiojghpadffaaEngOp
namespace Lc
open Go Go.RowKit
set_option linter.unusedVariables false
set_option linter.unusedSimpArgs false

section
variable {E : Env} {fix : Nat → Option Value} {F0 : FH} {w0 : Ctx} {F : FH} {ρ : RM} {st st' : St} {a : Act} {w : World}

/-- ONE STEP. -/
theorem step_sound (hE : Ok E) (R : Rel E fix F0 w0 F ρ st a w) {ops : Array Oper} {o : Oper} {cs : List Prop} (e : stepA E ops o st = some (cs, st')) (hc : ∀ c, c ∈ cs → c) {K : Act → World → Prop}
    (hK : ∀ F' ρ' a' w', Rel E fix F0 w0 F' ρ' st' a' w' → K a' w') (Q : Exit → Act → World → Prop) :
    if Region.wanted o (yielded ops a.tmps) then o.wp E.P a w K Q else K (a.put o.dst undef) w := by
  unfold stepA at e
  split at e
  · cases e
  rename_i args cs0 e1
  split at e
  · cases e
  rename_i g e2
  split at e
  · cases e
  rename_i r e3
  split at e
  · cases e
  rename_i hchk
  simp only [Bool.not_eq_true', Bool.not_eq_false, Bool.and_eq_true, List.all_eq_true, Option.isNone_iff_eq_none] at hchk
  obtain ⟨⟨hn1, hn2⟩, hres⟩ := hchk
  have hg := guard_sound R e2
  have hnew : ∀ p, p ∈ r.new → hl st.hp p.1 = none := hn1
  have hnd := nodup_of hn2
  simp only [resOk, Bool.and_eq_true, List.all_eq_true, Bool.or_eq_true] at hres
  obtain ⟨⟨⟨⟨_, _⟩, _⟩, _, _⟩, hkeys⟩ := hres
  have core : (∀ c, c ∈ cs0 → c) → (∀ c, c ∈ r.cs → c) → (∀ v w', Post w0.U F ρ (hl st.hp) w r.v (r.L (hl st.hp)) v w' → K (a.put o.dst v) w') → o.wp E.P a w K Q := by
    intro h0 h1 hk
    obtain ⟨ha, hkn⟩ := evalArgs_sound R (isPick o.op) (touches o.op) (by cases o.op <;> simp [isPick, touches]) _ _ _ e1 h0
    exact sound_opH hE R ha e3 h1 hnew hnd hkn a K Q rfl hk
  have relOf : ∀ (d : Option Nat) (v : Value) (w' : World) (av : AV), (∀ d', d = some d' → d' < E.ntm ∧ d' ∉ E.lock) → (∀ c, c ∈ cs0 → c) → Post w0.U F ρ (hl st.hp) w r.v (r.L (hl st.hp)) v w' →
      (∀ F' ρ', RepAV F' ρ' (r.L (hl st.hp)) r.v v → RepAV F' ρ' (r.L (hl st.hp)) av v) → av.keys = r.v.keys →
      ∃ F' ρ', Rel E fix F0 w0 F' ρ' ⟨(match d with | some d => [(d, av)] | none => []) ++ st.tm, r.hp st.hp⟩ (a.put d v) w' := by
    rintro d v w' av hd h0 ⟨F', ρ', p1, p2, p3, p4, p5, p6⟩ hav hak
    obtain ⟨_, hargk⟩ := evalArgs_sound R (isPick o.op) (touches o.op) (by cases o.op <;> simp [isPick, touches]) _ _ _ e1 h0
    have hlook : ∀ n, look n ((match d with | some d => [(d, av)] | none => []) ++ st.tm) = if d = some n then some av else look n st.tm := by
      intro n
      cases d with
      | none => simp
      | some d =>
        simp only [List.cons_append, List.nil_append, look_cons]
        by_cases h : n = d
        · subst h; simp
        · have : ¬ (some d = some n) := by simpa using fun h' => h h'.symm
          rw [if_neg h, if_neg this]
    refine ⟨F', ρ', by rw [hl_hp]; exact p2, R.below.trans p6, R.up, R.glob, R.le.trans p3, fun b hb => by rw [p4 b hb]; exact R.base b hb, ?_, ?_, by rw [put_size]; exact R.ntm, by rw [put_defers]; exact R.defers, fun n u hu => by
        rw [put_get a d v n (fun k hk => by rw [R.ntm]; exact (hd k hk).1), if_neg (fun h => (hd n h).2 (R.lock n u hu))]; exact R.fixed n u hu, R.lock⟩
    · intro n av' hn
      rw [hlook] at hn
      rw [put_get a d v n (fun k hk => by rw [R.ntm]; exact (hd k hk).1), hl_hp]
      split at hn
      · rename_i h
        cases hn
        rw [if_pos h]; exact hav F' ρ' p1
      · rename_i h
        rw [if_neg h]
        exact repAV_ext p3 p5 (R.keys _ _ hn) (R.tm _ _ hn)
    · intro n av' hn k hk
      rw [hlook] at hn
      rw [hl_hp]
      split at hn
      · cases hn
        rw [hak] at hk
        rcases hkeys k hk with h | h
        · exact isSome_L _ _ _ (hargk k (by simpa using h))
        · exact isSome_new _ _ _ h
      · exact isSome_L _ _ _ (R.keys _ _ hn k hk)
  split at e
  · rename_i d hdst
    simp only at hg
    rw [if_pos hg]
    split at e
    · rename_i hdn
      simp only [Bool.and_eq_true, decide_eq_true_eq, Bool.not_eq_true'] at hdn
      have hdn2 : d < E.ntm ∧ d ∉ E.lock := ⟨hdn.1, by simpa using hdn.2⟩
      cases e
      obtain ⟨c1, c2⟩ := mem2 hc
      refine core c1 c2 (fun v w' hp => ?_)
      obtain ⟨F', ρ', hr⟩ := relOf (some d) v w' r.v (fun d' h => by cases h; exact hdn2) c1 hp (fun _ _ h => h) rfl
      rw [hdst]; exact hK F' ρ' _ _ hr
    · cases e
  · rename_i hdst
    simp only at hg
    rw [if_pos hg]
    cases e
    obtain ⟨c1, c2⟩ := mem2 hc
    refine core c1 c2 (fun v w' hp => ?_)
    obtain ⟨F', ρ', hr⟩ := relOf none v w' r.v (fun d' h => by cases h) c1 hp (fun _ _ h => h) rfl
    rw [hdst]; exact hK F' ρ' _ _ hr
  · rename_i p d hdst
    simp only at hg
    split at e
    · rename_i hdn
      simp only [Bool.and_eq_true, decide_eq_true_eq, List.isEmpty_iff, Bool.not_eq_true', List.all_eq_true] at hdn
      obtain ⟨⟨⟨⟨hdn, hlk⟩, hz2⟩, hzt⟩, hnl⟩ := hdn
      have hlk : d ∉ E.lock := by simpa using hlk
      cases e
      by_cases hp : p
      · rw [if_pos (hg.2 hp)]
        have hall : ∀ c, c ∈ cs0 ++ r.cs → c := fun c hcm => hc (p → c) (List.mem_map.2 ⟨c, hcm, rfl⟩) hp
        obtain ⟨c1, c2⟩ := mem2 hall
        refine core c1 c2 (fun v w' hpo => ?_)
        obtain ⟨F', ρ', hr⟩ := relOf (some d) v w' (.opt p r.v) (fun d' h => by cases h; exact ⟨hdn, hlk⟩) c1 hpo (fun _ _ h => repAV_nt rfl ⟨fun _ => repA_nt h hzt, fun hn => absurd hp hn⟩) rfl
        rw [hdst]
        exact hK F' ρ' _ _ hr
      · rw [if_neg (fun h => hp (hg.1 h))]
        rw [hdst]
        obtain ⟨ρ', hR', hLL⟩ := R.rel.ghost (r := r) hnew hz2 (fun p hp => hnl p hp)
        refine hK F ρ' _ _ ⟨by rw [hl_hp]; exact hR', R.below, R.up, R.glob, R.le, R.base, ?_, ?_, by rw [put_size]; exact R.ntm, by rw [put_defers]; exact R.defers, fun n u hu => by
          rw [put_get a (some d) undef n (fun k hk => by cases hk; rw [R.ntm]; exact hdn), if_neg (fun h => by cases h; exact hlk (R.lock _ u hu))]; exact R.fixed n u hu, R.lock⟩
        · intro n av' hn
          simp only [look_cons] at hn
          rw [put_get a (some d) undef n (fun k hk => by cases hk; rw [R.ntm]; exact hdn)]
          split at hn
          · rename_i h
            cases hn
            rw [if_pos (by rw [h])]
            exact repAV_nt rfl ⟨fun h => absurd h hp, fun _ => rfl⟩
          · rename_i h
            rw [if_neg (by simpa using fun h' => h h'.symm), hl_hp]
            exact repAV_ext FH.le.rfl hLL (R.keys _ _ hn) (R.tm _ _ hn)
        · intro n av' hn k hk
          simp only [look_cons] at hn
          split at hn
          · cases hn
            simp only [AV.keys] at hk
            rw [hl_hp]
            rcases hkeys k hk with h | h
            · exact isSome_L _ _ _ (evalArgs_keys R _ _ _ _ _ e1 k (by simpa using h))
            · exact isSome_new _ _ _ h
          · rw [hl_hp]; exact isSome_L _ _ _ (R.keys _ _ hn k hk)
    · cases e
  · cases e

end
end Lc
