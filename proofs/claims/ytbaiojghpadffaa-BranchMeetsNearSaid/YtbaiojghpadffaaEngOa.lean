/- The engine, part O, second text: how an abstract state lies in a frame and a world. -/
import Derived.Test.YtbaiojghpadffaaEngO
namespace Lc
open Go Go.RowKit
set_option linter.unusedVariables false
set_option linter.unusedSimpArgs false

/-- HOW AN ABSTRACT STATE LIES IN A FRAME AND A WORLD. -/
structure Rel (E : Env) (fix : Nat → Option Value) (F0 : FH) (w0 : Ctx) (F : FH) (ρ : RM) (st : St) (a : Act) (w : World) : Prop where
  rel : HRel F ρ (hl st.hp) w.heap w0.U
  below : Kept w0.U w0.w w
  up : ∀ b, w0.w.heap.size ≤ b → w0.U b
  glob : GlobOk E.glob F0
  le : F0.le F
  base : ∀ b, ¬ w0.U b → F b = F0 b
  tm : ∀ n av, look n st.tm = some av → RepAV F ρ (hl st.hp) av (a.tmps.getD n undef)
  keys : ∀ n av, look n st.tm = some av → ∀ k, k ∈ av.keys → (hl st.hp k).isSome
  ntm : a.tmps.size = E.ntm
  defers : a.defers = []
  fixed : ∀ n v, fix n = some v → a.tmps.getD n undef = v
  lock : ∀ n v, fix n = some v → n ∈ E.lock

def ConP.vars (c : ConP) : List (Nat × Shape) := [(0, .ptrL c.t c.ps)]

/-- THE CONTRACT OF A METHOD WITH A POINTER TO A STRUCT. -/
structure SoundP (P : Program) (G : Nat → Option TV) (f : FuncId) (c : ConP) : Prop where
  fn : ∃ fn, P.funcs[f]? = some fn ∧ (fn.name == "runtime.NumGoroutine") = false ∧ fn.body.isSome = true
  calls : ∀ (F : FH) (U : Nat → Prop) (w : World) (ρ : RM) (x : c.t.den) (ys : Tup c.params) (b : Nat) (cap : Cap) (vs : List Value), HRel F ρ (hl (mkHp c.vars (x, ()))) w.heap U → ρ base = some (b, cap) → (∀ b, w.heap.size ≤ b → U b) → GlobOk G F →
    RepArgs F c.params ys vs → c.pre x ys →
    Calls P f (Value.pointer (some ⟨b, 0, none⟩) :: vs).toArray w (fun e w' => ∃ v F' ρ' rv, e = .returned v ∧ F.le F' ∧ (∀ b, ¬ U b → F' b = F b) ∧ HRel F' ρ' (hl (mkHp c.vars ((c.fn x ys).1, ()))) w'.heap U ∧ (∃ cap', ρ' base = some (b, cap')) ∧
      RepRets F' w'.heap w.heap.size c.rets (c.fn x ys).2 rv [] ∧ RetV rv v ∧ Kept U w w')

structure Ok (E : Env) : Prop where
  env : EnvOk E
  con : ∀ f c, E.con f = some c → SoundC E.P E.glob f c
  ptr : ∀ f c, E.ptr f = some c → SoundP E.P E.glob f c

section
variable {E : Env} {fix : Nat → Option Value} {F0 : FH} {w0 : Ctx} {F : FH} {ρ : RM} {st st' : St} {a : Act} {w : World}

theorem Rel.in_ (R : Rel E fix F0 w0 F ρ st a w) (hE : Ok E) : In E w0.U F ρ (hl st.hp) w := ⟨hE.env, R.rel, fun b hb => R.up b (Nat.le_trans R.below.size hb)⟩

theorem strip_rep {L : HL} : ∀ (av : AV) (v : Value), RepAV F ρ L av v → (∀ c, c ∈ (strip av).2 → c) → RepAV F ρ L (strip av).1 v := by
  intro av
  induction av with
  | opt p a ih =>
    intro v h hc
    simp only [strip] at hc ⊢
    split
    · exact h
    · rename_i ht
      rw [if_neg ht] at hc
      have ht : a.isTup = false := by simpa using ht
      have hp : p := hc p (by simp)
      have h' := repA_nt h rfl
      exact ih v (repAV_nt ht (h'.1 hp)) (fun c h => hc c (by simp [h]))
  | _ => intro v h _; exact h

theorem strip_key : ∀ (av : AV), (strip av).1.key = av.key ∧ (strip av).1.keys = av.keys := by
  intro av
  induction av with
  | opt p a ih =>
    simp only [strip]
    split
    · exact ⟨rfl, rfl⟩
    · exact ih
  | _ => exact ⟨rfl, rfl⟩

theorem const_rep {L : HL} (v : Value) : RepAV F ρ L (constAV v) v := by
  unfold constAV
  split
  · exact repAV_bool.2 rfl
  · exact repAV_int.2 rfl
  · exact repAV_str.2 rfl
  · exact repAV_nt rfl rfl
  · exact repAV_nt rfl rfl

theorem const_keys (v : Value) : (constAV v).keys = [] := by
  unfold constAV; split <;> rfl

theorem evalO_rep (R : Rel E fix F0 w0 F ρ st a w) {x : Operand} {av : AV} (e : evalO E st.tm x = some av) : RepAV F ρ (hl st.hp) av (a.eval x) ∧ ∀ k, k ∈ av.keys → (hl st.hp k).isSome := by
  cases x with
  | tmp t => exact ⟨R.tm _ _ e, R.keys _ _ e⟩
  | const v => simp only [evalO, Option.some.injEq] at e; subst e; exact ⟨const_rep v, by rw [const_keys]; intro k hk; cases hk⟩
  | global g =>
    simp only [evalO] at e
    split at e
    · rename_i tv htv
      cases e
      obtain ⟨cs, h1, h2⟩ := (R.glob.mono R.le) g tv htv
      exact ⟨repAV_cptr.2 ⟨g, 0, cs, rfl, h1, h2⟩, by intro k hk; cases hk⟩
    · cases e
  | func f => simp only [evalO, Option.some.injEq] at e; subst e; exact ⟨repAV_nt rfl rfl, by intro k hk; cases hk⟩

theorem blkOf_eq (hp : List (Nat × Option Blk)) (av : AV) : blkOf hp av = blkL (hl hp) av := rfl

theorem blkKeys_some (R : Rel E fix F0 w0 F ρ st a w) {av : AV} {tc : Bool} {k : Nat} (hk : k ∈ blkKeys (if tc then blkOf st.hp av else none)) : (hl st.hp k).isSome := by
  cases tc
  · simp [blkKeys] at hk
  · simp only [if_true] at hk
    cases hb : blkOf st.hp av with
    | none => rw [hb] at hk; simp [blkKeys] at hk
    | some b =>
      rw [hb] at hk
      simp only [blkKeys, List.mem_map] at hk
      obtain ⟨⟨p, k'⟩, hq, rfl⟩ := hk
      rw [blkOf_eq] at hb
      obtain ⟨kb, _, hL⟩ := blkL_some hb.symm
      exact (R.rel.lnk kb b hL p k' hq).1

theorem evalArgs_keys (R : Rel E fix F0 w0 F ρ st a w) (pk tc : Bool) : ∀ (ops : List Operand) (args : List (AV × Option Blk)) (cs : List Prop), evalArgs E st pk tc ops = some (args, cs) →
    ∀ k, k ∈ keysOf args → (hl st.hp k).isSome := by
  intro ops
  induction ops with
  | nil => intro args cs e; cases e; intro k hk; cases hk
  | cons x ops ih =>
    intro args cs e
    simp only [evalArgs] at e
    split at e
    · cases e
    rename_i av hav
    obtain ⟨_, h2⟩ := evalO_rep R hav
    split at e
    · cases e
    rename_i l cs' e'
    have i2 := ih _ _ e'
    split at e
    · cases e
      intro k hk
      simp only [keysOf, List.flatMap_cons, List.mem_append, argKeys, blkKeys, List.not_mem_nil, or_false] at hk
      rcases hk with hk | hk
      · exact h2 k hk
      · exact i2 k hk
    · cases e
      intro k hk
      simp only [keysOf, List.flatMap_cons, List.mem_append, argKeys, (strip_key av).2] at hk
      rcases hk with (hk | hk) | hk
      · exact h2 k hk
      · exact blkKeys_some R hk
      · exact i2 k hk

theorem evalArgs_sound (R : Rel E fix F0 w0 F ρ st a w) (pk tc : Bool) (hpt : pk = true → tc = false) : ∀ (ops : List Operand) (args : List (AV × Option Blk)) (cs : List Prop), evalArgs E st pk tc ops = some (args, cs) → (∀ c, c ∈ cs → c) →
    ArgsOk' F ρ (hl st.hp) tc args (ops.map a.eval) ∧ ∀ k, k ∈ keysOf args → (hl st.hp k).isSome := by
  intro ops
  induction ops with
  | nil => intro args cs e _; cases e; exact ⟨trivial, by intro k hk; cases hk⟩
  | cons x ops ih =>
    intro args cs e hc
    simp only [evalArgs] at e
    split at e
    · cases e
    rename_i av hav
    obtain ⟨h1, h2⟩ := evalO_rep R hav
    split at e
    · cases e
    rename_i l cs' e'
    split at e
    · rename_i hpk
      cases e
      obtain ⟨i1, i2⟩ := ih _ _ e' hc
      refine ⟨⟨⟨h1, fun h => by rw [hpt hpk] at h; cases h⟩, i1⟩, fun k hk => ?_⟩
      simp only [keysOf, List.flatMap_cons, List.mem_append, argKeys, blkKeys, List.not_mem_nil, or_false] at hk
      rcases hk with hk | hk
      · exact h2 k hk
      · exact i2 k hk
    · cases e
      obtain ⟨c1, c2⟩ := mem2 hc
      obtain ⟨i1, i2⟩ := ih _ _ e' c2
      refine ⟨⟨⟨strip_rep av _ h1 c1, fun h => ?_⟩, i1⟩, fun k hk => ?_⟩
      · simp only [h, if_true]
        rw [blkOf_eq]; unfold blkL; rw [(strip_key av).1]
      · simp only [keysOf, List.flatMap_cons, List.mem_append, argKeys, (strip_key av).2] at hk
        rcases hk with (hk | hk) | hk
        · exact h2 k hk
        · exact blkKeys_some R hk
        · exact i2 k hk

theorem put_get (a : Act) (d : Option Nat) (v : Value) (n : Nat) (hd : ∀ k, d = some k → k < a.tmps.size) : (a.put d v).tmps.getD n undef = if d = some n then v else a.tmps.getD n undef := by
  cases d with
  | none => simp [Act.put]
  | some k =>
    have := hd k rfl
    simp only [Act.put, Array.getD_eq_getD_getElem?, Array.getElem?_setIfInBounds]
    by_cases hk : k = n
    · subst hk; simp [this]
    · have : ¬ (some k = some n) := by simpa using hk
      simp [hk]

theorem put_size (a : Act) (d : Option Nat) (v : Value) : (a.put d v).tmps.size = a.tmps.size := by cases d <;> simp [Act.put]
theorem put_defers (a : Act) (d : Option Nat) (v : Value) : (a.put d v).defers = a.defers := by cases d <;> rfl

theorem yielded_get (ops : Array Oper) (tmps : Array Value) (j d : Nat) (hd : (ops[j]?).bind (·.dst) = some d) : yielded ops tmps j = match tmps[d]? with | some (.bool b) => some b | _ => none := by
  simp only [yielded, hd, Option.bind_some]
  cases tmps[d]? with
  | none => rfl
  | some v => rfl

theorem guard_sound (R : Rel E fix F0 w0 F ρ st a w) {ops : Array Oper} {o : Oper} {g : Option Prop} (e : guardP ops o st.tm = some g) :
    match g with | none => Region.wanted o (yielded ops a.tmps) = true | some p => (Region.wanted o (yielded ops a.tmps) = true ↔ p) := by
  unfold guardP at e
  split at e
  · rename_i hg; cases e; simp [Region.wanted, hg]
  · rename_i j b hg
    split at e
    · cases e
    rename_i d hd
    have hy := yielded_get ops a.tmps j d hd
    have hw : Region.wanted o (yielded ops a.tmps) = (yielded ops a.tmps j == some b) := by simp [Region.wanted, hg]
    split at e
    · rename_i x hx
      cases e
      have hv := repAV_bool.1 (R.tm _ _ hx)
      have hq : a.tmps[d]? = some (.bool x) := by
        rw [Array.getD_eq_getD_getElem?] at hv
        cases hq : a.tmps[d]? with
        | none => rw [hq] at hv; simp [undef] at hv
        | some v => rw [hq] at hv; simp at hv; rw [hv]
      simp only
      rw [hw, hy, hq]; simp
    · rename_i p x hx
      cases e
      have hv := repA_nt (R.tm _ _ hx) rfl
      simp only
      rw [hw, hy]
      by_cases hp : p
      · have hv1 := hv.1 hp
        obtain ⟨v, e1, e2⟩ := hv1
        simp at e1
        rw [repV_bool] at e2
        rw [e2] at e1
        have hq : a.tmps[d]? = some (.bool x) := by
          cases hq : a.tmps[d]? with
          | none => rw [hq] at e1; simp [undef] at e1
          | some v => rw [hq] at e1; simp at e1; rw [e1]
        rw [hq]; simp [hp]
      · have hv2 := hv.2 hp
        simp at hv2
        have hq : (match a.tmps[d]? with | some (.bool b) => some b | _ => none) = (none : Option Bool) := by
          cases hq : a.tmps[d]? with
          | none => rfl
          | some v => rw [hq] at hv2; simp at hv2; rw [hv2]; rfl
        rw [hq]; simp [hp]
    · cases e

theorem isSome_L (r : Res) (L : HL) (k : Nat) (h : (L k).isSome) : (r.L L k).isSome := by
  simp only [Res.L]
  split
  · rfl
  · split
    · rfl
    · split
      · rfl
      · exact h

theorem isSome_new (r : Res) (L : HL) (k : Nat) (h : (r.new.map (·.1)).contains k = true) : (r.L L k).isSome := by
  simp only [Res.L]
  have : (look k r.new).isSome := by
    generalize r.new = l at h
    induction l with
    | nil => simp at h
    | cons p l ih =>
      obtain ⟨k1, b⟩ := p
      rw [look_cons]
      split
      · rfl
      · rename_i hne
        simp only [List.map_cons, List.contains_cons, Bool.or_eq_true, beq_iff_eq] at h
        rcases h with h | h
        · exact absurd h hne
        · exact ih h
  cases hq : look k r.new with
  | none => rw [hq] at this; cases this
  | some b => rfl

theorem lookIn {k : Nat} {b : Blk} : ∀ (l : List (Nat × Blk)), look k l = some b → ∃ p, p ∈ l ∧ p.2 = b := by
  intro l
  induction l with
  | nil => intro e; cases e
  | cons p l ih =>
    obtain ⟨k1, b1⟩ := p
    intro e
    rw [look_cons] at e
    split at e
    · cases e; exact ⟨_, List.mem_cons_self, rfl⟩
    · obtain ⟨q, q1, q2⟩ := ih e; exact ⟨q, List.mem_cons_of_mem _ q1, q2⟩

/-- An operation that is not carried out: its new blocks are not there. -/
theorem HRel.ghost {L : HL} {H : Array Obj} {B0 : Nat → Prop} {r : Res} (h : HRel F ρ L H B0) (hn : ∀ p, p ∈ r.new → L p.1 = none) (hs : r.set = []) (hl0 : ∀ p, p ∈ r.new → p.2.lk = []) : ∃ ρ', HRel F ρ' (r.L L) H B0 ∧ LLe L ρ (r.L L) ρ' := by
  have hnew : ∀ k blk, look k r.new = some blk → L k = none := by
    intro k blk e
    have : ∀ l : List (Nat × Blk), look k l = some blk → ∃ p, p ∈ l ∧ p.1 = k := by
      intro l
      induction l with
      | nil => intro e; cases e
      | cons p l ih =>
        obtain ⟨k1, b1⟩ := p
        intro e
        rw [look_cons] at e
        split at e
        · rename_i hk; exact ⟨_, List.mem_cons_self, hk.symm⟩
        · obtain ⟨q, q1, q2⟩ := ih e; exact ⟨q, List.mem_cons_of_mem _ q1, q2⟩
    obtain ⟨p, p1, p2⟩ := this _ e
    rw [← p2]; exact hn p p1
  have old : ∀ k blk, (r.L L) k = some (some blk) → look k r.new = none → L k = some (some blk) := by
    intro k blk e e2
    simp only [Res.L, e2, hs, look] at e
    split at e
    · cases e
    · exact e
  have hLL : LLe L ρ (r.L L) (fun k => match look k r.new with | some _ => none | none => ρ k) := by
    intro k hk blk' e
    cases hq : look k r.new with
    | some b => rw [hnew k b hq] at hk; cases hk
    | none => exact ⟨blk', old k blk' e hq, rfl, rfl, rfl, by simp only [hq]⟩
  refine ⟨fun k => match look k r.new with | some _ => none | none => ρ k, ⟨h.cons, ?_, ?_, ?_⟩, hLL⟩
  · intro k blk e
    cases hq : look k r.new with
    | some b => exact .inl rfl
    | none => exact h.blk k blk (old k blk e hq)
  · intro k k' x x' b c c' e1 e2 e3 e4
    cases hq : look k r.new with
    | some b => simp only [hq] at e3; cases e3
    | none =>
      cases hq' : look k' r.new with
      | some b => simp only [hq'] at e4; cases e4
      | none =>
        simp only [hq] at e3
        simp only [hq'] at e4
        exact h.inj k k' x x' b c c' (old _ _ e1 hq) (old _ _ e2 hq') e3 e4
  · intro kb blk e p kk hm
    cases hq : look kb r.new with
    | some b =>
      have hb : b = blk := by simp only [Res.L, hq, Option.some.injEq] at e; exact e
      subst hb
      obtain ⟨q, q1, q2⟩ := lookIn _ hq
      have h5 := hl0 q q1
      rw [q2] at h5
      rw [h5] at hm; cases hm
    | none =>
      obtain ⟨g1, g2⟩ := h.lnk kb blk (old kb blk e hq) p kk hm
      exact ⟨isSome_L _ _ _ g1, fun b cap e2 => (g2 b cap e2).ext FH.le.rfl hLL g1 (fun _ => rfl)⟩



end
end Lc
