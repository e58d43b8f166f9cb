/- The engine, part O: every operation; a step in a state. -/
import Derived.Test.YtbaiojghpadffaaEngNn
namespace Lc
open Go Go.RowKit
set_option linter.unusedVariables false
set_option linter.unusedSimpArgs false

section
variable {E : Env} {B0 : Nat → Prop} {F : FH} {ρ : RM} {L : HL} {w : World} {o : Oper} {ev : Operand → Value} {r : Res}

theorem nodup_of {l : List Nat} (h : nodupB l = true) : l.Nodup := by
  induction l with
  | nil => exact List.nodup_nil
  | cons a l ih =>
    simp only [nodupB, Bool.and_eq_true, Bool.not_eq_true'] at h
    rw [List.nodup_cons]
    exact ⟨by simpa using h.1, ih h.2⟩

/-- Args: at an operation that does not touch memory the blocks are not asked for. -/
def ArgsOk' (F : FH) (ρ : RM) (L : HL) (tc : Bool) : List (AV × Option Blk) → List Value → Prop
  | [], [] => True
  | a :: as, v :: vs => (RepAV F ρ L a.1 v ∧ (tc = true → a.2 = blkL L a.1)) ∧ ArgsOk' F ρ L tc as vs
  | _, _ => False

theorem ArgsOk'.arg : ∀ (as : List (AV × Option Blk)) (vs : List Value), ArgsOk' F ρ L true as vs → ArgsOk F ρ L as vs
  | [], [], _ => trivial
  | _ :: as, _ :: vs, h => ⟨⟨h.1.1, h.1.2 rfl⟩, ArgsOk'.arg as vs h.2⟩
  | [], _ :: _, h => h.elim
  | _ :: _, [], h => h.elim

theorem sound_op (hI : In E B0 F ρ L w) (hgl : GlobOk E.glob F) (hcon : ∀ f c, E.con f = some c → SoundC E.P E.glob f c) {args : List (AV × Option Blk)}
    (ha : ArgsOk' F ρ L (touches o.op) args (o.op.operands.toList.map ev)) (e : evalOp E o.op o.type o.dst args = some r) (hc : ∀ c, c ∈ r.cs → c) (hnew : ∀ p, p ∈ r.new → L p.1 = none) (hnd : (r.new.map (·.1)).Nodup) (hkn : ∀ k, k ∈ keysOf args → (L k).isSome) :
    Does E.P o ev w (Post B0 F ρ L w r.v (r.L L)) := by
  cases hop : o.op with
  | move x =>
    rw [hop] at e ha
    match args, ha, e with
    | [(a, b)], ha, e => exact sound_move hI (.inl hop) ha.1.1 e
  | assign x =>
    rw [hop] at e ha
    match args, ha, e with
    | [(a, b)], ha, e => exact sound_assign hI hop ha.1.1 e
  | nilCheck x =>
    rw [hop] at e ha
    match args, ha, e with
    | [(a, b)], ha, e => exact sound_nilCheck hI hop ⟨ha.1.1, ha.1.2 rfl⟩ e
  | pick c a b =>
    rw [hop] at e ha
    match args, ha, e with
    | [(x, _), (y, _), (z, _)], ha, e => exact sound_pick hI hop ha.1.1 ha.2.1.1 ha.2.2.1.1 e hc
  | alloc t =>
    rw [hop] at e ha
    match args, ha, e with
    | [], ha, e => exact sound_alloc hI hop hnew e
  | box t x =>
    rw [hop] at e ha
    match args, ha, e with
    | [(a, b)], ha, e => exact sound_box hI hop ⟨ha.1.1, ha.1.2 rfl⟩ hnew e hc (fun k hk => hkn k (by simp only [keysOf, List.flatMap_cons, List.mem_append, argKeys]; exact .inl (.inl hk)))
  | build t ps =>
    rw [hop] at e ha
    have ha' := ArgsOk'.arg _ _ ha
    simp only [Op.operands, List.toList_toArray, List.map_map] at ha'
    exact sound_build hI hop ha' hnew hnd hkn e hc
  | buildSlice t n ps =>
    rw [hop] at e ha
    have ha' := ArgsOk'.arg _ _ ha
    simp only [Op.operands, List.toList_toArray, List.map_map] at ha'
    exact sound_buildSlice hI hop ha' hnew e hc
  | load t x =>
    rw [hop] at e ha
    match args, ha, e with
    | [(a, b)], ha, e =>
      simp only [evalOp] at e
      split at e
      · exact sound_loadL (x := (a, b)) hI hop ⟨ha.1.1, ha.1.2 rfl⟩ e
      · exact sound_load hI hop ⟨ha.1.1, ha.1.2 rfl⟩ e
  | store t x y =>
    rw [hop] at e ha
    match args, ha, e with
    | [(a, b), (a', b')], ha, e =>
      have := sound_store (x := (a, b)) (y := (a', b')) hI hop ⟨ha.1.1, ha.1.2 rfl⟩ ⟨ha.2.1.1, ha.2.1.2 rfl⟩ (fun k hk => hkn k (by simp [keysOf, argKeys, hk])) e hc
      have hv : r.v = .tnil := by
        simp only [evalOp, evalStore] at e
        repeat' split at e
        all_goals first | (cases e; rfl) | (cases e; done)
      rw [hv]; exact this
  | binOp op xt x y yt =>
    rw [hop] at e ha
    match args, ha, e with
    | [(a, b), (a', b')], ha, e => exact sound_bin hI hop ha.1.1 ha.2.1.1 e hc
  | unOp op t x =>
    rw [hop] at e ha
    match args, ha, e with
    | [(a, b)], ha, e => exact sound_un hI hop ha.1.1 e
  | convert s d x =>
    rw [hop] at e ha
    match args, ha, e with
    | [(a, b)], ha, e => exact sound_convert (x := (a, b)) hI hop ⟨ha.1.1, ha.1.2 rfl⟩ hnew e hc
  | sliceToArrayPointer t x =>
    rw [hop] at e ha
    match args, ha, e with
    | [(a, b)], ha, e => exact sound_toArr (x := (a, b)) hI hop ⟨ha.1.1, ha.1.2 rfl⟩ e hc
  | makeSlice t x y =>
    rw [hop] at e ha
    match args, ha, e with
    | [(a, b), (a', b')], ha, e => exact sound_makeSlice hI hop ha.1.1 ha.2.1.1 hnew e hc
  | slice t x lo hi mx =>
    rw [hop] at e ha
    match args, ha, e with
    | (a, b) :: as, ha, e =>
      simp only [evalOp] at e
      cases lo with
      | none =>
        cases hi with
        | none =>
          cases mx with
          | none =>
            match as, ha, e with
            | [], ha, e => exact sound_slice (lo := none) (hi := none) (mx := none) (x := (a, b)) hI hop ⟨ha.1.1, ha.1.2 rfl⟩ trivial trivial trivial e hc
          | some m => match as, e with
            | [], e => simp at e
            | [_], e => simp at e
            | _ :: _ :: _, e => simp at e
        | some h =>
          cases mx with
          | none =>
            match as, ha, e with
            | [(c, _)], ha, e => exact sound_slice (lo := none) (hi := some c) (mx := none) (x := (a, b)) hI hop ⟨ha.1.1, ha.1.2 rfl⟩ trivial ha.2.1.1 trivial e hc
          | some m => match as, ha, e with
            | [(c, _), (d, _)], ha, e => exact sound_slice (lo := none) (hi := some c) (mx := some d) (x := (a, b)) hI hop ⟨ha.1.1, ha.1.2 rfl⟩ trivial ha.2.1.1 ha.2.2.1.1 e hc
      | some l =>
        cases hi with
        | none =>
          cases mx with
          | none =>
            match as, ha, e with
            | [(c, _)], ha, e =>
              simp only [Option.isSome_some, Option.isSome_none] at e
              split at e
              · exact sound_tail (x := (a, b)) hI hop ⟨ha.1.1, ha.1.2 rfl⟩ ha.2.1.1 hnew e hc
              · exact sound_slice (lo := some c) (hi := none) (mx := none) (x := (a, b)) hI hop ⟨ha.1.1, ha.1.2 rfl⟩ ha.2.1.1 trivial trivial e hc
          | some m => match as, e with
            | [], e => simp at e
            | [_], e => simp at e
            | _ :: _ :: _, e => simp at e
        | some h =>
          cases mx with
          | none =>
            match as, ha, e with
            | [(c, _), (d, _)], ha, e => exact sound_slice (lo := some c) (hi := some d) (mx := none) (x := (a, b)) hI hop ⟨ha.1.1, ha.1.2 rfl⟩ ha.2.1.1 ha.2.2.1.1 trivial e hc
          | some m =>
            match as, ha, e with
            | [(c, _), (d, _), (q, _)], ha, e => exact sound_slice (lo := some c) (hi := some d) (mx := some q) (x := (a, b)) hI hop ⟨ha.1.1, ha.1.2 rfl⟩ ha.2.1.1 ha.2.2.1.1 ha.2.2.2.1.1 e hc
  | fieldAddr s x f =>
    rw [hop] at e ha
    match args, ha, e with
    | [(a, b)], ha, e => exact sound_fieldAddr (x := (a, b)) hI hop ⟨ha.1.1, ha.1.2 rfl⟩ e
  | field s x f =>
    rw [hop] at e ha
    match args, ha, e with
    | [(a, b)], ha, e => exact sound_field hI hop ha.1.1 e
  | indexAddr t x y =>
    rw [hop] at e ha
    match args, ha, e with
    | [(a, b), (a', b')], ha, e =>
      simp only [evalOp] at e
      split at e
      · rename_i n hn
        exact sound_indexAddr (x := (a, b)) hI hop ⟨ha.1.1, ha.1.2 rfl⟩ ha.2.1.1 hn e hc
      · cases e
  | index t x y =>
    rw [hop] at e ha
    match args, ha, e with
    | [(a, b), (a', b')], ha, e => exact sound_index hI hop ha.1.1 ha.2.1.1 e hc
  | makeFunc fn first cap =>
    rw [hop] at e ha
    exact sound_makeFunc hI hop (ArgsOk'.arg _ _ ha) e
  | makeMap t res =>
    rw [hop] at e ha
    exact sound_makeMap hI hop (ArgsOk'.arg _ _ ha) hnew e
  | lookup t x y ok =>
    rw [hop] at e ha
    match args, ha, e with
    | [(a, b), (a', b')], ha, e => exact sound_lookup (x := (a, b)) (y := (a', b')) hI hop ⟨ha.1.1, ha.1.2 rfl⟩ ha.2.1.1 e
  | mapUpdate t x y z =>
    rw [hop] at e ha
    match args, ha, e with
    | [(a, b), (a', b'), (a2, b2)], ha, e => exact sound_mapUpdate (x := (a, b)) (y := (a', b')) (z := (a2, b2)) hI (.inl hop) ⟨ha.1.1, ha.1.2 rfl⟩ ha.2.1.1 ⟨ha.2.2.1.1, ha.2.2.1.2 rfl⟩ e hc
  | insert t x y z =>
    rw [hop] at e ha
    match args, ha, e with
    | [(a, b), (a', b'), (a2, b2)], ha, e => exact sound_mapUpdate (x := (a, b)) (y := (a', b')) (z := (a2, b2)) hI (.inr hop) ⟨ha.1.1, ha.1.2 rfl⟩ ha.2.1.1 ⟨ha.2.2.1.1, ha.2.2.1.2 rfl⟩ e hc
  | extract x i =>
    rw [hop] at e ha
    match args, ha, e with
    | [(a, b)], ha, e => exact sound_extract hI hop ha.1.1 e
  | call c =>
    rw [hop] at e ha
    have ha' := ArgsOk'.arg _ _ ha
    have argsShape : ∀ (n : Nat) (l : List Operand), c.args.toList = l → c.args = l.toArray := fun _ l h => by apply Array.ext'; simpa using h
    have tyShape : ∀ (l : List TypeId), c.argTypes.toList = l → c.argTypes = l.toArray := fun l h => by apply Array.ext'; simpa using h
    simp only [evalOp] at e
    simp only [Op.operands, Call.operands] at ha'
    cases hcal : c.callee with
    | invoke x m => rw [hcal] at e; simp at e
    | value X =>
      rw [hcal] at e ha'
      simp only [Array.toList_append, List.cons_append, List.nil_append, List.map_cons] at ha'
      match args, ha', e with
      | (a0, b0) :: as, ha', e =>
        cases a0 with
        | fn f =>
          simp only at e
          unfold evalCall at e
          have hX : ev X = .func (.func f) #[] #[] := by
            have := repA_nt ha'.1.1 rfl
            simpa [RepA] using this
          split at e
          · split at e
            · rename_i m hm
              exact sound_mut hI hop hcal hX (hI.env.turn _ _ hm) ha'.2 e hc
            · cases e
          rename_i cn hcn
          split at e
          · cases e
          rename_i xs cs he
          cases e
          obtain ⟨c1, c2⟩ := mem2 hc
          have hL : (⟨cs ++ [cn.pre xs], oneAV cn.rets (mkRets E.fz (o.dst.getD 999999) 0 cn.rets (cn.fn xs)).1, (mkRets E.fz (o.dst.getD 999999) 0 cn.rets (cn.fn xs)).2, [], []⟩ : Res).L L =
              withNew (mkRets E.fz (o.dst.getD 999999) 0 cn.rets (cn.fn xs)).2 L := by
            funext n; simp only [Res.L, withNew, look]
            cases look n (mkRets E.fz (o.dst.getD 999999) 0 cn.rets (cn.fn xs)).2 <;> simp
          rw [hL]
          rcases hcon _ _ hcn with hs | hs
          · exact sound_call hI hgl hop hcal hX hs ha'.2 he c1 (one_mem c2) hnew hnd
          · exact sound_ext hI hop hcal hX hs ha'.2 he c1 (one_mem c2) hnew hnd
        | val t x =>
          cases t with
          | fn f ct =>
            simp only at e
            unfold evalCallF at e
            split at e
            · cases e
            rename_i cn hcn
            split at e
            · cases e
            rename_i xs cs he
            cases e
            obtain ⟨c1, c2⟩ := mem2 hc
            obtain ⟨cv, hX, hcv⟩ := fn_cap.1 (repAV_val.1 ha'.1.1)
            have hL : (⟨cs ++ [cn.pre xs], oneAV cn.rets (mkRets E.fz (o.dst.getD 999999) 0 cn.rets (cn.fn xs)).1, (mkRets E.fz (o.dst.getD 999999) 0 cn.rets (cn.fn xs)).2, [], []⟩ : Res).L L =
                withNew (mkRets E.fz (o.dst.getD 999999) 0 cn.rets (cn.fn xs)).2 L := by
              funext n; simp only [Res.L, withNew, look]
              cases look n (mkRets E.fz (o.dst.getD 999999) 0 cn.rets (cn.fn xs)).2 <;> simp
            rw [hL]
            rcases hcon _ _ hcn with hs | hs
            · exact sound_callC hI hgl hop hcal hX hs (argsOk_snoc (a := (.val ct x, none)) ⟨repAV_val.2 hcv, rfl⟩ _ _ ha'.2) he c1 (one_mem c2) hnew hnd
            · exact sound_extC hI hop hcal hX hs (argsOk_snoc (a := (.val ct x, none)) ⟨repAV_val.2 hcv, rfl⟩ _ _ ha'.2) he c1 (one_mem c2) hnew hnd
          | _ => cases e
        | _ => simp at e
    | builtin bt =>
      rw [hcal] at e ha'
      simp only [Array.toList_append, List.nil_append] at ha'
      cases bt with
      | len =>
        match args, ha', e with
        | [(a, b)], ha', e =>
          match hargs : c.args.toList, ha' with
          | [X], ha' => exact sound_len (x := (a, b)) hI hop hcal (argsShape 1 [X] hargs) ha'.1 e hc
      | append =>
        match args, ha', e with
        | [s, x], ha', e =>
          match hargs : c.args.toList, ha' with
          | [X, Y], ha' =>
            simp only at e
            split at e
            · rename_i st xt d hat hd
              exact sound_append hI hop hcal (argsShape 2 [X, Y] hargs) (tyShape _ hat) ha'.1 ha'.2.1 hnew e hc
            · cases e
      | copy =>
        match args, ha', e with
        | [s, x], ha', e =>
          match hargs : c.args.toList, ha' with
          | [X, Y], ha' =>
            simp only at e
            split at e
            · rename_i dt xt hat
              exact sound_copy hI hop hcal (argsShape 2 [X, Y] hargs) (tyShape _ hat) ha'.1 ha'.2.1 e hc
            · cases e
      | min =>
        match args, ha', e with
        | [(x, _), (y, _)], ha', e =>
          match hargs : c.args.toList, ha' with
          | [X, Y], ha' => exact sound_mm (mx := false) hI hop hcal (argsShape 2 [X, Y] hargs) ha'.1.1 ha'.2.1.1 e
      | max =>
        match args, ha', e with
        | [(x, _), (y, _)], ha', e =>
          match hargs : c.args.toList, ha' with
          | [X, Y], ha' => exact sound_mm (mx := true) hI hop hcal (argsShape 2 [X, Y] hargs) ha'.1.1 ha'.2.1.1 e
      | _ => simp at e
  | _ => rw [hop] at e; simp [evalOp] at e

end
end Lc
