/- The engine, part I: operations that leave memory as it is. -/
import Derived.Test.YtbaiojghpadffaaEngH
namespace Lc
open Go Go.RowKit
set_option linter.unusedVariables false
set_option linter.unusedSimpArgs false

def Res.L (r : Res) (L : HL) : HL := fun n =>
  match look n r.new with
  | some b => some (some b)
  | none => match look n r.set with
    | some b => some (some b)
    | none => if r.kill.contains n then some none else L n

theorem look_append {α : Type} (n : Nat) (l m : List (Nat × α)) : look n (l ++ m) = match look n l with | some v => some v | none => look n m := by
  induction l with
  | nil => rfl
  | cons p l ih =>
    obtain ⟨k, v⟩ := p
    rw [List.cons_append, look_cons, look_cons]
    split
    · rfl
    · exact ih

theorem look_map_some (n : Nat) (l : List (Nat × Blk)) : look n (l.map (fun p => (p.1, some p.2))) = (look n l).map some := by
  induction l with
  | nil => rfl
  | cons p l ih =>
    obtain ⟨k, v⟩ := p
    simp only [List.map_cons, look_cons]
    split
    · rfl
    · exact ih

theorem look_map_none (n : Nat) (l : List Nat) : look n (l.map (fun k => (k, (none : Option Blk)))) = if l.contains n then some none else none := by
  induction l with
  | nil => rfl
  | cons k l ih =>
    simp only [List.map_cons, look_cons, ih, List.contains_cons]
    by_cases h : n = k
    · subst h; simp
    · have : (n == k) = false := by simpa using h
      rw [if_neg h, this, Bool.false_or]

theorem hl_hp (r : Res) (hp : List (Nat × Option Blk)) : hl (r.hp hp) = r.L (hl hp) := by
  funext n
  simp only [hl, Res.hp, Res.L, look_append, look_map_some, look_map_none]
  cases look n r.new with
  | some b => rfl
  | none =>
    simp only [Option.map_none]
    cases look n r.set with
    | some b => rfl
    | none =>
      simp only [Option.map_none]
      split <;> simp_all

@[simp] theorem L_pure (cs : List Prop) (v : AV) (L : HL) : (⟨cs, v, [], [], []⟩ : Res).L L = L := by funext n; simp [Res.L, look]
theorem L_new (cs : List Prop) (v : AV) (L : HL) (k : Nat) (b : Blk) : (⟨cs, v, [(k, b)], [], []⟩ : Res).L L = upd L k (some (some b)) := by
  funext n
  simp only [Res.L, look, upd]
  by_cases h : n = k <;> simp [h]
theorem L_set (cs : List Prop) (v : AV) (L : HL) (k : Nat) (b : Blk) : (⟨cs, v, [], [(k, b)], []⟩ : Res).L L = upd (upd L k (some none)) k (some (some b)) := by
  funext n
  simp only [Res.L, look, upd]
  by_cases h : n = k <;> simp [h]
theorem L_move (cs : List Prop) (v : AV) (L : HL) (k d : Nat) (b : Blk) : (⟨cs, v, [(d, b)], [], [k]⟩ : Res).L L = upd (upd L k (some none)) d (some (some b)) := by
  funext n
  simp only [Res.L, look, upd]
  by_cases h : n = d
  · simp [h]
  · have h' : (n.beq d) = false := Bool.eq_false_iff.2 (fun e => h (Nat.eq_of_beq_eq_true e))
    by_cases h2 : n = k
    · subst h2; simp [h, h']
    · simp [h, h', h2]

/-- What is known when an operation begins. -/
structure In (E : Env) (B0 : Nat → Prop) (F : FH) (ρ : RM) (L : HL) (w : World) : Prop where
  env : EnvOk E
  rel : HRel F ρ L w.heap B0
  size : ∀ b, w.heap.size ≤ b → B0 b

abbrev Arg (F : FH) (ρ : RM) (L : HL) (a : AV × Option Blk) (v : Value) : Prop := RepAV F ρ L a.1 v ∧ a.2 = blkL L a.1

def ArgsOk (F : FH) (ρ : RM) (L : HL) : List (AV × Option Blk) → List Value → Prop
  | [], [] => True
  | a :: as, v :: vs => Arg F ρ L a v ∧ ArgsOk F ρ L as vs
  | _, _ => False

section
variable {E : Env} {B0 : Nat → Prop} {F : FH} {ρ : RM} {L : HL} {w : World} {o : Oper} {ev : Operand → Value} {r : Res}

/-- An operation that runs, leaves the world, and gives a value. -/
theorem does_pure (hI : In E B0 F ρ L w) {cs : List Prop} {a : AV} {v : Value} (h : (execOp ev o).run E.P w = .ok (.value v) w) (hr : RepAV F ρ L a v) (e : r = ⟨cs, a, [], [], []⟩) :
    Does E.P o ev w (Post B0 F ρ L w r.v (r.L L)) := by
  subst e
  rw [L_pure]
  exact does_ok h (post_pure hI.rel hr)

theorem one_mem {φ : Prop} (h : ∀ c, c ∈ [φ] → c) : φ := h φ (List.mem_singleton.2 rfl)

theorem mem2 {cs ds : List Prop} (h : ∀ c, c ∈ cs ++ ds → c) : (∀ c, c ∈ cs → c) ∧ (∀ c, c ∈ ds → c) :=
  ⟨fun c hc => h c (by simp [hc]), fun c hc => h c (by simp [hc])⟩

theorem sound_move (hI : In E B0 F ρ L w) {x : Operand} {a : AV} (hop : o.op = .move x ∨ o.op = .assign x) (ha : RepAV F ρ L a (ev x)) (e : Res.pure a = some r) :
    Does E.P o ev w (Post B0 F ρ L w r.v (r.L L)) := by
  cases e
  refine does_pure hI (v := ev x) ?_ ha rfl
  rcases hop with h | h <;> simp [execOp, h]

theorem sound_bin (hI : In E B0 F ρ L w) {op : BinOp} {xt yt : TypeId} {X Y : Operand} {x y : AV} (hop : o.op = .binOp op xt X Y yt)
    (hx : RepAV F ρ L x (ev X)) (hy : RepAV F ρ L y (ev Y)) (e : evalBin E op xt x y = some r) (hc : ∀ c, c ∈ r.cs → c) :
    Does E.P o ev w (Post B0 F ρ L w r.v (r.L L)) := by
  have run : ∀ v, (eqGuard op xt X Y (ev X) (ev Y)).run E.P w = .ok () w → (binOp op xt (ev X) (ev Y)).run E.P w = .ok v w → (execOp ev o).run E.P w = .ok (.value v) w := by
    intro v h1 h2; simp [execOp, hop, h1, h2]
  unfold evalBin at e
  split at e
  · rename_i k a k' b
    rw [repAV_int] at hx hy
    have hg : (eqGuard op xt X Y (ev X) (ev Y)).run E.P w = .ok () w := run_eqGuard_plain _ _ _ _ _ _ (by rw [hx])
    rw [hx, hy] at run hg
    split at e
    · cases e
      refine does_pure hI (run _ hg (run_shift .shl xt k k' a b (hc _ (by simp)) _ rfl)) (repAV_int.2 rfl) rfl
    · cases e
      refine does_pure hI (run _ hg (run_shift .shr xt k k' a b (hc _ (by simp)) _ rfl)) (repAV_int.2 rfl) rfl
    · split at e
      · cases e
      rename_i hk
      have hk : k = k' := by simpa using hk
      subst hk
      split at e <;> first
        | (cases e; done)
        | (cases e; refine does_pure hI (run _ hg (run_bin_int _ xt k a b _ rfl)) (repAV_int.2 rfl) rfl)
        | (cases e; refine does_pure hI (run _ hg (run_bin_cmp _ xt k a b _ rfl)) (repAV_bool.2 rfl) rfl)
        | (cases e
           have hb : b ≠ 0 := hc _ (by simp)
           refine does_pure hI (run _ hg (run_bin_int _ xt k a b _ (by simp [hb]))) (repAV_int.2 rfl) rfl)
  · rename_i a b
    rw [repAV_str] at hx hy
    have hg : (eqGuard op xt X Y (ev X) (ev Y)).run E.P w = .ok () w := run_eqGuard_plain _ _ _ _ _ _ (by rw [hx])
    rw [hx, hy] at run hg
    split at e
    · cases e
      exact does_pure hI (run _ hg (by simp [binOp, Op.stringOp])) (repAV_bool.2 rfl) rfl
    · cases e
      exact does_pure hI (run _ hg (by simp [binOp, Op.stringOp])) (repAV_bool.2 rfl) rfl
    · cases e
  · split at e
    · rename_i t ht
      split at e
      · cases e
      rename_i hf
      simp only [Bool.or_eq_true, Bool.not_eq_true', decide_eq_true_eq, not_or, Bool.not_eq_false] at hf
      obtain ⟨hf, hd⟩ := hf
      have hty := hI.env.ty _ _ ht
      obtain ⟨i, z, i1, i2, i3, i4, i5, i6⟩ := hty.info.out
      have fin : t ≠ .str → (∀ k, t ≠ .int k) → evalEq t op x y = some r → Does E.P o ev w (Post B0 F ρ L w r.v (r.L L)) := by
        intro hs hi e
        unfold evalEq at e
        split at e
        · rename_i a b e1 e2
          have deep : ∀ (x : AV) (v : Value) (a : t.den), RepAV F ρ L x v → deepV false t x none = some (a, []) → RepV (full w.heap) t a v := by
            intro x v a hx e1
            by_cases hk : blkL L x = none
            · exact deepV_sound (E := false) hI.rel hx hk.symm e1 (fun c hc => by cases hc)
            · cases x <;> first
                | (exact absurd rfl hk)
                | (cases t <;> simp only [deepV] at e1 <;> (try cases e1) <;> simp [Ty.flat] at hf)
          have r1 := deep x _ a hx e1
          have r2 := deep y _ b hy e2
          have heq := (equal_rep (P := E.P) (F := full w.heap) t hf).1 xt Op.maxDepth _ _ a b w hty (by simp [Op.maxDepth]; omega) r1 r2
          have nn : ∀ (v : Value) (a : t.den), RepV (full w.heap) t a v → (match v with | .nilIface => true | _ => false) = false ∧ (∀ k n, v ≠ .int k n) ∧ (∀ s, v ≠ .string s) ∧ (∀ k n, v ≠ .float k n) ∧ (∀ k n m, v ≠ .complex k n m) := by
            intro v a hv
            cases t with
            | int k => exact absurd rfl (hi k)
            | str => exact absurd rfl hs
            | slc u => simp [Ty.flat] at hf
            | map p q => simp [Ty.flat] at hf
            | fn p q => simp [Ty.flat] at hf
            | ref p => simp [Ty.flat] at hf
            | bool => rw [repV_bool] at hv; subst hv; simp
            | unit => obtain ⟨cs, rfl, _⟩ : ∃ cs : List Value, v = .agg cs.toArray ∧ _ := hv; simp
            | pair p q => obtain ⟨cs, rfl, _⟩ : ∃ cs : List Value, v = .agg cs.toArray ∧ _ := hv; simp
            | arr n u => obtain ⟨cs, rfl, _⟩ : ∃ cs : List Value, v = .agg cs.toArray ∧ _ := hv; simp
          obtain ⟨n1, n2, n3, n4, n5⟩ := nn _ _ r1
          have hg : (eqGuard op xt X Y (ev X) (ev Y)).run E.P w = .ok () w := run_eqGuard_any _ _ _ _ _ _ (i6 hf) n1
          have bq : ∀ u, (∀ k n, u ≠ .int k n) → (∀ s, u ≠ .string s) → (∀ k n, u ≠ .float k n) → (∀ k n m, u ≠ .complex k n m) → (Op.equalIn Op.maxDepth xt u (ev Y)).run E.P w = .ok (t.beq a b) w →
              (binOp .eql xt u (ev Y)).run E.P w = .ok (.bool (t.beq a b)) w ∧ (binOp .neq xt u (ev Y)).run E.P w = .ok (.bool (!t.beq a b)) w := by
            intro u m1 m2 m3 m4 heq
            cases u <;> first | exact absurd rfl (m1 _ _) | exact absurd rfl (m2 _) | exact absurd rfl (m3 _ _) | exact absurd rfl (m4 _ _ _) | (simp [binOp, Op.equal, heq])
          obtain ⟨q1, q2⟩ := bq _ n2 n3 n4 n5 heq
          split at e
          · cases e
            exact does_pure hI (run _ hg q1) (repAV_bool.2 rfl) rfl
          · cases e
            exact does_pure hI (run _ hg q2) (repAV_bool.2 rfl) rfl
          · cases e
        · cases e
      cases t <;> first | (cases e; done) | exact fin (by simp) (by simp) e
    · cases e

theorem sound_un (hI : In E B0 F ρ L w) {op : UnOp} {t : TypeId} {X : Operand} {x : AV} {b : Option Blk} (hop : o.op = .unOp op t X) (hx : RepAV F ρ L x (ev X))
    (e : evalOp E (.unOp op t X) o.type o.dst [(x, b)] = some r) : Does E.P o ev w (Post B0 F ρ L w r.v (r.L L)) := by
  simp only [evalOp] at e
  split at e
  · cases e; rw [repAV_int] at hx
    refine does_pure hI ?_ (repAV_int.2 rfl) rfl
    simp [execOp, hop, hx, Op.unary, Op.intArith]
  · cases e; rw [repAV_int] at hx
    refine does_pure hI ?_ (repAV_int.2 rfl) rfl
    simp [execOp, hop, hx, Op.unary, Op.intBits, inot, ixor]
  · cases e; rw [repAV_bool] at hx
    refine does_pure hI ?_ (repAV_bool.2 rfl) rfl
    simp [execOp, hop, hx, Op.unary]
  · cases e

theorem sound_pickB (hI : In E B0 F ρ L w) {C A B : Operand} {x : Bool} {a b : AV} (hop : o.op = .pick C A B) (hcc : RepAV F ρ L (.val .bool x) (ev C)) (ha : RepAV F ρ L a (ev A)) (hb : RepAV F ρ L b (ev B))
    (e : pickB x a b = some r) (hcs : ∀ c, c ∈ r.cs → c) : Does E.P o ev w (Post B0 F ρ L w r.v (r.L L)) := by
  unfold pickB at e
  · rw [repAV_bool] at hcc
    have strip : ∀ (p : Prop) (a : AV) (v : Value), RepAV F ρ L (.opt p a) v → a.isTup = false → p → RepAV F ρ L a v := by
      intro p a v h ht hp
      have h' : p → RepA F ρ L a [v] := h.1
      unfold RepAV
      rw [if_neg (by simp [ht])]
      exact h' hp
    have fin : ∀ (cs : List Prop) (a b : AV), ((∀ c, c ∈ cs → c) → (x = true → a.isTup = false → RepAV F ρ L a (ev A)) ∧ (x = false → b.isTup = false → RepAV F ρ L b (ev B))) →
        pickGo x cs a b = some r → Does E.P o ev w (Post B0 F ρ L w r.v (r.L L)) := by
      intro cs a b hab e
      unfold pickGo at e
      split at e
      · rename_i t y u z
        split at e
        · rename_i z' e1
          cases e
          have := TV.as_eq e1
          cases this
          obtain ⟨h1, h2⟩ := hab hcs
          cases x
          · refine does_pure hI (v := ev B) ?_ (h2 rfl rfl) rfl
            simp [execOp, hop, hcc, asBool]
          · refine does_pure hI (v := ev A) ?_ (h1 rfl rfl) rfl
            simp [execOp, hop, hcc, asBool]
        · cases e
      · cases e
    split at e
    · rename_i p a' q b'
      exact fin _ a' b' (fun h => ⟨fun hx ht => strip _ _ _ ha ht (h ((x : Bool) = true → p) (by simp) hx), fun hx ht => strip _ _ _ hb ht (h ((x : Bool) = false → q) (by simp) hx)⟩) e
    · rename_i p a' _ _
      refine fin _ _ _ ?_ e
      intro h
      exact ⟨fun hx ht => strip _ _ _ ha ht (one_mem h hx), fun _ _ => hb⟩
    · rename_i q b' _ _
      refine fin _ _ _ ?_ e
      intro h
      exact ⟨fun _ _ => ha, fun hx ht => strip _ _ _ hb ht (one_mem h hx)⟩
    · exact fin _ _ _ (fun h => ⟨fun _ _ => ha, fun _ _ => hb⟩) e

theorem sound_pick (hI : In E B0 F ρ L w) {C A B : Operand} {c a b : AV} (hop : o.op = .pick C A B) (hcc : RepAV F ρ L c (ev C)) (ha : RepAV F ρ L a (ev A)) (hb : RepAV F ρ L b (ev B))
    (e : evalPick c a b = some r) (hcs : ∀ c, c ∈ r.cs → c) : Does E.P o ev w (Post B0 F ρ L w r.v (r.L L)) := by
  unfold evalPick at e
  split at e
  · exact sound_pickB hI hop hcc ha hb e hcs
  · rename_i p x
    split at e
    · rename_i r' e'
      cases e
      have hp : p := hcs p (by simp)
      have h' : RepAV F ρ L (.val .bool x) (ev C) := by
        have h2 : p → RepA F ρ L (.val .bool x) [ev C] := hcc.1
        unfold RepAV
        rw [if_neg (by simp [AV.isTup])]
        exact h2 hp
      exact sound_pickB (r := r') hI hop h' ha hb e' (fun c hc => hcs c (by simp [hc]))
    · cases e
  · cases e

end
end Lc
