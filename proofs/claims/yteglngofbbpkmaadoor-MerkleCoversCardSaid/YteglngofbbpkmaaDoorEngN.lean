/- The engine, part N: contracts and calls. -/
import Derived.Test.YteglngofbbpkmaaDoorEngM
namespace Lc
open Go Go.RowKit

def RepArgs (F : FH) : (ts : List Ty) → Tup ts → List Value → Prop
  | [], _, vs => vs = []
  | t :: ts, x, vs => ∃ v r, vs = v :: r ∧ RepV F t x.1 v ∧ RepArgs F ts x.2 r

/-- A slice in a row of its own. -/
def OwnAt (F : FH) (H : Array Obj) (B : Nat) (u : Ty) (xs : List u.den) (v : Value) (b : Nat) : Prop :=
  ∃ cap c e fr cs rest, v = .slice (some ⟨b, 0, none⟩) xs.length cap ∧ B ≤ b ∧ H[b]? = some (.cells c e fr) ∧ free fr c.size ∧ c.toList = cs ++ rest ∧ RepL (Rep F u) xs cs ∧ c.size = cap * u.size ∧ xs.length ≤ cap ∧
    ∀ i, F b i = none

def RepRets (F : FH) (H : Array Obj) (B : Nat) : (rs : List RK) → RTup rs → List Value → List Nat → Prop
  | [], _, vs, bs => vs = [] ∧ bs = []
  | .deep t :: rs, x, vs, bs => ∃ v r, vs = v :: r ∧ RepV F t x.1 v ∧ RepRets F H B rs x.2 r bs
  | .own t :: rs, x, vs, bs => ∃ v r, vs = v :: r ∧ ((v = .slice none 0 0 ∧ x.1 = [] ∧ RepRets F H B rs x.2 r bs) ∨ ∃ b bs', bs = b :: bs' ∧ OwnAt F H B t x.1 v b ∧ RepRets F H B rs x.2 r bs')

def RetV (vs : List Value) (v : Value) : Prop := (∃ u, vs = [u] ∧ v = u) ∨ (vs.length ≠ 1 ∧ v = .tuple vs.toArray)

structure Sound (P : Program) (G : Nat → Option TV) (f : FuncId) (c : Con) : Prop where
  fn : ∃ fn, P.funcs[f]? = some fn ∧ (fn.name == "runtime.NumGoroutine") = false ∧ fn.body.isSome = true
  calls : ∀ (F : FH) (w : World) (xs : Tup c.params) (vs : List Value), (∀ b i v, F b i = some v → cellAt w.heap b i = some v) → GlobOk G F → RepArgs F c.params xs vs → c.pre xs →
    Calls P f vs.toArray w (fun e w' => ∃ v F' rv bs, e = .returned v ∧ F.le F' ∧ (∀ b, b < w.heap.size → F' b = F b) ∧ (∀ b i v, F' b i = some v → cellAt w'.heap b i = some v) ∧
      RepRets F' w'.heap w.heap.size c.rets (c.fn xs) rv bs ∧ bs.Nodup ∧ RetV rv v ∧ Below w.heap.size w w')

/-- The contract of a function without a body: an entry of the model's own, which leaves the world. -/
structure SoundE (P : Program) (f : FuncId) (c : Con) : Prop where
  run : ∀ (F : FH) (w : World) (xs : Tup c.params) (vs : List Value), RepArgs F c.params xs vs → c.pre xs →
    ∃ v rv, (callFunc f vs.toArray).run P w = .ok (.value v) w ∧ RepRets F w.heap w.heap.size c.rets (c.fn xs) rv [] ∧ RetV rv v

def SoundC (P : Program) (G : Nat → Option TV) (f : FuncId) (c : Con) : Prop := Sound P G f c ∨ SoundE P f c

theorem HRel.adopt {F : FH} {ρ : RM} {L : HL} {H : Array Obj} {B0 : Nat → Prop} (h : HRel F ρ L H B0) {k : Nat} {blk : Blk} {b cap : Nat} {c : Array Value} {e : TypeId} {fr : Nat × Nat} {cs rest : List Value}
    (hH : H[b]? = some (.cells c e fr)) (hB : B0 b) (hfr : free fr c.size) (hc : c.toList = cs ++ rest) (hr : RepC F blk.row cap c.size blk.t blk.x cs) (hF : ∀ i, F b i = none)
    (hother : ∀ k' x c', L k' = some (some x) → ρ k' = some (b, c') → False) (hk : L k = none) (hlk : blk.lk = []) :
    ∃ F' : FH, F.le F' ∧ (∀ b', b' ≠ b → F' b' = F b') ∧ HRel F' (upd ρ k (some (b, cap))) (upd L k (some (some blk))) H B0 := by
  have hle : F.le (upd F b (fun i => if blk.fz then cs[i]? else none)) := by
    intro b' i v e1
    by_cases hb : b' = b
    · subst hb; rw [hF] at e1; cases e1
    · rw [upd_ne _ _ hb]; exact e1
  refine ⟨upd F b (fun i => if blk.fz then cs[i]? else none), hle, fun b' hb => upd_ne _ _ hb, ?_, ?_, ?_, fun kb blk' e1 p kk hm => ?_⟩
  · intro b' i v e1
    by_cases hb : b' = b
    · subst hb
      rw [upd_same] at e1
      split at e1
      · simp only [cellAt, hH]
        have hi : i < cs.length := (List.getElem?_eq_some_iff.1 e1).1
        have : c.toList[i]? = some v := by rw [hc, List.getElem?_append_left hi]; exact e1
        simpa using this
      · cases e1
    · rw [upd_ne _ _ hb] at e1; exact h.cons _ _ _ e1
  · intro k1 blk1 e1
    by_cases hkk : k1 = k
    · subst hkk
      rw [upd_same] at e1
      cases e1
      exact .inr ⟨b, cap, c, e, fr, cs, rest, by simp, hB, hH, hfr, hc, repC_mono hle hr, fun i => by simp⟩
    · rw [upd_ne _ _ hkk] at e1 ⊢
      rcases h.blk _ _ e1 with h1 | ⟨b1, cap1, c1, e', fr1, cs1, rest1, h1, h2, h3, h4, h5, h6, h7⟩
      · exact .inl h1
      · have hb : b1 ≠ b := fun hb => by subst hb; exact hother _ _ _ e1 h1
        exact .inr ⟨b1, cap1, c1, e', fr1, cs1, rest1, h1, h2, h3, h4, h5, repC_mono hle h6, fun i => by rw [upd_ne _ _ hb]; exact h7 i⟩
  · intro k1 k2 x x' b1 c1 c2 e1 e2 e3 e4
    by_cases h1 : k1 = k <;> by_cases h2 : k2 = k
    · rw [h1, h2]
    · subst h1
      rw [upd_ne _ _ h2] at e2 e4
      rw [upd_same] at e3
      cases e3
      exact (hother _ _ _ e2 e4).elim
    · subst h2
      rw [upd_ne _ _ h1] at e1 e3
      rw [upd_same] at e4
      cases e4
      exact (hother _ _ _ e1 e3).elim
    · rw [upd_ne _ _ h1] at e1 e3
      rw [upd_ne _ _ h2] at e2 e4
      exact h.inj _ _ _ _ _ _ _ e1 e2 e3 e4
  · by_cases hkk : kb = k
    · subst hkk; rw [upd_same] at e1; cases e1; rw [hlk] at hm; cases hm
    · rw [upd_ne _ _ hkk] at e1
      rw [upd_ne _ _ hkk]
      obtain ⟨g1, g2⟩ := h.lnk kb blk' e1 p kk hm
      exact ⟨isSome_upd _ g1, fun b2 cap' e2 => (g2 b2 cap' e2).ext hle (LLe.fresh hk _ _) g1 (fun _ => rfl)⟩

def withNew (new : List (Nat × Blk)) (L : HL) : HL := fun n => match look n new with | some b => some (some b) | none => L n

theorem withNew_cons (k : Nat) (b : Blk) (l : List (Nat × Blk)) (L : HL) : withNew ((k, b) :: l) L = upd (withNew l L) k (some (some b)) := by
  funext n
  simp only [withNew, look_cons, upd]
  by_cases h : n = k <;> simp [h]

theorem LLe.withNew {new : List (Nat × Blk)} {L : HL} {ρ ρ' : RM} (h : ∀ p, p ∈ new → L p.1 = none) (hρ : ∀ k, (L k).isSome → ρ' k = ρ k) : LLe L ρ (withNew new L) ρ' := by
  intro k hk blk e
  have hl : look k new = none := by
    cases hl : look k new with
    | none => rfl
    | some b =>
      have : ∃ p, p ∈ new ∧ p.1 = k := by
        clear e h
        induction new with
        | nil => cases hl
        | cons p l ih =>
          obtain ⟨k1, b1⟩ := p
          rw [look_cons] at hl
          split at hl
          · rename_i h; exact ⟨_, List.mem_cons_self, h.symm⟩
          · obtain ⟨q, q1, q2⟩ := ih hl; exact ⟨q, List.mem_cons_of_mem _ q1, q2⟩
      obtain ⟨p, p1, p2⟩ := this
      have := h p p1
      rw [p2] at this; rw [this] at hk; cases hk
  simp only [Lc.withNew, hl] at e
  exact ⟨blk, e, rfl, rfl, rfl, hρ k hk⟩

theorem adopt_rets {H : Array Obj} {B0 : Nat → Prop} {B : Nat} (hB : ∀ b, B ≤ b → B0 b) (fz : Nat → Bool) (dst : Nat) : ∀ (rs : List RK) (i : Nat) (x : RTup rs) (vs : List Value) (bs : List Nat) (F : FH) (ρ : RM) (L : HL), HRel F ρ L H B0 →
    RepRets F H B rs x vs bs → bs.Nodup → (∀ b k x c, b ∈ bs → L k = some (some x) → ρ k = some (b, c) → False) → (∀ p, p ∈ (mkRets fz dst i rs x).2 → L p.1 = none) → ((mkRets fz dst i rs x).2.map (·.1)).Nodup →
    ∃ F' ρ', HRel F' ρ' (withNew (mkRets fz dst i rs x).2 L) H B0 ∧ F.le F' ∧ (∀ b, b ∉ bs → F' b = F b) ∧ RepA F' ρ' (withNew (mkRets fz dst i rs x).2 L) (mkRets fz dst i rs x).1 vs ∧
      (∀ k, (L k).isSome → ρ' k = ρ k) ∧ (∀ k (y : Blk) b c, withNew (mkRets fz dst i rs x).2 L k = some (some y) → ρ' k = some (b, c) → (L k = some (some y) ∧ ρ k = some (b, c)) ∨ b ∈ bs) ∧
      (∀ k, k ∈ (mkRets fz dst i rs x).1.keys → (withNew (mkRets fz dst i rs x).2 L k).isSome) := by
  intro rs
  induction rs with
  | nil =>
    rintro i x vs bs F ρ L h ⟨rfl, rfl⟩ _ _ _ _
    exact ⟨F, ρ, h, FH.le.rfl, fun _ _ => rfl, rfl, fun _ _ => rfl, fun k x b c h1 h2 => .inl ⟨h1, h2⟩, fun k hk => by simp [mkRets, AV.keys] at hk⟩
  | cons rk rs ih =>
    intro i x vs bs F ρ L h hret hnd hfree hnew hkn
    cases rk with
    | deep t =>
      obtain ⟨v, r, rfl, hv, hr⟩ := hret
      obtain ⟨F', ρ', h1, h2, h3, h4, h5, h6, h7⟩ := ih (i + 1) x.2 r bs F ρ L h hr hnd hfree hnew hkn
      exact ⟨F', ρ', h1, h2, h3, ⟨v, r, rfl, ⟨v, rfl, repV_mono h2 hv⟩, h4⟩, h5, h6, fun k hk => h7 k (by simpa [mkRets, AV.keys] using hk)⟩
    | own t =>
      obtain ⟨v, r, rfl, hv⟩ := hret
      simp only [mkRets] at hnew hkn ⊢
      simp only [List.map_cons, List.nodup_cons] at hkn
      have hk0 : L (dst + 1000 * i) = none := hnew _ List.mem_cons_self
      have hnew' : ∀ p, p ∈ (mkRets fz dst (i + 1) rs x.2).2 → L p.1 = none := fun p hp => hnew p (List.mem_cons_of_mem _ hp)
      have hlook : look (dst + 1000 * i) (mkRets fz dst (i + 1) rs x.2).2 = none := by
        have : ∀ (l : List (Nat × Blk)) (k : Nat), k ∉ l.map (·.1) → look k l = none := by
          intro l
          induction l with
          | nil => intros; rfl
          | cons p l ih2 =>
            obtain ⟨k1, b1⟩ := p
            intro k hk
            simp only [List.map_cons, List.mem_cons, not_or] at hk
            rw [look_cons, if_neg hk.1]; exact ih2 k hk.2
        exact this _ _ hkn.1
      have hk1 : withNew (mkRets fz dst (i + 1) rs x.2).2 L (dst + 1000 * i) = none := by simp only [withNew, hlook]; exact hk0
      rw [withNew_cons]
      have fin : ∀ (F' : FH) (ρ' : RM) (F2 : FH) (rr : Option (Nat × Nat)) (bs' : List Nat), F'.le F2 → RepA F' ρ' (withNew (mkRets fz dst (i + 1) rs x.2).2 L) (mkRets fz dst (i + 1) rs x.2).1 r →
          (∀ k, k ∈ (mkRets fz dst (i + 1) rs x.2).1.keys → (withNew (mkRets fz dst (i + 1) rs x.2).2 L k).isSome) →
          HW rr true (List.length x.1) (.arr 0 t) [] v →
          RepA F2 (upd ρ' (dst + 1000 * i) rr) (upd (withNew (mkRets fz dst (i + 1) rs x.2).2 L) (dst + 1000 * i) (some (some ⟨true, .arr 0 t, x.1, fz (dst + 1000 * i), []⟩)))
            (.tcons (.whole (dst + 1000 * i) (.arr 0 t) []) (mkRets fz dst (i + 1) rs x.2).1) (v :: r) := by
        intro F' ρ' F2 rr bs' hle hA hkeys hw
        refine ⟨v, r, rfl, ⟨v, rfl, fun blk hL => ?_⟩, repA_ext hle (LLe.fresh hk1 _ _) _ _ hkeys hA⟩
        rw [upd_same] at hL
        cases hL
        exact ⟨rfl, by simp [okB], by rw [upd_same]; exact hw⟩
      have keys : ∀ k, k ∈ (AV.tcons (.whole (dst + 1000 * i) (.arr 0 t) []) (mkRets fz dst (i + 1) rs x.2).1).keys →
          (∀ k, k ∈ (mkRets fz dst (i + 1) rs x.2).1.keys → (withNew (mkRets fz dst (i + 1) rs x.2).2 L k).isSome) →
          (upd (withNew (mkRets fz dst (i + 1) rs x.2).2 L) (dst + 1000 * i) (some (some (⟨true, .arr 0 t, x.1, fz (dst + 1000 * i), []⟩ : Blk))) k).isSome := by
        intro k hk hkeys
        by_cases hkk : k = dst + 1000 * i
        · subst hkk; rw [upd_same]; rfl
        · rw [upd_ne _ _ hkk]
          simp only [AV.keys, List.cons_append, List.nil_append, List.mem_cons] at hk
          rcases hk with hk | hk
          · exact absurd hk hkk
          · exact hkeys k hk
      rcases hv with ⟨hv, hx, hr⟩ | ⟨b, bs', rfl, ⟨cap, c, e, fr, cs, rest, g1, g2, g3, g4, g5, g6, g7, g8, g9⟩, hr⟩
      · obtain ⟨F', ρ', h1, h2, h3, h4, h5, h6, h7⟩ := ih (i + 1) x.2 r bs F ρ L h hr hnd hfree hnew' hkn.2
        have hlen0 : List.length x.1 = 0 := by rw [hx]; rfl
        refine ⟨F', upd ρ' (dst + 1000 * i) none, h1.freshNil (LLe.fresh hk1 _ _) rfl, h2, h3, fin F' ρ' F' none bs FH.le.rfl h4 h7 (.inl ⟨rfl, rfl, rfl, hlen0, hv⟩), ?_, ?_, fun k hk => keys k hk h7⟩
        · intro k hk
          have hne : k ≠ dst + 1000 * i := fun e => by subst e; rw [hk0] at hk; cases hk
          rw [upd_ne _ _ hne]; exact h5 k hk
        · intro k y b c e1 e2
          by_cases hkk : k = dst + 1000 * i
          · subst hkk; rw [upd_same] at e2; cases e2
          · rw [upd_ne _ _ hkk] at e1 e2; exact h6 k y b c e1 e2
      · rw [List.nodup_cons] at hnd
        obtain ⟨F', ρ', h1, h2, h3, h4, h5, h6, h7⟩ := ih (i + 1) x.2 r bs' F ρ L h hr hnd.2 (fun b' k y c hb => hfree b' k y c (List.mem_cons_of_mem _ hb)) hnew' hkn.2
        have hFb : ∀ i, F' b i = none := fun i => by rw [h3 b hnd.1]; exact g9 i
        obtain ⟨F2, f1, f2, f3⟩ := h1.adopt (k := dst + 1000 * i) (blk := ⟨true, .arr 0 t, x.1, fz (dst + 1000 * i), []⟩) (cap := cap) g3 (hB b g2) g4 g5
          (by simp only [RepC, if_true]; exact ⟨repL_mono (fun y cs => rep_mono h2 t y cs) _ _ g6, g7, g8⟩) hFb
          (fun k' y c' e1 e2 => by
            rcases h6 k' y b c' e1 e2 with ⟨q1, q2⟩ | q
            · exact hfree b k' y c' List.mem_cons_self q1 q2
            · exact hnd.1 q) hk1 rfl
        refine ⟨F2, upd ρ' (dst + 1000 * i) (some (b, cap)), f3, FH.le.trans h2 f1, fun b' hb => ?_, fin F' ρ' F2 (some (b, cap)) bs' f1 h4 h7 (.inr ⟨b, cap, 0, t, 0, rfl, rfl, ?_⟩), ?_, ?_, fun k hk => keys k hk h7⟩
        · simp only [List.mem_cons, not_or] at hb
          rw [f2 b' hb.1]; exact h3 b' hb.2
        · simp only [lcap, List.isEmpty_nil, Bool.and_self, if_true]; exact g1
        · intro k hk
          have hne : k ≠ dst + 1000 * i := fun e => by subst e; rw [hk0] at hk; cases hk
          rw [upd_ne _ _ hne]; exact h5 k hk
        · intro k y b1 c1 e1 e2
          by_cases hkk : k = dst + 1000 * i
          · subst hkk; rw [upd_same] at e2; cases e2; exact .inr List.mem_cons_self
          · rw [upd_ne _ _ hkk] at e1 e2
            rcases h6 k y b1 c1 e1 e2 with q | q
            · exact .inl q
            · exact .inr (List.mem_cons_of_mem _ q)

section
variable {E : Env} {B0 : Nat → Prop} {F : FH} {ρ : RM} {L : HL} {w : World} {o : Oper} {ev : Operand → Value} {r : Res}

theorem mkArgs_sound (hI : In E B0 F ρ L w) (need : Bool) : ∀ (ts : List Ty) (args : List (AV × Option Blk)) (vs : List Value) (xs : Tup ts) (cs : List Prop), ArgsOk F ρ L args vs → mkArgs need ts args = some (xs, cs) → (∀ c, c ∈ cs → c) →
    RepArgs (if need then F else full w.heap) ts xs vs := by
  intro ts
  induction ts with
  | nil =>
    intro args vs xs cs ha e hc
    cases args with
    | nil => cases vs with
      | nil => rfl
      | cons v vs => exact ha.elim
    | cons a args => simp [mkArgs] at e
  | cons t ts ih =>
    intro args vs xs cs ha e hc
    cases args with
    | nil => simp [mkArgs] at e
    | cons a args =>
      cases vs with
      | nil => exact ha.elim
      | cons v vs =>
        obtain ⟨⟨h1, h2⟩, h3⟩ := ha
        obtain ⟨a, b⟩ := a
        simp only [mkArgs] at e
        split at e
        · rename_i x cs1 e1
          split at e
          · rename_i y cs2 e2
            cases e
            obtain ⟨c1, c2⟩ := mem2 hc
            exact ⟨v, vs, rfl, deepV_sound (E := need) hI.rel h1 h2 e1 c1, ih _ _ _ _ h3 e2 c2⟩
          · cases e
        · cases e

theorem repRets_flat {F G : FH} {H : Array Obj} {B : Nat} (hG : ∀ b i, B ≤ b → G b i = none) : ∀ (rs : List RK) (x : RTup rs) (vs : List Value) (bs : List Nat), rs.all RK.flatOk = true → RepRets F H B rs x vs bs → RepRets G H B rs x vs bs := by
  intro rs
  induction rs with
  | nil => intro x vs bs _ h; exact h
  | cons r rs ih =>
    intro x vs bs hf h
    simp only [List.all_cons, Bool.and_eq_true] at hf
    cases r with
    | deep t =>
      obtain ⟨v, q, rfl, h1, h2⟩ := h
      exact ⟨v, q, rfl, repV_flat hf.1 h1, ih _ _ _ hf.2 h2⟩
    | own t =>
      obtain ⟨v, q, rfl, h1⟩ := h
      refine ⟨v, q, rfl, ?_⟩
      rcases h1 with ⟨h1, h2, h3⟩ | ⟨b, bs', rfl, ⟨cap, c, e, fr, cs, rest, g1, g2, g3, g4, g5, g6, g7, g8, g9⟩, h3⟩
      · exact .inl ⟨h1, h2, ih _ _ _ hf.2 h3⟩
      · exact .inr ⟨b, bs', rfl, ⟨cap, c, e, fr, cs, rest, g1, g2, g3, g4, g5, repL_mono (fun x cs => rep_flat t hf.1 x cs) _ _ g6, g7, g8, fun i => hG b i g2⟩, ih _ _ _ hf.2 h3⟩

theorem mkRets_tup (fz : Nat → Bool) (dst : Nat) : ∀ (i : Nat) (rs : List RK) (x : RTup rs), (mkRets fz dst i rs x).1.isTup = true := by
  intro i rs x
  cases rs with
  | nil => rfl
  | cons r rs => cases r <;> rfl

theorem repRets_bs {H : Array Obj} {B : Nat} : ∀ (rs : List RK) (x : RTup rs) (vs : List Value) (bs : List Nat), RepRets F H B rs x vs bs → ∀ b, b ∈ bs → B ≤ b := by
  intro rs
  induction rs with
  | nil => rintro x vs bs ⟨_, rfl⟩ b hb; cases hb
  | cons r rs ih =>
    intro x vs bs h
    cases r with
    | deep t => obtain ⟨v, q, rfl, h1, h2⟩ := h; exact ih _ _ _ h2
    | own t =>
      obtain ⟨v, q, rfl, h1⟩ := h
      rcases h1 with ⟨h1, h2, h3⟩ | ⟨b, bs', rfl, ⟨cap, c, e, fr, cs, rest, g1, g2, _⟩, h3⟩
      · exact ih _ _ _ h3
      · intro b' hb
        rcases List.mem_cons.1 hb with rfl | hb
        · exact g2
        · exact ih _ _ _ h3 _ hb

theorem repRets_len {H : Array Obj} {B : Nat} : ∀ (rs : List RK) (x : RTup rs) (vs : List Value) (bs : List Nat), RepRets F H B rs x vs bs → vs.length = rs.length := by
  intro rs
  induction rs with
  | nil => rintro x vs bs ⟨rfl, _⟩; rfl
  | cons r rs ih =>
    intro x vs bs h
    cases r with
    | deep t => obtain ⟨v, q, rfl, h1, h2⟩ := h; simp [ih _ _ _ h2]
    | own t =>
      obtain ⟨v, q, rfl, h1⟩ := h
      rcases h1 with ⟨h1, h2, h3⟩ | ⟨b, bs', rfl, _, h3⟩ <;> simp [ih _ _ _ h3]

theorem oneAV_rep {F : FH} {ρ : RM} {L : HL} (fz : Nat → Bool) (d : Nat) (rs : List RK) (x : RTup rs) (rv : List Value) (v : Value) (h : RepA F ρ L (mkRets fz d 0 rs x).1 rv) (hl : rv.length = rs.length) (hv : RetV rv v) :
    RepAV F ρ L (oneAV rs (mkRets fz d 0 rs x).1) v := by
  have plain : rs.length ≠ 1 → RepAV F ρ L (mkRets fz d 0 rs x).1 v := by
    intro hne
    unfold RepAV
    rw [if_pos (mkRets_tup fz d 0 rs x)]
    rcases hv with ⟨u, hu, _⟩ | ⟨_, hv⟩
    · rw [hu] at hl; exact absurd hl.symm hne
    · exact ⟨rv, hv, h⟩
  cases rs with
  | nil => exact plain (by simp)
  | cons r0 rs =>
    cases rs with
    | cons r1 rs => exact plain (by simp)
    | nil =>
      obtain ⟨u, hu, hv⟩ : ∃ u, rv = [u] ∧ v = u := by
        rcases hv with h | ⟨h, _⟩
        · exact h
        · rw [hl] at h; exact absurd rfl h
      subst hv
      subst hu
      cases r0 with
      | deep t =>
        obtain ⟨x1, r1, hx, h1, _⟩ := h
        cases hx
        exact repAV_nt rfl h1
      | own t =>
        obtain ⟨x1, r1, hx, h1, _⟩ := h
        cases hx
        exact repAV_nt rfl h1

theorem call_post (hI : In E B0 F ρ L w) {cn : Con} {xs : Tup cn.params} {w' : World} {v : Value} {F1 : FH} {rv : List Value} {bs : List Nat}
    (k1 : (if (!(cn.rets.all RK.flatOk)) then F else full w.heap).le F1) (k2 : ∀ b, b < w.heap.size → F1 b = (if (!(cn.rets.all RK.flatOk)) then F else full w.heap) b) (k3 : ∀ b i v, F1 b i = some v → cellAt w'.heap b i = some v)
    (k4 : RepRets F1 w'.heap w.heap.size cn.rets (cn.fn xs) rv bs) (k5 : bs.Nodup) (k6 : RetV rv v) (k7 : Below w.heap.size w w')
    {d : Nat} (hnew : ∀ p, p ∈ (mkRets E.fz d 0 cn.rets (cn.fn xs)).2 → L p.1 = none) (hkn : ((mkRets E.fz d 0 cn.rets (cn.fn xs)).2.map (·.1)).Nodup) :
    Post B0 F ρ L w (oneAV cn.rets (mkRets E.fz d 0 cn.rets (cn.fn xs)).1) (withNew (mkRets E.fz d 0 cn.rets (cn.fn xs)).2 L) v w' := by
  have hlt : ∀ b i v, cellAt w.heap b i = some v → cellAt w'.heap b i = some v := by
    intro b i v h
    have := cellAt_lt h
    simp only [cellAt] at h ⊢
    rw [k7.block b this]; exact h
  -- the frozen memory from here on
  have hF2 : ∃ F2 : FH, F.le F2 ∧ (∀ b, b < w.heap.size → F2 b = F b) ∧ (∀ b i v, F2 b i = some v → cellAt w'.heap b i = some v) ∧ RepRets F2 w'.heap w.heap.size cn.rets (cn.fn xs) rv bs := by
    cases hfl : cn.rets.all RK.flatOk
    · rw [hfl] at k1 k2
      simp only [Bool.not_false, if_true] at k1 k2
      exact ⟨F1, k1, k2, k3, k4⟩
    · refine ⟨F, FH.le.rfl, fun _ _ => rfl, fun b i v h => hlt _ _ _ (hI.rel.cons _ _ _ h), repRets_flat (fun b i hb => ?_) _ _ _ _ hfl k4⟩
      cases hq : F b i with
      | none => rfl
      | some v => have := cellAt_lt (hI.rel.cons _ _ _ hq); omega
  obtain ⟨F2, p1, p2, p3, p4⟩ := hF2
  have hR2 : HRel F2 ρ L w'.heap B0 := by
    refine ⟨p3, ?_, hI.rel.inj, fun kb blk' e1 p kk hm => ?_⟩
    rotate_left 1
    · obtain ⟨g1, g2⟩ := hI.rel.lnk kb blk' e1 p kk hm
      exact ⟨g1, fun b2 cap' e2 => (g2 b2 cap' e2).ext p1 LLe.same g1 (cellAt_of (k7.block b2 (hI.rel.at e1 e2)))⟩
    intro k blk hk
    rcases hI.rel.blk _ _ hk with h | ⟨b, cap, c, e, fr, cs, rest, g1, g2, g3, g4, g5, g6, g7⟩
    · exact .inl h
    · have hb := (Array.getElem?_eq_some_iff.1 g3).1
      exact .inr ⟨b, cap, c, e, fr, cs, rest, g1, g2, by rw [k7.block b hb]; exact g3, g4, g5, repC_mono p1 g6, fun i => by rw [p2 b hb]; exact g7 i⟩
  have hbs := repRets_bs _ _ _ _ p4
  obtain ⟨F3, ρ3, q1, q2, q3, q4, q5, q6, q7⟩ := adopt_rets hI.size E.fz d cn.rets 0 (cn.fn xs) rv bs F2 ρ L hR2 p4 k5 (fun b k x c hb hk hr => by
    rcases hI.rel.blk _ _ hk with h | ⟨b', cap, c', e, fr, cs, rest, g1, g2, g3, _⟩
    · rw [h] at hr; cases hr
    · rw [g1] at hr; cases hr
      have := hbs b hb
      have := (Array.getElem?_eq_some_iff.1 g3).1
      omega) hnew hkn
  refine ⟨F3, ρ3, ?_, q1, p1.trans q2, fun b hb => ?_, LLe.withNew hnew q5, ⟨k7.os, k7.tape, k7.output, k7.size, fun k hk => k7.block k (Nat.lt_of_not_le (fun h => hk (hI.size k h)))⟩⟩
  · exact oneAV_rep E.fz d cn.rets (cn.fn xs) rv v q4 (repRets_len _ _ _ _ p4) k6
  · have hlt : b < w.heap.size := Nat.lt_of_not_le (fun h => hb (hI.size b h))
    have hnb : b ∉ bs := fun h => by have := hbs b h; omega
    rw [q3 b hnb]; exact p2 b hlt

theorem sound_call (hI : In E B0 F ρ L w) (hgl : GlobOk E.glob F) {c : Call} {X : Operand} {args : List (AV × Option Blk)} {f : FuncId} {cn : Con} (hop : o.op = .call c) (hcal : c.callee = .value X) (hX : ev X = .func (.func f) #[] #[])
    (hs : Sound E.P E.glob f cn) (ha : ArgsOk F ρ L args (c.args.toList.map ev)) {xs : Tup cn.params} {cs : List Prop} (hargs : mkArgs (!(cn.rets.all RK.flatOk)) cn.params args = some (xs, cs)) (hcs : ∀ c, c ∈ cs → c) (hpre : cn.pre xs)
    {d : Nat} (hnew : ∀ p, p ∈ (mkRets E.fz d 0 cn.rets (cn.fn xs)).2 → L p.1 = none) (hkn : ((mkRets E.fz d 0 cn.rets (cn.fn xs)).2.map (·.1)).Nodup) :
    Does E.P o ev w (Post B0 F ρ L w (oneAV cn.rets (mkRets E.fz d 0 cn.rets (cn.fn xs)).1) (withNew (mkRets E.fz d 0 cn.rets (cn.fn xs)).2 L)) := by
  obtain ⟨fn, hf1, hf2, hf3⟩ := hs.fn
  have hrun : (execOp ev o).run E.P w = .ok (.enter f (c.args.toList.map ev).toArray) w := by
    have e1 : c.args.map ev = (c.args.toList.map ev).toArray := by apply Array.ext'; simp
    have hn : fn.name ≠ "runtime.NumGoroutine" := by simpa using hf2
    have hb : fn.body ≠ none := by intro h; rw [h] at hf3; cases hf3
    simp [execOp, hop, resolve, hcal, hX, Deferred.ofValue, invoke, callFunc, hf1, hn, hb, e1]
  have hrep := mkArgs_sound hI _ _ _ _ _ _ ha hargs hcs
  have hFl : F.le (if (!(cn.rets.all RK.flatOk)) then F else full w.heap) := by
    split
    · exact FH.le.rfl
    · exact hI.rel.le_full
  have hcons : ∀ b i v, (if (!(cn.rets.all RK.flatOk)) then F else full w.heap) b i = some v → cellAt w.heap b i = some v := by
    split
    · exact hI.rel.cons
    · exact fun _ _ _ h => h
  refine does_enter hrun ((hs.calls _ w xs _ hcons (hgl.mono hFl) hrep hpre).mono ?_)
  rintro e w' ⟨v, F1, rv, bs, rfl, k1, k2, k3, k4, k5, k6, k7⟩
  exact ⟨v, rfl, call_post hI k1 k2 k3 k4 k5 k6 k7 hnew hkn⟩

theorem sound_ext (hI : In E B0 F ρ L w) {c : Call} {X : Operand} {args : List (AV × Option Blk)} {f : FuncId} {cn : Con} (hop : o.op = .call c) (hcal : c.callee = .value X) (hX : ev X = .func (.func f) #[] #[])
    (hs : SoundE E.P f cn) (ha : ArgsOk F ρ L args (c.args.toList.map ev)) {xs : Tup cn.params} {cs : List Prop} (hargs : mkArgs (!(cn.rets.all RK.flatOk)) cn.params args = some (xs, cs)) (hcs : ∀ c, c ∈ cs → c) (hpre : cn.pre xs)
    {d : Nat} (hnew : ∀ p, p ∈ (mkRets E.fz d 0 cn.rets (cn.fn xs)).2 → L p.1 = none) (hkn : ((mkRets E.fz d 0 cn.rets (cn.fn xs)).2.map (·.1)).Nodup) :
    Does E.P o ev w (Post B0 F ρ L w (oneAV cn.rets (mkRets E.fz d 0 cn.rets (cn.fn xs)).1) (withNew (mkRets E.fz d 0 cn.rets (cn.fn xs)).2 L)) := by
  have hrep := mkArgs_sound hI _ _ _ _ _ _ ha hargs hcs
  have hcons : ∀ b i v, (if (!(cn.rets.all RK.flatOk)) then F else full w.heap) b i = some v → cellAt w.heap b i = some v := by
    split
    · exact hI.rel.cons
    · exact fun _ _ _ h => h
  obtain ⟨v, rv, h1, h2, h3⟩ := hs.run _ w xs _ hrep hpre
  have hrun : (execOp ev o).run E.P w = .ok (.value v) w := by
    have e1 : c.args.map ev = (c.args.toList.map ev).toArray := by apply Array.ext'; simp
    simp [execOp, hop, resolve, hcal, hX, Deferred.ofValue, invoke, e1, h1]
  exact does_ok hrun (call_post hI FH.le.rfl (fun _ _ => rfl) hcons h2 List.nodup_nil h3 (Below.refl _ _) hnew hkn)

theorem HRel.onward {F : FH} {ρ : RM} {L : HL} {H H' : Array Obj} {B0 : Nat → Prop} (h : HRel F ρ L H B0) (hH : ∀ b, b < H.size → H'[b]? = H[b]?) : HRel F ρ L H' B0 := by
  refine ⟨fun b i v e => ?_, fun k blk hk => ?_, h.inj, fun kb blk' e1 p kk hm => ?_⟩
  · have h1 := h.cons b i v e
    have := cellAt_lt h1
    simp only [cellAt] at h1 ⊢
    rw [hH b this]; exact h1
  · rcases h.blk _ _ hk with g | ⟨b, cap, c, e, fr, cs, rest, g1, g2, g3, g4, g5, g6, g7⟩
    · exact .inl g
    · have hb := (Array.getElem?_eq_some_iff.1 g3).1
      exact .inr ⟨b, cap, c, e, fr, cs, rest, g1, g2, by rw [hH b hb]; exact g3, g4, g5, g6, g7⟩
  · obtain ⟨g1, g2⟩ := h.lnk kb blk' e1 p kk hm
    exact ⟨g1, fun b2 cap' e2 => (g2 b2 cap' e2).ext FH.le.rfl LLe.same g1 (cellAt_of (hH b2 (h.at e1 e2)))⟩

theorem fnsB_vals : ∀ (fs : List FuncId) (l : List (AV × Option Blk)) (vs : List Value), fnsB fs l = true → ArgsOk F ρ L l vs → vs = fnVals fs := by
  intro fs
  induction fs with
  | nil =>
    intro l vs h ha
    match l, h with
    | [], _ => match vs, ha with
      | [], _ => rfl
  | cons f fs ih =>
    intro l vs h ha
    match l, h with
    | (.fn g, b) :: r, h =>
      simp only [fnsB, Bool.and_eq_true] at h
      have hfg := Nat.eq_of_beq_eq_true h.1
      subst hfg
      match vs, ha with
      | v :: vs, ha =>
        have hv := repA_nt ha.1.1 rfl
        simp only [RepA, List.cons.injEq, and_true] at hv
        rw [ih r vs h.2 ha.2, hv]
        rfl

theorem sound_mut (hI : In E B0 F ρ L w) {c : Call} {X : Operand} {args : List (AV × Option Blk)} {f : FuncId} {m : Mut} (hop : o.op = .call c) (hcal : c.callee = .value X) (hX : ev X = .func (.func f) #[] #[])
    (hs : SoundM E.P f m) (ha : ArgsOk F ρ L args (c.args.toList.map ev)) (e : evalMut m args = some r) (hc : ∀ c, c ∈ r.cs → c) :
    Does E.P o ev w (Post B0 F ρ L w r.v (r.L L)) := by
  obtain ⟨fn, hf1, hf2, hf3⟩ := hs.fn
  have hrun : (execOp ev o).run E.P w = .ok (.enter f (c.args.toList.map ev).toArray) w := by
    have e1 : c.args.map ev = (c.args.toList.map ev).toArray := by apply Array.ext'; simp
    have hn : fn.name ≠ "runtime.NumGoroutine" := by simpa using hf2
    have hb : fn.body ≠ none := by intro h; rw [h] at hf3; cases hf3
    simp [execOp, hop, resolve, hcal, hX, Deferred.ofValue, invoke, callFunc, hf1, hn, hb, e1]
  refine does_enter hrun ?_
  revert ha
  generalize c.args.toList.map ev = vals
  intro ha
  unfold evalMut at e
  split at e
  · rename_i k root blk tl
    split at e
    · cases e
    rename_i hcd
    simp only [Bool.or_eq_true, not_or, Bool.not_eq_true, Bool.not_eq_false'] at hcd
    obtain ⟨⟨hz, hrow⟩, hfs⟩ := hcd
    split at e
    · rename_i n ww xs hg
      split at e
      · rename_i xs' e2
        have := TV.as_eq e2
        cases this
        split at e
        · rename_i z hsz
          cases e
          have hpre : m.pre xs' := one_mem hc
          match vals, ha with
          | v :: vs, ha =>
            obtain ⟨⟨ha1, hb⟩, ha2⟩ := ha
            rw [fnsB_vals m.rest tl vs (by simpa using hfs) ha2]
            obtain ⟨k', hk', hL⟩ := blkL_some hb
            cases hk'
            obtain ⟨rfl, hok, hw⟩ := repAV_whole.1 ha1 blk hL
            have hlen : blk.len = List.length xs' := by
              obtain ⟨row, t, x, fz⟩ := blk
              simp only [getP, Option.some.injEq] at hg
              cases hg; rfl
            rcases hw with ⟨h1, h2, h3, h4, h5⟩ | ⟨bb, cap, mm, u', off, h1, h2, h3⟩
            · have hx0 : xs' = [] := List.eq_nil_of_length_eq_zero (by rw [← hlen]; exact h4)
              subst h5
              subst hx0
              refine (hs.nilC none 0 w hpre).mono ?_
              rintro e' w' ⟨rfl, k7⟩
              refine ⟨_, rfl, ?_⟩
              rw [L_set]
              have hR := hI.rel.onward (H' := w'.heap) (fun b hb => k7.block b hb)
              have hz0 : lenT blk.t z = lenT blk.t blk.x := by
                obtain ⟨row, t, x, fz⟩ := blk
                simp only [getP, Option.some.injEq] at hg
                cases hg
                simp only [setP] at hsz
                have := TV.as_eq hsz
                cases this
                simp only [lenT]
                exact hs.len []
              have hLL : LLe L ρ (upd (upd L k (some none)) k (some (some ⟨blk.row, blk.t, z, false, []⟩))) (upd ρ k none) :=
                LLe.redo (blk' := ⟨blk.row, blk.t, z, false, []⟩) hL (.inl ⟨rfl, rfl, rfl, hz0⟩) h1
              refine ⟨F, upd ρ k none, ⟨[], rfl, rfl⟩, ?_, FH.le.rfl, fun _ _ => rfl, hLL, ⟨k7.os, k7.tape, k7.output, k7.size, fun b hb => k7.block b (Nat.lt_of_not_le (fun h => hb (hI.size b h)))⟩⟩
              have hupd : upd (upd L k (some none)) k (some (some (⟨blk.row, blk.t, z, false, []⟩ : Blk))) = upd L k (some (some ⟨blk.row, blk.t, z, false, []⟩)) := by
                funext q; simp only [upd]; split <;> rfl
              rw [hupd] at hLL ⊢
              exact hR.freshNil hLL rfl
            · obtain ⟨hu, hm, l1, l2, _⟩ := own_list hI.rel hL h1 hok hg h2
              obtain ⟨cc, ce, fr, cl, rest, g1, g2, g3, g4, g5, g6⟩ := hI.rel.live hL h1
              have hxl : (m.fn xs').length = List.length xs' := hs.len xs'
              obtain ⟨cc', ce', fr', reg, q1, q2, q3, q4, q5, q6, q7⟩ := own_update hI.rel hL h1 hz hok hg h2 hxl hsz
              rw [g2] at q1
              cases q1
              have hoff : off = 0 := by
                have : blk.t.nav [] = some (blk.t, 0) := by cases blk.t <;> rfl
                rw [this] at h2; simp at h2; exact h2.2.symm
              subst hoff
              have lreg := repL_rep_len q6
              have hsplit : cc.toList = reg ++ cc.toList.drop reg.length := by
                conv => lhs; rw [← List.take_append_drop reg.length cc.toList]
                rw [List.drop_zero] at q5
                rw [q5]
              have hcap : cc.size = cap * m.t.size ∧ List.length xs' ≤ cap := by
                obtain ⟨row, t, x, fz⟩ := blk
                simp only [getP, Option.some.injEq] at hg
                cases hg
                simp only at hrow
                have hr1 : row = true := by simpa using hrow
                simp only [RepC, hr1, if_true] at g5
                exact g5.2
              have hlc : lcap blk.row [] blk.len cap mm = (List.length xs', cap) := by
                have hr1 : blk.row = true := by simpa using hrow
                simp [lcap, hr1, hlen]
              rw [hlc] at h3
              subst h3
              refine (hs.rowC F w xs' bb cap cc ce fr reg _ g2 g3 hsplit q6 hcap.1 hcap.2 hpre).mono ?_
              rintro e' w' ⟨rfl, cs', r1, r2, r3, r4, r5, r6, r7⟩
              refine ⟨_, rfl, ?_⟩
              rw [L_set]
              obtain ⟨F', f1, f2, f3, f4⟩ := q7 cs' r1
              have lcs := repL_rep_len r1
              have hput : putL cc.toList 0 cs' = cs' ++ cc.toList.drop reg.length := by
                simp only [putL, List.take_zero, List.nil_append, Nat.zero_add]
                rw [lcs, lreg, hxl]
              have hlt := (Array.getElem?_eq_some_iff.1 g2).1
              have hR := f3.onward (H' := w'.heap) (fun b hb => by
                simp only [Array.size_setIfInBounds] at hb
                by_cases hbb : b = bb
                · subst hbb
                  rw [r6, Array.getElem?_setIfInBounds_self_of_lt hlt, hput]
                · rw [r7 b hb hbb, Array.getElem?_setIfInBounds_ne (fun h => hbb h.symm)])
              refine ⟨F', _, ⟨[], rfl, rfl⟩, hR, f1, fun b' hb => f2 b' (fun e => hb (by rw [e]; exact q3)), LLe.redo (blk' := ⟨blk.row, blk.t, z, false, []⟩) hL (.inl ⟨rfl, rfl, rfl, f4⟩) h1,
                ⟨r2, r3, r4, r5, fun b hb => r7 b (Nat.lt_of_not_le (fun h => hb (hI.size b h))) (fun e => hb (by rw [e]; exact q3))⟩⟩
        · cases e
      · cases e
    · cases e
  · rename_i k root off len blk tl
    split at e
    · cases e
    rename_i hcd
    simp only [Bool.or_eq_true, not_or, Bool.not_eq_true, Bool.not_eq_false'] at hcd
    obtain ⟨⟨⟨hz, hrow⟩, hpt⟩, hfs⟩ := hcd
    have hrow : blk.row = true := by simpa using hrow
    have hpt : m.part = true := by simpa using hpt
    split at e
    · rename_i n ww xs hg
      split at e
      · rename_i xs' e2
        have := TV.as_eq e2
        cases this
        split at e
        · rename_i z hsz
          cases e
          have hol : off + len ≤ xs'.length := hc _ List.mem_cons_self
          have hpre : m.pre ((xs'.drop off).take len) := hc _ (List.mem_cons_of_mem _ List.mem_cons_self)
          match vals, ha with
          | v :: vs, ha =>
            obtain ⟨⟨ha1, hb⟩, ha2⟩ := ha
            rw [fnsB_vals m.rest tl vs (by simpa using hfs) ha2]
            obtain ⟨k', hk', hL⟩ := blkL_some hb
            cases hk'
            obtain ⟨rfl, hok, hw⟩ := repAV_sub.1 ha1 blk hL
            have hlen : blk.len = List.length xs' := by
              obtain ⟨row, t, x, fz⟩ := blk
              simp only [getP, Option.some.injEq] at hg
              cases hg; rfl
            have hml : ((xs'.drop off).take len).length = len := by simp; omega
            have hxl : (xs'.take off ++ (m.fn ((xs'.drop off).take len) ++ xs'.drop (off + len))).length = List.length xs' := by
              simp only [List.length_append, hs.len, hml, List.length_take, List.length_drop]; omega
            have same : ∀ (w' : World), Below w.heap.size w w' → len = 0 → (xs'.take off ++ (m.fn ((xs'.drop off).take len) ++ xs'.drop (off + len))) = xs' := by
              intro w' _ h0
              subst h0
              have : m.fn ((xs'.drop off).take 0) = [] := List.eq_nil_of_length_eq_zero (by rw [hs.len]; simp)
              rw [this]; simp
            rcases hw with ⟨h1, h2, h3, h4, h5, h6, h7⟩ | ⟨bb, cap, mm, u', off1, off', h1, h2, h3, h4, h5⟩
            · subst h7
              have hm0 : (xs'.drop off).take len = [] := by rw [h6]; simp
              rw [hm0] at hpre
              refine (hs.nilC none 0 w hpre).mono ?_
              rintro e' w' ⟨rfl, k7⟩
              refine ⟨_, rfl, ?_⟩
              rw [L_set]
              have hR := hI.rel.onward (H' := w'.heap) (fun b hb => k7.block b hb)
              have hz0 : lenT blk.t z = lenT blk.t blk.x := by
                obtain ⟨row, t, x, fz⟩ := blk
                simp only [getP, Option.some.injEq] at hg
                cases hg
                simp only [setP] at hsz
                have := TV.as_eq hsz
                cases this
                simp only [lenT]
                exact hxl
              have hLL : LLe L ρ (upd (upd L k (some none)) k (some (some ⟨blk.row, blk.t, z, false, []⟩))) (upd ρ k none) :=
                LLe.redo (blk' := ⟨blk.row, blk.t, z, false, []⟩) hL (.inl ⟨rfl, rfl, rfl, hz0⟩) h1
              refine ⟨F, upd ρ k none, ⟨[], rfl, rfl⟩, ?_, FH.le.rfl, fun _ _ => rfl, hLL, ⟨k7.os, k7.tape, k7.output, k7.size, fun b hb => k7.block b (Nat.lt_of_not_le (fun h => hb (hI.size b h)))⟩⟩
              have hupd : upd (upd L k (some none)) k (some (some (⟨blk.row, blk.t, z, false, []⟩ : Blk))) = upd L k (some (some ⟨blk.row, blk.t, z, false, []⟩)) := by
                funext q; simp only [upd]; split <;> rfl
              rw [hupd] at hLL ⊢
              exact hR.freshNil hLL rfl
            · obtain ⟨hu, hm, l1, l2, _⟩ := own_list hI.rel hL h1 hok hg h2
              subst hu
              obtain ⟨cc, ce, fr, cl, rest, g1, g2, g3, g4, g5, g6⟩ := hI.rel.live hL h1
              obtain ⟨cc', ce', fr', reg, q1, q2, q3, q4, q5, q6, q7⟩ := own_update hI.rel hL h1 hz hok hg h2 hxl hsz
              rw [g2] at q1
              cases q1
              have hoff : off1 = 0 := by
                have : blk.t.nav [] = some (blk.t, 0) := by cases blk.t <;> rfl
                rw [this] at h2; simp at h2; exact h2.2.symm
              subst hoff
              have lreg := repL_rep_len q6
              have hsplit : cc.toList = reg ++ cc.toList.drop reg.length := by
                conv => lhs; rw [← List.take_append_drop reg.length cc.toList]
                rw [List.drop_zero] at q5
                rw [q5]
              have hlc : lcap blk.row [] blk.len cap mm = (List.length xs', cap) := by
                simp [lcap, hrow, hlen]
              rw [hlc] at h3 h4 h5
              simp only at h3 h4 h5
              subst h3
              have hlt := (Array.getElem?_eq_some_iff.1 g2).1
              have hR1 := repL_take (fun x cs => rep_len m.t x cs) off _ _ q6
              have hR2 := repL_take (fun x cs => rep_len m.t x cs) len _ _ (repL_drop (fun x cs => rep_len m.t x cs) off _ _ q6)
              have hR3 := repL_drop (fun x cs => rep_len m.t x cs) (off + len) _ _ q6
              have le1 : off * m.t.size + len * m.t.size ≤ reg.length := by
                rw [lreg, ← Nat.add_mul]; exact Nat.mul_le_mul_right _ hol
              have hreg : reg = reg.take (off * m.t.size) ++ ((reg.drop (off * m.t.size)).take (len * m.t.size) ++ reg.drop ((off + len) * m.t.size)) := by
                conv => lhs; rw [← List.take_append_drop (off * m.t.size) reg]
                congr 1
                conv => lhs; rw [← List.take_append_drop (len * m.t.size) (reg.drop (off * m.t.size))]
                rw [List.drop_drop, Nat.add_mul]
              have fin : ∀ (e' : Ending) (w' : World), (e' = .returned (.tuple #[]) ∧ ∃ cs', RepL (Rep F m.t) (m.fn ((xs'.drop off).take len)) cs' ∧ w'.os = w.os ∧ w'.tape = w.tape ∧ w'.output = w.output ∧
                  w.heap.size ≤ w'.heap.size ∧ w'.heap[bb]? = some (.cells (reg.take (off * m.t.size) ++ (cs' ++ (reg.drop ((off + len) * m.t.size) ++ cc.toList.drop reg.length))).toArray ce fr) ∧ ∀ i, i < w.heap.size → i ≠ bb → w'.heap[i]? = w.heap[i]?) →
                  ∃ v, e' = .returned v ∧ Post B0 F ρ L w .tnil (upd (upd L k (some none)) k (some (some ⟨blk.row, blk.t, z, false, []⟩))) v w' := by
                rintro e' w' ⟨rfl, cs', r1, r2, r3, r4, r5, r6, r7⟩
                refine ⟨_, rfl, ?_⟩
                have rall := repL_append _ _ _ _ hR1 (repL_append _ _ _ _ r1 hR3)
                obtain ⟨F', f1, f2, f3, f4⟩ := q7 _ rall
                have lall := repL_rep_len rall
                have hput : putL cc.toList 0 (reg.take (off * m.t.size) ++ (cs' ++ reg.drop ((off + len) * m.t.size))) = reg.take (off * m.t.size) ++ (cs' ++ (reg.drop ((off + len) * m.t.size) ++ cc.toList.drop reg.length)) := by
                  simp only [putL, List.take_zero, List.nil_append, Nat.zero_add]
                  rw [lall, lreg, hxl]
                  simp only [List.append_assoc]
                have hR := f3.onward (H' := w'.heap) (fun b hb => by
                  simp only [Array.size_setIfInBounds] at hb
                  by_cases hbb : b = bb
                  · subst hbb
                    rw [r6, Array.getElem?_setIfInBounds_self_of_lt hlt, hput]
                  · rw [r7 b hb hbb, Array.getElem?_setIfInBounds_ne (fun h => hbb h.symm)])
                exact ⟨F', _, ⟨[], rfl, rfl⟩, hR, f1, fun b' hb => f2 b' (fun e => hb (by rw [e]; exact q3)), LLe.redo (blk' := ⟨blk.row, blk.t, z, false, []⟩) hL (.inl ⟨rfl, rfl, rfl, f4⟩) h1,
                  ⟨r2, r3, r4, r5, fun b hb => r7 b (Nat.lt_of_not_le (fun h => hb (hI.size b h))) (fun e => hb (by rw [e]; exact q3))⟩⟩
              rw [L_set]
              by_cases h0 : len = 0
              · subst h0
                simp only [List.take_zero] at hpre fin
                refine (hs.nilC (some ⟨bb, off', none⟩) (cap - off) w hpre).mono (fun e' w' hh => fin e' w' ?_)
                obtain ⟨rfl, k7⟩ := hh
                have hf0 : m.fn [] = [] := List.eq_nil_of_length_eq_zero (by rw [hs.len]; rfl)
                refine ⟨rfl, [], by rw [hf0]; rfl, k7.os, k7.tape, k7.output, k7.size, ?_, fun i hi _ => k7.block i hi⟩
                rw [k7.block bb hlt, g2]
                have : reg.take (off * m.t.size) ++ ([] ++ (reg.drop ((off + 0) * m.t.size) ++ cc.toList.drop reg.length)) = cc.toList := by
                  rw [List.nil_append, Nat.add_zero, ← List.append_assoc, List.take_append_drop]; exact hsplit.symm
                rw [this]
              · have hoff' := h5 (by omega)
                have e1 : off' = (reg.take (off * m.t.size)).length := by
                  rw [hoff', List.length_take]; omega
                rw [e1]
                have hcl := hs.partC hpt F w ((xs'.drop off).take len) bb (cap - off) cc ce fr (reg.take (off * m.t.size)) ((reg.drop (off * m.t.size)).take (len * m.t.size)) (reg.drop ((off + len) * m.t.size) ++ cc.toList.drop reg.length) g2 g3
                  (by conv => lhs; rw [hsplit]
                      conv => lhs; lhs; rw [hreg]
                      simp only [List.append_assoc]) hR2 (by rw [hml]; omega) (by rw [hml]; omega) hpre
                rw [hml] at hcl
                exact hcl.mono fin
        · cases e
      · cases e
    · cases e
  · cases e

end
end Lc
