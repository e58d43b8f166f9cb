/- The engine, part E: how an abstract state lies in a world; new blocks, stores, freezing. -/
import Derived.Test.YtbaiojghpadffaaEngD
namespace Lc
open Go
set_option linter.unusedVariables false
set_option linter.unusedSimpArgs false

/-- Blocks that may be written: U; all others stay. -/
structure Kept (U : Nat → Prop) (w w' : World) : Prop where
  os : w'.os = w.os
  tape : w'.tape = w.tape
  output : w'.output = w.output
  size : w.heap.size ≤ w'.heap.size
  block : ∀ k, ¬ U k → w'.heap[k]? = w.heap[k]?

theorem Kept.refl (U : Nat → Prop) (w : World) : Kept U w w := ⟨rfl, rfl, rfl, Nat.le_refl _, fun _ _ => rfl⟩
theorem Kept.trans {U : Nat → Prop} {a b c : World} (h : Kept U a b) (k : Kept U b c) : Kept U a c :=
  ⟨k.os.trans h.os, k.tape.trans h.tape, k.output.trans h.output, Nat.le_trans h.size k.size, fun i hi => (k.block i hi).trans (h.block i hi)⟩
theorem Kept.mono {U V : Nat → Prop} {w w' : World} (h : Kept U w w') (hU : ∀ b, U b → V b) : Kept V w w' := ⟨h.os, h.tape, h.output, h.size, fun k hk => h.block k (fun hu => hk (hU k hu))⟩
theorem Kept.drew {U : Nat → Prop} {a w : World} (h : Kept U a w) : Kept U a w.drew := ⟨h.os, h.tape, h.output, h.size, h.block⟩
theorem Kept.alloc {U : Nat → Prop} {a w : World} (h : Kept U a w) (hU : ∀ b, w.heap.size ≤ b → U b) (o : Obj) : Kept U a (w.alloc o) := by
  have hb := Go.RowKit.Below.alloc (Go.RowKit.Below.refl w.heap.size w) (Nat.le_refl _) o
  refine ⟨h.os, h.tape, h.output, Nat.le_trans h.size hb.size, fun k hk => ?_⟩
  rw [← h.block k hk]
  exact hb.block k (Nat.lt_of_not_le (fun hle => hk (hU k hle)))

/-- Where a function began, and the blocks that it may write. -/
structure Ctx where
  w : World
  U : Nat → Prop

/-- A row's capacity, and the cells ahead of it in its block. -/
abbrev Cap := Nat × Nat
abbrev RM := Nat → Option (Nat × Cap)
abbrev HL := Nat → Option (Option Blk)

def upd {α : Type} (f : Nat → α) (k : Nat) (v : α) : Nat → α := fun n => if n = k then v else f n
@[simp] theorem upd_same {α : Type} (f : Nat → α) (k : Nat) (v : α) : upd f k v k = v := by simp [upd]
theorem upd_ne {α : Type} (f : Nat → α) {k n : Nat} (v : α) (h : n ≠ k) : upd f k v n = f n := by simp [upd, h]

def hl (hp : List (Nat × Option Blk)) : HL := fun n => look n hp

theorem look_cons {α : Type} (n k : Nat) (v : α) (l : List (Nat × α)) : look n ((k, v) :: l) = if n = k then some v else look n l := by
  simp only [look]
  by_cases h : n = k
  · subst h; simp [Nat.beq_refl]
  · rw [if_neg h, if_neg (by simpa using h)]

theorem hl_cons (k : Nat) (v : Option Blk) (l : List (Nat × Option Blk)) : hl ((k, v) :: l) = upd (hl l) k (some v) := by
  funext n; simp only [hl, look_cons, upd]

def lenT : (t : Ty) → t.den → Nat
  | .arr _ _, xs => List.length xs
  | _, _ => 0
def Blk.len (b : Blk) : Nat := lenT b.t b.x

def okB (row : Bool) (n : Nat) (t : Ty) (p : List Stp) : Prop :=
  if row then (match t, p with
    | _, [] => True
    | .arr _ u, .idx i :: p => i < n ∧ okT u p
    | _, _ => False)
  else okT t p

def lcap (row : Bool) (p : List Stp) (len : Nat) (cap : Cap) (n : Nat) : Nat × Nat := if row && p.isEmpty then (len, cap.1) else (n, n)

def HW (r : Option (Nat × Cap)) (row : Bool) (len : Nat) (root : Ty) (p : List Stp) (v : Value) : Prop :=
  (r = none ∧ row = true ∧ p = [] ∧ len = 0 ∧ v = .slice none 0 0) ∨
  ∃ b cap n u off, r = some (b, cap) ∧ root.nav p = some (.arr n u, off) ∧
    v = .slice (some ⟨b, cap.2 + off, none⟩) (lcap row p len cap n).1 (lcap row p len cap n).2

def HS (r : Option (Nat × Cap)) (row : Bool) (len : Nat) (root : Ty) (p : List Stp) (o l : Nat) (v : Value) : Prop :=
  (r = none ∧ row = true ∧ p = [] ∧ len = 0 ∧ o = 0 ∧ l = 0 ∧ v = .slice none 0 0) ∨
  ∃ b cap n u off off', r = some (b, cap) ∧ root.nav p = some (.arr n u, off) ∧
    v = .slice (some ⟨b, off', none⟩) l ((lcap row p len cap n).2 - o) ∧ o + l ≤ (lcap row p len cap n).2 ∧
    ((lcap row p len cap n).2 ≠ o → off' = cap.2 + off + o * u.size)

def RepA (F : FH) (ρ : RM) (L : HL) : AV → List Value → Prop
  | .val t x, l => ∃ v, l = [v] ∧ RepV F t x v
  | .vlk t x lks, l => ∃ v, l = [v] ∧ RepV F t x v ∧ ∀ p k, (p, k) ∈ lks → fldOnly p = true ∧ ∃ u off hv, t.nav p = some (.slc u, off) ∧ v.cells.toList[off]? = some hv ∧
      ∀ blk, L k = some (some blk) → blk.t = .arr 0 u ∧ okB blk.row blk.len (.arr 0 u) [] ∧ HW (ρ k) blk.row blk.len (.arr 0 u) [] hv
  | .cptr t x, l => ∃ b off cs, l = [.pointer (some ⟨b, off, none⟩)] ∧ Rep F t x cs ∧ FAt F b off cs
  | .ptr k root p, l => ∃ v, l = [v] ∧ ∀ blk, L k = some (some blk) → blk.t = root ∧ okB blk.row blk.len root p ∧
      ∃ b cap u off, ρ k = some (b, cap) ∧ root.nav p = some (u, off) ∧ v = .pointer (some ⟨b, cap.2 + off, none⟩)
  | .whole k root p, l => ∃ v, l = [v] ∧ ∀ blk, L k = some (some blk) → blk.t = root ∧ okB blk.row blk.len root p ∧ HW (ρ k) blk.row blk.len root p v
  | .sub k root p o n, l => ∃ v, l = [v] ∧ ∀ blk, L k = some (some blk) → blk.t = root ∧ okB blk.row blk.len root p ∧ HS (ρ k) blk.row blk.len root p o n v
  | .nil, l => l = [.slice none 0 0]
  | .cut t xs, l => (xs = [] ∧ l = [.slice none 0 0]) ∨
      ∃ b off cs, l = [.slice (some ⟨b, off, none⟩) (List.length xs) (List.length xs)] ∧ RepL (Rep F t) xs cs ∧ FAt F b off cs
  | .raw u, l => l = [u]
  | .fn f, l => l = [.func (.func f) #[] #[]]
  | .mref k, l => ∃ v, l = [v] ∧ ∀ blk, L k = some (some blk) → ∃ b cap, ρ k = some (b, cap) ∧ v = .map (some b)
  | .opt p a, l => (p → RepA F ρ L a l) ∧ (¬ p → l = [undef])
  | .tnil, l => l = []
  | .tcons a b, l => ∃ v r, l = v :: r ∧ RepA F ρ L a [v] ∧ RepA F ρ L b r

def RepAV (F : FH) (ρ : RM) (L : HL) (a : AV) (v : Value) : Prop :=
  if a.isTup then ∃ l, v = .tuple l.toArray ∧ RepA F ρ L a l else RepA F ρ L a [v]

def cellAt (H : Array Obj) (b i : Nat) : Option Value :=
  match H[b]? with
  | some (.cells c _ _) => c[i]?
  | _ => none

theorem cell?_eq (w : World) (b i : Nat) : w.cell? ⟨b, i, none⟩ = cellAt w.heap b i := by
  simp only [World.cell?, cellAt]
  cases w.heap[b]? with
  | none => rfl
  | some o => cases o <;> simp

def RepC (F : FH) (row : Bool) (cap : Cap) (n : Nat) : (t : Ty) → t.den → List Value → Prop
  | .arr m u, xs, cs => if row then RepL (Rep F u) xs cs ∧ n = cap.2 + cap.1 * u.size ∧ List.length xs ≤ cap.1 else Rep F (.arr m u) xs cs ∧ n = cs.length ∧ cap.2 = 0
  | t, x, cs => row = false ∧ Rep F t x cs ∧ n = cs.length ∧ cap.2 = 0

/-- The entries of a map. -/
def RepM (F : FH) (K V : Ty) : List (K.den × V.den) → List MapEntry → Prop
  | [], es => es = []
  | x :: xs, es => ∃ e r, es = e :: r ∧ RepV F K x.1 e.key ∧ RepV F V x.2 e.val ∧ RepM F K V xs r

theorem repM_mono {F G : FH} (h : F.le G) {K V : Ty} : ∀ (xs : List (K.den × V.den)) (es : List MapEntry), RepM F K V xs es → RepM G K V xs es
  | [], _, e => e
  | _ :: xs, _, ⟨e, r, h1, h2, h3, h4⟩ => ⟨e, r, h1, repV_mono h h2, repV_mono h h3, repM_mono h xs r h4⟩

/-- A block that is a map. -/
structure MapB (F : FH) (H : Array Obj) (B0 : Nat → Prop) (r : Option (Nat × Cap)) (blk : Blk) (K V : Ty) (xs : List (K.den × V.den)) : Prop where
  row : blk.row = true
  fz : blk.fz = false
  eq : TV.mk blk.t blk.x = ⟨.map K V, xs⟩
  out : ∃ b es clock, r = some (b, (0, 0)) ∧ B0 b ∧ H[b]? = some (.map es clock) ∧ RepM F K V xs es.toList

theorem MapB.mono {F G : FH} (h : F.le G) {H H' : Array Obj} {B0 : Nat → Prop} {r : Option (Nat × Cap)} {blk : Blk} {K V : Ty} {xs : List (K.den × V.den)} (m : MapB F H B0 r blk K V xs)
    (hH : ∀ b (cap : Cap) es clock, r = some (b, cap) → H[b]? = some (.map es clock) → H'[b]? = some (.map es clock)) : MapB G H' B0 r blk K V xs := by
  obtain ⟨e, e', e'', b, es, clock, h1, h2, h3, h4⟩ := m
  exact ⟨e, e', e'', b, es, clock, h1, h2, hH _ _ _ _ h1 h3, repM_mono h _ _ h4⟩

def free (fr : Nat × Nat) (n : Nat) : Prop := ∀ i, i < n → ¬ (fr.1 ≤ i ∧ i < fr.2)

def RepB (F : FH) (H : Array Obj) (B0 : Nat → Prop) (r : Option (Nat × Cap)) (blk : Blk) : Prop :=
  r = none ∨
  (∃ b cap c e fr hd cs rest, r = some (b, cap) ∧ B0 b ∧ H[b]? = some (.cells c e fr) ∧ free fr c.size ∧ (List.length hd = cap.2 ∧ (blk.fz = false → cap.2 = 0) ∧ c.toList = hd ++ (cs ++ rest)) ∧
    RepC F blk.row cap c.size blk.t blk.x cs ∧ ∀ i, F b (cap.2 + i) = if blk.fz then cs[i]? else none) ∨
  ∃ K V xs, MapB F H B0 r blk K V xs

/-- The slice at place p of a block is the one of row k. -/
def Lnk (F : FH) (ρ : RM) (L : HL) (H : Array Obj) (b o : Nat) (t : Ty) (p : List Stp) (k : Nat) : Prop :=
  fldOnly p = true ∧ ∃ u off v, t.nav p = some (.slc u, off) ∧ cellAt H b (o + off) = some v ∧ RepAV F ρ L (.whole k (.arr 0 u) []) v

structure HRel (F : FH) (ρ : RM) (L : HL) (H : Array Obj) (B0 : Nat → Prop) : Prop where
  cons : ∀ b i v, F b i = some v → cellAt H b i = some v
  blk : ∀ k blk, L k = some (some blk) → RepB F H B0 (ρ k) blk
  inj : ∀ k k' x x' b c c', L k = some (some x) → L k' = some (some x') → ρ k = some (b, c) → ρ k' = some (b, c') → k = k'
  lnk : ∀ kb blk, L kb = some (some blk) → ∀ p k, (p, k) ∈ blk.lk → (L k).isSome ∧ ∀ b cap, ρ kb = some (b, cap) → Lnk F ρ L H b cap.2 blk.t p k

theorem repC_mono {F G : FH} (h : F.le G) {row : Bool} {cap : Cap} {n : Nat} {t : Ty} {x : t.den} {cs : List Value} (r : RepC F row cap n t x cs) : RepC G row cap n t x cs := by
  cases t <;> simp only [RepC] at *
  case arr m u =>
    split
    · rename_i hr; rw [if_pos hr] at r; exact ⟨repL_mono (fun x cs => rep_mono h u x cs) _ _ r.1, r.2⟩
    · rename_i hr; rw [if_neg hr] at r; exact ⟨rep_mono h _ _ _ r.1, r.2⟩
  all_goals exact ⟨r.1, rep_mono h _ _ _ r.2.1, r.2.2⟩

theorem cellAt_lt {H : Array Obj} {b i : Nat} {v : Value} (h : cellAt H b i = some v) : b < H.size := by
  simp only [cellAt] at h
  split at h
  · rename_i e; exact (Array.getElem?_eq_some_iff.1 e).1
  · cases h

/-- What becomes of the handles when the heap goes on: for each known key, what lives there later lived there before, of the same kind. -/
def LLe (L : HL) (ρ : RM) (L' : HL) (ρ' : RM) : Prop :=
  ∀ k, (L k).isSome → ∀ blk', L' k = some (some blk') → ∃ blk, L k = some (some blk) ∧ blk'.t = blk.t ∧ blk'.row = blk.row ∧ blk'.len = blk.len ∧ ρ' k = ρ k

theorem LLe.same {L : HL} {ρ : RM} : LLe L ρ L ρ := fun _ _ blk h => ⟨blk, h, by simp⟩

theorem repA_ext {F F' : FH} {ρ ρ' : RM} {L L' : HL} (hF : F.le F') (hL : LLe L ρ L' ρ') :
    ∀ (a : AV) (l : List Value), (∀ k, k ∈ a.keys → (L k).isSome) → RepA F ρ L a l → RepA F' ρ' L' a l := by
  intro a
  induction a with
  | val t x => rintro l _ ⟨v, rfl, h⟩; exact ⟨v, rfl, repV_mono hF h⟩
  | vlk t x lks =>
    rintro l hk ⟨v, e, h1, h2⟩
    refine ⟨v, e, repV_mono hF h1, fun p k hm => ?_⟩
    obtain ⟨g0, u, off, hv, g1, g2, g3⟩ := h2 p k hm
    refine ⟨g0, u, off, hv, g1, g2, fun blk' hb => ?_⟩
    obtain ⟨blk, q1, q2, q3, q4, q5⟩ := hL k (hk k (by simp only [AV.keys, List.mem_map]; exact ⟨_, hm, rfl⟩)) blk' hb
    rw [q2, q3, q4, q5]; exact g3 blk q1
  | cptr t x => rintro l _ ⟨b, off, cs, e, h1, h2⟩; exact ⟨b, off, cs, e, rep_mono hF _ _ _ h1, fun i c hc => hF _ _ _ (h2 i c hc)⟩
  | ptr k root p =>
    rintro l hk ⟨v, e, h⟩
    refine ⟨v, e, fun blk' hb => ?_⟩
    obtain ⟨blk, h1, h2, h3, h4, h5⟩ := hL k (hk k (by simp [AV.keys])) blk' hb
    rw [h2, h3, h4, h5]; exact h blk h1
  | whole k root p =>
    rintro l hk ⟨v, e, h⟩
    refine ⟨v, e, fun blk' hb => ?_⟩
    obtain ⟨blk, h1, h2, h3, h4, h5⟩ := hL k (hk k (by simp [AV.keys])) blk' hb
    rw [h2, h3, h4, h5]; exact h blk h1
  | sub k root p o n =>
    rintro l hk ⟨v, e, h⟩
    refine ⟨v, e, fun blk' hb => ?_⟩
    obtain ⟨blk, h1, h2, h3, h4, h5⟩ := hL k (hk k (by simp [AV.keys])) blk' hb
    rw [h2, h3, h4, h5]; exact h blk h1
  | nil => intro l _ h; exact h
  | cut t xs =>
    rintro l _ (h | ⟨b, off, cs, e, h1, h2⟩)
    · exact .inl h
    · exact .inr ⟨b, off, cs, e, repL_mono (fun x cs => rep_mono hF t x cs) _ _ h1, fun i c hc => hF _ _ _ (h2 i c hc)⟩
  | raw u => intro l _ h; exact h
  | fn f => intro l _ h; exact h
  | mref k =>
    rintro l hk ⟨v, e, h⟩
    refine ⟨v, e, fun blk' hb => ?_⟩
    obtain ⟨blk, h1, h2, h3, h4, h5⟩ := hL k (hk k (by simp [AV.keys])) blk' hb
    rw [h5]; exact h blk h1
  | opt p a ih => intro l hk h; exact ⟨fun hp => ih l hk (h.1 hp), h.2⟩
  | tnil => intro l _ h; exact h
  | tcons a b iha ihb =>
    rintro l hk ⟨v, r, rfl, h1, h2⟩
    exact ⟨v, r, rfl, iha _ (fun k h => hk k (by simp [AV.keys, h])) h1, ihb _ (fun k h => hk k (by simp [AV.keys, h])) h2⟩

theorem repAV_ext {F F' : FH} {ρ ρ' : RM} {L L' : HL} (hF : F.le F') (hL : LLe L ρ L' ρ') {a : AV} {v : Value} (hk : ∀ k, k ∈ a.keys → (L k).isSome)
    (h : RepAV F ρ L a v) : RepAV F' ρ' L' a v := by
  unfold RepAV at *
  split
  · rename_i e; rw [if_pos e] at h; obtain ⟨l, e1, h1⟩ := h; exact ⟨l, e1, repA_ext hF hL _ _ hk h1⟩
  · rename_i e; rw [if_neg e] at h; exact repA_ext hF hL _ _ hk h

theorem Lnk.ext {F F' : FH} {ρ ρ' : RM} {L L' : HL} {H H' : Array Obj} {b o : Nat} {t : Ty} {p : List Stp} {k : Nat} (h : Lnk F ρ L H b o t p k) (hF : F.le F') (hL : LLe L ρ L' ρ') (hk : (L k).isSome) (hH : ∀ i, cellAt H' b i = cellAt H b i) : Lnk F' ρ' L' H' b o t p k := by
  obtain ⟨h0, u, off, v, h1, h2, h3⟩ := h
  refine ⟨h0, u, off, v, h1, by rw [hH]; exact h2, repAV_ext hF hL (fun k' hk' => ?_) h3⟩
  simp [AV.keys] at hk'; subst hk'; exact hk
theorem cellAt_of {H H' : Array Obj} {b : Nat} (h : H'[b]? = H[b]?) (i : Nat) : cellAt H' b i = cellAt H b i := by simp only [cellAt, h]

theorem LLe.fresh {L : HL} {ρ : RM} {k : Nat} (hk : L k = none) (v : Option Blk) (r : Option (Nat × Cap)) : LLe L ρ (upd L k (some v)) (upd ρ k r) := by
  intro k' hs blk' e
  by_cases h : k' = k
  · subst h; rw [hk] at hs; cases hs
  · rw [upd_ne _ _ h] at e ⊢; exact ⟨blk', e, rfl, rfl, rfl, rfl⟩

theorem LLe.kill {L : HL} {ρ : RM} (k : Nat) : LLe L ρ (upd L k (some none)) ρ := by
  intro k' hs blk' e
  by_cases h : k' = k
  · subst h; rw [upd_same] at e; cases e
  · rw [upd_ne _ _ h] at e; exact ⟨blk', e, rfl, rfl, rfl, rfl⟩

theorem LLe.redo {L : HL} {ρ : RM} {k k' : Nat} {blk blk' : Blk} (hL : L k = some (some blk)) (hk' : (k' = k ∧ blk'.t = blk.t ∧ blk'.row = blk.row ∧ blk'.len = blk.len) ∨ L k' = none)
    {r : Option (Nat × Cap)} (hρ : ρ k = r) : LLe L ρ (upd (upd L k (some none)) k' (some (some blk'))) (upd ρ k' r) := by
  intro k1 hs b1 e
  by_cases h : k1 = k'
  · subst h
    rw [upd_same] at e ⊢
    cases e
    rcases hk' with ⟨rfl, h1, h2, h3⟩ | hk'
    · exact ⟨blk, hL, h1, h2, h3, hρ.symm⟩
    · rw [hk'] at hs; cases hs
  · rw [upd_ne _ _ h] at e ⊢
    by_cases h2 : k1 = k
    · subst h2; rw [upd_same] at e; cases e
    · rw [upd_ne _ _ h2] at e; exact ⟨b1, e, rfl, rfl, rfl, rfl⟩

theorem isSome_upd {L : HL} {k k' : Nat} (v : Option Blk) (h : (L k').isSome) : (upd L k (some v) k').isSome := by
  by_cases e : k' = k
  · subst e; rw [upd_same]; rfl
  · rw [upd_ne _ _ e]; exact h

theorem HRel.at {F : FH} {ρ : RM} {L : HL} {H : Array Obj} {B0 : Nat → Prop} (h : HRel F ρ L H B0) {k : Nat} {blk : Blk} (hk : L k = some (some blk)) {b : Nat} {cap : Cap} (hr : ρ k = some (b, cap)) : b < H.size := by
  rcases h.blk _ _ hk with g | ⟨b', _, _, _, _, _, _, _, g1, _, g3, _⟩ | ⟨K, V, xs, _, _, _, b', _, _, g1, _, g3, _⟩
  · rw [g] at hr; cases hr
  · rw [g1] at hr; cases hr; exact (Array.getElem?_eq_some_iff.1 g3).1
  · rw [g1] at hr; cases hr; exact (Array.getElem?_eq_some_iff.1 g3).1
theorem HRel.inU {F : FH} {ρ : RM} {L : HL} {H : Array Obj} {B0 : Nat → Prop} (h : HRel F ρ L H B0) {k : Nat} {blk : Blk} (hk : L k = some (some blk)) {b : Nat} {cap : Cap} (hr : ρ k = some (b, cap)) : B0 b := by
  rcases h.blk _ _ hk with g | ⟨b', _, _, _, _, _, _, _, g1, g2, g3, _⟩ | ⟨K, V, xs, _, _, _, b', _, _, g1, g2, g3, _⟩
  · rw [g] at hr; cases hr
  · rw [g1] at hr; cases hr; exact g2
  · rw [g1] at hr; cases hr; exact g2

theorem HRel.base0 {F : FH} {ρ : RM} {L : HL} {H : Array Obj} {B0 : Nat → Prop} (h : HRel F ρ L H B0) {k : Nat} {blk : Blk} (hk : L k = some (some blk)) {b : Nat} {cap : Cap} (hr : ρ k = some (b, cap)) (hz : blk.fz = false) : cap.2 = 0 := by
  rcases h.blk _ _ hk with g | ⟨b', _, _, _, _, _, _, _, g1, g2, g3, _, g4, _⟩ | ⟨K, V, xs, _, _, _, b', _, _, g1, g2, g3, _⟩
  · rw [g] at hr; cases hr
  · rw [g1] at hr; cases hr; exact g4.2.1 hz
  · rw [g1] at hr; cases hr; rfl

/-- A NEW BLOCK. -/
theorem HRel.fresh {F : FH} {ρ : RM} {L : HL} {H : Array Obj} {B0 : Nat → Prop} (h : HRel F ρ L H B0) {k : Nat} (hk : L k = none) {blk : Blk} {c : Array Value} {e : TypeId}
    {fr : Nat × Nat} {cap : Nat} {cs rest : List Value} (hfr : free fr c.size) (hc : c.toList = cs ++ rest) (hr : RepC F blk.row (cap, 0) c.size blk.t blk.x cs) (hB : ∀ b, H.size ≤ b → B0 b) (hlk : blk.lk = []) :
    ∃ F' : FH, F.le F' ∧ (∀ b, b < H.size → F' b = F b) ∧ HRel F' (upd ρ k (some (H.size, (cap, 0)))) (upd L k (some (some blk))) (H.push (.cells c e fr)) B0 := by
  have hnone : ∀ i, F H.size i = none := by
    intro i
    cases e1 : F H.size i with
    | none => rfl
    | some v => exact absurd (cellAt_lt (h.cons _ _ _ e1)) (Nat.lt_irrefl _)
  have hold : ∀ b i v, cellAt H b i = some v → cellAt (H.push (.cells c e fr)) b i = some v := by
    intro b i v hb
    have := cellAt_lt hb
    simp only [cellAt, Array.getElem?_push] at *
    rw [if_neg (by omega)]; exact hb
  have hle : F.le (upd F H.size (fun i => if blk.fz then cs[i]? else none)) := by
    intro b i v e1
    by_cases hb : b = H.size
    · subst hb; rw [hnone] at e1; cases e1
    · rw [upd_ne _ _ hb]; exact e1
  have hinj : ∀ k2 x' c2, k2 ≠ k → L k2 = some (some x') → ρ k2 = some (H.size, c2) → False := by
    intro k2 x' c2 _ e2 e4
    exact Nat.lt_irrefl _ (h.at e2 e4)
  refine ⟨upd F H.size (fun i => if blk.fz then cs[i]? else none), hle, fun b hb => upd_ne _ _ (by omega), ?_, ?_, ?_, ?_⟩
  · intro b i v e1
    by_cases hb : b = H.size
    · subst hb
      rw [upd_same] at e1
      split at e1
      · simp only [cellAt, Array.getElem?_push_size]
        have hi : i < cs.length := (List.getElem?_eq_some_iff.1 e1).1
        have : c.toList[i]? = some v := by rw [hc, List.getElem?_append_left hi]; exact e1
        simpa using this
      · cases e1
    · rw [upd_ne _ _ hb] at e1; exact hold _ _ _ (h.cons _ _ _ e1)
  · intro k' blk' e1
    by_cases hkk : k' = k
    · subst hkk
      rw [upd_same] at e1
      cases e1
      refine .inr (.inl ⟨H.size, (cap, 0), c, e, fr, [], cs, rest, by simp, hB _ (Nat.le_refl _), by simp, hfr, ⟨rfl, fun _ => rfl, by simpa using hc⟩, repC_mono hle hr, fun i => by simp⟩)
    · rw [upd_ne _ _ hkk] at e1 ⊢
      rcases h.blk _ _ e1 with h1 | ⟨b, cap', c', e', fr', hd', cs', rest', h1, h2, h3, h4, h5, h6, h7⟩ | ⟨K, V, xs, hm⟩
      · exact .inl h1
      · have hb : b < H.size := (Array.getElem?_eq_some_iff.1 h3).1
        exact .inr (.inl ⟨b, cap', c', e', fr', hd', cs', rest', h1, h2, by rw [Array.getElem?_push, if_neg (by omega)]; exact h3, h4, h5, repC_mono hle h6,
          fun i => by rw [upd_ne _ _ (by omega)]; exact h7 i⟩)
      · refine .inr (.inr ⟨K, V, xs, hm.mono hle (fun b cap es clock _ h3 => ?_)⟩)
        have hb : b < H.size := (Array.getElem?_eq_some_iff.1 h3).1
        rw [Array.getElem?_push, if_neg (by omega)]; exact h3
  · intro k1 k2 x x' b c1 c2 e1 e2 e3 e4
    by_cases h1 : k1 = k <;> by_cases h2 : k2 = k
    · rw [h1, h2]
    · subst h1
      rw [upd_ne _ _ h2] at e2 e4
      rw [upd_same] at e3
      cases e3
      exact (hinj _ _ _ h2 e2 e4).elim
    · subst h2
      rw [upd_ne _ _ h1] at e1 e3
      rw [upd_same] at e4
      cases e4
      exact (hinj _ _ _ h1 e1 e3).elim
    · rw [upd_ne _ _ h1] at e1 e3
      rw [upd_ne _ _ h2] at e2 e4
      exact h.inj _ _ _ _ _ _ _ e1 e2 e3 e4
  · intro kb blk' e1 p kk hm
    by_cases hkk : kb = k
    · subst hkk; rw [upd_same] at e1; cases e1; rw [hlk] at hm; cases hm
    · rw [upd_ne _ _ hkk] at e1
      rw [upd_ne _ _ hkk]
      obtain ⟨g1, g2⟩ := h.lnk kb blk' e1 p kk hm
      refine ⟨isSome_upd _ g1, fun b cap' e2 => (g2 b cap' e2).ext hle (LLe.fresh hk _ _) g1 (cellAt_of ?_)⟩
      have := h.at e1 e2
      rw [Array.getElem?_push, if_neg (by omega)]

/-- A NEW MAP. -/
theorem HRel.freshMap {F : FH} {ρ : RM} {L : HL} {H : Array Obj} {B0 : Nat → Prop} (h : HRel F ρ L H B0) {k : Nat} (hk : L k = none) (K V : Ty) (hB : ∀ b, H.size ≤ b → B0 b) :
    HRel F (upd ρ k (some (H.size, (0, 0)))) (upd L k (some (some ⟨true, .map K V, [], false, []⟩))) (H.push (.map #[] 0)) B0 := by
  have hold : ∀ b, b < H.size → (H.push (.map #[] 0))[b]? = H[b]? := fun b hb => by rw [Array.getElem?_push, if_neg (by omega)]
  have hinj : ∀ k2 x' c2, k2 ≠ k → L k2 = some (some x') → ρ k2 = some (H.size, c2) → False := by
    intro k2 x' c2 _ e2 e4
    exact Nat.lt_irrefl _ (h.at e2 e4)
  refine ⟨?_, ?_, ?_, ?_⟩
  · intro b i v e1
    have := h.cons _ _ _ e1
    rw [cellAt_of (hold b (cellAt_lt this))]; exact this
  · intro k' blk' e1
    by_cases hkk : k' = k
    · subst hkk
      rw [upd_same] at e1
      cases e1
      exact .inr (.inr ⟨K, V, [], rfl, rfl, rfl, H.size, #[], 0, by simp, hB _ (Nat.le_refl _), by simp, rfl⟩)
    · rw [upd_ne _ _ hkk] at e1 ⊢
      rcases h.blk _ _ e1 with h1 | ⟨b, cap', c', e', fr', hd', cs', rest', h1, h2, h3, h4, h5, h6, h7⟩ | ⟨K, V, xs, hm⟩
      · exact .inl h1
      · have hb : b < H.size := (Array.getElem?_eq_some_iff.1 h3).1
        exact .inr (.inl ⟨b, cap', c', e', fr', hd', cs', rest', h1, h2, by rw [hold b hb]; exact h3, h4, h5, h6, h7⟩)
      · refine .inr (.inr ⟨K, V, xs, hm.mono FH.le.rfl (fun b cap es clock _ h3 => ?_)⟩)
        have hb : b < H.size := (Array.getElem?_eq_some_iff.1 h3).1
        rw [hold b hb]; exact h3
  · intro k1 k2 x x' b c1 c2 e1 e2 e3 e4
    by_cases h1 : k1 = k <;> by_cases h2 : k2 = k
    · rw [h1, h2]
    · subst h1
      rw [upd_ne _ _ h2] at e2 e4
      rw [upd_same] at e3
      cases e3
      exact (hinj _ _ _ h2 e2 e4).elim
    · subst h2
      rw [upd_ne _ _ h1] at e1 e3
      rw [upd_same] at e4
      cases e4
      exact (hinj _ _ _ h1 e1 e3).elim
    · rw [upd_ne _ _ h1] at e1 e3
      rw [upd_ne _ _ h2] at e2 e4
      exact h.inj _ _ _ _ _ _ _ e1 e2 e3 e4
  · intro kb blk' e1 p kk hm
    by_cases hkk : kb = k
    · subst hkk; rw [upd_same] at e1; cases e1; cases hm
    · rw [upd_ne _ _ hkk] at e1
      rw [upd_ne _ _ hkk]
      obtain ⟨g1, g2⟩ := h.lnk kb blk' e1 p kk hm
      exact ⟨isSome_upd _ g1, fun b cap' e2 => (g2 b cap' e2).ext FH.le.rfl (LLe.fresh hk _ _) g1 (cellAt_of (hold b (h.at e1 e2)))⟩

/-- A MAP TURNS. -/
theorem HRel.setMap {F : FH} {ρ : RM} {L : HL} {H : Array Obj} {B0 : Nat → Prop} (h : HRel F ρ L H B0) {k : Nat} {K V : Ty} {xs ys : List (K.den × V.den)} {lk : List (List Stp × Nat)} (hk : L k = some (some ⟨true, .map K V, xs, false, lk⟩))
    {b : Nat} {es es' : Array MapEntry} {clock clock' : Nat} (hr : ρ k = some (b, (0, 0))) (hH : H[b]? = some (.map es clock)) (hy : RepM F K V ys es'.toList) :
    HRel F ρ (upd L k (some (some ⟨true, .map K V, ys, false, []⟩))) (H.setIfInBounds b (.map es' clock')) B0 := by
  have hbl : b < H.size := (Array.getElem?_eq_some_iff.1 hH).1
  have hother : ∀ b', b' ≠ b → (H.setIfInBounds b (.map es' clock'))[b']? = H[b']? := fun b' hb => by rw [Array.getElem?_setIfInBounds_ne (by omega)]
  have hLL : LLe L ρ (upd L k (some (some ⟨true, .map K V, ys, false, []⟩))) ρ := by
    intro n hn b e
    by_cases hnk : n = k
    · subst hnk
      rw [upd_same] at e
      cases e
      exact ⟨_, hk, rfl, rfl, rfl, rfl⟩
    · rw [upd_ne _ _ hnk] at e
      exact ⟨b, e, rfl, rfl, rfl, rfl⟩
  have hcell : ∀ b' i, cellAt (H.setIfInBounds b (.map es' clock')) b' i = cellAt H b' i := by
    intro b' i
    by_cases hb : b' = b
    · subst hb
      simp only [cellAt, Array.getElem?_setIfInBounds_self_of_lt hbl, hH]
    · exact cellAt_of (hother b' hb) i
  have get : ∀ n x, upd L k (some (some (⟨true, .map K V, ys, false, []⟩ : Blk))) n = some (some x) → ∃ y, L n = some (some y) ∧ (n ≠ k → y = x) := by
    intro n x e
    by_cases hnk : n = k
    · subst hnk; exact ⟨_, hk, fun h => absurd rfl h⟩
    · rw [upd_ne _ _ hnk] at e; exact ⟨_, e, fun _ => rfl⟩
  refine ⟨fun b' i v e1 => by rw [hcell]; exact h.cons _ _ _ e1, ?_, ?_, ?_⟩
  · intro n blk' e1
    by_cases hnk : n = k
    · subst hnk
      rw [upd_same] at e1
      cases e1
      exact .inr (.inr ⟨K, V, ys, rfl, rfl, rfl, b, es', clock', hr, h.inU hk hr, by rw [Array.getElem?_setIfInBounds_self_of_lt hbl], hy⟩)
    · rw [upd_ne _ _ hnk] at e1
      have hne : ∀ b1 c1, ρ n = some (b1, c1) → b1 ≠ b := fun b1 c1 e hb => by subst hb; exact hnk (h.inj _ _ _ _ _ _ _ e1 hk e hr)
      rcases h.blk _ _ e1 with h1 | ⟨b1, cap', c', e', fr', hd', cs', rest', h1, h2, h3, h4, h5, h6, h7⟩ | ⟨K', V', xs', hm⟩
      · exact .inl h1
      · exact .inr (.inl ⟨b1, cap', c', e', fr', hd', cs', rest', h1, h2, by rw [hother b1 (hne _ _ h1)]; exact h3, h4, h5, h6, h7⟩)
      · exact .inr (.inr ⟨K', V', xs', hm.mono FH.le.rfl (fun b1 cap es clock e h3 => by rw [hother b1 (hne _ _ e)]; exact h3)⟩)
  · intro k1 k2 x x' b1 c1 c2 e1 e2 e3 e4
    obtain ⟨y1, f1, _⟩ := get _ _ e1
    obtain ⟨y2, f2, _⟩ := get _ _ e2
    exact h.inj _ _ _ _ _ _ _ f1 f2 e3 e4
  · intro n blk' e1 p kk hm
    by_cases hnk : n = k
    · subst hnk; rw [upd_same] at e1; cases e1; cases hm
    · rw [upd_ne _ _ hnk] at e1
      obtain ⟨g1, g2⟩ := h.lnk n blk' e1 p kk hm
      exact ⟨isSome_upd _ g1, fun b' cap' e2 => (g2 b' cap' e2).ext FH.le.rfl hLL g1 (fun i => hcell b' i)⟩

/-- A NEW EMPTY SLICE WITHOUT MEMORY. -/
theorem HRel.freshNil {F : FH} {ρ : RM} {L : HL} {H : Array Obj} {B0 : Nat → Prop} (h : HRel F ρ L H B0) {k : Nat} {blk : Blk} (hLL : LLe L ρ (upd L k (some (some blk))) (upd ρ k none)) (hlk : blk.lk = []) :
    HRel F (upd ρ k none) (upd L k (some (some blk))) H B0 := by
  refine ⟨h.cons, ?_, ?_, fun kb blk' e1 p kk hm => ?_⟩
  rotate_left 2
  · by_cases hkk : kb = k
    · subst hkk; rw [upd_same] at e1; cases e1; rw [hlk] at hm; cases hm
    · rw [upd_ne _ _ hkk] at e1
      rw [upd_ne _ _ hkk]
      obtain ⟨g1, g2⟩ := h.lnk kb blk' e1 p kk hm
      exact ⟨isSome_upd _ g1, fun b cap' e2 => (g2 b cap' e2).ext FH.le.rfl hLL g1 (fun _ => rfl)⟩
  · intro k' blk' e1
    by_cases hkk : k' = k
    · subst hkk; rw [upd_same] at e1 ⊢; cases e1; exact .inl rfl
    · rw [upd_ne _ _ hkk] at e1 ⊢; exact h.blk _ _ e1
  · intro k1 k2 x x' b c1 c2 e1 e2 e3 e4
    by_cases h1 : k1 = k
    · subst h1; rw [upd_same] at e3; cases e3
    · by_cases h2 : k2 = k
      · subst h2; rw [upd_same] at e4; cases e4
      · rw [upd_ne _ _ h1] at e1 e3; rw [upd_ne _ _ h2] at e2 e4; exact h.inj _ _ _ _ _ _ _ e1 e2 e3 e4

/-- A key goes. -/
theorem HRel.kill {F : FH} {ρ : RM} {L : HL} {H : Array Obj} {B0 : Nat → Prop} (h : HRel F ρ L H B0) (k : Nat) : HRel F ρ (upd L k (some none)) H B0 := by
  refine ⟨h.cons, ?_, ?_, fun kb blk' e1 p kk hm => ?_⟩
  rotate_left 2
  · by_cases hkk : kb = k
    · subst hkk; rw [upd_same] at e1; cases e1
    · rw [upd_ne _ _ hkk] at e1
      obtain ⟨g1, g2⟩ := h.lnk kb blk' e1 p kk hm
      exact ⟨isSome_upd _ g1, fun b cap' e2 => (g2 b cap' e2).ext FH.le.rfl (LLe.kill k) g1 (fun _ => rfl)⟩
  · intro k' blk' e1
    by_cases hkk : k' = k
    · subst hkk; rw [upd_same] at e1; cases e1
    · rw [upd_ne _ _ hkk] at e1; exact h.blk _ _ e1
  · intro k1 k2 x x' b c1 c2 e1 e2 e3 e4
    by_cases h1 : k1 = k
    · subst h1; rw [upd_same] at e1; cases e1
    · by_cases h2 : k2 = k
      · subst h2; rw [upd_same] at e2; cases e2
      · rw [upd_ne _ _ h1] at e1; rw [upd_ne _ _ h2] at e2; exact h.inj _ _ _ _ _ _ _ e1 e2 e3 e4

theorem LLe.trans {L L' L'' : HL} {ρ ρ' ρ'' : RM} (h : LLe L ρ L' ρ') (hs : ∀ k, (L k).isSome → (L' k).isSome) (h' : LLe L' ρ' L'' ρ'') : LLe L ρ L'' ρ'' := by
  intro k hk blk'' e
  obtain ⟨b', g1, g2, g3, g4, g5⟩ := h' k (hs k hk) blk'' e
  obtain ⟨b, f1, f2, f3, f4, f5⟩ := h k hk b' g1
  exact ⟨b, f1, g2.trans f2, g3.trans f3, g4.trans f4, g5.trans f5⟩

/-- A BLOCK'S CELLS TURN, OR ARE FROZEN, AND THE KEY MAY MOVE. -/
theorem HRel.redo {F : FH} {ρ : RM} {L : HL} {H : Array Obj} {B0 : Nat → Prop} (h : HRel F ρ L H B0) {k k' : Nat} {blk blk' : Blk} (hL : L k = some (some blk)) (hk0 : (k' = k ∧ blk'.t = blk.t ∧ blk'.row = blk.row ∧ blk'.len = blk.len) ∨ L k' = none)
    {b : Nat} {cap : Cap} {c c' : Array Value} {e : TypeId} {fr : Nat × Nat} {hd cs cs' rest rest' : List Value} (hρ : ρ k = some (b, cap)) (hH : H[b]? = some (.cells c e fr)) (hB : B0 b)
    (hfree : free fr c.size) (hhd : hd.length = cap.2 ∧ (blk.fz = false → cap.2 = 0) ∧ c.toList = hd ++ (cs ++ rest)) (hFb : ∀ i, F b (cap.2 + i) = if blk.fz then cs[i]? else none) (hs : c'.size = c.size) (hc' : c'.toList = hd ++ (cs' ++ rest'))
    (hr : RepC F blk'.row cap c'.size blk'.t blk'.x cs') (hfz : blk.fz = true → blk'.fz = true ∧ ∀ (i : Nat) v, cs[i]? = some v → cs'[i]? = some v)
    (hlk : ∀ p kk, (p, kk) ∈ blk'.lk → (L kk).isSome ∧ fldOnly p = true ∧ ∃ u off v, blk'.t.nav p = some (.slc u, off) ∧ c'[cap.2 + off]? = some v ∧ RepAV F ρ L (.whole kk (.arr 0 u) []) v) :
    ∃ F' : FH, F.le F' ∧ (∀ b', b' ≠ b → F' b' = F b') ∧
      HRel F' (upd ρ k' (some (b, cap))) (upd (upd L k (some none)) k' (some (some blk'))) (H.setIfInBounds b (.cells c' e fr)) B0 := by
  have hbl : b < H.size := (Array.getElem?_eq_some_iff.1 hH).1
  obtain ⟨G, hG⟩ : ∃ G : Nat → Option Value, G = fun i => if i < cap.2 then F b i else if blk'.fz then cs'[i - cap.2]? else none := ⟨_, rfl⟩
  have hG1 : ∀ i, i < cap.2 → G i = F b i := fun i hi => by rw [hG]; exact if_pos hi
  have hG2 : ∀ i, G (cap.2 + i) = if blk'.fz then cs'[i]? else none := fun i => by rw [hG]; simp only; rw [if_neg (by omega), Nat.add_sub_cancel_left]
  clear hG
  have hcut : ∀ i, i < cap.2 ∨ ∃ j, i = cap.2 + j := fun i => by
    by_cases hi : i < cap.2
    · exact .inl hi
    · exact .inr ⟨i - cap.2, by omega⟩
  have hat : ∀ (i : Nat) (v : Value), cs'[i]? = some v → c'.toList[cap.2 + i]? = some v := by
    intro i v e1
    rw [hc', List.getElem?_append_right (by omega), hhd.1, Nat.add_sub_cancel_left, List.getElem?_append_left (List.getElem?_eq_some_iff.1 e1).1]; exact e1
  have hle : F.le (upd F b G) := by
    intro b' i v e1
    by_cases hb : b' = b
    · subst hb
      rw [upd_same]
      rcases hcut i with hi | ⟨j, rfl⟩
      · rw [hG1 i hi]; exact e1
      · rw [hFb] at e1
        split at e1
        · rename_i hz
          obtain ⟨z1, z2⟩ := hfz hz
          rw [hG2, if_pos z1]; exact z2 _ _ e1
        · cases e1
    · rw [upd_ne _ _ hb]; exact e1
  have hLL := LLe.redo (ρ := ρ) (blk' := blk') hL hk0 hρ
  refine ⟨upd F b G, hle, fun b' hb => upd_ne _ _ hb, ?_, ?_, ?_, ?_⟩
  · intro b' i v e1
    by_cases hb : b' = b
    · subst hb
      rw [upd_same] at e1
      simp only [cellAt, Array.getElem?_setIfInBounds_self_of_lt hbl]
      rcases hcut i with hi | ⟨j, rfl⟩
      · rw [hG1 i hi] at e1
        have h1 := h.cons _ _ _ e1
        simp only [cellAt, hH] at h1
        have h2 : c.toList[i]? = some v := by simpa using h1
        rw [hhd.2.2, List.getElem?_append_left (by omega)] at h2
        have : c'.toList[i]? = some v := by rw [hc', List.getElem?_append_left (by omega)]; exact h2
        simpa using this
      · rw [hG2] at e1
        split at e1
        · have := hat j v e1
          simpa using this
        · cases e1
    · rw [upd_ne _ _ hb] at e1
      have := h.cons _ _ _ e1
      simp only [cellAt] at *
      rw [Array.getElem?_setIfInBounds_ne (by omega)]; exact this
  · intro k1 blk1 e1
    by_cases hkk : k1 = k'
    · subst hkk
      rw [upd_same] at e1
      cases e1
      refine .inr (.inl ⟨b, cap, c', e, fr, hd, cs', rest', by simp, hB, by rw [Array.getElem?_setIfInBounds_self_of_lt hbl], by rw [hs]; exact hfree, ⟨hhd.1, fun hz => hhd.2.1 ?_, hc'⟩, repC_mono hle hr, fun i => by rw [upd_same, hG2]⟩)
      cases hz2 : blk.fz with
      | false => rfl
      | true => have := (hfz hz2).1; rw [this] at hz; cases hz
    · rw [upd_ne _ _ hkk] at e1 ⊢
      by_cases hk1 : k1 = k
      · subst hk1; rw [upd_same] at e1; cases e1
      · rw [upd_ne _ _ hk1] at e1
        have hne : ∀ b1 c1, ρ k1 = some (b1, c1) → b1 ≠ b := fun b1 c1 e hb => by subst hb; exact hk1 (h.inj _ _ _ _ _ _ _ e1 hL e hρ)
        rcases h.blk _ _ e1 with h1 | ⟨b1, cap1, c1, e', fr1, hd1, cs1, rest1, h1, h2, h3, h4, h5, h6, h7⟩ | ⟨K, V, xs, hm⟩
        · exact .inl h1
        · have hb := hne _ _ h1
          exact .inr (.inl ⟨b1, cap1, c1, e', fr1, hd1, cs1, rest1, h1, h2, by rw [Array.getElem?_setIfInBounds_ne (by omega)]; exact h3, h4, h5, repC_mono hle h6,
            fun i => by rw [upd_ne _ _ hb]; exact h7 i⟩)
        · exact .inr (.inr ⟨K, V, xs, hm.mono hle (fun b1 cap es clock e h3 => by have := hne _ _ e; rw [Array.getElem?_setIfInBounds_ne (by omega)]; exact h3)⟩)
  · have other : ∀ k1 x c1, L k1 = some (some x) → k1 ≠ k → ρ k1 = some (b, c1) → False :=
      fun k1 x c1 e1 hk1 e3 => hk1 (h.inj _ _ _ _ _ _ _ e1 hL e3 hρ)
    have get : ∀ k1 x c1 b1, k1 ≠ k' → upd (upd L k (some none)) k' (some (some blk')) k1 = some (some x) → upd ρ k' (some (b, cap)) k1 = some (b1, c1) →
        L k1 = some (some x) ∧ k1 ≠ k ∧ ρ k1 = some (b1, c1) := by
      intro k1 x c1 b1 hne e1 e3
      rw [upd_ne _ _ hne] at e1 e3
      by_cases hk1 : k1 = k
      · subst hk1; rw [upd_same] at e1; cases e1
      · rw [upd_ne _ _ hk1] at e1; exact ⟨e1, hk1, e3⟩
    intro k1 k2 x x' b1 c1 c2 e1 e2 e3 e4
    by_cases h1 : k1 = k' <;> by_cases h2 : k2 = k'
    · rw [h1, h2]
    · obtain ⟨g1, g2, g3⟩ := get _ _ _ _ h2 e2 e4
      subst h1; rw [upd_same] at e3; cases e3
      exact (other _ _ _ g1 g2 g3).elim
    · obtain ⟨g1, g2, g3⟩ := get _ _ _ _ h1 e1 e3
      subst h2; rw [upd_same] at e4; cases e4
      exact (other _ _ _ g1 g2 g3).elim
    · obtain ⟨g1, g2, g3⟩ := get _ _ _ _ h1 e1 e3
      obtain ⟨f1, f2, f3⟩ := get _ _ _ _ h2 e2 e4
      exact h.inj _ _ _ _ _ _ _ g1 f1 g3 f3
  · intro kb blk1 e1 p kk hm
    by_cases hkk : kb = k'
    · subst hkk
      rw [upd_same] at e1
      cases e1
      obtain ⟨g1, g0, u, off, v, g2, g3, g4⟩ := hlk p kk hm
      refine ⟨isSome_upd _ (isSome_upd _ g1), fun b' cap' e2 => ?_⟩
      rw [upd_same] at e2
      cases e2
      refine ⟨g0, u, off, v, g2, ?_, repAV_ext hle hLL (fun q hq => ?_) g4⟩
      · simp only [cellAt, Array.getElem?_setIfInBounds_self_of_lt hbl]; exact g3
      · simp [AV.keys] at hq; subst hq; exact g1
    · rw [upd_ne _ _ hkk] at e1
      rw [upd_ne _ _ hkk]
      by_cases hk1 : kb = k
      · subst hk1; rw [upd_same] at e1; cases e1
      · rw [upd_ne _ _ hk1] at e1
        obtain ⟨g1, g2⟩ := h.lnk kb blk1 e1 p kk hm
        refine ⟨isSome_upd _ (isSome_upd _ g1), fun b' cap' e2 => (g2 b' cap' e2).ext hle hLL g1 (cellAt_of ?_)⟩
        have hb : b' ≠ b := fun hb => by subst hb; exact hk1 (h.inj _ _ _ _ _ _ _ e1 hL e2 hρ)
        rw [Array.getElem?_setIfInBounds_ne (by omega)]

/-- The same, where no cells lie ahead. -/
theorem HRel.redo0 {F : FH} {ρ : RM} {L : HL} {H : Array Obj} {B0 : Nat → Prop} (h : HRel F ρ L H B0) {k k' : Nat} {blk blk' : Blk} (hL : L k = some (some blk)) (hk0 : (k' = k ∧ blk'.t = blk.t ∧ blk'.row = blk.row ∧ blk'.len = blk.len) ∨ L k' = none)
    {b cap : Nat} {c c' : Array Value} {e : TypeId} {fr : Nat × Nat} {cs cs' rest rest' : List Value} (hρ : ρ k = some (b, (cap, 0))) (hH : H[b]? = some (.cells c e fr)) (hB : B0 b)
    (hfree : free fr c.size) (hc : c.toList = cs ++ rest) (hFb : ∀ i, F b i = if blk.fz then cs[i]? else none) (hs : c'.size = c.size) (hc' : c'.toList = cs' ++ rest')
    (hr : RepC F blk'.row (cap, 0) c'.size blk'.t blk'.x cs') (hfz : blk.fz = true → blk'.fz = true ∧ ∀ (i : Nat) v, cs[i]? = some v → cs'[i]? = some v)
    (hlk : ∀ p kk, (p, kk) ∈ blk'.lk → (L kk).isSome ∧ fldOnly p = true ∧ ∃ u off v, blk'.t.nav p = some (.slc u, off) ∧ c'[off]? = some v ∧ RepAV F ρ L (.whole kk (.arr 0 u) []) v) :
    ∃ F' : FH, F.le F' ∧ (∀ b', b' ≠ b → F' b' = F b') ∧
      HRel F' (upd ρ k' (some (b, (cap, 0)))) (upd (upd L k (some none)) k' (some (some blk'))) (H.setIfInBounds b (.cells c' e fr)) B0 :=
  h.redo (hd := []) (cs := cs) (rest := rest) (cs' := cs') (rest' := rest') hL hk0 hρ hH hB hfree ⟨rfl, fun _ => rfl, by simpa using hc⟩ (fun i => by simpa using hFb i) hs (by simpa using hc') hr hfz
    (fun p kk hm => by obtain ⟨g1, g2, u, off, v, g3, g4, g5⟩ := hlk p kk hm; exact ⟨g1, g2, u, off, v, g3, by simpa using g4, g5⟩)

/-- THE TAIL OF A FROZEN ROW: the key moves, the cells ahead are left. -/
theorem HRel.tail {F : FH} {ρ : RM} {L : HL} {H : Array Obj} {B0 : Nat → Prop} (h : HRel F ρ L H B0) {k k' : Nat} {u : Ty} {m : Nat} {xs : List u.den} {lk : List (List Stp × Nat)} (hL : L k = some (some ⟨true, .arr m u, xs, true, lk⟩)) (hk' : L k' = none)
    {b : Nat} {cap : Cap} (hρ : ρ k = some (b, cap)) {n : Nat} (hn : n ≤ xs.length) :
    HRel F (upd ρ k' (some (b, (cap.1 - n, cap.2 + n * u.size)))) (upd (upd L k (some none)) k' (some (some ⟨true, .arr 0 u, xs.drop n, true, []⟩))) H B0 := by
  have hLL : LLe L ρ (upd (upd L k (some none)) k' (some (some ⟨true, .arr 0 u, xs.drop n, true, []⟩))) (upd ρ k' (some (b, (cap.1 - n, cap.2 + n * u.size)))) := by
    intro k1 hs b1 e
    by_cases h1 : k1 = k'
    · subst h1; rw [hk'] at hs; cases hs
    · rw [upd_ne _ _ h1] at e ⊢
      by_cases h2 : k1 = k
      · subst h2; rw [upd_same] at e; cases e
      · rw [upd_ne _ _ h2] at e; exact ⟨b1, e, rfl, rfl, rfl, rfl⟩
  have get : ∀ k1 x c1 b1, k1 ≠ k' → upd (upd L k (some none)) k' (some (some (⟨true, .arr 0 u, xs.drop n, true, []⟩ : Blk))) k1 = some (some x) → upd ρ k' (some (b, (cap.1 - n, cap.2 + n * u.size))) k1 = some (b1, c1) →
      L k1 = some (some x) ∧ k1 ≠ k ∧ ρ k1 = some (b1, c1) := by
    intro k1 x c1 b1 hne e1 e3
    rw [upd_ne _ _ hne] at e1 e3
    by_cases hk1 : k1 = k
    · subst hk1; rw [upd_same] at e1; cases e1
    · rw [upd_ne _ _ hk1] at e1; exact ⟨e1, hk1, e3⟩
  have other : ∀ k1 x c1, L k1 = some (some x) → k1 ≠ k → ρ k1 = some (b, c1) → False :=
    fun k1 x c1 e1 hk1 e3 => hk1 (h.inj _ _ _ _ _ _ _ e1 hL e3 hρ)
  refine ⟨h.cons, ?_, ?_, ?_⟩
  · intro k1 blk1 e1
    by_cases hkk : k1 = k'
    · subst hkk
      rw [upd_same] at e1 ⊢
      cases e1
      rcases h.blk _ _ hL with h1 | ⟨b1, cap1, c1, e', fr1, hd1, cs1, rest1, h1, h2, h3, h4, h5, h6, h7⟩ | ⟨K, V, xs, _, hm, _, _⟩
      · rw [h1] at hρ; cases hρ
      · rw [h1] at hρ
        cases hρ
        simp only [RepC, if_true] at h6
        obtain ⟨q1, q2, q3⟩ := h6
        have hl := repL_rep_len q1
        have hnn : n * u.size ≤ xs.length * u.size := Nat.mul_le_mul_right _ hn
        have hsplit : cap.1 * u.size = (cap.1 - n) * u.size + n * u.size := by rw [← Nat.add_mul, Nat.sub_add_cancel (by omega)]
        refine .inr (.inl ⟨b, _, c1, e', fr1, hd1 ++ cs1.take (n * u.size), cs1.drop (n * u.size), rest1, rfl, h2, h3, h4, ⟨?_, fun hz => (by cases hz), ?_⟩, ?_, ?_⟩)
        · simp only [List.length_append, List.length_take, h5.1]; omega
        · rw [h5.2.2, List.append_assoc, ← List.append_assoc (cs1.take _), List.take_append_drop]
        · simp only [RepC, if_true]
          refine ⟨repL_drop (fun x cs => rep_len u x cs) n _ _ q1, by omega, by rw [List.length_drop]; omega⟩
        · intro i
          have := h7 (n * u.size + i)
          simp only [if_true] at this ⊢
          rw [Nat.add_assoc, this, List.getElem?_drop]
      · cases hm
    · rw [upd_ne _ _ hkk] at e1 ⊢
      by_cases hk1 : k1 = k
      · subst hk1; rw [upd_same] at e1; cases e1
      · rw [upd_ne _ _ hk1] at e1; exact h.blk _ _ e1
  · intro k1 k2 x x' b1 c1 c2 e1 e2 e3 e4
    by_cases h1 : k1 = k' <;> by_cases h2 : k2 = k'
    · rw [h1, h2]
    · obtain ⟨g1, g2, g3⟩ := get _ _ _ _ h2 e2 e4
      subst h1; rw [upd_same] at e3; cases e3
      exact (other _ _ _ g1 g2 g3).elim
    · obtain ⟨g1, g2, g3⟩ := get _ _ _ _ h1 e1 e3
      subst h2; rw [upd_same] at e4; cases e4
      exact (other _ _ _ g1 g2 g3).elim
    · obtain ⟨g1, g2, g3⟩ := get _ _ _ _ h1 e1 e3
      obtain ⟨f1, f2, f3⟩ := get _ _ _ _ h2 e2 e4
      exact h.inj _ _ _ _ _ _ _ g1 f1 g3 f3
  · intro kb blk1 e1 p kk hm
    by_cases hkk : kb = k'
    · subst hkk; rw [upd_same] at e1; cases e1; cases hm
    · rw [upd_ne _ _ hkk] at e1
      rw [upd_ne _ _ hkk]
      by_cases hk1 : kb = k
      · subst hk1; rw [upd_same] at e1; cases e1
      · rw [upd_ne _ _ hk1] at e1
        obtain ⟨g1, g2⟩ := h.lnk kb blk1 e1 p kk hm
        exact ⟨isSome_upd _ (isSome_upd _ g1), fun b' cap' e2 => (g2 b' cap' e2).ext FH.le.rfl hLL g1 (fun _ => rfl)⟩

/-- NEW LINKS OF A BLOCK. -/
theorem HRel.relink {F : FH} {ρ : RM} {L : HL} {H : Array Obj} {B0 : Nat → Prop} (h : HRel F ρ L H B0) {k : Nat} {blk : Blk} (hk : L k = some (some blk)) (lk' : List (List Stp × Nat))
    (hl : ∀ p kk, (p, kk) ∈ lk' → (L kk).isSome ∧ ∀ b cap, ρ k = some (b, cap) → Lnk F ρ L H b cap.2 blk.t p kk) : HRel F ρ (upd L k (some (some ⟨blk.row, blk.t, blk.x, blk.fz, lk'⟩))) H B0 := by
  have hLL : LLe L ρ (upd L k (some (some ⟨blk.row, blk.t, blk.x, blk.fz, lk'⟩))) ρ := by
    intro n hn b e
    by_cases hnk : n = k
    · subst hnk
      rw [upd_same] at e
      cases e
      exact ⟨blk, hk, rfl, rfl, rfl, rfl⟩
    · rw [upd_ne _ _ hnk] at e
      exact ⟨b, e, rfl, rfl, rfl, rfl⟩
  refine ⟨h.cons, fun n b e => ?_, fun n n' x x' b c c' e1 e2 e3 e4 => ?_, fun n b e p kk hm => ?_⟩
  · by_cases hnk : n = k
    · subst hnk
      rw [upd_same] at e
      cases e
      rcases h.blk n blk hk with g | g | ⟨K, V, xs, g⟩
      · exact .inl g
      · exact .inr (.inl g)
      · exact .inr (.inr ⟨K, V, xs, g.row, g.fz, g.eq, g.out⟩)
    · rw [upd_ne _ _ hnk] at e
      exact h.blk n b e
  · have get : ∀ n x, upd L k (some (some (⟨blk.row, blk.t, blk.x, blk.fz, lk'⟩ : Blk))) n = some (some x) → ∃ y, L n = some (some y) := by
      intro n x e
      by_cases hnk : n = k
      · subst hnk; exact ⟨_, hk⟩
      · rw [upd_ne _ _ hnk] at e; exact ⟨_, e⟩
    obtain ⟨y, hy⟩ := get _ _ e1
    obtain ⟨y', hy'⟩ := get _ _ e2
    exact h.inj n n' y y' b c c' hy hy' e3 e4
  · by_cases hnk : n = k
    · subst hnk
      rw [upd_same] at e
      cases e
      obtain ⟨g1, g2⟩ := hl p kk hm
      exact ⟨isSome_upd _ g1, fun b cap e2 => (g2 b cap e2).ext FH.le.rfl hLL g1 (fun _ => rfl)⟩
    · rw [upd_ne _ _ hnk] at e
      obtain ⟨g1, g2⟩ := h.lnk n b e p kk hm
      exact ⟨isSome_upd _ g1, fun b cap e2 => (g2 b cap e2).ext FH.le.rfl hLL g1 (fun _ => rfl)⟩
end Lc
