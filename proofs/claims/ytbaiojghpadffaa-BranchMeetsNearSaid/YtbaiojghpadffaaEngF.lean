/- The engine, part F: types of the program, loads and stores of data. -/
import Derived.Test.YtbaiojghpadffaaEngE
import Derived.Laws.Sem
import Derived.Laws.Cells
import Derived.Laws.Entries
namespace Lc
open Go
set_option linter.unusedVariables false
set_option linter.unusedSimpArgs false

/-! ## The program's types, asked by the kernel -/
theorem listBeq_eq {α : Type} {f : α → α → Bool} (h : ∀ x y, f x y = true ↔ x = y) : ∀ xs ys : List α, listBeq f xs ys = true ↔ xs = ys := by
  intro xs
  induction xs with
  | nil => intro ys; cases ys <;> simp [listBeq]
  | cons x xs ih => intro ys; cases ys <;> simp [listBeq, h, ih]

theorem toList_loop_acc (b : ByteArray) : ∀ (n i : Nat) (r : List UInt8), n = b.size - i → ByteArray.toList.loop b i r = r.reverse ++ b.data.toList.drop i := by
  intro n
  induction n with
  | zero =>
    intro i r h
    unfold ByteArray.toList.loop
    have hs : b.size = b.data.toList.length := rfl
    have : b.data.toList.length ≤ i := by omega
    rw [if_neg (by omega), List.drop_eq_nil_of_le this, List.append_nil]
  | succ n ih =>
    intro i r h
    unfold ByteArray.toList.loop
    rw [if_pos (by omega), ih _ _ (by omega)]
    have hs : b.size = b.data.toList.length := rfl
    have hi : i < b.data.toList.length := by omega
    rw [List.drop_eq_getElem_cons hi, List.reverse_cons, List.append_assoc]
    congr 1
    simp only [List.singleton_append, List.cons.injEq, and_true]
    simp only [ByteArray.get!, Array.getElem_toList]
    rw [getElem!_pos b.data i (by simpa using hi)]

theorem toList_eq (b : ByteArray) : b.toList = b.data.toList := by
  have := toList_loop_acc b _ 0 [] rfl
  simpa [ByteArray.toList] using this

theorem Ty.beq_iff : ∀ (t : Ty) (x y : t.den), t.beq x y = true ↔ x = y := by
  intro t
  induction t with
  | int k => intro x y; exact beq_iff_eq
  | bool => intro x y; exact beq_iff_eq
  | str =>
    intro x y
    show (ByteArray.toList x == ByteArray.toList y) = true ↔ x = y
    rw [beq_iff_eq, toList_eq, toList_eq]
    constructor
    · intro h; cases x; cases y; simp at h; rw [h]
    · intro h; rw [h]
  | unit => intro x y; exact ⟨fun _ => rfl, fun _ => rfl⟩
  | pair a b iha ihb =>
    intro x y
    obtain ⟨x1, x2⟩ := x
    obtain ⟨y1, y2⟩ := y
    simp [Ty.beq, iha, ihb]
  | arr n t ih => intro x y; exact listBeq_eq ih x y
  | slc t ih => intro x y; exact listBeq_eq ih x y
  | map k v ihk ihv => intro x y; exact listBeq_eq (fun p q => by obtain ⟨p1, p2⟩ := p; obtain ⟨q1, q2⟩ := q; simp [ihk, ihv]) x y
  | fn f c ih => intro x y; exact ih x y
  | ref c ih => intro x y; exact ih x y

theorem decode_go {α : Type} {f : List Value → Option (α × List Value)} {R : α → List Value → Prop}
    (h : ∀ cs x r, f cs = some (x, r) → ∃ ds, cs = ds ++ r ∧ R x ds) : ∀ n cs xs r, decode.go f n cs = some (xs, r) → ∃ ds, cs = ds ++ r ∧ xs.length = n ∧ RepL R xs ds := by
  intro n
  induction n with
  | zero => intro cs xs r e; simp only [decode.go, Option.some.injEq, Prod.mk.injEq] at e; obtain ⟨rfl, rfl⟩ := e; exact ⟨[], rfl, rfl, rfl⟩
  | succ n ih =>
    intro cs xs r e
    simp only [decode.go] at e
    split at e
    · rename_i x r1 e1
      split at e
      · rename_i ys r2 e2
        cases e
        obtain ⟨d1, rfl, h1⟩ := h _ _ _ e1
        obtain ⟨d2, rfl, h2, h3⟩ := ih _ _ _ e2
        exact ⟨d1 ++ d2, by simp, by simp [h2], d1, d2, rfl, h1, h3⟩
      · cases e
    · cases e

theorem decode_rep {F : FH} : ∀ (t : Ty) (cs : List Value) (x : t.den) (r : List Value), decode t cs = some (x, r) → ∃ ds, cs = ds ++ r ∧ Rep F t x ds := by
  intro t
  induction t with
  | int k =>
    intro cs x r e
    match cs, e with
    | .int k' n :: r', e =>
      simp only [decode] at e
      split at e
      · rename_i h; cases e; subst h; exact ⟨_, rfl, rfl⟩
      · cases e
  | bool =>
    intro cs x r e
    match cs, e with
    | .bool b :: r', e => cases e; exact ⟨[_], rfl, rfl⟩
  | str =>
    intro cs x r e
    match cs, e with
    | .string b :: r', e => cases e; exact ⟨[_], rfl, rfl⟩
  | unit => intro cs x r e; simp only [decode, Option.some.injEq, Prod.mk.injEq] at e; obtain ⟨_, rfl⟩ := e; exact ⟨[], rfl, rfl⟩
  | pair a b iha ihb =>
    intro cs x r e
    simp only [decode] at e
    split at e
    · rename_i x1 r1 e1
      split at e
      · rename_i y r2 e2
        cases e
        obtain ⟨d1, rfl, h1⟩ := iha _ _ _ e1
        obtain ⟨d2, rfl, h2⟩ := ihb _ _ _ e2
        exact ⟨d1 ++ d2, by simp, d1, d2, rfl, h1, h2⟩
      · cases e
    · cases e
  | arr n t ih =>
    intro cs x r e
    obtain ⟨ds, h1, h2, h3⟩ := decode_go (R := Rep F t) ih n cs x r e
    exact ⟨ds, h1, h2, h3⟩
  | slc t _ =>
    intro cs x r e
    match cs, e with
    | .slice none 0 0 :: r', e => cases e; exact ⟨[_], rfl, _, rfl, .inl ⟨rfl, rfl, rfl⟩⟩
  | map k v _ _ =>
    intro cs x r e
    match cs, e with
    | .map none :: r', e => cases e; exact ⟨[_], rfl, rfl, rfl⟩
  | fn f c _ => intro cs x r e; simp [decode] at e
  | ref c _ => intro cs x r e; simp [decode] at e

def zeroB (t : Ty) (z : Value) : Bool :=
  (match decode t z.cells.toList with | some (x, []) => t.beq x t.dflt | _ => false) && (t.isAgg == isAggV z)

def infoB (P : Program) (t : Ty) (id : TypeId) : Bool :=
  match P.info? id with
  | some i => i.size == t.size && (match i.zero with | some z => zeroB t z | none => false) && (!t.flat || !P.eqGuardType P.depth id)
  | none => false

def tOkB (P : Program) : Ty → TypeId ⊕ (List Field × Nat) → Bool
  | .int k, .inl id => (match P.underlying id with | some (.int k') => decide (k = k') | _ => false) && infoB P (.int k) id
  | .bool, .inl id => (match P.underlying id with | some .bool => true | _ => false) && infoB P .bool id
  | .str, .inl id => (match P.underlying id with | some .string => true | _ => false) && infoB P .str id
  | .unit, .inl id => (match P.underlying id with | some (.struct fs) => fs.toList.isEmpty && !P.stoodInHeld id | _ => false) && infoB P .unit id
  | .pair a b, .inl id => (match P.underlying id with
      | some (.struct fs) => !P.stoodInHeld id && (match fs.toList with
        | f :: r => f.offset == 0 && f.name != "_" && a.size != 0 && tOkB P a (.inl f.type) && tOkB P b (.inr (r, a.size))
        | [] => false)
      | _ => false) && infoB P (.pair a b) id
  | .arr n u, .inl id => (match P.underlying id with | some (.array m e) => n == m && tOkB P u (.inl e) | _ => false) && infoB P (.arr n u) id
  | .slc u, .inl id => (match P.underlying id with | some (.slice e) => tOkB P u (.inl e) | _ => false) && infoB P (.slc u) id
  | .map k v, .inl id => (match P.underlying id with | some (.map a b) => tOkB P k (.inl a) && tOkB P v (.inl b) | _ => false) && infoB P (.map k v) id
  | .fn _ _, .inl _ => false
  | .ref _, .inl _ => false
  | .pair a b, .inr (f :: r, off) => f.offset == off && f.name != "_" && a.size != 0 && tOkB P a (.inl f.type) && tOkB P b (.inr (r, off + a.size))
  | .unit, .inr ([], _) => true
  | _, .inr _ => false

def TyOk (P : Program) (t : Ty) (id : TypeId) : Prop := tOkB P t (.inl id) = true

structure Info (P : Program) (t : Ty) (id : TypeId) : Prop where
  out : ∃ i z, P.info? id = some i ∧ i.size = t.size ∧ i.zero = some z ∧ (∀ F, RepV F t t.dflt z) ∧ z.cells.toList = zeroCs t ∧ (t.flat = true → P.eqGuardType P.depth id = false)

theorem decode_cells {t : Ty} {cs : List Value} {x : t.den} (e : decode t cs = some (x, [])) : ∀ F, Rep F t x cs := by
  intro F
  obtain ⟨ds, h1, h2⟩ := decode_rep (F := F) t cs x [] e
  rw [List.append_nil] at h1; subst h1; exact h2

theorem repV_of_cells {F : FH} {t : Ty} {x : t.den} {v : Value} (hs : t.isAgg = isAggV v) (h : Rep F t x v.cells.toList) : RepV F t x v := by
  unfold RepV
  split
  · rename_i ha
    rw [ha] at hs
    cases v <;> simp [isAggV] at hs
    rename_i cs
    exact ⟨cs.toList, by simp, by simpa [Value.cells] using h⟩
  · rename_i ha
    have : t.isAgg = false := by simpa using ha
    rw [this] at hs
    cases v <;> simp [isAggV] at hs <;> simpa [Value.cells] using h

theorem rawV_rep {F : FH} {t : Ty} {v : Value} {x : t.den} (h : rawV t v = some x) : RepV F t x v := by
  unfold rawV at h
  split at h
  · rename_i hs
    split at h
    · rename_i y e; cases h; exact repV_of_cells (by simpa using hs) (decode_cells e F)
    · cases h
  · cases h

/-- No slice but nil, and no function. -/
def NS (v : Value) : Prop := (∀ a n c, v = .slice a n c → a = none ∧ n = 0 ∧ c = 0) ∧ (∀ f x y, v ≠ .func f x y) ∧ ∀ a, v ≠ .pointer a

theorem rep_flat_or (F : FH) : ∀ (t : Ty) (cs : List Value), Rep F t t.dflt cs → (∀ v, v ∈ cs → NS v) → cs = zeroCs t := by
  intro t
  have ll : ∀ (u : Ty) (hu : ∀ cs, Rep F u u.dflt cs → (∀ v, v ∈ cs → NS v) → cs = zeroCs u) (n : Nat) (cs : List Value),
      RepL (Rep F u) (List.replicate n u.dflt) cs → (∀ v, v ∈ cs → NS v) → cs = (List.replicate n (zeroCs u)).flatten := by
    intro u hu n
    induction n with
    | zero => intro cs h _; cases h; rfl
    | succ n ih =>
      intro cs h hs
      obtain ⟨c1, c2, rfl, h1, h2⟩ := h
      rw [hu c1 h1 (fun v hv => hs v (by simp [hv])), ih c2 h2 (fun v hv => hs v (by simp [hv])), List.replicate_succ, List.flatten_cons]
  induction t with
  | int k => intro cs h _; exact h
  | bool => intro cs h _; exact h
  | str => intro cs h _; exact h
  | unit => intro cs h _; exact h
  | pair a b iha ihb =>
    rintro cs ⟨c1, c2, rfl, h1, h2⟩ hs
    rw [iha c1 h1 (fun v hv => hs v (by simp [hv])), ihb c2 h2 (fun v hv => hs v (by simp [hv]))]; rfl
  | arr n t ih => rintro cs ⟨_, h2⟩ hs; exact ll t ih n cs h2 hs
  | slc t _ =>
    rintro cs ⟨v, rfl, h⟩ hs
    rcases h with ⟨rfl, _⟩ | ⟨b, off, cap, cs, rfl, _, _, _⟩
    · rfl
    · have := ((hs _ (List.mem_cons_self)).1 _ _ _ rfl).1; cases this
  | map k v _ _ => rintro cs ⟨_, rfl⟩ _; rfl
  | fn f c ih =>
    rintro cs ⟨v, rfl, h⟩ hs
    exact absurd rfl ((hs _ List.mem_cons_self).2.1 _ _ _)
  | ref c _ =>
    rintro cs ⟨b, off, ds, rfl, _⟩ hs
    exact absurd rfl ((hs _ List.mem_cons_self).2.2 _)

theorem decode_noslice : ∀ (t : Ty) (cs : List Value) (x : t.den) (r : List Value), decode t cs = some (x, r) → ∃ ds, cs = ds ++ r ∧ ∀ v, v ∈ ds → NS v := by
  intro t
  induction t with
  | int k =>
    intro cs x r e
    match cs, e with
    | .int k' n :: r', e =>
      simp only [decode] at e
      split at e
      · cases e; exact ⟨[_], rfl, by simp [NS]⟩
      · cases e
  | bool => intro cs x r e; match cs, e with | .bool b :: r', e => cases e; exact ⟨[_], rfl, by simp [NS]⟩
  | str => intro cs x r e; match cs, e with | .string b :: r', e => cases e; exact ⟨[_], rfl, by simp [NS]⟩
  | unit => intro cs x r e; simp only [decode, Option.some.injEq, Prod.mk.injEq] at e; obtain ⟨_, rfl⟩ := e; exact ⟨[], rfl, by simp⟩
  | pair a b iha ihb =>
    intro cs x r e
    simp only [decode] at e
    split at e
    · rename_i x1 r1 e1
      split at e
      · rename_i y r2 e2
        cases e
        obtain ⟨d1, rfl, h1⟩ := iha _ _ _ e1
        obtain ⟨d2, rfl, h2⟩ := ihb _ _ _ e2
        refine ⟨d1 ++ d2, by simp, fun v hv => ?_⟩
        rcases List.mem_append.1 hv with h | h
        · exact h1 v h
        · exact h2 v h
      · cases e
    · cases e
  | arr n t ih =>
    intro cs x r e
    have : ∀ n cs xs r, decode.go (decode t) n cs = some (xs, r) → ∃ ds, cs = ds ++ r ∧ ∀ v, v ∈ ds → NS v := by
      intro n
      induction n with
      | zero => intro cs xs r e; simp only [decode.go, Option.some.injEq, Prod.mk.injEq] at e; obtain ⟨_, rfl⟩ := e; exact ⟨[], rfl, by simp⟩
      | succ n ihn =>
        intro cs xs r e
        simp only [decode.go] at e
        split at e
        · rename_i x r1 e1
          split at e
          · rename_i ys r2 e2
            cases e
            obtain ⟨d1, rfl, h1⟩ := ih _ _ _ e1
            obtain ⟨d2, rfl, h2⟩ := ihn _ _ _ e2
            refine ⟨d1 ++ d2, by simp, fun v hv => ?_⟩
            rcases List.mem_append.1 hv with h | h
            · exact h1 v h
            · exact h2 v h
          · cases e
        · cases e
    exact this n cs x r e
  | slc t _ =>
    intro cs x r e
    match cs, e with
    | .slice none 0 0 :: r', e => cases e; exact ⟨[_], rfl, fun v hv => by simp at hv; subst hv; exact ⟨fun a n c h => (by cases h; simp), fun _ _ _ h => (by cases h), fun _ h => (by cases h)⟩⟩
  | map k v _ _ =>
    intro cs x r e
    match cs, e with
    | .map none :: r', e => cases e; exact ⟨[_], rfl, fun v hv => by simp at hv; subst hv; exact ⟨fun a n c h => (by cases h), fun _ _ _ h => (by cases h), fun _ h => (by cases h)⟩⟩
  | fn f c _ => intro cs x r e; simp [decode] at e
  | ref c _ => intro cs x r e; simp [decode] at e

theorem infoB_out {P : Program} {t : Ty} {id : TypeId} (h : infoB P t id = true) : Info P t id := by
  unfold infoB at h
  split at h
  · rename_i i hi
    simp only [Bool.and_eq_true, beq_iff_eq] at h
    obtain ⟨⟨h1, h2⟩, h3⟩ := h
    split at h2
    · rename_i z hz
      unfold zeroB at h2
      simp only [Bool.and_eq_true, beq_iff_eq] at h2
      obtain ⟨h4, h5⟩ := h2
      split at h4
      · rename_i x hx
        have hxe := (Ty.beq_iff t _ _).1 h4
        subst hxe
        refine ⟨i, z, hi, h1, hz, ?_, ?_, fun hf => by simpa [hf] using h3⟩
        · intro F
          have hr := decode_cells hx F
          unfold RepV
          split
          · rename_i ha
            rw [ha] at h5
            cases z <;> simp [isAggV] at h5
            rename_i cs
            exact ⟨cs.toList, by simp, by simpa [Value.cells] using hr⟩
          · rename_i ha
            have : t.isAgg = false := by simpa using ha
            rw [this] at h5
            cases z <;> simp [isAggV] at h5 <;> simpa [Value.cells] using hr
        · obtain ⟨ds, d1, d2⟩ := decode_noslice t _ _ _ hx
          rw [List.append_nil] at d1; subst d1
          exact rep_flat_or (fun _ _ => none) t _ (decode_cells hx _) d2
      · cases h4
    · cases h2
  · cases h

theorem TyOk.info {P : Program} {t : Ty} {id : TypeId} (h : TyOk P t id) : Info P t id := by
  unfold TyOk at h
  cases t <;> simp only [tOkB, Bool.and_eq_true, Bool.false_eq_true] at h <;> exact infoB_out h.2

theorem TyOk.int {P : Program} {k : IntKind} {id : TypeId} (h : TyOk P (.int k) id) : P.underlying id = some (.int k) := by
  simp only [TyOk, tOkB, Bool.and_eq_true] at h
  obtain ⟨h, _⟩ := h
  split at h
  · rename_i e; rw [e, of_decide_eq_true h]
  · cases h
theorem TyOk.bool {P : Program} {id : TypeId} (h : TyOk P .bool id) : P.underlying id = some .bool := by
  simp only [TyOk, tOkB, Bool.and_eq_true] at h
  obtain ⟨h, _⟩ := h
  split at h
  · rename_i e; exact e
  · cases h
theorem TyOk.str {P : Program} {id : TypeId} (h : TyOk P .str id) : P.underlying id = some .string := by
  simp only [TyOk, tOkB, Bool.and_eq_true] at h
  obtain ⟨h, _⟩ := h
  split at h
  · rename_i e; exact e
  · cases h
theorem TyOk.unit {P : Program} {id : TypeId} (h : TyOk P .unit id) : ∃ fs, P.underlying id = some (.struct fs) ∧ fs.toList = [] ∧ P.stoodInHeld id = false := by
  simp only [TyOk, tOkB, Bool.and_eq_true] at h
  obtain ⟨h, _⟩ := h
  split at h
  · rename_i fs e; simp at h; exact ⟨fs, e, by simp [h.1], h.2⟩
  · cases h
theorem TyOk.arr {P : Program} {n : Nat} {u : Ty} {id : TypeId} (h : TyOk P (.arr n u) id) : ∃ e, P.underlying id = some (.array n e) ∧ TyOk P u e := by
  simp only [TyOk, tOkB, Bool.and_eq_true] at h
  obtain ⟨h, _⟩ := h
  split at h
  · rename_i m e he; simp at h; obtain ⟨rfl, h⟩ := h; exact ⟨e, he, h⟩
  · cases h
theorem TyOk.slc {P : Program} {u : Ty} {id : TypeId} (h : TyOk P (.slc u) id) : ∃ e, P.underlying id = some (.slice e) ∧ TyOk P u e := by
  simp only [TyOk, tOkB, Bool.and_eq_true] at h
  obtain ⟨h, _⟩ := h
  split at h
  · rename_i e he; exact ⟨e, he, h⟩
  · cases h
theorem TyOk.map {P : Program} {k v : Ty} {id : TypeId} (h : TyOk P (.map k v) id) : ∃ a b, P.underlying id = some (.map a b) ∧ TyOk P k a ∧ TyOk P v b := by
  simp only [TyOk, tOkB, Bool.and_eq_true] at h
  obtain ⟨h, _⟩ := h
  split at h
  · rename_i a b he; simp only [Bool.and_eq_true] at h; exact ⟨a, b, he, h.1, h.2⟩
  · cases h
theorem TyOk.pair {P : Program} {a b : Ty} {id : TypeId} (h : TyOk P (.pair a b) id) : ∃ fs f r, P.underlying id = some (.struct fs) ∧ P.stoodInHeld id = false ∧ fs.toList = f :: r ∧
    f.offset = 0 ∧ f.name ≠ "_" ∧ a.size ≠ 0 ∧ TyOk P a f.type ∧ tOkB P b (.inr (r, a.size)) = true := by
  simp only [TyOk, tOkB, Bool.and_eq_true] at h
  obtain ⟨h, _⟩ := h
  split at h
  · rename_i fs e
    simp only [Bool.and_eq_true] at h
    obtain ⟨h0, h⟩ := h
    split at h
    · rename_i f r hf
      simp only [Bool.and_eq_true, beq_iff_eq, bne_iff_ne, ne_eq] at h
      exact ⟨fs, f, r, e, by simpa using h0, hf, h.1.1.1.1, h.1.1.1.2, h.1.1.2, h.1.2, h.2⟩
    · cases h
  · cases h

/-- Is the type an aggregate? As the model asks. -/
theorem run_isAgg {P : Program} {t : Ty} {id : TypeId} (h : TyOk P t id) (w : World) : (isAgg id).run P w = .ok t.isAgg w := by
  cases t with
  | int k => simp [isAgg, run_underlying h.int, Ty.isAgg]
  | bool => simp [isAgg, run_underlying h.bool, Ty.isAgg]
  | str => simp [isAgg, run_underlying h.str, Ty.isAgg]
  | unit => obtain ⟨fs, h1, _⟩ := h.unit; simp [isAgg, run_underlying h1, Ty.isAgg]
  | pair a b => obtain ⟨fs, _, _, h1, _⟩ := h.pair; simp [isAgg, run_underlying h1, Ty.isAgg]
  | arr n u => obtain ⟨e, h1, _⟩ := h.arr; simp [isAgg, run_underlying h1, Ty.isAgg]
  | slc u => obtain ⟨e, h1, _⟩ := h.slc; simp [isAgg, run_underlying h1, Ty.isAgg]
  | map k v => obtain ⟨a, b, h1, _⟩ := h.map; simp [isAgg, run_underlying h1, Ty.isAgg]
  | fn f c => exact absurd h (by simp [TyOk, tOkB])
  | ref c => exact absurd h (by simp [TyOk, tOkB])

theorem run_typeInfo' {P : Program} {id : TypeId} {i : TypeInfo} (h : P.info? id = some i) (w : World) : (typeInfo id).run P w = .ok i w := by
  simp [typeInfo, h]

theorem run_sizeOf' {P : Program} {t : Ty} {id : TypeId} (h : TyOk P t id) (w : World) : (Go.sizeOf id).run P w = .ok t.size w := by
  obtain ⟨i, z, h1, h2, _⟩ := h.info.out
  simp [Go.sizeOf, run_typeInfo' h1, h2]

theorem run_zeroValue' {P : Program} {t : Ty} {id : TypeId} (h : TyOk P t id) : ∃ z, (∀ w, (zeroValue id).run P w = .ok z w) ∧ (∀ F, RepV F t t.dflt z) ∧ z.cells.toList = zeroCs t := by
  obtain ⟨i, z, h1, _, h3, h4, h5, _⟩ := h.info.out
  exact ⟨z, fun w => by simp [zeroValue, run_typeInfo' h1, h3], h4, h5⟩

theorem TyOk.dflt {P : Program} {t : Ty} {id : TypeId} (h : TyOk P t id) (F : FH) : Rep F t t.dflt (zeroCs t) := by
  obtain ⟨z, _, z2, z3⟩ := run_zeroValue' h
  rw [← z3]; exact repV_cells (z2 F)

/-! ## Loads -/
theorem addr_add (b o i : Nat) : (⟨b, o, none⟩ : Addr).add i = ⟨b, o + i, none⟩ := by
  unfold Addr.add; split <;> simp_all

theorem run_loadVar' {P : Program} {t : Ty} {id : TypeId} (h : TyOk P t id) (w : World) (b o : Nat) (cs : List Value) (hl : cs.length = t.size)
    (hc : ∀ (i : Nat) c, cs[i]? = some c → cellAt w.heap b (o + i) = some c) : (loadVar id ⟨b, o, none⟩).run P w = .ok (mkV t cs) w := by
  have hld : ∀ (i : Nat) c, cs[i]? = some c → w.cell? ((⟨b, o, none⟩ : Addr).add i) = some c := fun i c e => by rw [addr_add, cell?_eq]; exact hc i c e
  have hra := run_isAgg h w
  unfold loadVar mkV
  rw [Sem.run_bind, hra]
  simp only [Result.andThen_ok]
  cases ha : t.isAgg
  · simp only [Bool.false_eq_true, ↓reduceIte]
    have h1 : t.size = 1 := by cases t <;> simp_all [Ty.isAgg, Ty.size]
    have := hld 0 (cs[0]'(by omega)) (List.getElem?_eq_getElem (by omega))
    rw [addr_add, Nat.add_zero] at this
    rw [run_load, this]
    simp [List.getElem?_eq_getElem (show 0 < cs.length by omega)]
  · simp only [↓reduceIte, Sem.run_bind, run_sizeOf' h, Result.andThen_ok]
    rw [← hl, run_loadCells_list w _ cs hld]
    simp

/-! ## Stores -/
theorem rep_one {F : FH} : ∀ (t : Ty) (x : t.den) (cs : List Value), Rep F t x cs → ∀ v, v ∈ cs → v.oneCell' = true := by
  intro t
  induction t with
  | int k => intro x cs h; cases h; simp [Value.oneCell']
  | bool => intro x cs h; cases h; simp [Value.oneCell']
  | str => intro x cs h; cases h; simp [Value.oneCell']
  | unit => intro x cs h; cases h; simp
  | pair a b iha ihb =>
    rintro x cs ⟨c1, c2, rfl, h1, h2⟩ v hv
    rcases List.mem_append.1 hv with h | h
    · exact iha _ _ h1 v h
    · exact ihb _ _ h2 v h
  | arr n t ih =>
    rintro x cs ⟨_, h2⟩
    have : ∀ (xs : List t.den) cs, RepL (Rep F t) xs cs → ∀ v, v ∈ cs → v.oneCell' = true := by
      intro xs
      induction xs with
      | nil => intro cs h; cases h; simp
      | cons y ys ih2 =>
        rintro cs ⟨c1, c2, rfl, h1, h2⟩ v hv
        rcases List.mem_append.1 hv with h | h
        · exact ih _ _ h1 v h
        · exact ih2 _ h2 v h
    exact this _ _ h2
  | slc t _ =>
    rintro x cs ⟨u, rfl, h⟩ v hv
    simp at hv; subst hv
    rcases h with ⟨rfl, _⟩ | ⟨_, _, _, _, rfl, _⟩ <;> rfl
  | map k v _ _ => rintro x cs ⟨_, rfl⟩ u hu; simp at hu; subst hu; rfl
  | fn f c _ => rintro x cs ⟨v, rfl, _⟩ u hu; simp at hu; subst hu; rfl
  | ref c _ => rintro x cs ⟨b, off, ds, rfl, _⟩ u hu; simp at hu; subst hu; rfl

theorem repL_one {F : FH} {t : Ty} : ∀ (xs : List t.den) cs, RepL (Rep F t) xs cs → ∀ v, v ∈ cs → v.oneCell' = true :=
  fun xs cs h => rep_one (F := F) (.arr xs.length t) xs cs ⟨rfl, h⟩

/-- Cells with a piece put in. -/
def putL (l : List Value) (o : Nat) (vs : List Value) : List Value := l.take o ++ vs ++ l.drop (o + vs.length)

theorem putL_len {l : List Value} {o : Nat} {vs : List Value} (h : o + vs.length ≤ l.length) : (putL l o vs).length = l.length := by
  simp [putL]; omega

theorem run_storeCells' (P : Program) (b o : Nat) (e : TypeId) (fr : Nat × Nat) : ∀ (vs : List Value) (i : Nat) (c : Array Value) (w : World), w.heap[b]? = some (.cells c e fr) →
    free fr c.size → o + i + vs.length ≤ c.size → (∀ v, v ∈ vs → v.oneCell' = true) →
    (storeCells ⟨b, o, none⟩ vs i).run P w = .ok () { w with heap := w.heap.setIfInBounds b (.cells (putL c.toList (o + i) vs).toArray e fr) }
  | [], i, c, w, hw, _, _, _ => by
    have : w.heap.setIfInBounds b (.cells (putL c.toList (o + i) []).toArray e fr) = w.heap := by
      apply Array.ext_getElem?
      intro j
      rw [Array.getElem?_setIfInBounds]
      split
      · rename_i hj; subst hj
        have hb := (Array.getElem?_eq_some_iff.1 hw).1
        rw [if_pos hb, hw]; simp [putL]
      · rfl
    rw [this]; rfl
  | v :: r, i, c, w, hw, hfr, hl, h1 => by
    have hb := (Array.getElem?_eq_some_iff.1 hw).1
    simp only [List.length_cons] at hl
    have hcell : w.cell? ⟨b, o + i, none⟩ = some (c[o + i]'(by omega)) := by
      rw [cell?_eq]; simp only [cellAt, hw]; simp
    have hfz : w.frozen? ⟨b, o + i, none⟩ = false := by
      simp only [World.frozen?, hw]
      have := hfr (o + i) (by omega)
      simpa [Bool.and_eq_true] using this
    have hst : (store ((⟨b, o, none⟩ : Addr).add i) v).run P w = .ok () (w.setCell ⟨b, o + i, none⟩ v) := by
      rw [addr_add, run_store P w _ v _ (h1 v (by simp))]; simp [hcell, hfz]
    have hw1 : (w.setCell ⟨b, o + i, none⟩ v).heap[b]? = some (.cells (c.setIfInBounds (o + i) v) e fr) := by
      simp [World.setCell, Array.getElem?_modify, hw]
    have ih := run_storeCells' P b o e fr r (i + 1) (c.setIfInBounds (o + i) v) (w.setCell ⟨b, o + i, none⟩ v) hw1 (by simpa using hfr) (by simp; omega) (fun x hx => h1 x (by simp [hx]))
    simp only [storeCells, Sem.run_bind, hst, Result.andThen_ok, ih]
    congr 2
    apply Array.ext_getElem?
    intro j
    rw [Array.getElem?_setIfInBounds, Array.getElem?_setIfInBounds]
    split
    · rename_i hj; subst hj
      have hb1 : b < (w.setCell ⟨b, o + i, none⟩ v).heap.size := by simpa [World.setCell] using hb
      rw [if_pos hb1]
      congr 3
      simp only [putL, Array.toList_setIfInBounds]
      have e1 : (c.toList.set (o + i) v).take (o + (i + 1)) = c.toList.take (o + i) ++ [v] := by
        rw [List.set_eq_take_append_cons_drop, if_pos (by simp; omega), List.take_append]
        simp only [List.length_take, Array.length_toList]
        rw [show min (o + i) c.size = o + i by omega, List.take_of_length_le (by simp; omega), show o + (i + 1) - (o + i) = 1 by omega]
        simp
      have e2 : (c.toList.set (o + i) v).drop (o + (i + 1) + r.length) = c.toList.drop (o + i + (v :: r).length) := by
        rw [List.set_eq_take_append_cons_drop, if_pos (by simp; omega), List.drop_append]
        simp only [List.length_take, Array.length_toList]
        rw [show min (o + i) c.size = o + i by omega, List.drop_eq_nil_of_le (by simp; omega), show o + (i + 1) + r.length - (o + i) = r.length + 1 by omega]
        simp; congr 1; omega
      rw [e1, e2]; simp
    · rename_i hj
      simp [World.setCell, Array.getElem?_modify, hj]

end Lc
