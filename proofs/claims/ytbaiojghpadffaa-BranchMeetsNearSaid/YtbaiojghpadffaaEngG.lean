/- The engine, part G: what one operation does: the plain ones. -/
import Derived.Test.YtbaiojghpadffaaEngF
import Derived.Laws.StructEq
import Derived.ChangeKeysEq
namespace Lc
open Go Go.RowKit
set_option linter.unusedVariables false
set_option linter.unusedSimpArgs false

def GlobOk (G : Nat → Option TV) (F : FH) : Prop := ∀ g tv, G g = some tv → ∃ cs, Rep F tv.t tv.x cs ∧ FAt F g 0 cs

theorem GlobOk.mono {G : Nat → Option TV} {F F' : FH} (h : GlobOk G F) (hF : F.le F') : GlobOk G F' := by
  intro g tv e
  obtain ⟨cs, h1, h2⟩ := h g tv e
  exact ⟨cs, rep_mono hF _ _ _ h1, fun i c hc => hF _ _ _ (h2 i c hc)⟩

def fnVals (l : List FuncId) : List Value := l.map (fun g => Value.func (.func g) #[] #[])

/-- The contract of a call that turns a row. -/
structure SoundM (P : Program) (f : FuncId) (m : Mut) : Prop where
  fn : ∃ fn, P.funcs[f]? = some fn ∧ (fn.name == "runtime.NumGoroutine") = false ∧ fn.body.isSome = true
  len : ∀ xs, (m.fn xs).length = xs.length
  nilC : ∀ (a : Option Addr) (cap : Nat) (w : World), m.pre [] → Calls P f (Value.slice a 0 cap :: fnVals m.rest).toArray w (fun e w' => e = .returned (.tuple #[]) ∧ Go.RowKit.Below w.heap.size w w')
  rowC : ∀ (F : FH) (w : World) (xs : List m.t.den) (b cap : Nat) (c : Array Value) (eid : TypeId) (fr : Nat × Nat) (cs rest : List Value), w.heap[b]? = some (.cells c eid fr) → free fr c.size → c.toList = cs ++ rest →
    RepL (Rep F m.t) xs cs → c.size = cap * m.t.size → xs.length ≤ cap → m.pre xs →
    Calls P f (Value.slice (some ⟨b, 0, none⟩) xs.length cap :: fnVals m.rest).toArray w (fun e w' => e = .returned (.tuple #[]) ∧ ∃ cs', RepL (Rep F m.t) (m.fn xs) cs' ∧ w'.os = w.os ∧ w'.tape = w.tape ∧ w'.output = w.output ∧
      w.heap.size ≤ w'.heap.size ∧ w'.heap[b]? = some (.cells (cs' ++ rest).toArray eid fr) ∧ ∀ i, i < w.heap.size → i ≠ b → w'.heap[i]? = w.heap[i]?)
  partC : m.part = true → ∀ (F : FH) (w : World) (xs : List m.t.den) (b cap : Nat) (c : Array Value) (eid : TypeId) (fr : Nat × Nat) (hd cs rest : List Value), w.heap[b]? = some (.cells c eid fr) → free fr c.size → c.toList = hd ++ (cs ++ rest) →
    RepL (Rep F m.t) xs cs → 0 < xs.length → xs.length ≤ cap → m.pre xs →
    Calls P f (Value.slice (some ⟨b, hd.length, none⟩) xs.length cap :: fnVals m.rest).toArray w (fun e w' => e = .returned (.tuple #[]) ∧ ∃ cs', RepL (Rep F m.t) (m.fn xs) cs' ∧ w'.os = w.os ∧ w'.tape = w.tape ∧ w'.output = w.output ∧
      w.heap.size ≤ w'.heap.size ∧ w'.heap[b]? = some (.cells (hd ++ (cs' ++ rest)).toArray eid fr) ∧ ∀ i, i < w.heap.size → i ≠ b → w'.heap[i]? = w.heap[i]?)

structure EnvOk (E : Env) : Prop where
  ty : ∀ id t, E.ty id = some t → TyOk E.P t id
  bytes : ∀ id u e i, E.ty id = some (.slc u) → E.P.underlying id = some (.slice e) → E.P.info? e = some i → i.bytes ≤ E.bytes id
  turn : ∀ f m, E.turn f = some m → SoundM E.P f m

def Does (P : Program) (o : Oper) (ev : Operand → Value) (w : World) (post : Value → World → Prop) : Prop :=
  ∀ (a : Act) (next : Act → World → Prop) (Q : Exit → Act → World → Prop), a.eval = ev → (∀ v w', post v w' → next (a.put o.dst v) w') → o.wp P a w next Q

theorem does_ok {P : Program} {o : Oper} {ev : Operand → Value} {w w' : World} {post : Value → World → Prop} {v : Value}
    (h : (execOp ev o).run P w = .ok (.value v) w') (hp : post v w') : Does P o ev w post := by
  intro a next Q he hn
  unfold Oper.wp
  rw [he, h]
  exact hn _ _ hp

theorem does_skip {P : Program} {o : Oper} {ev : Operand → Value} {w w' : World} {post : Value → World → Prop}
    (h : (execOp ev o).run P w = .ok .skip w') (hp : post undef w') : Does P o ev w post := by
  intro a next Q he hn
  unfold Oper.wp
  rw [he, h]
  exact hn _ _ hp

theorem does_enter {P : Program} {o : Oper} {ev : Operand → Value} {w w' : World} {post : Value → World → Prop} {f : FuncId} {args : Array Value}
    (h : (execOp ev o).run P w = .ok (.enter f args) w') (hc : Calls P f args w' (fun e w' => ∃ v, e = .returned v ∧ post v w')) : Does P o ev w post := by
  intro a next Q he hn
  unfold Oper.wp
  rw [he, h]
  refine Calls.mono hc ?_
  rintro e w'' ⟨v, rfl, hv⟩
  exact hn _ _ hv

def Post (B0 : Nat → Prop) (F : FH) (ρ : RM) (L : HL) (w : World) (a : AV) (L' : HL) (v : Value) (w' : World) : Prop :=
  ∃ F' ρ', RepAV F' ρ' L' a v ∧ HRel F' ρ' L' w'.heap B0 ∧ F.le F' ∧ (∀ b, ¬ B0 b → F' b = F b) ∧ LLe L ρ L' ρ' ∧ Kept B0 w w'

theorem post_pure {B0 : Nat → Prop} {F : FH} {ρ : RM} {L : HL} {w : World} {a : AV} {v : Value} (h : HRel F ρ L w.heap B0) (hr : RepAV F ρ L a v) : Post B0 F ρ L w a L v w :=
  ⟨F, ρ, hr, h, FH.le.rfl, fun _ _ => rfl, LLe.same, Kept.refl _ _⟩

def blkL (L : HL) (a : AV) : Option Blk :=
  match a.key with
  | none => none
  | some k => match L k with
    | some (some b) => some b
    | _ => none

theorem repAV_val {F : FH} {ρ : RM} {L : HL} {t : Ty} {x : t.den} {v : Value} : RepAV F ρ L (.val t x) v ↔ RepV F t x v := by
  simp only [RepAV, AV.isTup, RepA]
  constructor
  · rintro ⟨u, h, r⟩; simp at h; subst h; exact r
  · intro h; exact ⟨v, rfl, h⟩

theorem repV_int {F : FH} {k : IntKind} {x : Int} {v : Value} : RepV F (.int k) x v ↔ v = .int k x := by simp [RepV, Ty.isAgg, Rep]
theorem repV_bool {F : FH} {x : Bool} {v : Value} : RepV F .bool x v ↔ v = .bool x := by simp [RepV, Ty.isAgg, Rep]
theorem repV_str {F : FH} {x : ByteArray} {v : Value} : RepV F .str x v ↔ v = .string x := by simp [RepV, Ty.isAgg, Rep]

theorem repAV_int {F : FH} {ρ : RM} {L : HL} {k : IntKind} {x : Int} {v : Value} : RepAV F ρ L (.val (.int k) x) v ↔ v = .int k x := repAV_val.trans repV_int
theorem repAV_bool {F : FH} {ρ : RM} {L : HL} {x : Bool} {v : Value} : RepAV F ρ L (.val .bool x) v ↔ v = .bool x := repAV_val.trans repV_bool
theorem repAV_str {F : FH} {ρ : RM} {L : HL} {x : ByteArray} {v : Value} : RepAV F ρ L (.val .str x) v ↔ v = .string x := repAV_val.trans repV_str

theorem TV.as_eq {v : TV} {t : Ty} {x : t.den} (h : v.as t = some x) : v = ⟨t, x⟩ := by
  obtain ⟨u, y⟩ := v
  simp only [TV.as] at h
  split at h
  · rename_i e; cases e; cases h; rfl
  · cases h

/-! ### Integers -/
section bin
variable {P : Program} {w : World}

theorem run_bin_int (op : BinOp) (xt : TypeId) (k : IntKind) (a b : Int) (v : Value)
    (h : (match op with
      | .add => some (k.wrap (a + b)) | .sub => some (k.wrap (a - b)) | .mul => some (k.wrap (a * b))
      | .and => some (iand k a b) | .or => some (ior k a b) | .xor => some (ixor k a b) | .andNot => some (iandNot k a b)
      | .quo => if b = 0 then none else some (k.wrap (a.tdiv b))
      | .rem => if b = 0 then none else some (a.tmod b)
      | _ => none).map (Value.int k) = some v) : (binOp op xt (.int k a) (.int k b)).run P w = .ok v w := by
  cases op <;> simp at h <;> first
    | (subst h; simp [binOp, Op.intArith, iand, ior, ixor, iandNot, Op.intBits]; done)
    | (obtain ⟨_, ⟨h0, rfl⟩, rfl⟩ := h; simp [binOp, Op.intDiv, h0])

theorem run_bin_cmp (op : BinOp) (xt : TypeId) (k : IntKind) (a b : Int) (c : Bool)
    (h : (match op with
      | .eql => some (a == b) | .neq => some (a != b) | .lss => some (decide (a < b)) | .leq => some (decide (a ≤ b))
      | .gtr => some (decide (a > b)) | .geq => some (decide (a ≥ b)) | _ => none) = some c) : (binOp op xt (.int k a) (.int k b)).run P w = .ok (.bool c) w := by
  cases op <;> simp at h <;> (subst h; simp [binOp, Op.intCmp])

theorem run_shift (op : BinOp) (xt : TypeId) (k k' : IntKind) (a b : Int) (hb : 0 ≤ b) (v : Int)
    (h : (match op with | .shl => some (ishl k a b) | .shr => some (ishr k a b) | _ => none) = some v) : (binOp op xt (.int k a) (.int k' b)).run P w = .ok (.int k v) w := by
  have : ¬ b < 0 := by omega
  cases op <;> simp at h <;> (subst h; simp [binOp, Op.shift, this, ishl, ishr])

theorem run_eqGuard_plain (op : BinOp) (t : TypeId) (x y : Operand) (a b : Value) (ha : (match a with | .nilIface => true | .agg _ => true | _ => false) = false) :
    (eqGuard op t x y a b).run P w = .ok () w := by
  cases a <;> simp at ha <;> cases op <;> simp [eqGuard]

theorem run_eqGuard_any (op : BinOp) (t : TypeId) (x y : Operand) (a b : Value) (ht : P.eqGuardType P.depth t = false) (ha : (match a with | .nilIface => true | _ => false) = false) :
    (eqGuard op t x y a b).run P w = .ok () w := by
  cases a <;> simp at ha <;> first | exact run_eqGuard_plain op t x y _ b rfl | (cases b <;> cases op <;> simp [eqGuard, ht])
end bin

/-! ### Equality of data -/
theorem run_part' {P : Program} {t : Ty} {id : TypeId} (h : TyOk P t id) (w : World) (cs : Array Value) (off : Nat) (hl : off + t.size ≤ cs.size) :
    (part id cs off).run P w = .ok (mkV t ((cs.toList.drop off).take t.size)) w := by
  have hra := run_isAgg h w
  unfold part mkV
  rw [Sem.run_bind, hra]
  simp only [Result.andThen_ok]
  cases ha : t.isAgg
  · have h1 : t.size = 1 := by cases t <;> simp_all [Ty.isAgg, Ty.size]
    have hlt : off < cs.size := by omega
    simp only [Bool.false_eq_true, ↓reduceIte]
    have : cs[off]? = some cs[off] := by simp
    rw [this]
    rw [h1]
    simp [List.getElem?_drop, hlt]
  · simp only [↓reduceIte, Sem.run_bind, run_sizeOf' h, Result.andThen_ok, Sem.run_pure]
    congr 2
    apply Array.ext'
    simp [Array.toList_extract, List.extract_eq_take_drop]

theorem fieldsOf_eq {P : Program} {id : TypeId} {fs : Array Field} (h : P.underlying id = some (.struct fs)) : P.fieldsOf id = fs := by
  simp [Program.fieldsOf, h]

theorem equal_rep {P : Program} {F : FH} : ∀ (t : Ty), t.flat = true →
    (∀ id d x y (a b : t.den) w, TyOk P t id → t.dep < d → RepV F t a x → RepV F t b y → (Op.equalIn d id x y).run P w = .ok (t.beq a b) w) ∧
    (∀ fs off d (xs ys : Array Value) (a b : t.den) w, tOkB P t (.inr (fs, off)) = true → t.dep ≤ d → Rep F t a (xs.toList.drop off) → Rep F t b (ys.toList.drop off) → off ≤ xs.size → off ≤ ys.size →
      (Op.eqFields d xs ys fs).run P w = .ok (t.beq a b) w) := by
  intro t
  induction t with
  | int k =>
    intro _
    refine ⟨fun id d x y a b w h hd hx hy => ?_, fun fs off d xs ys a b w h => by cases fs <;> simp [tOkB] at h⟩
    rw [repV_int] at hx hy; subst hx; subst hy
    obtain ⟨d, rfl⟩ : ∃ e, d = e + 1 := ⟨d - 1, by simp [Ty.dep] at hd; omega⟩
    exact run_equalIn_int w d id k k a b h.int
  | bool =>
    intro _
    refine ⟨fun id d x y a b w h hd hx hy => ?_, fun fs off d xs ys a b w h => by cases fs <;> simp [tOkB] at h⟩
    rw [repV_bool] at hx hy; subst hx; subst hy
    obtain ⟨d, rfl⟩ : ∃ e, d = e + 1 := ⟨d - 1, by simp [Ty.dep] at hd; omega⟩
    exact run_equalIn_bool' w d id a b h.bool
  | str =>
    intro _
    refine ⟨fun id d x y a b w h hd hx hy => ?_, fun fs off d xs ys a b w h => by cases fs <;> simp [tOkB] at h⟩
    rw [repV_str] at hx hy; subst hx; subst hy
    obtain ⟨d, rfl⟩ : ∃ e, d = e + 1 := ⟨d - 1, by simp [Ty.dep] at hd; omega⟩
    exact run_equalIn_string w d id a b h.str
  | slc t _ => intro h; cases h
  | map k v _ _ => intro h; cases h
  | fn f c _ => intro h; cases h
  | ref c _ => intro h; cases h
  | unit =>
    intro _
    refine ⟨fun id d x y a b w h hd hx hy => ?_, fun fs off d xs ys a b w h => ?_⟩
    · obtain ⟨d, rfl⟩ : ∃ e, d = e + 1 := ⟨d - 1, by simp [Ty.dep] at hd; omega⟩
      obtain ⟨fs, h1, h2, h3⟩ := h.unit
      obtain ⟨cx, rfl, _⟩ : ∃ cs : List Value, x = .agg cs.toArray ∧ Rep F .unit a cs := hx
      obtain ⟨cy, rfl, _⟩ : ∃ cs : List Value, y = .agg cs.toArray ∧ Rep F .unit b cs := hy
      have hf := fieldsOf_eq h1
      rw [run_equalIn_struct w d id _ _ (by rw [hf]; exact h1) h3, hf, h2]
      rfl
    · cases fs with
      | nil => intros; rfl
      | cons f r => simp [tOkB] at h
  | arr n t ih =>
    intro hf
    obtain ⟨ih1, _⟩ := ih hf
    refine ⟨fun id d x y a b w h hd hx hy => ?_, fun fs off d xs ys a b w h => by cases fs <;> simp [tOkB] at h⟩
    obtain ⟨d, rfl⟩ : ∃ e, d = e + 1 := ⟨d - 1, by simp [Ty.dep] at hd; omega⟩
    obtain ⟨e, h1, h2⟩ := h.arr
    obtain ⟨cx, rfl, hx1, hx2⟩ : ∃ cs : List Value, x = .agg cs.toArray ∧ Rep F (.arr n t) a cs := hx
    obtain ⟨cy, rfl, hy1, hy2⟩ : ∃ cs : List Value, y = .agg cs.toArray ∧ Rep F (.arr n t) b cs := hy
    obtain ⟨i, z, i1, i2, _⟩ := h2.info.out
    have hc : P.cellsOf e = t.size := by simp [Program.cellsOf, i1, i2]
    rw [run_equalIn_array w d _ _ h1 i1, hc]
    have lx := repL_rep_len hx2
    have ly := repL_rep_len hy2
    rw [hx1] at lx
    rw [hy1] at ly
    have key : ∀ m s, s + m = n → (Op.eqItems d e t.size cx.toArray cy.toArray (List.range' s m)).run P w = .ok (listBeq t.beq (List.drop s a) (List.drop s b)) w := by
      intro m
      induction m with
      | zero =>
        intro s hs
        rw [List.drop_eq_nil_of_le (by omega), List.drop_eq_nil_of_le (by omega)]; rfl
      | succ m ihm =>
        intro s hs
        have b1 : (s + 1) * t.size ≤ n * t.size := Nat.mul_le_mul_right _ (by omega)
        have b2 : (s + 1) * t.size = s * t.size + t.size := by rw [Nat.add_mul]; omega
        have p1 := run_part' h2 w cx.toArray (s * t.size) (by simp; omega)
        have p2 := run_part' h2 w cy.toArray (s * t.size) (by simp; omega)
        simp only at p1 p2
        have g1 := repL_get (fun x cs => rep_len t x cs) _ _ hx2 s t.dflt (by omega)
        have g2 := repL_get (fun x cs => rep_len t x cs) _ _ hy2 s t.dflt (by omega)
        have p3 := ih1 e d _ _ _ _ w h2 (by simp [Ty.dep] at hd; omega) (repV_mk g1) (repV_mk g2)
        simp only [List.range'_succ, Op.eqItems, Sem.run_bind, p1, p2, p3, Result.andThen_ok]
        have d1 : List.drop s a = List.getD a s t.dflt :: List.drop (s + 1) a := by
          rw [List.drop_eq_getElem_cons (by omega)]; simp [List.getD_eq_getElem?_getD, List.getElem?_eq_getElem (show s < List.length a by omega)]
        have d2 : List.drop s b = List.getD b s t.dflt :: List.drop (s + 1) b := by
          rw [List.drop_eq_getElem_cons (by omega)]; simp [List.getD_eq_getElem?_getD, List.getElem?_eq_getElem (show s < List.length b by omega)]
        rw [d1, d2]
        simp only [listBeq]
        cases t.beq (List.getD a s t.dflt) (List.getD b s t.dflt)
        · simp
        · simp only [Bool.not_true, Bool.false_eq_true, if_false, Bool.true_and]
          exact ihm (s + 1) (by omega)
    have := key n 0 (by omega)
    rw [List.range_eq_range', this]
    rfl
  | pair t1 t2 ih1 ih2 =>
    intro hf
    simp only [Ty.flat, Bool.and_eq_true] at hf
    have i1 := (ih1 hf.1).1
    have i2 := (ih2 hf.2).2
    have step : ∀ (f : Field) (r : List Field) off d (xs ys : Array Value) (a b : (Ty.pair t1 t2).den) w, f.offset = off → f.name ≠ "_" → TyOk P t1 f.type → tOkB P t2 (.inr (r, off + t1.size)) = true →
        max t1.dep t2.dep < d → Rep F (.pair t1 t2) a (xs.toList.drop off) → Rep F (.pair t1 t2) b (ys.toList.drop off) → off ≤ xs.size → off ≤ ys.size → (Op.eqFields d xs ys (f :: r)).run P w = .ok ((Ty.pair t1 t2).beq a b) w := by
      intro f r off d xs ys a b w e1 e2 e3 e4 hd hx hy ox oy
      obtain ⟨c1, c2, ec, h1, h2⟩ := hx
      obtain ⟨k1, k2, ek, g1, g2⟩ := hy
      have l1 := rep_len _ _ _ h1
      have m1 := rep_len _ _ _ g1
      have lx : xs.toList.length - off = c1.length + c2.length := by rw [← List.length_drop, ec, List.length_append]
      have ly : ys.toList.length - off = k1.length + k2.length := by rw [← List.length_drop, ek, List.length_append]
      simp only [Array.length_toList] at lx ly
      have p1 := run_part' e3 w xs off (by omega)
      have p2 := run_part' e3 w ys off (by omega)
      have q1 : (xs.toList.drop off).take t1.size = c1 := by rw [ec, List.take_append, List.take_of_length_le (by omega), show t1.size - c1.length = 0 by omega]; simp
      have q2 : (ys.toList.drop off).take t1.size = k1 := by rw [ek, List.take_append, List.take_of_length_le (by omega), show t1.size - k1.length = 0 by omega]; simp
      rw [q1] at p1
      rw [q2] at p2
      have p3 := i1 f.type d _ _ _ _ w e3 (by omega) (repV_mk h1) (repV_mk g1)
      have q3 : xs.toList.drop (off + t1.size) = c2 := by rw [← List.drop_drop, ec, List.drop_append, List.drop_eq_nil_of_le (by omega), show t1.size - c1.length = 0 by omega]; simp
      have q4 : ys.toList.drop (off + t1.size) = k2 := by rw [← List.drop_drop, ek, List.drop_append, List.drop_eq_nil_of_le (by omega), show t1.size - k1.length = 0 by omega]; simp
      have p4 := i2 r (off + t1.size) d xs ys a.2 b.2 w e4 (by omega) (by rw [q3]; exact h2) (by rw [q4]; exact g2) (by omega) (by omega)
      subst e1
      simp only [Op.eqFields, if_pos e2, Sem.run_bind, Sem.run_ite, p1, p2, p3, Result.andThen_ok]
      simp only [Ty.beq]
      cases t1.beq a.1 b.1
      · simp
      · simp only [Bool.not_true, Bool.false_eq_true, if_false, Bool.true_and]; exact p4
    refine ⟨fun id d x y a b w h hd hx hy => ?_, fun fs off d xs ys a b w h hd hx hy ox oy => ?_⟩
    · obtain ⟨d, rfl⟩ : ∃ e, d = e + 1 := ⟨d - 1, by simp [Ty.dep] at hd; omega⟩
      obtain ⟨fs, f, r, h1, h2, h3, h4, h5, h6, h7, h8⟩ := h.pair
      obtain ⟨cx, rfl, hx1⟩ : ∃ cs : List Value, x = .agg cs.toArray ∧ Rep F (.pair t1 t2) a cs := hx
      obtain ⟨cy, rfl, hy1⟩ : ∃ cs : List Value, y = .agg cs.toArray ∧ Rep F (.pair t1 t2) b cs := hy
      have hff := fieldsOf_eq h1
      rw [run_equalIn_struct w d id _ _ (by rw [hff]; exact h1) h2, hff, h3]
      exact step f r 0 d _ _ a b w h4 h5 h7 (by simpa using h8) (by simp [Ty.dep] at hd; omega) (by simpa using hx1) (by simpa using hy1) (Nat.zero_le _) (Nat.zero_le _)
    · cases fs with
      | nil => simp [tOkB] at h
      | cons f r =>
        simp only [tOkB, Bool.and_eq_true, beq_iff_eq, bne_iff_ne, ne_eq] at h
        exact step f r off d xs ys a b w h.1.1.1.1 h.1.1.1.2 h.1.2 h.2 (by simp only [Ty.dep] at hd; omega) hx hy ox oy

end Lc
