/- The engine, part D: how data lie in memory. -/
import Derived.Test.YtbaiojghpadffaaEngC
namespace Lc
open Go
set_option linter.unusedVariables false
set_option linter.unusedSimpArgs false

abbrev FH := Nat → Nat → Option Value

def FH.le (F G : FH) : Prop := ∀ b i v, F b i = some v → G b i = some v

theorem FH.le.rfl {F : FH} : F.le F := fun _ _ _ h => h
theorem FH.le.trans {F G H : FH} (h : F.le G) (k : G.le H) : F.le H := fun b i v e => k b i v (h b i v e)

def RepL {α : Type} (R : α → List Value → Prop) : List α → List Value → Prop
  | [], cs => cs = []
  | x :: xs, cs => ∃ c1 c2, cs = c1 ++ c2 ∧ R x c1 ∧ RepL R xs c2

/-- Cells cs lie frozen at block b from off on. -/
def FAt (F : FH) (b off : Nat) (cs : List Value) : Prop := ∀ i c, cs[i]? = some c → F b (off + i) = some c

def SlcV (F : FH) (n : Nat) (P : List Value → Prop) (v : Value) : Prop :=
  (v = .slice none 0 0 ∧ n = 0 ∧ P []) ∨
  ∃ b off cap cs, v = .slice (some ⟨b, off, none⟩) n cap ∧ n ≤ cap ∧ P cs ∧ FAt F b off cs

def Rep (F : FH) : (t : Ty) → t.den → List Value → Prop
  | .int k, x, cs => cs = [.int k x]
  | .bool, x, cs => cs = [.bool x]
  | .str, x, cs => cs = [.string x]
  | .unit, _, cs => cs = []
  | .pair a b, x, cs => ∃ c1 c2, cs = c1 ++ c2 ∧ Rep F a x.1 c1 ∧ Rep F b x.2 c2
  | .arr n t, xs, cs => List.length xs = n ∧ RepL (Rep F t) xs cs
  | .slc t, xs, cs => ∃ v, cs = [v] ∧ SlcV F (List.length xs) (RepL (Rep F t) xs) v
  | .map _ _, xs, cs => xs = [] ∧ cs = [.map none]
  | .fn f c, x, cs => ∃ v, cs = [.func (.func f) #[] #[v]] ∧ (if c.isAgg then ∃ ds : List Value, v = .agg ds.toArray ∧ Rep F c x ds else Rep F c x [v])
  | .ref c, x, cs => ∃ b off ds, cs = [.pointer (some ⟨b, off, none⟩)] ∧ Rep F c x ds ∧ FAt F b off ds

def RepV (F : FH) (t : Ty) (x : t.den) (v : Value) : Prop :=
  if t.isAgg then ∃ cs, v = .agg cs.toArray ∧ Rep F t x cs else Rep F t x [v]

theorem repL_len {α : Type} {R : α → List Value → Prop} {sz : Nat} (h : ∀ x cs, R x cs → cs.length = sz) :
    ∀ (xs : List α) (cs : List Value), RepL R xs cs → cs.length = xs.length * sz := by
  intro xs
  induction xs with
  | nil => intro cs e; cases e; simp
  | cons x xs ih =>
    rintro cs ⟨c1, c2, rfl, h1, h2⟩
    rw [List.length_append, h _ _ h1, ih _ h2, List.length_cons, Nat.add_mul]; omega

theorem rep_len {F : FH} : ∀ (t : Ty) (x : t.den) (cs : List Value), Rep F t x cs → cs.length = t.size := by
  intro t
  induction t with
  | int k => intro x cs h; cases h; rfl
  | bool => intro x cs h; cases h; rfl
  | str => intro x cs h; cases h; rfl
  | unit => intro x cs h; cases h; rfl
  | pair a b iha ihb =>
    rintro x cs ⟨c1, c2, rfl, h1, h2⟩
    rw [List.length_append, iha _ _ h1, ihb _ _ h2]; rfl
  | arr n t ih =>
    rintro x cs ⟨h1, h2⟩
    rw [repL_len (fun x cs => ih x cs) _ _ h2, h1]; rfl
  | slc t _ => rintro x cs ⟨v, rfl, _⟩; rfl
  | map k v _ _ => rintro x cs ⟨_, rfl⟩; rfl
  | fn f c _ => rintro x cs ⟨v, rfl, _⟩; rfl
  | ref c _ => rintro x cs ⟨b, off, ds, rfl, _⟩; rfl

theorem repL_rep_len {F : FH} {t : Ty} {xs : List t.den} {cs : List Value} (h : RepL (Rep F t) xs cs) : cs.length = xs.length * t.size :=
  repL_len (fun x cs => rep_len t x cs) xs cs h

theorem repL_mono {α : Type} {R S : α → List Value → Prop} (h : ∀ x cs, R x cs → S x cs) : ∀ (xs : List α) (cs : List Value), RepL R xs cs → RepL S xs cs := by
  intro xs
  induction xs with
  | nil => intro cs e; exact e
  | cons x xs ih => rintro cs ⟨c1, c2, rfl, h1, h2⟩; exact ⟨c1, c2, rfl, h _ _ h1, ih _ h2⟩

theorem rep_mono {F G : FH} (h : F.le G) : ∀ (t : Ty) (x : t.den) (cs : List Value), Rep F t x cs → Rep G t x cs := by
  intro t
  induction t with
  | int k => intro x cs e; exact e
  | bool => intro x cs e; exact e
  | str => intro x cs e; exact e
  | unit => intro x cs e; exact e
  | pair a b iha ihb => rintro x cs ⟨c1, c2, rfl, h1, h2⟩; exact ⟨c1, c2, rfl, iha _ _ h1, ihb _ _ h2⟩
  | arr n t ih => rintro x cs ⟨h1, h2⟩; exact ⟨h1, repL_mono ih _ _ h2⟩
  | slc t ih =>
    rintro x cs ⟨v, rfl, h2⟩
    refine ⟨v, rfl, ?_⟩
    rcases h2 with ⟨e, e2, e3⟩ | ⟨b, off, cap, cs, e, e1, e2, e3⟩
    · exact .inl ⟨e, e2, repL_mono ih _ _ e3⟩
    · exact .inr ⟨b, off, cap, cs, e, e1, repL_mono ih _ _ e2, fun i c hc => h _ _ _ (e3 i c hc)⟩
  | map k v _ _ => intro x cs e; exact e
  | fn f c ih =>
    rintro x cs ⟨v, e, h2⟩
    refine ⟨v, e, ?_⟩
    split
    · rename_i hc; rw [if_pos hc] at h2; obtain ⟨ds, e1, e2⟩ := h2; exact ⟨ds, e1, ih _ _ e2⟩
    · rename_i hc; rw [if_neg hc] at h2; exact ih _ _ h2
  | ref c ih => rintro x cs ⟨b, off, ds, e, h1, h2⟩; exact ⟨b, off, ds, e, ih _ _ h1, fun i c hc => h _ _ _ (h2 i c hc)⟩

theorem rep_flat {F G : FH} : ∀ (t : Ty), t.flat = true → ∀ (x : t.den) (cs : List Value), Rep F t x cs → Rep G t x cs := by
  intro t
  induction t with
  | int k => intro _ x cs e; exact e
  | bool => intro _ x cs e; exact e
  | str => intro _ x cs e; exact e
  | unit => intro _ x cs e; exact e
  | pair a b iha ihb =>
    intro hf
    simp only [Ty.flat, Bool.and_eq_true] at hf
    rintro x cs ⟨c1, c2, rfl, h1, h2⟩
    exact ⟨c1, c2, rfl, iha hf.1 _ _ h1, ihb hf.2 _ _ h2⟩
  | arr n t ih => intro hf; rintro x cs ⟨h1, h2⟩; exact ⟨h1, repL_mono (ih hf) _ _ h2⟩
  | slc t _ => intro hf; cases hf
  | map k v _ _ => intro hf; cases hf
  | fn f c _ => intro hf; cases hf
  | ref c _ => intro hf; cases hf

theorem repV_mono {F G : FH} (h : F.le G) {t : Ty} {x : t.den} {v : Value} (r : RepV F t x v) : RepV G t x v := by
  unfold RepV at *
  split
  · rename_i e; rw [if_pos e] at r; obtain ⟨cs, e1, e2⟩ := r; exact ⟨cs, e1, rep_mono h _ _ _ e2⟩
  · rename_i e; rw [if_neg e] at r; exact rep_mono h _ _ _ r

theorem repV_flat {F G : FH} {t : Ty} (hf : t.flat = true) {x : t.den} {v : Value} (r : RepV F t x v) : RepV G t x v := by
  unfold RepV at *
  split
  · rename_i e; rw [if_pos e] at r; obtain ⟨cs, e1, e2⟩ := r; exact ⟨cs, e1, rep_flat _ hf _ _ e2⟩
  · rename_i e; rw [if_neg e] at r; exact rep_flat _ hf _ _ r

/-- The cells of a value. -/
theorem repV_cells {F : FH} {t : Ty} {x : t.den} {v : Value} (r : RepV F t x v) : Rep F t x v.cells.toList := by
  unfold RepV at r
  split at r
  · obtain ⟨cs, rfl, h⟩ := r; simpa [Value.cells] using h
  · rename_i e
    cases t <;> simp [Ty.isAgg] at e
    · cases r; simp [Value.cells, Rep]
    · cases r; simp [Value.cells, Rep]
    · cases r; simp [Value.cells, Rep]
    · obtain ⟨u, hu, h⟩ := r
      cases hu
      have : v.cells = #[v] := by
        rcases h with ⟨rfl, _⟩ | ⟨_, _, _, _, rfl, _⟩ <;> rfl
      rw [this]; exact ⟨v, rfl, h⟩
    · obtain ⟨rfl, hu⟩ := r; cases hu; exact ⟨rfl, rfl⟩
    · obtain ⟨u, hu, h⟩ := r; cases hu; exact ⟨u, rfl, h⟩
    · obtain ⟨b, off, ds, hu, h⟩ := r; cases hu; exact ⟨b, off, ds, rfl, h⟩

/-- A value out of its cells, as the model makes it of a load. -/
def mkV (t : Ty) (cs : List Value) : Value := if t.isAgg then .agg cs.toArray else (cs[0]?).getD undef

theorem repV_mk {F : FH} {t : Ty} {x : t.den} {cs : List Value} (r : Rep F t x cs) : RepV F t x (mkV t cs) := by
  unfold RepV mkV
  split
  · exact ⟨cs, rfl, r⟩
  · rename_i e
    cases t <;> simp [Ty.isAgg] at e
    · cases r; rfl
    · cases r; rfl
    · cases r; rfl
    · obtain ⟨v, rfl, h⟩ := r; exact ⟨v, rfl, h⟩
    · obtain ⟨rfl, rfl⟩ := r; exact ⟨rfl, rfl⟩
    · obtain ⟨v, rfl, h⟩ := r; exact ⟨v, rfl, h⟩
    · obtain ⟨b, off, ds, rfl, h⟩ := r; exact ⟨b, off, ds, rfl, h⟩

theorem repL_append {α : Type} {R : α → List Value → Prop} : ∀ (xs ys : List α) (cs ds : List Value), RepL R xs cs → RepL R ys ds → RepL R (xs ++ ys) (cs ++ ds) := by
  intro xs
  induction xs with
  | nil => intro ys cs ds h1 h2; cases h1; simpa using h2
  | cons x xs ih =>
    rintro ys cs ds ⟨c1, c2, rfl, h1, h2⟩ h3
    exact ⟨c1, c2 ++ ds, by simp, h1, ih _ _ _ h2 h3⟩

section
variable {α : Type} {R : α → List Value → Prop} {sz : Nat} (hlen : ∀ x cs, R x cs → cs.length = sz)
include hlen

theorem repL_drop : ∀ (n : Nat) (xs : List α) (cs : List Value), RepL R xs cs → RepL R (xs.drop n) (cs.drop (n * sz)) := by
  intro n
  induction n with
  | zero => intro xs cs h; simpa using h
  | succ n ih =>
    intro xs cs h
    cases xs with
    | nil => cases h; simp [RepL]
    | cons x xs =>
      obtain ⟨c1, c2, rfl, h1, h2⟩ := h
      have := ih xs c2 h2
      have e : (c1 ++ c2).drop ((n + 1) * sz) = c2.drop (n * sz) := by
        rw [Nat.add_mul, List.drop_append]
        have := hlen _ _ h1
        rw [List.drop_eq_nil_of_le (by omega)]
        simp only [List.nil_append]
        congr 1; omega
      rw [e]; exact this

theorem repL_take : ∀ (n : Nat) (xs : List α) (cs : List Value), RepL R xs cs → RepL R (xs.take n) (cs.take (n * sz)) := by
  intro n
  induction n with
  | zero => intro xs cs h; simp [RepL]
  | succ n ih =>
    intro xs cs h
    cases xs with
    | nil => cases h; simp [RepL]
    | cons x xs =>
      obtain ⟨c1, c2, rfl, h1, h2⟩ := h
      have l1 := hlen _ _ h1
      have e : (c1 ++ c2).take ((n + 1) * sz) = c1 ++ c2.take (n * sz) := by
        rw [Nat.add_mul, List.take_append]
        rw [List.take_of_length_le (by omega)]
        congr 2; omega
      rw [e]; exact ⟨c1, _, rfl, h1, ih _ _ h2⟩

theorem repL_get (xs : List α) (cs : List Value) (h : RepL R xs cs) (i : Nat) (d : α) (hi : i < xs.length) :
    R (xs.getD i d) ((cs.drop (i * sz)).take sz) := by
  have h1 := repL_drop hlen i xs cs h
  have e : xs.drop i = xs.getD i d :: xs.drop (i + 1) := by
    rw [List.drop_eq_getElem_cons hi]; simp [List.getD_eq_getElem?_getD, List.getElem?_eq_getElem hi]
  rw [e] at h1
  obtain ⟨c1, c2, e2, r1, _⟩ := h1
  rw [e2, List.take_append, List.take_of_length_le (by have := hlen _ _ r1; omega)]
  have := hlen _ _ r1
  rw [show sz - c1.length = 0 by omega]
  simpa using r1

theorem repL_set (xs : List α) (cs : List Value) (h : RepL R xs cs) (i : Nat) (y : α) (ds : List Value) (hi : i < xs.length) (hy : R y ds) :
    RepL R (xs.set i y) (cs.take (i * sz) ++ ds ++ cs.drop ((i + 1) * sz)) := by
  have h1 := repL_take hlen i xs cs h
  have h2 := repL_drop hlen (i + 1) xs cs h
  have e : xs.set i y = xs.take i ++ (y :: xs.drop (i + 1)) := by
    rw [List.set_eq_take_append_cons_drop, if_pos hi]
  rw [e, List.append_assoc]
  exact repL_append _ _ _ _ h1 ⟨ds, _, rfl, hy, h2⟩
end

theorem repL_replicate {α : Type} {R : α → List Value → Prop} {x : α} {c : List Value} (h : R x c) : ∀ n, RepL R (List.replicate n x) (List.replicate n c).flatten := by
  intro n
  induction n with
  | zero => simp [RepL]
  | succ n ih => exact ⟨c, _, by simp [List.replicate_succ], h, ih⟩

/-- The cells of a type's zero. -/
def zeroCs : Ty → List Value
  | .int k => [.int k 0]
  | .bool => [.bool false]
  | .str => [.string ByteArray.empty]
  | .unit => []
  | .pair a b => zeroCs a ++ zeroCs b
  | .arr n t => (List.replicate n (zeroCs t)).flatten
  | .slc _ => [.slice none 0 0]
  | .map _ _ => [.map none]
  | .fn _ _ => [.nilFunc]
  | .ref _ => [.pointer none]

theorem zeroCs_len (t : Ty) : (zeroCs t).length = t.size := by
  induction t with
  | pair a b iha ihb => simp only [zeroCs, List.length_append, iha, ihb, Ty.size]
  | arr n t ih => simp [zeroCs, Ty.size, ih]
  | _ => rfl

/-! ## Paths -/
/-- Every index of a path lies inside its array. -/
def okT : Ty → List Stp → Prop
  | _, [] => True
  | .pair a _, .fld 0 :: p => okT a p
  | .pair _ b, .fld (i + 1) :: p => okT b (.fld i :: p)
  | .arr n u, .idx i :: p => i < n ∧ okT u p
  | _, _ => False

theorem getP_rep {F : FH} : ∀ (t : Ty) (x : t.den) (cs : List Value) (p : List Stp), Rep F t x cs → okT t p → ∀ (v : TV), getP t x p = some v →
    ∃ o, t.nav p = some (v.t, o) ∧ o + v.t.size ≤ t.size ∧ Rep F v.t v.x ((cs.drop o).take v.t.size) := by
  intro t
  induction t with
  | int k => 
    intro x cs p h ok v e
    cases p with
    | nil => cases e; exact ⟨0, rfl, by simp, by rw [List.drop_zero, List.take_of_length_le (Nat.le_of_eq (rep_len _ _ _ h))]; exact h⟩
    | cons s p => simp [getP] at e
  | bool => 
    intro x cs p h ok v e
    cases p with
    | nil => cases e; exact ⟨0, rfl, by simp, by rw [List.drop_zero, List.take_of_length_le (Nat.le_of_eq (rep_len _ _ _ h))]; exact h⟩
    | cons s p => simp [getP] at e
  | str => 
    intro x cs p h ok v e
    cases p with
    | nil => cases e; exact ⟨0, rfl, by simp, by rw [List.drop_zero, List.take_of_length_le (Nat.le_of_eq (rep_len _ _ _ h))]; exact h⟩
    | cons s p => simp [getP] at e
  | unit => 
    intro x cs p h ok v e
    cases p with
    | nil => cases e; exact ⟨0, rfl, by simp, by rw [List.drop_zero, List.take_of_length_le (Nat.le_of_eq (rep_len _ _ _ h))]; exact h⟩
    | cons s p => simp [getP] at e
  | slc t _ => 
    intro x cs p h ok v e
    cases p with
    | nil => cases e; exact ⟨0, rfl, by simp, by rw [List.drop_zero, List.take_of_length_le (Nat.le_of_eq (rep_len _ _ _ h))]; exact h⟩
    | cons s p => simp [getP] at e
  | map k v _ _ => 
    intro x cs p h ok v e
    cases p with
    | nil => cases e; exact ⟨0, rfl, by simp, by rw [List.drop_zero, List.take_of_length_le (Nat.le_of_eq (rep_len _ _ _ h))]; exact h⟩
    | cons s p => simp [getP] at e
  | fn f c _ => 
    intro x cs p h ok v e
    cases p with
    | nil => cases e; exact ⟨0, rfl, by simp, by rw [List.drop_zero, List.take_of_length_le (Nat.le_of_eq (rep_len _ _ _ h))]; exact h⟩
    | cons s p => simp [getP] at e
  | ref c _ => 
    intro x cs p h ok v e
    cases p with
    | nil => cases e; exact ⟨0, rfl, by simp, by rw [List.drop_zero, List.take_of_length_le (Nat.le_of_eq (rep_len _ _ _ h))]; exact h⟩
    | cons s p => simp [getP] at e
  | pair a b iha ihb =>
    intro x cs p h ok v e
    cases p with
    | nil => cases e; exact ⟨0, rfl, by simp, by rw [List.drop_zero, List.take_of_length_le (Nat.le_of_eq (rep_len _ _ _ h))]; exact h⟩
    | cons s p =>
      obtain ⟨c1, c2, rfl, h1, h2⟩ := h
      have l1 := rep_len _ _ _ h1
      cases s with
      | idx i => cases e
      | fld i =>
        cases i with
        | zero =>
          obtain ⟨o, n1, n2, n3⟩ := iha _ _ _ h1 ok v e
          refine ⟨o, n1, by simp only [Ty.size]; omega, ?_⟩
          have : ((c1 ++ c2).drop o).take v.t.size = (c1.drop o).take v.t.size := by
            rw [List.drop_append, List.take_append]
            have : v.t.size - (c1.drop o).length = 0 := by rw [List.length_drop]; omega
            rw [this]; simp
          rw [this]; exact n3
        | succ i =>
          obtain ⟨o, n1, n2, n3⟩ := ihb _ _ _ h2 ok v e
          refine ⟨a.size + o, by simp only [Ty.nav, n1], by simp only [Ty.size]; omega, ?_⟩
          have : (c1 ++ c2).drop (a.size + o) = c2.drop o := by
            rw [List.drop_append, List.drop_eq_nil_of_le (by omega)]
            simp only [List.nil_append]; congr 1; omega
          rw [this]; exact n3
  | arr n t ih =>
    intro x cs p h ok v e
    cases p with
    | nil => cases e; exact ⟨0, rfl, by simp, by rw [List.drop_zero, List.take_of_length_le (Nat.le_of_eq (rep_len _ _ _ h))]; exact h⟩
    | cons s p =>
      cases s with
      | fld i => simp [getP] at e
      | idx i =>
        obtain ⟨h1, h2⟩ := h
        obtain ⟨k1, k2⟩ := ok
        have g := repL_get (fun x cs => rep_len t x cs) _ _ h2 i t.dflt (by omega)
        obtain ⟨o, n1, n2, n3⟩ := ih _ _ _ g k2 v e
        refine ⟨i * t.size + o, by simp only [Ty.nav, n1], ?_, ?_⟩
        · simp only [Ty.size]
          calc i * t.size + o + v.t.size ≤ i * t.size + t.size := by omega
            _ = (i + 1) * t.size := by rw [Nat.add_mul]; omega
            _ ≤ n * t.size := Nat.mul_le_mul_right _ k1
        · rw [List.drop_take, List.drop_drop, List.take_take] at n3
          rw [show min v.t.size (t.size - o) = v.t.size by omega] at n3
          exact n3

theorem okT_of_nav_pair {a b : Ty} {i : Nat} {p : List Stp} : okT (.pair a b) (.fld (i + 1) :: p) = okT b (.fld i :: p) := by
  simp [okT]

/-- A store: the cells of the new data are the old ones with a piece put in. -/
theorem setP_rep {F : FH} : ∀ (t : Ty) (x : t.den) (cs : List Value) (p : List Stp), Rep F t x cs → okT t p → ∀ (v : TV) (y : t.den), setP t x p v = some y →
    ∀ ds, Rep F v.t v.x ds →
    ∃ o, t.nav p = some (v.t, o) ∧ o + v.t.size ≤ t.size ∧ Rep F t y (cs.take o ++ ds ++ cs.drop (o + v.t.size)) := by
  intro t
  have top : ∀ (t : Ty) (x : t.den) (cs : List Value), Rep F t x cs → ∀ (v : TV) (y : t.den), v.as t = some y → ∀ ds, Rep F v.t v.x ds →
      ∃ o, t.nav [] = some (v.t, o) ∧ o + v.t.size ≤ t.size ∧ Rep F t y (cs.take o ++ ds ++ cs.drop (o + v.t.size)) := by
    intro t x cs h v y e ds hd
    obtain ⟨u, z⟩ := v
    simp only [TV.as] at e
    split at e
    · rename_i hu
      cases hu
      cases e
      refine ⟨0, by cases t <;> rfl, by simp, ?_⟩
      rw [List.take_zero, List.nil_append, List.drop_eq_nil_of_le (by have := rep_len _ _ _ h; simp; omega), List.append_nil]
      exact hd
    · cases e
  induction t with
  | int k =>
    intro x cs p h ok v y e ds hd
    cases p with
    | nil => exact top _ x cs h v y e ds hd
    | cons s p => simp [setP] at e
  | bool =>
    intro x cs p h ok v y e ds hd
    cases p with
    | nil => exact top _ x cs h v y e ds hd
    | cons s p => simp [setP] at e
  | str =>
    intro x cs p h ok v y e ds hd
    cases p with
    | nil => exact top _ x cs h v y e ds hd
    | cons s p => simp [setP] at e
  | unit =>
    intro x cs p h ok v y e ds hd
    cases p with
    | nil => exact top _ x cs h v y e ds hd
    | cons s p => simp [setP] at e
  | slc t _ =>
    intro x cs p h ok v y e ds hd
    cases p with
    | nil => exact top _ x cs h v y e ds hd
    | cons s p => simp [setP] at e
  | map k v _ _ =>
    intro x cs p h ok v y e ds hd
    cases p with
    | nil => exact top _ x cs h v y e ds hd
    | cons s p => simp [setP] at e
  | fn f c _ =>
    intro x cs p h ok v y e ds hd
    cases p with
    | nil => exact top _ x cs h v y e ds hd
    | cons s p => simp [setP] at e
  | ref c _ =>
    intro x cs p h ok v y e ds hd
    cases p with
    | nil => exact top _ x cs h v y e ds hd
    | cons s p => simp [setP] at e
  | pair a b iha ihb =>
    intro x cs p h ok v y e ds hd
    cases p with
    | nil => exact top _ x cs h v y e ds hd
    | cons s p =>
      obtain ⟨c1, c2, rfl, h1, h2⟩ := h
      have l1 := rep_len _ _ _ h1
      have l2 := rep_len _ _ _ h2
      have ld := rep_len _ _ _ hd
      cases s with
      | idx i => simp [setP] at e
      | fld i =>
        cases i with
        | zero =>
          simp only [setP] at e
          cases e1 : setP a x.1 p v with
          | none => simp [e1] at e
          | some y1 =>
            simp only [e1, Option.some.injEq] at e
            subst e
            obtain ⟨o, n1, n2, n3⟩ := iha _ _ _ h1 ok v y1 e1 ds hd
            refine ⟨o, n1, by simp only [Ty.size]; omega, _, _, ?_, n3, h2⟩
            rw [List.take_append, List.drop_append]
            rw [show o - c1.length = 0 by omega, show o + v.t.size - c1.length = 0 by omega]
            simp
        | succ i =>
          simp only [setP] at e
          cases e1 : setP b x.2 (.fld i :: p) v with
          | none => simp [e1] at e
          | some y1 =>
            simp only [e1, Option.some.injEq] at e
            subst e
            obtain ⟨o, n1, n2, n3⟩ := ihb _ _ _ h2 ok v y1 e1 ds hd
            refine ⟨a.size + o, by simp only [Ty.nav, n1], by simp only [Ty.size]; omega, c1, _, ?_, h1, n3⟩
            rw [List.take_append, List.drop_append, List.take_of_length_le (by omega : c1.length ≤ a.size + o), List.drop_eq_nil_of_le (by omega : c1.length ≤ a.size + o + v.t.size)]
            rw [show a.size + o - c1.length = o by omega, show a.size + o + v.t.size - c1.length = o + v.t.size by omega]
            simp
  | arr n t ih =>
    intro x cs p h ok v y e ds hd
    cases p with
    | nil => exact top _ x cs h v y e ds hd
    | cons s p =>
      cases s with
      | fld i => simp [setP] at e
      | idx i =>
        obtain ⟨h1, h2⟩ := h
        obtain ⟨k1, k2⟩ := ok
        simp only [setP] at e
        cases e1 : setP t (List.getD x i t.dflt) p v with
        | none => rw [e1] at e; cases e
        | some y1 =>
          simp only [e1, Option.some.injEq] at e
          subst e
          have g := repL_get (fun x cs => rep_len t x cs) _ _ h2 i t.dflt (by omega)
          obtain ⟨o, n1, n2, n3⟩ := ih _ _ _ g k2 v y1 e1 ds hd
          have lc := repL_rep_len h2
          have hb : (i + 1) * t.size ≤ n * t.size := Nat.mul_le_mul_right _ k1
          have hb1 : (i + 1) * t.size = i * t.size + t.size := by rw [Nat.add_mul]; omega
          refine ⟨i * t.size + o, by simp only [Ty.nav, n1], by simp only [Ty.size]; omega, by simp [h1], ?_⟩
          have st := repL_set (fun x cs => rep_len t x cs) _ _ h2 i y1 _ (by omega) n3
          rw [h1] at lc
          have e2 : cs.take (i * t.size) ++ (((cs.drop (i * t.size)).take t.size).take o ++ ds ++ ((cs.drop (i * t.size)).take t.size).drop (o + v.t.size)) ++ cs.drop ((i + 1) * t.size)
              = cs.take (i * t.size + o) ++ ds ++ cs.drop (i * t.size + o + v.t.size) := by
            rw [List.take_take, show min o t.size = o by omega, List.take_add, List.drop_take, List.drop_drop]
            have : cs.drop (i * t.size + o + v.t.size) = (cs.drop (i * t.size + o + v.t.size)).take (t.size - (o + v.t.size)) ++ cs.drop ((i + 1) * t.size) := by
              have e3 : cs.drop ((i + 1) * t.size) = (cs.drop (i * t.size + o + v.t.size)).drop (t.size - (o + v.t.size)) := by
                rw [List.drop_drop]; congr 1; omega
              rw [e3, List.take_append_drop]
            rw [this]
            simp only [List.append_assoc, Nat.add_assoc]
          rw [← e2]
          exact st

end Lc
