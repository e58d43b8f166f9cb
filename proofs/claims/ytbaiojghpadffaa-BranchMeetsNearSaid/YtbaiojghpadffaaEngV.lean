/- The engine, part V: from a row's reading of the arguments to data, and from a law's contract to the row's post. -/
import Derived.Test.YtbaiojghpadffaaEngU
import Derived.WalkKit
import Derived.ProofKit
import Derived.OpenShut
import Derived.Carry
import Derived.Deep.DeepHandedRow
import Derived.Lib.LaidTab
namespace Lc
open Go Go.RowKit Go.ChangeShapes Go.WideShapes Go.ChangeAt
set_option linter.unusedVariables false
set_option linter.unusedSimpArgs false

/-- Slices hold flat elements alone. -/
def Ty.one : Ty → Bool
  | .pair a b => a.one && b.one
  | .arr _ t => t.one
  | .slc t => t.flat
  | .map _ _ | .fn _ _ | .ref _ => false
  | _ => true

theorem one_flat : ∀ (t : Ty), t.flat = true → t.one = true := by
  intro t
  induction t with
  | pair a b iha ihb => intro h; simp only [Ty.flat, Bool.and_eq_true] at h; simp [Ty.one, iha h.1, ihb h.2]
  | arr n t ih => intro h; exact ih h
  | slc t _ => intro h; cases h
  | map k v _ _ => intro h; cases h
  | fn f c _ => intro h; cases h
  | ref c _ => intro h; cases h
  | _ => intro _; rfl

/-- What a reading says of numbers and lengths. -/
def Rng : (t : Ty) → t.den → Prop
  | .int k, x => k.min ≤ x ∧ x ≤ k.max
  | .bool, _ => True
  | .str, s => ByteArray.size s ≤ 2 ^ 63 - 1
  | .unit, _ => True
  | .pair a b, x => Rng a x.1 ∧ Rng b x.2
  | .arr n t, xs => List.length xs = n ∧ ∀ x, x ∈ xs → Rng t x
  | .slc t, xs => List.length xs ≤ 2 ^ 63 - 1 ∧ ∀ x, x ∈ xs → Rng t x
  | .map _ _, _ => True
  | .fn _ _, _ => True
  | .ref _, _ => True

def RngT : (ts : List Ty) → Tup ts → Prop
  | [], _ => True
  | t :: ts, x => Rng t x.1 ∧ RngT ts x.2

/-- No slice and no string is longer than n. -/
def Small (n : Nat) : (t : Ty) → t.den → Prop
  | .int _, _ => True
  | .bool, _ => True
  | .str, s => ByteArray.size s ≤ n
  | .unit, _ => True
  | .pair a b, x => Small n a x.1 ∧ Small n b x.2
  | .arr _ t, xs => ∀ x, x ∈ xs → Small n t x
  | .slc t, xs => List.length xs ≤ n ∧ ∀ x, x ∈ xs → Small n t x
  | .map _ _, _ => True
  | .fn _ _, _ => True
  | .ref _, _ => True
def SmallT (n : Nat) : (ts : List Ty) → Tup ts → Prop
  | [], _ => True
  | t :: ts, x => Small n t x.1 ∧ SmallT n ts x.2
theorem Small.mono {n m : Nat} (h : n ≤ m) : ∀ (t : Ty) (x : t.den), Small n t x → Small m t x := by
  intro t
  induction t with
  | int k => intro x _; trivial
  | bool => intro x _; trivial
  | str => intro x h1; exact Nat.le_trans h1 h
  | unit => intro x _; trivial
  | pair a b iha ihb => intro x h1; exact ⟨iha _ h1.1, ihb _ h1.2⟩
  | arr k t ih => intro x h1 y hy; exact ih y (h1 y hy)
  | slc t ih => intro x h1; exact ⟨Nat.le_trans h1.1 h, fun y hy => ih y (h1.2 y hy)⟩
  | map k v _ _ => intro x _; trivial
  | fn f c _ => intro x _; trivial
  | ref c _ => intro x _; trivial
/-- A measure of readings: parts weigh no more than the whole. -/
structure Meas {H : Type} (B : DataW H → Nat) : Prop where
  str : ∀ l, l.length ≤ B (.lit (.string l))
  agg : ∀ ps p, p ∈ ps → B p ≤ B (.agg ps)
  len : ∀ es sp, es.length ≤ B (.slice es sp)
  elem : ∀ es sp e, e ∈ es → B e ≤ B (.slice es sp)

def spotless : Value → Prop
  | .slice (some a) _ _ => a.spot = none
  | _ => True

theorem cellsOf_eq {P : Program} {t : Ty} {id : TypeId} (h : TyOk P t id) : P.cellsOf id = t.size := by
  obtain ⟨i, z, i1, i2, _⟩ := h.info.out
  simp [Program.cellsOf, i1, i2]

section
variable {H : Type} {enc : TypeId × Value → H} {P : Program} {w : World} {base : Nat} {sp : Nat → Bool} {held : Bool}

theorem cells?_get {a : Addr} {n : Nat} {cs : List Value} (h : w.cells? base a n = some cs) (ha : a.spot = none) : cs.length = n ∧ FAt (full w.heap) a.block a.off cs := by
  unfold World.cells? at h
  split at h
  · have hl := Lib.mapM_length h
    refine ⟨by simpa using hl, fun i c hc => ?_⟩
    have hi : i < n := by
      have := (List.getElem?_eq_some_iff.1 hc).1
      simp at hl; omega
    obtain ⟨b, hb1, hb2⟩ := Lib.mapM_at h i i (by simp [hi])
    rw [hc] at hb1; cases hb1
    simp only [full]
    rw [← cell?_eq]
    have : a.add i = ⟨a.block, a.off + i, none⟩ := by
      obtain ⟨b, o, s⟩ := a
      simp only at ha
      subst ha
      simp [Addr.add]
    rw [← this]; exact hb2
  · cases h

theorem repL_of {u : Ty} {F : FH} {Q : u.den → Prop} : ∀ (n : Nat) (cs : List Value), cs.length = n * u.size → (∀ i, i < n → ∃ y : u.den, Rep F u y ((cs.drop (i * u.size)).take u.size) ∧ Q y) →
    ∃ ys : List u.den, ys.length = n ∧ RepL (Rep F u) ys cs ∧ ∀ y, y ∈ ys → Q y := by
  intro n
  induction n with
  | zero => intro cs hl _; exact ⟨[], rfl, List.eq_nil_of_length_eq_zero (by simpa using hl), (fun y hy => by cases hy)⟩
  | succ n ih =>
    intro cs hl h
    obtain ⟨y, h1, h2⟩ := h 0 (by omega)
    obtain ⟨ys, k1, k2, k3⟩ := ih (cs.drop u.size) (by rw [List.length_drop, hl, Nat.add_mul]; omega) (fun i hi => by
      obtain ⟨z, z1, z2⟩ := h (i + 1) (by omega)
      refine ⟨z, ?_, z2⟩
      rw [List.drop_drop]
      rw [show u.size + i * u.size = (i + 1) * u.size by rw [Nat.add_mul]; omega]
      exact z1)
    refine ⟨y :: ys, by simp [k1], ⟨cs.take u.size, cs.drop u.size, (List.take_append_drop _ _).symm, ?_, k2⟩, ?_⟩
    · simpa using h1
    · intro z hz
      rcases List.mem_cons.1 hz with rfl | hz
      · exact h2
      · exact k3 z hz

theorem sub_spotless {cs : List Value} (h : ∀ c, c ∈ cs → spotless c) (o n : Nat) : ∀ c, c ∈ (cs.drop o).take n → spotless c :=
  fun c hc => h c (List.mem_of_mem_drop (List.mem_of_mem_take hc))

theorem orSub {p : Prop} {cs : List Value} (h : p ∨ ∀ c, c ∈ cs → spotless c) (o n : Nat) : p ∨ ∀ c, c ∈ (cs.drop o).take n → spotless c := by
  rcases h with h | h
  · exact .inl h
  · exact .inr (sub_spotless h o n)

theorem wf_rng {k : IntKind} {n : Int} (h : (Lit.int k n).wf = true) : k.min ≤ n ∧ n ≤ k.max := by
  simpa [Lit.wf] using h

theorem trod_rep : ∀ (t : Ty),
    (∀ (fuel : Nat) (id : TypeId) (cs : List Value) (x : DataW H × List MemPlace), TyOk P t id → t.one = true → (t.flat = true ∨ ∀ c, c ∈ cs → spotless c) → DataW.trod enc P w base sp held fuel id cs = some x →
      ∃ y : t.den, Rep (full w.heap) t y cs ∧ Rng t y ∧ ∀ B : DataW H → Nat, Meas B → Small (B x.1) t y) ∧
    (∀ (n : Nat) (fs : List Field) (off : Nat) (cs : List Value), tOkB P t (.inr (fs, off)) = true → t.one = true → (t.flat = true ∨ ∀ c, c ∈ cs → spotless c) → cs.length = off + t.size →
      (∀ f, f ∈ fs → ∃ z, DataW.trod enc P w base sp held n f.type ((cs.drop f.offset).take (P.cellsOf f.type)) = some z) → ∃ y : t.den, Rep (full w.heap) t y (cs.drop off) ∧ Rng t y ∧
        ∀ (B : DataW H → Nat) (m : Nat), Meas B → (∀ f, f ∈ fs → ∀ z, DataW.trod enc P w base sp held n f.type ((cs.drop f.offset).take (P.cellsOf f.type)) = some z → B z.1 ≤ m) → Small m t y) := by
  intro t
  induction t with
  | int k =>
    refine ⟨fun fuel id cs x hty _ _ h => ?_, fun n fs off cs h => by cases fs <;> cases h⟩
    obtain ⟨m, rfl, rfl, hw⟩ := DataW.trod_int hty.int h
    exact ⟨m, rfl, wf_rng hw, fun _ _ => trivial⟩
  | map k v _ _ => exact ⟨fun fuel id cs x hty h1 => (by cases h1), fun n fs off cs h => by cases fs <;> cases h⟩
  | fn f c _ => exact ⟨fun fuel id cs x hty h1 => (by cases h1), fun n fs off cs h => by cases fs <;> cases h⟩
  | ref c _ => exact ⟨fun fuel id cs x hty h1 => (by cases h1), fun n fs off cs h => by cases fs <;> cases h⟩
  | bool =>
    refine ⟨fun fuel id cs x hty _ _ h => ?_, fun n fs off cs h => by cases fs <;> cases h⟩
    obtain ⟨m, rfl, rfl⟩ := DataW.trod_bool hty.bool h
    exact ⟨m, rfl, trivial, fun _ _ => trivial⟩
  | str =>
    refine ⟨fun fuel id cs x hty _ _ h => ?_, fun n fs off cs h => by cases fs <;> cases h⟩
    obtain ⟨m, rfl, rfl, hm⟩ := DataW.trod_string hty.str h
    exact ⟨m, rfl, hm, fun B hB => by have := hB.str m.data.toList; rw [Array.length_toList] at this; exact this⟩
  | unit =>
    refine ⟨fun fuel id cs x hty _ _ h => ?_, fun n fs off cs h _ _ hl _ => ?_⟩
    · obtain ⟨fs, h1, h2, h3⟩ := hty.unit
      obtain ⟨xs, m, rfl, rfl, hl, _⟩ := DataW.trod_struct h1 h
      refine ⟨(), ?_, trivial, fun _ _ => trivial⟩
      rw [cellsOf_eq hty] at hl
      exact List.eq_nil_of_length_eq_zero hl
    · refine ⟨(), ?_, trivial, fun _ _ _ _ => trivial⟩
      exact List.eq_nil_of_length_eq_zero (by rw [List.length_drop, hl]; simp [Ty.size])
  | pair a b iha ihb =>
    have ofl : ∀ {cs : List Value}, ((Ty.pair a b).flat = true ∨ ∀ c, c ∈ cs → spotless c) → (a.flat = true ∨ ∀ c, c ∈ cs → spotless c) ∧ (b.flat = true ∨ ∀ c, c ∈ cs → spotless c) := by
      intro cs h
      rcases h with h | h
      · simp only [Ty.flat, Bool.and_eq_true] at h; exact ⟨.inl h.1, .inl h.2⟩
      · exact ⟨.inr h, .inr h⟩
    have step : ∀ (n : Nat) (f : Field) (fs : List Field) (off : Nat) (cs : List Value), f.offset = off → TyOk P a f.type → tOkB P b (.inr (fs, off + a.size)) = true → (Ty.pair a b).one = true → ((Ty.pair a b).flat = true ∨ ∀ c, c ∈ cs → spotless c) → cs.length = off + (Ty.pair a b).size →
        (∀ g, g ∈ f :: fs → ∃ z, DataW.trod enc P w base sp held n g.type ((cs.drop g.offset).take (P.cellsOf g.type)) = some z) → ∃ y : (Ty.pair a b).den, Rep (full w.heap) (.pair a b) y (cs.drop off) ∧ Rng (.pair a b) y ∧
          ∀ (B : DataW H → Nat) (m : Nat), Meas B → (∀ g, g ∈ f :: fs → ∀ z, DataW.trod enc P w base sp held n g.type ((cs.drop g.offset).take (P.cellsOf g.type)) = some z → B z.1 ≤ m) → Small m (.pair a b) y := by
      intro n f fs off cs ho hta htb hone hsp hl hf
      simp only [Ty.one, Bool.and_eq_true] at hone
      obtain ⟨z, hz⟩ := hf f List.mem_cons_self
      have hz0 := hz
      rw [ho, cellsOf_eq hta] at hz
      obtain ⟨ya, a1, a2, a3⟩ := iha.1 n f.type _ z hta hone.1 (orSub (ofl hsp).1 _ _) hz
      obtain ⟨yb, b1, b2, b3⟩ := ihb.2 n fs (off + a.size) cs htb hone.2 (ofl hsp).2 (by rw [hl]; simp [Ty.size]; omega) (fun g hg => hf g (List.mem_cons_of_mem _ hg))
      refine ⟨(ya, yb), ⟨_, _, ?_, a1, b1⟩, ⟨a2, b2⟩, fun B m hB hm => ⟨(a3 B hB).mono (hm f List.mem_cons_self z hz0) _ _, b3 B m hB (fun g hg => hm g (List.mem_cons_of_mem _ hg))⟩⟩
      rw [← List.drop_drop]
      exact (List.take_append_drop _ _).symm
    refine ⟨fun fuel id cs x hty hone hsp h => ?_, fun n fs off cs h hone hsp hl hf => ?_⟩
    · obtain ⟨fs, f, r, h1, h2, h3, h4, h5, h6, h7, h8⟩ := hty.pair
      obtain ⟨xs, m, rfl, rfl, hl, hlen, hfs⟩ := DataW.trod_struct h1 h
      rw [cellsOf_eq hty] at hl
      have := step m f r 0 cs h4 h7 (by rw [Nat.zero_add]; exact h8) hone hsp (by omega) (fun g hg => by
        rw [← h3] at hg
        obtain ⟨i, hi, e⟩ := List.getElem_of_mem hg
        have hi' : i < fs.size := by simpa using hi
        have e2 : fs[i]? = some g := by rw [Array.getElem?_eq_getElem hi']; simpa using e
        have := hfs i g e2
        rw [this]
        exact ⟨_, List.getElem?_eq_getElem (by omega)⟩)
      rw [List.drop_zero] at this
      obtain ⟨y, y1, y2, y3⟩ := this
      refine ⟨y, y1, y2, fun B hB => y3 B _ hB (fun g hg z hz => ?_)⟩
      rw [← h3] at hg
      obtain ⟨i, hi, e⟩ := List.getElem_of_mem hg
      have hi' : i < fs.size := by simpa using hi
      have e2 : fs[i]? = some g := by rw [Array.getElem?_eq_getElem hi']; simpa using e
      rw [hfs i g e2] at hz
      exact hB.agg _ _ (List.mem_map.2 ⟨z, List.mem_of_getElem? hz, rfl⟩)
    · cases fs with
      | nil => cases h
      | cons f fs =>
        simp only [tOkB, Bool.and_eq_true, beq_iff_eq, bne_iff_ne, ne_eq] at h
        exact step n f fs off cs h.1.1.1.1 h.1.2 h.2 hone hsp hl hf
  | arr n u ih =>
    refine ⟨fun fuel id cs x hty hone hsp h => ?_, fun n fs off cs h => by cases fs <;> cases h⟩
    obtain ⟨e, h1, h2⟩ := hty.arr
    obtain ⟨xs, m, rfl, rfl, hl, hlen, hfs⟩ := DataW.trod_array h1 h
    rw [cellsOf_eq hty] at hl
    obtain ⟨ys, y1, y2, y3⟩ := repL_of (F := full w.heap) (u := u) (Q := fun y => Rng u y ∧ ∀ B : DataW H → Nat, Meas B → Small (B (.agg (xs.map (·.1)))) u y) n cs hl (fun i hi => by
      have h3 := hfs i hi
      rw [cellsOf_eq h2, List.getElem?_eq_getElem (by omega)] at h3
      obtain ⟨y, q1, q2, q3⟩ := ih.1 m e _ _ h2 hone (orSub hsp _ _) h3
      exact ⟨y, q1, q2, fun B hB => (q3 B hB).mono (hB.agg _ _ (List.mem_map.2 ⟨_, List.getElem_mem _, rfl⟩)) _ _⟩)
    exact ⟨ys, ⟨y1, y2⟩, ⟨y1, fun y hy => (y3 y hy).1⟩, fun B hB y hy => (y3 y hy).2 B hB⟩
  | slc u ih =>
    refine ⟨fun fuel id cs x hty hone hsp h => ?_, fun n fs off cs h => by cases fs <;> cases h⟩
    obtain ⟨e, h1, h2⟩ := hty.slc
    rcases DataW.trod_slice h1 h with ⟨rfl, rfl⟩ | ⟨a, len, cap, elems, rest, m, rfl, rfl, rfl, hb, hlc, hcap, hel, hes, _⟩
    · exact ⟨[], ⟨_, rfl, .inl ⟨rfl, rfl, rfl⟩⟩, ⟨by simp, (fun y hy => by cases hy)⟩, fun B hB => ⟨by simp, (fun y hy => by cases hy)⟩⟩
    · have hspot : a.spot = none := by
        rcases hsp with h | h
        · cases h
        · exact h _ List.mem_cons_self
      have hel2 : ∀ i, i < len → ∃ (y : u.den) (cc : List Value), cc.length = u.size ∧ FAt (full w.heap) a.block (a.off + i * u.size) cc ∧ Rep (full w.heap) u y cc ∧ (Rng u y ∧ ∀ B : DataW H → Nat, Meas B → Small (B (.slice (elems.map (·.1)) (rest.map (·.1)))) u y) := by
        intro i hi
        have h3 := hes i hi
        rw [List.getElem?_eq_getElem (by omega), Option.bind_eq_some_iff] at h3
        obtain ⟨cc, c1, c2⟩ := h3
        rw [cellsOf_eq h2] at c1
        have hadd : a.add (i * u.size) = ⟨a.block, a.off + i * u.size, none⟩ := by
          obtain ⟨b, o, s⟩ := a
          simp only at hspot
          subst hspot
          simp [Addr.add]
        rw [hadd] at c1
        obtain ⟨d1, d2⟩ := cells?_get c1 rfl
        obtain ⟨y, y1, y2, y3⟩ := ih.1 m e cc _ h2 (one_flat u hone) (.inl hone) c2
        exact ⟨y, cc, d1, d2, y1, y2, fun B hB => (y3 B hB).mono (hB.elem _ _ _ (List.mem_map.2 ⟨_, List.getElem_mem _, rfl⟩)) _ _⟩
      have build : ∀ k, k ≤ len → ∃ (ys : List u.den) (cc : List Value), ys.length = k ∧ cc.length = k * u.size ∧ RepL (Rep (full w.heap) u) ys cc ∧ FAt (full w.heap) a.block a.off cc ∧ ∀ y, y ∈ ys → (Rng u y ∧ ∀ B : DataW H → Nat, Meas B → Small (B (.slice (elems.map (·.1)) (rest.map (·.1)))) u y) := by
        intro k
        induction k with
        | zero => intro _; exact ⟨[], [], rfl, by simp, rfl, (fun i c hc => by cases hc), (fun y hy => by cases hy)⟩
        | succ k ihk =>
          intro hk
          obtain ⟨ys, cc, q1, q2, q3, q4, q5⟩ := ihk (by omega)
          obtain ⟨y, c2, p1, p2, p3, p4⟩ := hel2 k (by omega)
          refine ⟨ys ++ [y], cc ++ c2, by simp [q1], by rw [List.length_append, q2, p1, Nat.add_mul]; omega, ?_, ?_, ?_⟩
          · clear q1 q2 q4 q5
            induction ys generalizing cc with
            | nil => cases q3; exact ⟨c2, [], by simp, p3, rfl⟩
            | cons z zs ihz =>
              obtain ⟨c3, c4, rfl, r1, r2⟩ := q3
              exact ⟨c3, c4 ++ c2, by simp, r1, ihz c4 r2⟩
          · intro i c hc
            rw [List.getElem?_append] at hc
            split at hc
            · exact q4 i c hc
            · rename_i hi
              have := p2 (i - cc.length) c hc
              rw [q2] at this
              rw [show a.off + i = a.off + k * u.size + (i - k * u.size) by omega]
              exact this
          · intro z hz
            rcases List.mem_append.1 hz with hz | hz
            · exact q5 z hz
            · rw [List.mem_singleton] at hz; subst hz; exact p4
      obtain ⟨ys, cc, q1, q2, q3, q4, q5⟩ := build len (Nat.le_refl _)
      refine ⟨ys, ⟨_, rfl, .inr ⟨a.block, a.off, cap, cc, ?_, by simp only [q1]; exact hlc, q3, q4⟩⟩, ⟨?_, fun y hy => (q5 y hy).1⟩, fun B hB => ⟨?_, fun y hy => (q5 y hy).2 B hB⟩⟩
      · obtain ⟨b, o, s⟩ := a
        simp only at hspot
        subst hspot
        simp [q1]
      · simp only [q1]
        exact Nat.le_trans hlc hcap
      · have := hB.len (elems.map (·.1)) (rest.map (·.1))
        rw [List.length_map, hel] at this
        rw [q1]; exact this
end

/-- Cells of an argument that came in. -/
theorem spotless_of {P : Program} {W : World} {base : Nat} {t : TypeId} {v : Value} (h : Value.okWide P W .any base t v) : ∀ c, c ∈ v.cells.toList → spotless c := by
  have one : ∀ (u : TypeId) (c : Value), Cell.okWide P W .any base u c → spotless c := by
    intro u c hc
    cases c with
    | slice a n m =>
      cases a with
      | none => trivial
      | some a =>
        show a.spot = none
        unfold Cell.okWide at hc
        cases hu : P.underlying u with
        | none => simp [hu, Cell.ok] at hc
        | some d =>
          rw [hu] at hc
          cases d <;> simp [Cell.ok, hu] at hc
          exact hc.2.2.2.1
    | _ => trivial
  intro c hc
  unfold Value.okWide at h
  have agg : (∃ cs, v = .agg cs ∧ cs.size = P.cellsOf t ∧ Row.okWide P W .any base t cs) → spotless c := by
    rintro ⟨cs, rfl, _, ts, _, _, hrow⟩
    simp only [Value.cells] at hc
    obtain ⟨i, hi, e⟩ := List.getElem_of_mem hc
    have hi' : i < cs.size := by simpa using hi
    obtain ⟨u, _, hu⟩ := hrow i c (by rw [Array.getElem?_eq_getElem hi']; simpa using e)
    exact one u c hu
  split at h
  · exact agg h
  · exact agg h
  · by_cases hv : ∃ cs, v = .agg cs
    · obtain ⟨cs, rfl⟩ := hv
      exfalso
      unfold Cell.okWide at h
      cases hu : P.underlying t with
      | none => simp [hu, Cell.ok] at h
      | some d => rw [hu] at h; cases d <;> simp [Cell.ok, hu] at h
    · have : v.cells.toList = [v] := by
        cases v <;> first | rfl | (exact absurd ⟨_, rfl⟩ hv)
      rw [this, List.mem_singleton] at hc
      subst hc
      exact one t c h

def tysOkB (P : Program) : List Ty → List TypeId → Bool
  | [], [] => true
  | t :: ts, i :: is => tOkB P t (.inl i) && t.one && P.readableRec i && decide (i < P.types.size) && tysOkB P ts is
  | _, _ => false

theorem shapeV {H : Type} {enc : TypeId × Value → H} {P : Program} {w : World} {base b0 : Nat} {sp : Nat → Bool} {held : Bool} {t : Ty} {i : TypeId} {v : Value} {d : DataW H} {ps : List MemPlace}
    (hty : TyOk P t i) (hone : t.one = true) (hv : Value.okWide P w .any b0 i v) (h : DataW.Trod enc P w base sp held i v d ps) : ∃ x : t.den, RepV (full w.heap) t x v ∧ Rng t x ∧ ∀ B : DataW H → Nat, Meas B → Small (B d) t x := by
  obtain ⟨n, hn⟩ := h
  obtain ⟨y, h1, h2, h3⟩ := (trod_rep t).1 n i _ _ hty hone (.inr (spotless_of hv)) hn
  refine ⟨y, repV_of_cells ?_ h1, h2, h3⟩
  unfold Value.okWide at hv
  have scal : (∀ cs, v ≠ .agg cs) → isAggV v = false := by
    intro h; cases v <;> first | rfl | exact absurd rfl (h _)
  have noAgg : Cell.okWide P w .any b0 i v → ∀ cs, v ≠ .agg cs := by
    rintro h cs rfl
    unfold Cell.okWide at h
    cases hu : P.underlying i with
    | none => simp [hu, Cell.ok] at h
    | some d => rw [hu] at h; cases d <;> simp [Cell.ok, hu] at h
  cases t with
  | int k => rw [hty.int] at hv; simp only at hv; rw [scal (noAgg hv)]; rfl
  | bool => rw [hty.bool] at hv; simp only at hv; rw [scal (noAgg hv)]; rfl
  | str => rw [hty.str] at hv; simp only at hv; rw [scal (noAgg hv)]; rfl
  | slc u => obtain ⟨e, h1, _⟩ := hty.slc; rw [h1] at hv; simp only at hv; rw [scal (noAgg hv)]; rfl
  | map p q => cases hone
  | fn p q => cases hone
  | ref p => cases hone
  | unit => obtain ⟨fs, h1, _⟩ := hty.unit; rw [h1] at hv; obtain ⟨cs, rfl, _⟩ := hv; rfl
  | pair a b => obtain ⟨fs, _, _, h1, _⟩ := hty.pair; rw [h1] at hv; obtain ⟨cs, rfl, _⟩ := hv; rfl
  | arr n u => obtain ⟨e, h1, _⟩ := hty.arr; rw [h1] at hv; obtain ⟨cs, rfl, _⟩ := hv; rfl

theorem args_rep {H : Type} {enc : TypeId × Value → H} {P : Program} {w : World} {b0 : Nat} : ∀ (ts : List Ty) (is : List TypeId) (vs : List Value) (ds : List (DataW H)) (ps : List MemPlace), tysOkB P ts is = true →
    (∀ (j : Nat) t v, is[j]? = some t → vs[j]? = some v → Value.okWide P w .any b0 t v) → DataW.TrodAll enc P w 0 (fun _ => true) true is vs ds ps → ∃ xs : Tup ts, RepArgs (full w.heap) ts xs vs ∧ RngT ts xs ∧ ∀ (B : DataW H → Nat) (m : Nat), Meas B → (∀ d, d ∈ ds → B d ≤ m) → SmallT m ts xs := by
  intro ts
  induction ts with
  | nil =>
    intro is vs ds ps h hv ht
    cases is with
    | nil => obtain ⟨rfl, _, _⟩ := trodAll_nil ht; exact ⟨(), rfl, trivial, fun _ _ _ _ => trivial⟩
    | cons i is => cases h
  | cons t ts ih =>
    intro is vs ds ps h hv ht
    cases is with
    | nil => cases h
    | cons i is =>
      simp only [tysOkB, Bool.and_eq_true] at h
      obtain ⟨v, vs', d, ds', p, q, rfl, rfl, rfl, h0, r0⟩ := trodAll_cons ht
      obtain ⟨x, x1, x2, x3⟩ := shapeV h.1.1.1.1 h.1.1.1.2 (hv 0 i v rfl rfl) h0
      obtain ⟨xs, y1, y2, y3⟩ := ih is vs' ds' q h.2 (fun j t v h1 h2 => hv (j + 1) t v h1 h2) r0
      exact ⟨(x, xs), ⟨v, vs', rfl, x1, y1⟩, ⟨x2, y2⟩, fun B m hB hm => ⟨(x3 B hB).mono (hm d List.mem_cons_self) _ _, y3 B m hB (fun e he => hm e (List.mem_cons_of_mem _ he))⟩⟩

theorem args_stay {H : Type} {enc : TypeId × Value → H} {P : Program} (hl : laidOutB P = true) {W W' : World} (hb : Below W.heap.size W W') {sp : Nat → Bool} : ∀ (ts : List Ty) (is : List TypeId) (vs : List Value) (ds : List (DataW H)) (ps : List MemPlace), tysOkB P ts is = true →
    DataW.TrodAll enc P W 0 (fun _ => true) true is vs ds ps → (∀ p, p ∈ ps → p.block < W.heap.size) → (∀ p, p ∈ ps → sp p.block = true) → DataW.TrodAll enc P W' 0 sp true is vs ds ps := by
  intro ts
  induction ts with
  | nil =>
    intro is vs ds ps h ht _ _
    cases is with
    | nil => obtain ⟨rfl, rfl, rfl⟩ := trodAll_nil ht; exact trodAll_mk0
    | cons i is => cases h
  | cons t ts ih =>
    intro is vs ds ps h ht hlt hsp
    cases is with
    | nil => cases h
    | cons i is =>
      simp only [tysOkB, Bool.and_eq_true, decide_eq_true_eq] at h
      obtain ⟨v, vs', d, ds', p, q, rfl, rfl, rfl, h0, r0⟩ := trodAll_cons ht
      refine trodAll_cons_mk (WideElems.Trod_stays hl h.1.1.2 h.1.2 h0 (fun x hx => hb.same (hlt x (List.mem_append_left _ hx))) (fun x hx => hsp x (List.mem_append_left _ hx))) ?_
      exact ih is vs' ds' q h.2 r0 (fun x hx => hlt x (List.mem_append_right _ hx)) (fun x hx => hsp x (List.mem_append_right _ hx))

/-- THE BRIDGE: a law's contract gives what its row asks. -/
theorem law_postB {H : Type} {enc : TypeId × Value → H} {P : Program} {G : Nat → Option TV} {f : FuncId} {fn : Func} {ts : List Ty} {pre : Tup ts → Prop} {s : ChangeSpec} {fresh handsOn again : Bool} {tb : TypeId} {is : List TypeId}
    {W : World} {base : Nat} {args : Array Value} {ds gs : List (DataW H)} {before : List MemPlace}
    (hS : Sound P G f ⟨ts, [.deep .bool], pre, fun _ => (true, ())⟩) (hl : laidOutB P = true) (hp : fn.params.toList = is) (hty : tysOkB P ts is = true) (hres : fn.resultTypes = #[tb]) (hb : P.underlying tb = some .bool)
    (hvars : s.vars = []) (hspec : ∀ ds : List (DataW H), ds.length = ts.length → s.fn H ds = { results := [.lit (.bool true)], args := ds })
    (hval : ∀ (j : Nat) t v, fn.params[j]? = some t → args[j]? = some v → Value.okWide P W .any base t v)
    (hW : DataW.Whole enc P fn.params.toList s.vars false W args.toList ds gs before) (hG : GlobOk G (full W.heap)) (hpre : ∀ xs, RngT ts xs → (∀ (B : DataW H → Nat) (m : Nat), Meas B → (∀ d, d ∈ ds → B d ≤ m) → SmallT m ts xs) → pre xs) :
    Calls P f args W fun e W' => ∃ v, e = .returned v ∧ s.post enc P fn false fresh handsOn again W args v W' := by
  have hW' := hW
  rw [hvars] at hW
  obtain ⟨p, q, hA, hV, rfl, hz, hn⟩ := hW
  obtain ⟨rfl, rfl⟩ := trodVars_none hV
  rw [hp] at hA
  obtain ⟨xs, x1, x2, x3⟩ := args_rep ts is args.toList ds p hty (fun j t v h1 h2 => hval j t v (by rw [← hp] at h1; simpa using h1) (by simpa using h2)) hA
  have hc := hS.calls (full W.heap) W xs args.toList (fun b i v h => h) hG x1 (hpre xs x2 x3)
  have hlen : ds.length = ts.length := by
    have : ∀ (ts : List Ty) (is : List TypeId) (vs : List Value) (ds : List (DataW H)) (ps : List MemPlace), tysOkB P ts is = true → DataW.TrodAll enc P W 0 (fun _ => true) true is vs ds ps → ds.length = ts.length := by
      intro ts
      induction ts with
      | nil => intro is vs ds ps h ht; cases is with
        | nil => obtain ⟨_, rfl, _⟩ := trodAll_nil ht; rfl
        | cons i is => cases h
      | cons t ts ih => intro is vs ds ps h ht; cases is with
        | nil => cases h
        | cons i is =>
          simp only [tysOkB, Bool.and_eq_true] at h
          obtain ⟨v, vs', d, ds', p, q, rfl, rfl, rfl, h0, r0⟩ := trodAll_cons ht
          simp [ih is vs' ds' q h.2 r0]
    exact this ts is _ _ _ hty hA
  have eargs : args.toList.toArray = args := by simp
  rw [eargs] at hc
  refine hc.mono fun e W' ⟨v, F', rv, bs, he, hle, hF1, hF2, hr, hnd, hrv, hbel⟩ => ?_
  subst he
  obtain ⟨v0, r, rfl, hv0, hr0⟩ := hr
  obtain ⟨rfl, rfl⟩ : r = [] ∧ bs = [] := hr0
  have hv0 : v0 = .bool true := repV_bool.1 hv0
  subst hv0
  have hv : v = .bool true := by
    rcases hrv with ⟨u, h1, h2⟩ | ⟨h1, _⟩
    · cases h1; exact h2
    · exact absurd rfl h1
  subst hv
  refine ⟨_, rfl, ?_⟩
  have hlt : ∀ x, x ∈ p → x.block < W.heap.size := fun x hx => by simpa using hW'.lt x (by simpa using hx)
  simp only [List.append_nil] at hW'
  have hs := hspec ds hlen
  refine ⟨ds, [], p, [], p, [], hW', ?_, ?_, ?_, ?_, fun _ => ⟨?_, ?_⟩⟩
  · rw [List.append_nil, hs, hres]
    exact trodAll_cons_mk (shut_bool hb _) trodAll_mk0
  · rw [List.append_nil, hs, hp]
    exact args_stay hl hbel ts is _ _ _ hty hA hlt (fun x hx => by simpa using hlt x hx)
  · rw [List.append_nil, hs, hvars]
    rfl
  · exact World.keptBut_mono (fun x hx => ⟨hx, .inr (by simpa using hx)⟩) (hbel.frame (· ∈ p))
  · exact ok_one hres rfl (okWide_bool_mk hb _)
  · refine ⟨[.lit (.bool true)] ++ ds, [], ([] ++ p) ++ [], ⟨[] ++ p, [], ?_, ?_, rfl, ?_, ?_⟩, ?_⟩
    · refine trodAll_append ?_ ?_
      · rw [hp]
        exact args_stay hl hbel ts is _ _ _ hty hA hlt (fun _ _ => rfl)
      · rw [hres]
        exact trodAll_cons_mk (shut_bool hb _) trodAll_mk0
    · rw [hvars]; rfl
    · intro b off hb'
      have hb2 : MemPlace.cell b off ∈ p := by simpa using hb'
      rw [hbel.frozen (hlt _ hb2)]
      exact hz b off (by simpa using hb2)
    · intro h; cases h
    · intro x hx _; simpa using hx

theorem law_post {H : Type} {enc : TypeId × Value → H} {P : Program} {G : Nat → Option TV} {f : FuncId} {fn : Func} {ts : List Ty} {pre : Tup ts → Prop} {s : ChangeSpec} {fresh handsOn again : Bool} {tb : TypeId} {is : List TypeId}
    {W : World} {base : Nat} {args : Array Value} {ds gs : List (DataW H)} {before : List MemPlace}
    (hS : Sound P G f ⟨ts, [.deep .bool], pre, fun _ => (true, ())⟩) (hl : laidOutB P = true) (hp : fn.params.toList = is) (hty : tysOkB P ts is = true) (hres : fn.resultTypes = #[tb]) (hb : P.underlying tb = some .bool)
    (hvars : s.vars = []) (hspec : ∀ ds : List (DataW H), ds.length = ts.length → s.fn H ds = { results := [.lit (.bool true)], args := ds })
    (hval : ∀ (j : Nat) t v, fn.params[j]? = some t → args[j]? = some v → Value.okWide P W .any base t v)
    (hW : DataW.Whole enc P fn.params.toList s.vars false W args.toList ds gs before) (hG : GlobOk G (full W.heap)) (hpre : ∀ xs, RngT ts xs → pre xs) :
    Calls P f args W fun e W' => ∃ v, e = .returned v ∧ s.post enc P fn false fresh handsOn again W args v W' :=
  law_postB hS hl hp hty hres hb hvars hspec hval hW hG (fun xs h _ => hpre xs h)

/-- A table of integers, as a row lists it, as data. -/
theorem globOk_tabs {P : Program} {W : World} {G : Nat → Option TV} (l : List (Nat × TV)) (hG : G = fun n => look n l)
    (h : ∀ p, p ∈ l → ∃ name k zs, P.globalNamed name = some p.1 ∧ Lib.TabIs P W name k zs ∧ p.2 = ⟨.arr zs.length (.int k), zs⟩) : GlobOk G (full W.heap) := by
  intro g tv e
  rw [hG] at e
  obtain ⟨name, k, zs, h1, h2, h3⟩ := h _ (look_mem e)
  simp only at h1 h3
  subst h3
  have h2' : W.var? P name = some (zs.map fun z => Value.int k z).toArray := h2
  simp only [World.var?, h1, Option.bind_some] at h2'
  refine ⟨zs.map (fun z => Value.int k z), ⟨rfl, ?_⟩, ?_⟩
  · clear h2 h2' e
    induction zs with
    | nil => rfl
    | cons z zs ih => exact ⟨[.int k z], zs.map (fun z => Value.int k z), rfl, rfl, ih⟩
  · intro i c hc
    simp only [full, cellAt, Nat.zero_add]
    split at h2'
    · rename_i cs t fr hh
      rw [hh]
      simp only [Option.some.injEq] at h2'
      subst h2'
      simpa using hc
    · cases h2'
end Lc
