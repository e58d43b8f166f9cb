/- A sort of the kit's shelf as the contract of a call that turns a row. -/
import Derived.Test.YtpbfmmnncbbhdabGreatDoorEngU
import Derived.Shelf.SlSortCmp.NoneTotal
import Derived.Lib.RowBridge
import Derived.Lib.SortBridge
import Derived.Lib.Small
namespace Lc
open Go Go.Proofs Go.Shelf Go.RowKit Go.Lib Go.Sort

theorem ltC (x y : Int) : ltOf Lib.compareInt x y = decide (x < y) := by
  unfold ltOf Lib.compareInt
  by_cases h1 : x < y
  · simp [h1]
  · by_cases h2 : y < x <;> simp [h1, h2]
theorem swoC : SWO (ltOf Lib.compareInt) := {
  irrefl := fun x => by rw [ltC]; simp
  trans := fun x y z h1 h2 => by rw [ltC] at *; simp at *; omega
  ntrans := fun x y z h1 h2 => by rw [ltC] at *; simp at *; omega }
theorem totC (x y : Int) (h1 : ltOf Lib.compareInt x y = false) (h2 : ltOf Lib.compareInt y x = false) : x = y := by rw [ltC] at *; simp at *; omega
theorem leC : (fun x y : Int => !ltOf Lib.compareInt y x) = fun x y => decide (x ≤ y) := by
  funext x y
  rw [ltC]
  by_cases h : x ≤ y
  · have h' : ¬ y < x := by omega
    simp [h, h']
  · have h' : y < x := by omega
    simp [h, h']

theorem repInts {F : FH} {k : IntKind} : ∀ (xs : List Int) (cs : List Value), RepL (Rep F (.int k)) xs cs ↔ cs = xs.map (Value.int k)
  | [], cs => by simp [RepL]
  | x :: xs, cs => by
    simp only [RepL, List.map_cons]
    constructor
    · rintro ⟨c1, c2, rfl, h1, h2⟩
      have h1 : c1 = [.int k x] := h1
      rw [h1, (repInts xs c2).1 h2]; rfl
    · intro h
      exact ⟨[.int k x], xs.map (Value.int k), by rw [h]; rfl, rfl, (repInts xs _).2 rfl⟩

noncomputable abbrev sortMut (k : IntKind) (g : FuncId) : Mut := ⟨.int k, [g], fun xs => List.length xs < 4611686018427387904, fun xs => List.mergeSort (xs : List Int) (fun x y => decide (x ≤ y))⟩

theorem sortM {P : Program} {ρ : Ren} (L : SlLaysF.n6 P ρ) (k : IntKind) (g : FuncId) (f : FuncId) (hf : ρ.f 6 = f)
    (hcl : ∀ x y W, Calls P g #[.int k x, .int k y] W fun e w' => e = .returned (.int .i64 (Lib.compareInt x y)) ∧ ∃ q, w' = W.drewN q)
    (eg : ∀ args w, (callFunc g args).run P w = .ok (.enter g args) w) (hfn : ∃ fn, P.funcs[f]? = some fn ∧ (fn.name == "runtime.NumGoroutine") = false ∧ fn.body.isSome = true) :
    SoundM P f (sortMut k g) := by
  have hnone : ∀ (p : Option Addr) (cap : Nat) (w : World), Calls P f (Value.slice p 0 cap :: fnVals [g]).toArray w (fun e w' => e = .returned (.tuple #[]) ∧ w' = w) := by
    intro p cap w
    have h := AnyF.slices_SortFunc_none (P := P) (ρ := ρ) { L with } p cap (.func (.func g) #[] #[]) w
    rw [hf] at h
    exact h
  refine ⟨hfn, fun xs => List.length_mergeSort _, fun w _ => (hnone none 0 w).mono (fun e w' ⟨h1, h2⟩ => ⟨h1, by rw [h2]; exact Below.refl _ _⟩), ?_⟩
  intro F w xs b cap c eid fr cs rest hH hfr hc hr hsz hcap hpre
  have hr := (repInts xs cs).1 hr
  subst hr
  have hb : b < w.heap.size := (Array.getElem?_eq_some_iff.1 hH).1
  by_cases hx : xs = []
  · subst hx
    refine (hnone (some ⟨b, 0, none⟩) cap w).mono ?_
    rintro e w' ⟨h1, rfl⟩
    refine ⟨h1, [], (repInts _ _).2 (by simp), rfl, rfl, rfl, Nat.le_refl _, ?_, fun _ _ _ => rfl⟩
    rw [hH]
    have : c = ([] ++ rest).toArray := by apply Array.ext'; simpa using hc
    rw [this]
  have hlen : List.length xs + rest.length = c.size := by
    have := congrArg List.length hc
    simp only [Array.length_toList, List.length_append, List.length_map] at this
    omega
  have hcell : ∀ j, j < List.length xs → c[j]? = some (.int k (xs.getD j 0)) := by
    intro j hj
    have h2 : c.toList[j]? = some (.int k (xs.getD j 0)) := by
      rw [hc, List.getElem?_append_left (by simpa using hj)]
      simp [List.getD_eq_getElem?_getD, hj]
    simpa using h2
  have hHo : Holds (Value.int k) w b 0 (List.toArray xs) := by
    intro j hj
    have hj : j < List.length xs := by simpa using hj
    refine ⟨?_, ?_⟩
    · rw [cell?_eq, cellAt, hH]
      simp only [Nat.zero_add]
      rw [hcell j hj]
      simp [List.getD_eq_getElem?_getD, hj]
    · have := hfr j (by omega)
      simp only [World.frozen?, hH, Nat.zero_add]
      simpa using this
  have hcm : CmpReads P g #[] (Value.int k) Lib.compareInt b 0 (List.toArray xs).size w := fun _ _ _ _ x y => hcl x y _
  have h := Any.slices_SortFunc_total L (Value.int k) (fun _ => rfl) Lib.compareInt swoC g #[] b 0 cap (List.toArray xs) w eg hcm.lays hHo hb (by simpa using hpre) totC
  rw [leC, hf] at h
  rw [List.size_toArray] at h
  refine h.mono ?_
  rintro e w' ⟨h1, n, os, rfl⟩
  refine ⟨h1, (List.mergeSort (xs : List Int) (fun x y => decide (x ≤ y))).map (Value.int k), (repInts _ _).2 rfl, rfl, rfl, rfl, ?_, ?_, ?_⟩
  · simp [sortWorld, grow, putRow, mapBlock, Sort.ahead]
  · simp only [sortWorld, grow, putRow, mapBlock, Sort.ahead]
    rw [Array.getElem?_append_left (by simpa using hb), Array.getElem?_modify, if_pos rfl, hH]
    simp only [Option.map_some, onCells, Option.some.injEq, Obj.cells.injEq, and_true]
    apply Array.ext_getElem?
    intro j
    simp only [putCells, Array.getElem?_mapIdx, Nat.zero_le, true_and, Nat.zero_add, Nat.sub_zero, List.size_toArray, List.length_mergeSort, List.getElem?_toArray]
    by_cases hj : j < List.length xs
    · rw [List.getElem?_append_left (by simpa using hj)]
      have : j < c.size := by omega
      simp [hj, this]
    · rw [List.getElem?_append_right (by simpa using Nat.le_of_not_lt hj)]
      simp only [hj, if_false]
      have h2 : c[j]? = (xs.map (Value.int k) ++ rest)[j]? := by rw [← hc]; simp
      rw [Option.map_id', h2, List.getElem?_append_right (by simpa using Nat.le_of_not_lt hj)]
      simp
  · intro i hi hne
    simp only [sortWorld, grow, putRow, mapBlock, Sort.ahead]
    rw [Array.getElem?_append_left (by simpa using hi), Array.getElem?_modify, if_neg (fun h => hne h.symm)]
end Lc
