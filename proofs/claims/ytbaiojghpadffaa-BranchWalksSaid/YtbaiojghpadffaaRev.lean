/- slices.Reverse of the kit's shelf as the contract of a call that turns a part of a row. -/
import Derived.Test.YtbaiojghpadffaaEngU
import Derived.Shelf.Slices.Reverse
import Derived.Lib.RowBridge
import Derived.Lib.SortBridge
import Derived.Lib.Small
namespace Lc
open Go Go.Proofs Go.Shelf Go.RowKit Go.Lib Go.Sort

theorem repInts' {F : FH} {k : IntKind} : ∀ (xs : List Int) (cs : List Value), RepL (Rep F (.int k)) xs cs ↔ cs = xs.map (Value.int k)
  | [], cs => by simp [RepL]
  | x :: xs, cs => by
    simp only [RepL, List.map_cons]
    constructor
    · rintro ⟨c1, c2, rfl, h1, h2⟩
      have h1 : c1 = [.int k x] := h1
      rw [h1, (repInts' xs c2).1 h2]; rfl
    · intro h
      exact ⟨[.int k x], xs.map (Value.int k), by rw [h]; rfl, rfl, (repInts' xs _).2 rfl⟩

def RevPre (xs : List Int) : Prop := xs.length ≤ 9223372036854775807
def RevFn (xs : List Int) : List Int := xs.reverse

theorem revM {P : Program} {ρ : Ren} (L : Lays.n112 P ρ) (f : FuncId) (hf : ρ.f 112 = f)
    (hfn : ∃ fn, P.funcs[f]? = some fn ∧ (fn.name == "runtime.NumGoroutine") = false ∧ fn.body.isSome = true) :
    SoundM P f ⟨.int .i64, [], RevPre, RevFn, true⟩ := by
  have hnone : ∀ (p : Option Addr) (cap : Nat) (w : World), Calls P f (Value.slice p 0 cap :: fnVals []).toArray w (fun e w' => e = .returned (.tuple #[]) ∧ Below w.heap.size w w') := by
    intro p cap w
    have h := Any.slices_Reverse_int_empty (P := P) (ρ := ρ) L p cap w
    rw [hf] at h
    refine h.mono ?_
    rintro e w' ⟨h1, h2⟩
    refine ⟨h1, ?_⟩
    rw [h2]; exact Below.refl _ _
  have hpart : ∀ (F : FH) (w : World) (xs : List Int) (b cap : Nat) (c : Array Value) (eid : TypeId) (fr : Nat × Nat) (hd cs rest : List Value), w.heap[b]? = some (.cells c eid fr) → free fr c.size → c.toList = hd ++ (cs ++ rest) →
    RepL (Rep F (.int .i64)) xs cs → RevPre xs →
    Calls P f (Value.slice (some ⟨b, hd.length, none⟩) xs.length cap :: fnVals []).toArray w (fun e w' => e = .returned (.tuple #[]) ∧ ∃ cs', RepL (Rep F (.int .i64)) (RevFn xs) cs' ∧ w'.os = w.os ∧ w'.tape = w.tape ∧ w'.output = w.output ∧
      w.heap.size ≤ w'.heap.size ∧ w'.heap[b]? = some (.cells (hd ++ (cs' ++ rest)).toArray eid fr) ∧ ∀ i, i < w.heap.size → i ≠ b → w'.heap[i]? = w.heap[i]?) := by
    intro F w xs b cap c eid fr hd cs rest hH hfr hc hr hpre
    have hr := (repInts' xs cs).1 hr
    subst hr
    have hb : b < w.heap.size := (Array.getElem?_eq_some_iff.1 hH).1
    have hlen : hd.length + (List.length xs + rest.length) = c.size := by
      have := congrArg List.length hc
      simp only [Array.length_toList, List.length_append, List.length_map] at this
      omega
    have hcell : ∀ j, j < List.length xs → c[hd.length + j]? = some (.int .i64 (xs.getD j 0)) := by
      intro j hj
      have h2 : c.toList[hd.length + j]? = some (.int .i64 (xs.getD j 0)) := by
        rw [hc, List.getElem?_append_right (by omega), List.getElem?_append_left (by simpa using hj)]
        simp [List.getD_eq_getElem?_getD, hj]
      simpa using h2
    have hHo : Holds (Value.int .i64) w b hd.length (List.toArray xs) := by
      intro j hj
      have hj : j < List.length xs := by simpa using hj
      refine ⟨?_, ?_⟩
      · rw [cell?_eq, cellAt, hH]
        simp only
        rw [hcell j hj]
        simp [List.getD_eq_getElem?_getD, hj]
      · have := hfr (hd.length + j) (by omega)
        simp only [World.frozen?, hH]
        simpa using this
    have h := Any.slices_Reverse_int_arr L b hd.length cap (List.toArray xs) w hHo (by simpa [RevPre] using hpre)
    rw [hf, List.size_toArray] at h
    refine h.mono ?_
    rintro e w' ⟨h1, n, rfl⟩
    refine ⟨h1, (xs.reverse).map (Value.int .i64), (repInts' _ _).2 rfl, rfl, rfl, rfl, ?_, ?_, ?_⟩
    · simp [putRow, mapBlock, Sort.ahead]
    · simp only [putRow, mapBlock, Sort.ahead]
      rw [Array.getElem?_modify, if_pos rfl, hH]
      simp only [Option.map_some, onCells, Option.some.injEq, Obj.cells.injEq, and_true]
      apply Array.ext_getElem?
      intro j
      simp only [putCells, Array.getElem?_mapIdx, List.size_toArray, List.getElem?_toArray, Array.size_reverse]
      by_cases hj0 : j < hd.length
      · rw [List.getElem?_append_left hj0]
        have h2 : c[j]? = (hd ++ (xs.map (Value.int .i64) ++ rest))[j]? := by rw [← hc]; simp
        have hn : ¬ hd.length ≤ j := by omega
        simp only [hn, false_and, if_false]
        rw [Option.map_id', h2, List.getElem?_append_left hj0]
      · rw [List.getElem?_append_right (by omega)]
        by_cases hj : j - hd.length < List.length xs
        · rw [List.getElem?_append_left (by simpa using hj)]
          have h3 : j < c.size := by omega
          have h4 : hd.length ≤ j := by omega
          have h5 : j < hd.length + List.length xs := by omega
          simp [h3, h4, h5, hj, encI]
        · rw [List.getElem?_append_right (by simpa using Nat.le_of_not_lt hj)]
          have h5 : ¬ j < hd.length + List.length xs := by omega
          simp only [h5, and_false, if_false]
          have h2 : c[j]? = (hd ++ (xs.map (Value.int .i64) ++ rest))[j]? := by rw [← hc]; simp
          rw [Option.map_id', h2, List.getElem?_append_right (by omega), List.getElem?_append_right (by simpa using Nat.le_of_not_lt hj)]
          simp
    · intro i hi hne
      simp only [putRow, mapBlock, Sort.ahead]
      rw [Array.getElem?_modify, if_neg (fun h => hne h.symm)]
  refine ⟨hfn, fun xs => List.length_reverse, fun p cap w _ => hnone p cap w, ?_, ?_⟩
  · intro F w xs b cap c eid fr cs rest hH hfr hc hr hsz hcap hpre
    exact hpart F w xs b cap c eid fr [] cs rest hH hfr hc hr hpre
  · intro _ F w xs b cap c eid fr hd cs rest hH hfr hc hr h0 hcap hpre
    exact hpart F w xs b cap c eid fr hd cs rest hH hfr hc hr hpre
end Lc
