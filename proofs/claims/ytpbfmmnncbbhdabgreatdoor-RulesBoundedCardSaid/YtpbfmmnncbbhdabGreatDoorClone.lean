/- slices.Clone of the kit's shelf as a contract. -/
import Derived.Test.YtpbfmmnncbbhdabGreatDoorEngU
import Derived.Test.YtpbfmmnncbbhdabGreatDoorSort
import Derived.Shelf.SlicesE.Clone
namespace Lc
open Go Go.Proofs Go.Shelf Go.RowKit Go.Lib

def Clone.pre (l : List Int) : Prop := l.length ≤ 1000
def Clone.fn (l : List Int) : List Int := l
theorem cloneS {P : Program} {ρ : Ren} (L : SlLaysE0.n41 P ρ) (G : Nat → Option TV) (k : IntKind) (f : FuncId) (hf : ρ.f 41 = f) (bts : Nat) (hinf : (P.info? (ρ.t 23)).map (fun i => (i.zero, i.size, i.bytes)) = some (some (.int k 0), 1, bts)) (hbts : bts ≤ 8)
    (z23 : ∀ w, (Go.sizeOf (ρ.t 23)).run P w = .ok 1 w) (hfn : ∃ fn, P.funcs[f]? = some fn ∧ (fn.name == "runtime.NumGoroutine") = false ∧ fn.body.isSome = true) :
    Sound P G f { params := [.slc (.int k)], rets := [.deep (.slc (.int k))], pre := fun x => Clone.pre x.1, fn := fun x => (Clone.fn x.1, ()) } := by
  obtain ⟨i0, hi, hz0, hz1, hz2⟩ : ∃ i0, P.info? (ρ.t 23) = some i0 ∧ i0.zero = some (.int k 0) ∧ i0.size = 1 ∧ i0.bytes ≤ 8 := by
    cases hq : P.info? (ρ.t 23) with
    | none => rw [hq] at hinf; cases hinf
    | some i0 =>
      rw [hq] at hinf
      simp only [Option.map_some, Option.some.injEq, Prod.mk.injEq] at hinf
      exact ⟨i0, rfl, hinf.1, hinf.2.1, by omega⟩
  refine ⟨hfn, ?_⟩
  intro F w xs vs hF hG hargs hpre
  obtain ⟨v, r, rfl, hv, rfl⟩ := hargs
  have hpre : List.length xs.1 ≤ 1000 := hpre
  obtain ⟨v', hv1, hv2⟩ : ∃ v', [v] = [v'] ∧ SlcV F (List.length xs.1) (RepL (Rep F (.int k)) xs.1) v' := by simpa [RepV, Rep, Ty.isAgg] using hv
  cases hv1
  rcases hv2 with ⟨rfl, hn, _⟩ | ⟨b, off, cap, cs, rfl, hcap, hr, hat⟩
  · have h := AnyE.slices_Clone_nil L 0 0 w
    rw [hf] at h
    refine h.mono ?_
    rintro e w' ⟨rfl, rfl⟩
    have hx : xs.1 = [] := List.eq_nil_of_length_eq_zero hn
    refine ⟨.slice none 0 0, F, [.slice none 0 0], [], rfl, FH.le.rfl, fun _ _ => rfl, hF, ⟨_, _, rfl, ?_, rfl, rfl⟩, List.nodup_nil, .inl ⟨_, rfl, rfl⟩, Below.refl _ _⟩
    show RepV F (.slc (.int k)) (Clone.fn xs.1) _
    rw [Clone.fn, hx]
    simp [RepV, Rep, Ty.isAgg, SlcV, RepL]
  · have hcs := (repInts xs.1 cs).1 hr
    subst hcs
    have h := AnyE.slices_Clone L i0 (.int k 0) 1 i0.bytes hi hz0 hz1 rfl (by simp [Value.cells]) (by omega) z23 b off (List.length xs.1) cap (xs.1.map (Value.int k)) w (by simp) (Nat.le_trans hpre (by decide))
      (Nat.le_trans (Nat.mul_le_mul hpre hz2) (by decide)) (fun j u hj => by rw [cell?_eq]; exact hF _ _ _ (hat j u hj)) (fun u hu => by
        obtain ⟨x, _, rfl⟩ := List.mem_map.1 hu; rfl)
    rw [hf] at h
    refine h.mono ?_
    rintro e w' ⟨v', rfl, ⟨_, hown⟩, hne, hbelow⟩
    rcases hown with ⟨rfl, _⟩ | ⟨g, cap', cur, rfl, hg, hH, hc1, hc2, hc3, hc4⟩
    · exact absurd rfl hne
    rw [Nat.mul_one] at hc4
    let F' : FH := fun b i => if b = g then (if i < List.length xs.1 then cur[i]? else none) else F b i
    have hle : F.le F' := by
      intro b i v hb
      have hlt := cellAt_lt (hF b i v hb)
      show (if b = g then _ else _) = _
      rw [if_neg (by omega)]; exact hb
    refine ⟨_, F', [.slice (some ⟨g, 0, none⟩) (List.length xs.1) cap'], [], rfl, hle, fun b hb => ?_, fun b i v hb => ?_, ⟨_, _, rfl, ?_, rfl, rfl⟩, List.nodup_nil, .inl ⟨_, rfl, rfl⟩, hbelow⟩
    · funext i
      show (if b = g then _ else _) = _
      rw [if_neg (by omega)]
    · have hb : (if b = g then (if i < List.length xs.1 then cur[i]? else none) else F b i) = some v := hb
      by_cases e : b = g
      · subst e
        rw [if_pos rfl] at hb
        by_cases hi : i < List.length xs.1
        · rw [if_pos hi] at hb
          simp only [cellAt, hH]; exact hb
        · rw [if_neg hi] at hb; cases hb
      · rw [if_neg e] at hb
        have h1 := hF _ _ _ hb
        have hlt := cellAt_lt h1
        simp only [cellAt] at h1 ⊢
        rw [hbelow.block _ hlt]; exact h1
    · show RepV F' (.slc (.int k)) (Clone.fn xs.1) _
      have : SlcV F' (List.length xs.1) (RepL (Rep F' (.int k)) xs.1) (.slice (some ⟨g, 0, none⟩) (List.length xs.1) cap') := by
        refine .inr ⟨g, 0, cap', xs.1.map (Value.int k), rfl, hc1, (repInts _ _).2 rfl, fun i c hc => ?_⟩
        show (if g = g then _ else _) = _
        rw [if_pos rfl, Nat.zero_add]
        have hi : i < List.length xs.1 := by have := (List.getElem?_eq_some_iff.1 hc).1; simpa using this
        rw [if_pos hi]
        rw [← hc4, List.getElem?_take, if_pos hi] at hc
        simpa using hc
      simpa [RepV, Rep, Ty.isAgg, Clone.fn] using this
end Lc
