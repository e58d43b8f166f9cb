/- The engine, part U: tables, and the words that conditions are printed with. -/
import Derived.Test.YtbaiojghpadffaaEngT
namespace Lc
open Go Go.RowKit
set_option linter.unusedVariables false
set_option linter.unusedSimpArgs false

/-! ## Words of the printed conditions -/
def Ret0 (y : Unit) : Prop := () = y
def Ret1 {α : Type} (a b : α) : Prop := (a, ()) = (b, ())
def Ret2 {α β : Type} (a : α) (b : β) (y : α × β) : Prop := (a, (b, ())) = (y.1, (y.2, ()))
def Ret3 {α β γ : Type} (a : α) (b : β) (c : γ) (y : α × β × γ) : Prop := (a, (b, (c, ()))) = (y.1, (y.2.1, (y.2.2, ())))
def Ret4 {α β γ δ : Type} (a : α) (b : β) (c : γ) (d : δ) (y : α × β × γ × δ) : Prop := (a, (b, (c, (d, ())))) = (y.1, (y.2.1, (y.2.2.1, (y.2.2.2, ()))))

theorem ret1 {α : Type} {a b : α} : Ret1 a b ↔ a = b := by simp [Ret1]
theorem ret2 {α β : Type} {a : α} {b : β} {y : α × β} : Ret2 a b y ↔ (a, b) = y := by obtain ⟨y1, y2⟩ := y; simp [Ret2]
theorem ret3 {α β γ : Type} {a : α} {b : β} {c : γ} {y : α × β × γ} : Ret3 a b c y ↔ (a, b, c) = y := by obtain ⟨y1, y2, y3⟩ := y; simp [Ret3]
theorem ret4 {α β γ δ : Type} {a : α} {b : β} {c : γ} {d : δ} {y : α × β × γ × δ} : Ret4 a b c d y ↔ (a, b, c, d) = y := by obtain ⟨y1, y2, y3, y4⟩ := y; simp [Ret4]

def bytesOf (s : ByteArray) : List Int := (ByteArray.toList s).map fun (c : UInt8) => ((c.toNat : Nat) : Int)
def strOf (xs : List Int) : ByteArray := ⟨(List.map (fun (n : Int) => UInt8.ofNat n.toNat) xs).toArray⟩

/-! ## Tables -/
theorem look_mem {α : Type} {n : Nat} {v : α} : ∀ {l : List (Nat × α)}, look n l = some v → (n, v) ∈ l := by
  intro l
  induction l with
  | nil => intro h; cases h
  | cons p l ih =>
    obtain ⟨m, u⟩ := p
    intro h
    simp only [look] at h
    split at h
    · rename_i hb
      cases h
      have : n = m := Nat.eq_of_beq_eq_true hb
      subst this
      exact List.mem_cons_self
    · exact List.mem_cons_of_mem _ (ih h)

def tabB (P : Program) (tab : List (Nat × Ty)) : Bool := tab.all fun p => tOkB P p.2 (.inl p.1)

def bytB (P : Program) (byt : List (Nat × Nat)) (tab : List (Nat × Ty)) : Bool := tab.all fun p => match p.2 with
  | .slc _ => match P.underlying p.1 with
    | some (.slice e) => match P.info? e with
      | some i => Nat.ble i.bytes ((look p.1 byt).getD 0)
      | none => true
    | _ => true
  | _ => true

theorem envOk_of {E : Env} {tab : List (Nat × Ty)} {byt : List (Nat × Nat)} (h1 : E.ty = fun n => look n tab) (h2 : E.bytes = fun n => (look n byt).getD 0)
    (h3 : tabB E.P tab = true) (h4 : bytB E.P byt tab = true) (h5 : ∀ f m, E.turn f = some m → SoundM E.P f m := by intro f m h; cases h) : EnvOk E := by
  refine ⟨?_, ?_, h5⟩
  · intro id t e
    rw [h1] at e
    exact (List.all_eq_true.1 h3) _ (look_mem e)
  · intro id u e i e1 e2 e3
    rw [h1] at e1
    have := (List.all_eq_true.1 h4) _ (look_mem e1)
    simp only [e2, e3] at this
    rw [h2]
    exact Nat.le_of_ble_eq_true this

def SoundAll (P : Program) (G : Nat → Option TV) (l : List (Nat × Con)) : Prop := ∀ p, p ∈ l → SoundC P G p.1 p.2

theorem SoundAll.nil {P : Program} {G : Nat → Option TV} : SoundAll P G [] := fun _ h => by cases h
theorem SoundAll.cons {P : Program} {G : Nat → Option TV} {l : List (Nat × Con)} {f : Nat} {c : Con} (h : SoundAll P G l) (hs : Sound P G f c) : SoundAll P G ((f, c) :: l) := by
  intro p hp
  rcases List.mem_cons.1 hp with rfl | hp
  · exact .inl hs
  · exact h _ hp
theorem SoundAll.consE {P : Program} {G : Nat → Option TV} {l : List (Nat × Con)} {f : Nat} {c : Con} (h : SoundAll P G l) (hs : SoundE P f c) : SoundAll P G ((f, c) :: l) := by
  intro p hp
  rcases List.mem_cons.1 hp with rfl | hp
  · exact .inr hs
  · exact h _ hp

def SoundPAll (P : Program) (G : Nat → Option TV) (l : List (Nat × ConP)) : Prop := ∀ p, p ∈ l → SoundP P G p.1 p.2

theorem SoundPAll.nil {P : Program} {G : Nat → Option TV} : SoundPAll P G [] := fun _ h => by cases h
theorem SoundPAll.cons {P : Program} {G : Nat → Option TV} {l : List (Nat × ConP)} {f : Nat} {c : ConP} (h : SoundPAll P G l) (hs : SoundP P G f c) : SoundPAll P G ((f, c) :: l) := by
  intro p hp
  rcases List.mem_cons.1 hp with rfl | hp
  · exact hs
  · exact h _ hp

theorem ok_of {E : Env} {l : List (Nat × Con)} (h : EnvOk E) (hc : E.con = fun f => look f l) (hs : SoundAll E.P E.glob l) (hp : ∀ f c, E.ptr f = some c → SoundP E.P E.glob f c := by intro f c h; cases h) : Ok E :=
  ⟨h, fun f c e => hs _ (look_mem (by rw [hc] at e; exact e)), hp⟩

theorem ptr_of {P : Program} {G : Nat → Option TV} {l : List (Nat × ConP)} (h : SoundPAll P G l) : ∀ f c, look f l = some c → SoundP P G f c := fun f c e => h (f, c) (look_mem e)

/-! ## Recursion: contracts by rank -/
def FnOk (P : Program) (f : FuncId) : Prop := ∃ fn, P.funcs[f]? = some fn ∧ (fn.name == "runtime.NumGoroutine") = false ∧ fn.body.isSome = true

theorem SoundP.void {P : Program} {G : Nat → Option TV} {f : FuncId} {c : ConP} (hf : FnOk P f) (h : ∀ x ys, ¬ c.pre x ys) : SoundP P G f c :=
  ⟨hf, fun _ _ _ _ x ys _ _ _ _ _ _ _ _ hp => absurd hp (h x ys)⟩
theorem Sound.void {P : Program} {G : Nat → Option TV} {f : FuncId} {c : Con} (hf : FnOk P f) (h : ∀ xs, ¬ c.pre xs) : Sound P G f c :=
  ⟨hf, fun _ _ xs _ _ _ _ hp => absurd hp (h xs)⟩
theorem SoundP.ex {P : Program} {G : Nat → Option TV} {f : FuncId} {t : Ty} {ps : List (List Stp × Ty × Nat)} {params : List Ty} {rets : List RK} {pre : Nat → t.den → Tup params → Prop} {fn : t.den → Tup params → t.den × RTup rets}
    (h : ∀ n, SoundP P G f ⟨t, ps, params, rets, pre n, fn⟩) : SoundP P G f ⟨t, ps, params, rets, fun x ys => ∃ n, pre n x ys, fn⟩ :=
  ⟨(h 0).fn, fun F U w ρ x ys b cap vs h1 h2 h3 h4 h5 ⟨n, h6⟩ => (h n).calls F U w ρ x ys b cap vs h1 h2 h3 h4 h5 h6⟩
theorem Sound.ex {P : Program} {G : Nat → Option TV} {f : FuncId} {params : List Ty} {rets : List RK} {pre : Nat → Tup params → Prop} {fn : Tup params → RTup rets}
    (h : ∀ n, Sound P G f ⟨params, rets, pre n, fn⟩) : Sound P G f ⟨params, rets, fun xs => ∃ n, pre n xs, fn⟩ :=
  ⟨(h 0).fn, fun F w xs vs h1 h2 h3 ⟨n, h6⟩ => (h n).calls F w xs vs h1 h2 h3 h6⟩
end Lc
