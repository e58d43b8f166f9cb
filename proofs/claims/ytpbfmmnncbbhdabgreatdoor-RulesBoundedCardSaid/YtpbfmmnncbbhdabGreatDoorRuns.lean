/- Runs of rules: division, later times, made chains. -/
import Derived.Test.YtpbfmmnncbbhdabGreatDoorMade
set_option linter.unusedVariables false
namespace Lc
open Go

def PRng (p : Par) : Prop := Ok4 p.2.1 ∧ HdrOk p.1 ∧ U32 p.2.2.2.2.1 ∧ U32 p.2.2.2.2.2.1
def CRng (c : Cx) : Prop := CxOk c ∧ HOk c.2.1
theorem PRng.good {p : Par} (h : PRng p) (hk : p.2.2.2.2.2.2.1.length ≤ 8) : PGood p := ⟨⟨h.1, h.2.1.2.2.2.2.1, hk⟩, h.2⟩
theorem CRng.good {c : Cx} (h : CRng c) (hk : c.2.2.2.2.1.length ≤ 16) : CGood c := ⟨h.1, h.2, by omega⟩

theorem run_append (p : Par) (now : Int) : ∀ (l1 l2 : List Hdr) (c : Cx) (i : Int), runGo p now c (l1 ++ l2) i = if (runGo p now c l1 i).2.2 ≠ 0 then runGo p now c l1 i else runGo p now (runGo p now c l1 i).1 l2 (runGo p now c l1 i).2.1
  | [], l2, c, i => by simp [runGo]
  | h :: r, l2, c, i => by
    rw [List.cons_append, runGo, runGo]
    by_cases hc : checkFn p c h now ≠ 0
    · rw [if_pos hc, if_pos hc, if_pos hc]
    · rw [if_neg hc, if_neg hc]
      exact run_append p now r l2 _ _
theorem runs_shift (p : Par) (now : Int) : ∀ (l : List Hdr) (c : Cx) (i : Int), runGo p now c l i = ((runGo p now c l 0).1, (runGo p now c l 0).2.1 + i, (runGo p now c l 0).2.2)
  | [], c, i => by simp [runGo]
  | h :: r, c, i => by
    rw [runGo, runGo]
    by_cases hc : checkFn p c h now ≠ 0
    · rw [if_pos hc, if_pos hc]; simp
    · rw [if_neg hc, if_neg hc]
      rw [runs_shift p now r _ (i + 1), runs_shift p now r _ (0 + 1)]
      simp only [Prod.mk.injEq, true_and, and_true]
      omega
theorem adv_fits {p : Par} {c : Cx} {h : Hdr} (hr : roomFn p c = 0) : fitsFn p (advFn p c h).1 = true := by
  obtain ⟨f1, f2, f3, f4, f5, f6, f7, f8⟩ := room_facts hr
  rw [fits_iff, adv_ok hr]
  refine ⟨f7, by show 0 ≤ c.1 + 1; omega, by show c.1 + 1 ≤ 16777216; omega, ?_⟩
  show ((nextT c.2.2.2.2.1 h.2.2.2.1).length : Int) = if 11 < c.1 + 1 + 1 then 11 else c.1 + 1 + 1
  rw [nextT_len]
  split at f8
  · have h11 : c.2.2.2.2.1.length = 11 := by omega
    rw [if_pos h11, if_pos (by omega)]; rfl
  · by_cases h11 : c.2.2.2.2.1.length = 11
    · rw [if_pos h11, if_pos (by omega)]; rfl
    · rw [if_neg h11, if_neg (by omega)]; omega
theorem run_fits (p : Par) (now : Int) : ∀ (l : List Hdr) (c : Cx) (i : Int), fitsFn p c = true → fitsFn p (runGo p now c l i).1 = true
  | [], c, i, h => h
  | x :: r, c, i, h => by
    rw [runGo]
    by_cases hc : checkFn p c x now ≠ 0
    · rw [if_pos hc]; exact h
    · rw [if_neg hc]
      have h0 : checkFn p c x now = 0 := by omega
      exact run_fits p now r _ _ (adv_fits (check_room h0))
theorem run_good (p : Par) (now : Int) (hp : PGood p) : ∀ (l : List Hdr) (c : Cx) (i : Int), CGood c → (∀ h, h ∈ l → HdrOk h) → CGood (runGo p now c l i).1
  | [], c, i, h, _ => h
  | x :: r, c, i, h, hl => by
    rw [runGo]
    by_cases hc : checkFn p c x now ≠ 0
    · rw [if_pos hc]; exact h
    · rw [if_neg hc]
      exact run_good p now hp r _ _ (adv_good ⟨hp, h, hl x (by simp)⟩) (fun y hy => hl y (List.mem_cons_of_mem _ hy))
theorem run_count (p : Par) (now : Int) : ∀ (l : List Hdr) (c : Cx) (i : Int), i ≤ (runGo p now c l i).2.1 ∧ (runGo p now c l i).2.1 ≤ i + l.length
  | [], c, i => by simp [runGo]
  | x :: r, c, i => by
    rw [runGo]
    by_cases hc : checkFn p c x now ≠ 0
    · rw [if_pos hc]; simp only [List.length_cons]; omega
    · rw [if_neg hc]
      have := run_count p now r (advFn p c x).1 (i + 1)
      simp only [List.length_cons]; omega
theorem check_later {p : Par} {c : Cx} {h : Hdr} {now now' : Int} (hn : now ≤ now') (hc : checkFn p c h now = 0) : checkFn p c h now' = 0 := by
  unfold checkFn at *
  split at hc
  · rename_i h1; rw [if_pos h1]; exact hc
  rename_i h1; rw [if_neg h1]
  split at hc
  · omega
  rename_i h2; rw [if_neg h2]
  split at hc
  · omega
  rename_i h3; rw [if_neg h3]
  split at hc
  · rename_i h4; omega
  rename_i h4; rw [if_neg h4]
  split at hc
  · omega
  rename_i h5; rw [if_neg h5]
  split at hc
  · omega
  rename_i h6; rw [if_neg h6]
  split at hc
  · omega
  rename_i h7; rw [if_neg h7]
  split at hc
  · omega
  rename_i h8; rw [if_neg (by omega)]
  exact hc
theorem run_later (p : Par) {now now' : Int} (hn : now ≤ now') : ∀ (l : List Hdr) (c : Cx) (i : Int), (runGo p now c l i).2.1 ≤ (runGo p now' c l i).2.1
  | [], c, i => by simp [runGo]
  | x :: r, c, i => by
    rw [runGo]
    by_cases hc : checkFn p c x now ≠ 0
    · rw [if_pos hc]
      exact (run_count p now' (x :: r) c i).1
    · rw [if_neg hc, runGo, if_neg (by rw [check_later hn (by omega)]; simp)]
      exact run_later p hn r _ _
theorem start_fits {p : Par} (hv : validFn p = true) : fitsFn p (startFn p).1 = true := by
  rw [fits_iff, startFn, if_neg (by rw [hv]; simp)]
  exact ⟨hv, by simp, by simp, by simp⟩
theorem same_len (a b : Cx) (h : CGood a) : a.2.2.2.2.1.length ≤ 1000 := h.2.2
end Lc
