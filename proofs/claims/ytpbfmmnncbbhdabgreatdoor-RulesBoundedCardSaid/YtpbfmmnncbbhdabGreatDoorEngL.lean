/- The engine, part L: operations that make or write memory. -/
import Derived.Test.YtpbfmmnncbbhdabGreatDoorEngK
import Derived.Laws.MakeOwn
namespace Lc
open Go Go.RowKit

theorem repC_var {F : FH} {t : Ty} {x : t.den} {cs : List Value} {cap : Nat} (h : Rep F t x cs) : RepC F false cap cs.length t x cs := by
  cases t <;> simp [RepC, h]

theorem lenT_var {F : FH} {t : Ty} {x y : t.den} {cap n cap' n' : Nat} {cs ds : List Value} (h : RepC F false cap n t x cs) (h' : RepC F false cap' n' t y ds) : lenT t x = lenT t y := by
  cases t <;> simp only [lenT]
  simp only [RepC, Bool.false_eq_true, if_false] at h h'
  exact h.1.1.trans h'.1.1.symm

theorem range_cycle (zs : List Value) (n : Nat) : (List.range (n * zs.length)).map (fun i => zs.toArray[i % zs.toArray.size]!) = (List.replicate n zs).flatten := by
  induction n with
  | zero => simp
  | succ n ih =>
    have e : (n + 1) * zs.length = n * zs.length + zs.length := by rw [Nat.add_mul]; omega
    rw [e, List.range_add, List.map_append, ih, List.replicate_succ', List.flatten_append]
    congr 1
    simp only [List.map_map, List.flatten_singleton]
    apply List.ext_getElem
    · simp
    · intro i h1 h2
      simp only [List.length_map, List.length_range] at h1
      simp [Nat.mod_eq_of_lt h1, h1]

theorem foldl_put (off : Nat) : ∀ (vs : List Value) (k : Nat) (cells : Array Value), off + k + vs.length ≤ cells.size →
    (vs.zipIdx k).foldl (fun (cs : Array Value) (p : Value × Nat) => cs.setIfInBounds (off + p.2) p.1) cells = (putL cells.toList (off + k) vs).toArray := by
  intro vs
  induction vs with
  | nil => intro k cells _; simp [putL]
  | cons v r ih =>
    intro k cells hl
    simp only [List.length_cons] at hl
    simp only [List.zipIdx_cons, List.foldl_cons]
    rw [ih (k + 1) _ (by simp; omega)]
    congr 1
    simp only [putL, Array.toList_setIfInBounds, List.length_cons]
    have e1 : (cells.toList.set (off + k) v).take (off + (k + 1)) = cells.toList.take (off + k) ++ [v] := by
      rw [List.set_eq_take_append_cons_drop, if_pos (by simp; omega), List.take_append]
      simp only [List.length_take, Array.length_toList]
      rw [show min (off + k) cells.size = off + k by omega, List.take_of_length_le (by simp; omega), show off + (k + 1) - (off + k) = 1 by omega]
      simp
    have e2 : (cells.toList.set (off + k) v).drop (off + (k + 1) + r.length) = cells.toList.drop (off + k + (r.length + 1)) := by
      rw [List.set_eq_take_append_cons_drop, if_pos (by simp; omega), List.drop_append]
      simp only [List.length_take, Array.length_toList]
      rw [show min (off + k) cells.size = off + k by omega, List.drop_eq_nil_of_le (by simp; omega), show off + (k + 1) + r.length - (off + k) = r.length + 1 by omega]
      simp; congr 1; omega
    rw [e1, e2]; simp

theorem arr_foldl_put (off : Nat) (vs cells : Array Value) (h : off + vs.size ≤ cells.size) :
    vs.zipIdx.foldl (fun (cs : Array Value) (p : Value × Nat) => cs.setIfInBounds (off + p.2) p.1) cells = (putL cells.toList off vs.toList).toArray := by
  rw [← Array.foldl_toList, Array.toList_zipIdx]
  exact foldl_put off vs.toList 0 cells (by simpa using h)

section
variable {E : Env} {B0 : Nat → Prop} {F : FH} {ρ : RM} {L : HL} {w : World} {o : Oper} {ev : Operand → Value} {r : Res}

/-- A new variable. -/
theorem does_newVar (hI : In E B0 F ρ L w) {d : Nat} (hk : L d = none) {t : Ty} {id : TypeId} {x : t.den} {cs : List Prop} {cl : List Value} (hrep : Rep F t x cl)
    (hrun : (execOp ev o).run E.P w = .ok (.value (.pointer (some ⟨w.heap.size, 0, none⟩))) (w.alloc (.cells cl.toArray id))) :
    Does E.P o ev w (Post B0 F ρ L w (.ptr d t []) ((⟨cs, .ptr d t [], [(d, ⟨false, t, x, false, []⟩)], [], []⟩ : Res).L L)) := by
  rw [L_new]
  obtain ⟨F', f1, f2, f3⟩ := hI.rel.fresh (k := d) hk (blk := ⟨false, t, x, false, []⟩) (e := id) (fr := (0, 0)) (cap := 0) (c := cl.toArray) (cs := cl) (rest := []) (fun i hi => by simp) (by simp)
    (by have := repC_var (cap := 0) hrep; simpa using this) hI.size rfl
  refine does_ok hrun ⟨F', _, ?_, f3, f1, fun b hb => f2 b (Nat.lt_of_not_le (fun h => hb (hI.size b h))), LLe.fresh hk _ _, (Kept.refl _ _).alloc hI.size _⟩
  refine repAV_ptr.2 (fun blk hL => ?_)
  rw [upd_same] at hL
  cases hL
  exact ⟨rfl, by simp only [okB, Bool.false_eq_true, if_false]; exact okT_nil t, w.heap.size, 0, t, 0, by rw [upd_same], by cases t <;> rfl, rfl⟩

/-- A new row. -/
theorem does_newRow (hI : In E B0 F ρ L w) {d : Nat} (hk : L d = none) {u : Ty} {id : TypeId} {xs : List u.den} {fz : Bool} {cs : List Prop} {cl rest : List Value} {cap : Nat} {w' : World} (hw : w'.heap = w.heap) (hB : Kept B0 w w')
    (hrep : RepL (Rep F u) xs cl) (hcap : cl.length + rest.length = cap * u.size) (hle : xs.length ≤ cap)
    (hrun : (execOp ev o).run E.P w = .ok (.value (.slice (some ⟨w.heap.size, 0, none⟩) xs.length cap)) (w'.alloc (.cells (cl ++ rest).toArray id))) :
    Does E.P o ev w (Post B0 F ρ L w (.whole d (.arr 0 u) []) ((⟨cs, .whole d (.arr 0 u) [], [(d, ⟨true, .arr 0 u, xs, fz, []⟩)], [], []⟩ : Res).L L)) := by
  rw [L_new]
  obtain ⟨F', f1, f2, f3⟩ := hI.rel.fresh (k := d) hk (blk := ⟨true, .arr 0 u, xs, fz, []⟩) (e := id) (fr := (0, 0)) (cap := cap) (c := (cl ++ rest).toArray) (cs := cl) (rest := rest) (fun i hi => by simp) (by simp)
    (by simp only [RepC, if_true]; exact ⟨hrep, by simpa using hcap, hle⟩) hI.size rfl
  refine does_ok hrun ⟨F', upd ρ d (some (w.heap.size, cap)), ?_, ?_, f1, fun b hb => f2 b (Nat.lt_of_not_le (fun h => hb (hI.size b h))), LLe.fresh hk _ _, hB.alloc (by rw [hw]; exact hI.size) _⟩
  · refine repAV_whole.2 (fun blk hL => ?_)
    rw [upd_same] at hL
    cases hL
    refine ⟨rfl, by simp [okB], .inr ⟨w.heap.size, cap, 0, u, 0, by rw [upd_same], rfl, ?_⟩⟩
    simp only [lcap, List.isEmpty_nil, Bool.and_self, if_true, Blk.len, lenT]
  · show HRel F' _ _ (w'.heap.push _) B0
    rw [hw]; exact f3

theorem sound_alloc (hI : In E B0 F ρ L w) {e : TypeId} (hop : o.op = .alloc e) (hnew : ∀ p, p ∈ r.new → L p.1 = none) (ev_ : evalOp E (.alloc e) o.type o.dst [] = some r) :
    Does E.P o ev w (Post B0 F ρ L w r.v (r.L L)) := by
  simp only [evalOp] at ev_
  split at ev_
  · rename_i t d ht hd
    cases ev_
    have hty := hI.env.ty _ _ ht
    obtain ⟨z, z1, z2, z3⟩ := run_zeroValue' hty
    refine does_newVar hI (hnew _ (List.mem_singleton.2 rfl)) (cl := z.cells.toList) (id := e) (by rw [z3]; exact rep_dflt t) ?_
    simp [execOp, hop, Instr.alloc, z1, newVar, newRow]
  · cases ev_

theorem sound_box (hI : In E B0 F ρ L w) {e : TypeId} {X : Operand} {x : AV × Option Blk} (hop : o.op = .box e X) (hx : Arg F ρ L x (ev X)) (hnew : ∀ p, p ∈ r.new → L p.1 = none)
    (ev_ : evalOp E (.box e X) o.type o.dst [x] = some r) (hc : ∀ c, c ∈ r.cs → c) : Does E.P o ev w (Post B0 F ρ L w r.v (r.L L)) := by
  obtain ⟨a, b⟩ := x
  obtain ⟨ha, hb⟩ := hx
  simp only at ha hb
  simp only [evalOp] at ev_
  split at ev_
  · rename_i t d ht hd
    split at ev_
    · rename_i y cs e1
      cases ev_
      have hr := deepV_sound (E := true) hI.rel ha hb e1 hc
      refine does_newVar hI (hnew _ (List.mem_singleton.2 rfl)) (cl := (ev X).cells.toList) (id := e) (repV_cells hr) ?_
      simp [execOp, hop, Instr.box, newVar, newRow]
    · cases ev_
  · cases ev_

/-! ### Literals -/
def PartsOk (F : FH) (ρ : RM) (L : HL) : List (Nat × AV × Option Blk) → List (Nat × Value) → Prop
  | [], [] => True
  | (i, a) :: ps, (j, v) :: vs => i = j ∧ Arg F ρ L a v ∧ PartsOk F ρ L ps vs
  | _, _ => False

theorem fill_sound (hR : HRel F ρ L w.heap B0) {mk : Nat → List Stp} {t : Ty} {sub : Nat → Option Ty} {place : Nat → Option (Nat × Nat)}
    (hsub : ∀ i u, sub i = some u → ∃ off, place i = some (off, u.size) ∧ t.nav (mk i) = some (u, off) ∧ okT t (mk i)) :
    ∀ (ps : List (Nat × AV × Option Blk)) (vs : List (Nat × Value)) (x z : t.den) (cells : Array Value) (cs : List Prop), PartsOk F ρ L ps vs → Rep F t x cells.toList →
      fillParts mk t x ps sub = some (z, cs) → (∀ c, c ∈ cs → c) → ∃ cells', Instr.fill place cells vs = some cells' ∧ Rep F t z cells'.toList := by
  intro ps
  induction ps with
  | nil =>
    intro vs x z cells cs hp hr e hc
    cases vs with
    | nil => cases e; exact ⟨cells, rfl, hr⟩
    | cons v vs => exact hp.elim
  | cons p ps ih =>
    intro vs x z cells cs hp hr e hc
    cases vs with
    | nil => exact hp.elim
    | cons v vs =>
      obtain ⟨i, a, b⟩ := p
      obtain ⟨j, v⟩ := v
      obtain ⟨rfl, ⟨ha, hb⟩, hp⟩ := hp
      simp only [fillParts] at e
      split at e
      · cases e
      · rename_i u hu
        split at e
        · cases e
        · rename_i y cs1 e1
          split at e
          · cases e
          · rename_i x' e2
            split at e
            · rename_i z' cs2 e3
              cases e
              obtain ⟨c1, c2⟩ := mem2 hc
              have hv := deepV_sound (E := true) hR ha hb e1 c1
              simp only [if_true] at hv
              obtain ⟨off, p1, p2, p3⟩ := hsub i u hu
              have hvc := repV_cells hv
              obtain ⟨o2, n1, n2, n3⟩ := setP_rep t x cells.toList (mk i) hr p3 ⟨u, y⟩ x' e2 _ hvc
              rw [p2] at n1
              cases n1
              have lc := rep_len _ _ _ hr
              have lv := rep_len _ _ _ hvc
              simp only [Array.length_toList] at lc lv
              simp only at n2 n3
              obtain ⟨cells', q1, q2⟩ := ih vs x' z (putL cells.toList off v.cells.toList).toArray cs2 hp (by
                simp only [putL, lv, Array.length_toList]; exact n3) e3 c2
              refine ⟨cells', ?_, q2⟩
              simp only [Instr.fill, p1]
              rw [if_neg (by simp; omega)]
              rw [arr_foldl_put off v.cells cells (by omega)]
              exact q1
            · cases e

theorem chain_all {P : Program} : ∀ (t : Ty) (fs : List Field) (off : Nat), tOkB P t (.inr (fs, off)) = true → ∀ f, f ∈ fs → ∃ u, TyOk P u f.type := by
  intro t
  induction t with
  | pair a b _ ihb =>
    intro fs off h
    cases fs with
    | nil => simp [tOkB] at h
    | cons f r =>
      simp only [tOkB, Bool.and_eq_true, beq_iff_eq, bne_iff_ne, ne_eq] at h
      intro g hg
      rcases List.mem_cons.1 hg with rfl | hg
      · exact ⟨a, h.1.2⟩
      · exact ihb r _ h.2 g hg
  | unit =>
    intro fs off h
    cases fs with
    | nil => intro f hf; cases hf
    | cons f r => simp [tOkB] at h
  | _ => intro fs off h; cases fs <;> simp [tOkB] at h

theorem run_places {P : Program} : ∀ (fs : List Field) (w : World), (∀ f, f ∈ fs → ∃ u, TyOk P u f.type) →
    ((fs.mapM fun f => do pure (f.offset, ← Go.sizeOf f.type) : Sem (List (Nat × Nat)))).run P w = .ok (fs.map fun f => (f.offset, P.cellsOf f.type)) w := by
  intro fs
  induction fs with
  | nil => intro w _; simp
  | cons f r ih =>
    intro w h
    obtain ⟨u, hu⟩ := h f (by simp)
    obtain ⟨i, z, i1, i2, _⟩ := hu.info.out
    have hs : P.cellsOf f.type = u.size := by simp [Program.cellsOf, i1, i2]
    simp only [List.mapM_cons, Sem.run_bind, run_sizeOf' hu, Result.andThen_ok, Sem.run_pure, ih w (fun g hg => h g (by simp [hg])), hs, List.map_cons]

theorem pairUp_ok : ∀ (parts : List (Nat × Operand)) (args : List (AV × Option Blk)) (ps : List (Nat × AV × Option Blk)), pairUp (parts.map (·.1)) args = some ps → ArgsOk F ρ L args (parts.map fun p => ev p.2) →
    PartsOk F ρ L (ps.map fun p => (p.1, p.2.1, p.2.2)) (parts.map fun p => (p.1, ev p.2)) := by
  intro parts
  induction parts with
  | nil =>
    intro args ps e h
    cases args with
    | nil => simp [pairUp] at e; subst e; trivial
    | cons a args => exact h.elim
  | cons p parts ih =>
    intro args ps e h
    cases args with
    | nil => exact h.elim
    | cons a args =>
      simp only [List.map_cons, pairUp] at e
      split at e
      · rename_i r e1
        cases e
        exact ⟨rfl, h.1, ih args r e1 h.2⟩
      · cases e

theorem sound_build (hI : In E B0 F ρ L w) {t : TypeId} {parts : Array (Nat × Operand)} {args : List (AV × Option Blk)} (hop : o.op = .build t parts) (hx : ArgsOk F ρ L args (parts.toList.map fun p => ev p.2))
    (e : evalOp E (.build t parts) o.type o.dst args = some r) (hc : ∀ c, c ∈ r.cs → c) : Does E.P o ev w (Post B0 F ρ L w r.v (r.L L)) := by
  simp only [evalOp] at e
  split at e
  · rename_i n u ps ht hp
    split at e
    · rename_i x cs e1
      cases e
      have hty := hI.env.ty _ _ ht
      obtain ⟨eid, g1, g2⟩ := hty.arr
      obtain ⟨z, z1, z2, z3⟩ := run_zeroValue' hty
      have hpo := pairUp_ok (ev := ev) parts.toList args ps hp hx
      obtain ⟨cells', q1, q2⟩ := fill_sound hI.rel (mk := fun i => [.idx i]) (t := .arr n u) (sub := fun i => if i < n then some u else none) (place := fun i => some (i * u.size, u.size))
        (fun i u' h => by
          split at h
          · rename_i hi; cases h; exact ⟨i * u.size, rfl, by simp [Ty.nav], hi, okT_nil _⟩
          · cases h) _ _ _ _ z.cells cs hpo (by rw [z3]; exact rep_dflt _) e1 hc
      refine does_pure hI (v := .agg cells') ?_ (repAV_val.2 (show RepV F (.arr n u) x (.agg cells') from ⟨cells'.toList, by simp, q2⟩)) rfl
      simp [execOp, hop, Instr.build, z1, run_underlying g1, run_sizeOf' g2, q1]
    · cases e
  · rename_i t' ps hna ht hp
    split at e
    · cases e
    rename_i hag
    split at e
    · rename_i x cs e1
      cases e
      have hty := hI.env.ty _ _ ht
      have hpo := pairUp_ok (ev := ev) parts.toList args ps hp hx
      obtain ⟨z, z1, z2, z3⟩ := run_zeroValue' hty
      have fin : ∀ (fs : Array Field), E.P.underlying t = some (.struct fs) → (∀ f, f ∈ fs.toList → ∃ u, TyOk E.P u f.type) → t'.isAgg = true →
          (∀ i u o, t'.nav [.fld i] = some (u, o) → ∃ f, fs[i]? = some f ∧ f.offset = o ∧ TyOk E.P u f.type ∧ okT t' [.fld i]) → Does E.P o ev w (Post B0 F ρ L w (.val t' x) ((⟨cs, .val t' x, [], [], []⟩ : Res).L L)) := by
        intro fs g1 hall hagg hfld
        have hpl := run_places fs.toList w hall
        have hpl2 : ((fs.mapM fun f => do pure (f.offset, ← Go.sizeOf f.type) : Sem (Array (Nat × Nat)))).run E.P w = .ok (fs.map fun f => (f.offset, E.P.cellsOf f.type)) w := by
          rw [Array.mapM_eq_mapM_toList, Sem.run_map, hpl]
          simp only [Result.andThen_ok]
          congr 1
          apply Array.ext'; simp
        obtain ⟨cells', q1, q2⟩ := fill_sound hI.rel (mk := fun i => [.fld i]) (t := t') (sub := fun i => (t'.nav [.fld i]).map (·.1)) (place := fun i => (fs.map fun f => (f.offset, E.P.cellsOf f.type))[i]?)
          (fun i u' h => by
            cases hn : t'.nav [.fld i] with
            | none => rw [hn] at h; cases h
            | some p =>
              obtain ⟨u2, o2⟩ := p
              rw [hn] at h
              cases h
              obtain ⟨f, k1, k2, k3, k4⟩ := hfld i _ _ hn
              obtain ⟨ii, zz, i1, i2, _⟩ := k3.info.out
              exact ⟨o2, by simp [k1, k2, Program.cellsOf, i1, i2], rfl, k4⟩) _ _ _ _ z.cells cs hpo (by rw [z3]; exact rep_dflt _) e1 hc
        refine does_pure hI (v := .agg cells') ?_ (repAV_val.2 ?_) rfl
        · simp only [execOp, hop, Instr.build, Sem.run_bind, z1, run_underlying g1, Result.andThen_ok, hpl2]
          simp only [Array.toList_map, q1, Sem.run_pure, Result.andThen_ok]
        · unfold RepV; rw [if_pos hagg]; exact ⟨cells'.toList, by simp, q2⟩
      cases t' with
      | pair a b =>
        obtain ⟨fs, f, rr, h1, h2, h3, h4, h5, h6, h7, h8⟩ := hty.pair
        have hcch : tOkB E.P (.pair a b) (.inr (fs.toList, 0)) = true := by
          rw [h3]; simp only [tOkB, Bool.and_eq_true, beq_iff_eq, bne_iff_ne, ne_eq]
          exact ⟨⟨⟨⟨h4, h5⟩, h6⟩, h7⟩, by simpa using h8⟩
        refine fin fs h1 (chain_all _ _ _ hcch) rfl (fun i u o hn => ?_)
        obtain ⟨g, k1, k2, k3, k4, k5⟩ := chain_field _ _ _ _ _ _ hcch hn
        exact ⟨g, by simpa using k1, by simpa using k2, k3, k5⟩
      | unit =>
        obtain ⟨fs, h1, h2, h3⟩ := hty.unit
        exact fin fs h1 (by rw [h2]; intro f hf; cases hf) rfl (fun i u o hn => by simp [Ty.nav] at hn)
      | arr n u => exact absurd rfl (hna n u)
      | _ => simp [Ty.isAgg] at hag
    · cases e
  · cases e

theorem range_cycle' (zs : Array Value) (n : Nat) : ((Array.range (n * zs.size)).map (fun i => zs[i % zs.size]!)) = (List.replicate n zs.toList).flatten.toArray := by
  have := range_cycle zs.toList n
  apply Array.ext'
  rw [List.toList_toArray, ← this]
  simp [Array.toList_map, Array.toList_range]

theorem sound_buildSlice (hI : In E B0 F ρ L w) {t : TypeId} {len : Nat} {parts : Array (Nat × Operand)} {args : List (AV × Option Blk)} (hop : o.op = .buildSlice t len parts)
    (hx : ArgsOk F ρ L args (parts.toList.map fun p => ev p.2)) (hnew : ∀ p, p ∈ r.new → L p.1 = none)
    (e : evalOp E (.buildSlice t len parts) o.type o.dst args = some r) (hc : ∀ c, c ∈ r.cs → c) : Does E.P o ev w (Post B0 F ρ L w r.v (r.L L)) := by
  simp only [evalOp] at e
  split at e
  · rename_i u ps d ht hp hd
    split at e
    · rename_i x cs e1
      split at e
      · cases e
      rename_i hbig
      cases e
      have hty := hI.env.ty _ _ ht
      obtain ⟨eid, g1, g2⟩ := hty.slc
      obtain ⟨z, z1, z2, z3⟩ := run_zeroValue' g2
      have hzs : z.cells.size = u.size := by rw [← Array.length_toList, z3, zeroCs_len]
      have hpo := pairUp_ok (ev := ev) parts.toList args ps hp hx
      have hcells : ∃ zc : Array Value, (len * u.size = 0 → zc = #[]) ∧ (len * u.size ≠ 0 → zc = z.cells) ∧
          ((Array.range (len * u.size)).map (zc[· % zc.size]!)).toList = (List.replicate len (zeroCs u)).flatten := by
        by_cases h0 : len * u.size = 0
        · refine ⟨#[], fun _ => rfl, fun h => absurd h0 h, ?_⟩
          rw [h0]
          have : (List.replicate len (zeroCs u)).flatten.length = 0 := by simp [zeroCs_len, h0]
          rw [List.eq_nil_of_length_eq_zero this]; simp
        · refine ⟨z.cells, fun h => absurd h h0, fun _ => rfl, ?_⟩
          rw [← hzs, range_cycle' z.cells len, List.toList_toArray, z3]
      obtain ⟨zc, zc0, zc1, zc2⟩ := hcells
      obtain ⟨cells', q1, q2⟩ := fill_sound hI.rel (mk := fun i => [.idx i]) (t := .arr len u) (sub := fun i => if i < len then some u else none) (place := fun i => some (i * u.size, u.size))
        (fun i u' h => by
          split at h
          · rename_i hi; cases h; exact ⟨i * u.size, rfl, by simp [Ty.nav], hi, okT_nil _⟩
          · cases h) _ _ _ _ ((Array.range (len * u.size)).map (zc[· % zc.size]!)) cs hpo (by rw [zc2]; exact rep_dflt (.arr len u)) e1 hc
      obtain ⟨k1, k2⟩ := q2
      have ll := repL_rep_len k2
      have k1' : List.length x = len := k1
      refine does_newRow hI (hnew _ (List.mem_singleton.2 rfl)) (w' := w) (id := eid) (cl := cells'.toList) (rest := []) (cap := len) rfl (Kept.refl _ _) k2 (by rw [ll, k1']; simp) (by rw [k1']; exact Nat.le_refl _) ?_
      have hb : ¬ (len * u.size > 2 ^ 24) := hbig
      simp only [execOp, hop, Instr.buildSlice, Sem.run_bind, run_underlying g1, Result.andThen_ok, run_sizeOf' g2]
      rw [if_neg hb]
      by_cases h0 : len * u.size = 0
      · rw [zc0 h0] at q1
        simp only [if_pos h0, Sem.run_bind, Sem.run_pure, Result.andThen_ok, Array.toList_map, q1, newRow, run_newObj, k1', List.append_nil]
        simp
      · rw [zc1 h0] at q1
        simp only [if_neg h0, Sem.run_bind, Sem.run_pure, Result.andThen_ok, z1, Array.toList_map, q1, newRow, run_newObj, k1', List.append_nil]
        simp
    · cases e
  · cases e

/-- STORE. -/
theorem fld_ok : ∀ (t : Ty) (p : List Stp) (u : Ty) (o : Nat), fldOnly p = true → t.nav p = some (u, o) → okT t p := by
  intro t
  induction t with
  | pair a b iha ihb =>
    intro p u o hf hn
    cases p with
    | nil => exact trivial
    | cons s p =>
      cases s with
      | idx i => simp [fldOnly] at hf
      | fld i =>
        cases i with
        | zero => simp only [Ty.nav] at hn; exact iha p u o hf hn
        | succ i =>
          simp only [Ty.nav] at hn
          split at hn
          · rename_i u1 o1 e
            exact ihb (.fld i :: p) u1 o1 hf e
          · cases hn
  | _ =>
    intro p u o hf hn
    cases p with
    | nil => exact trivial
    | cons s p => cases s <;> simp [Ty.nav, fldOnly] at hn hf

theorem nav_le : ∀ (t : Ty) (p : List Stp) (u : Ty) (o : Nat), okT t p → t.nav p = some (u, o) → o + u.size ≤ t.size := by
  intro t
  induction t with
  | pair a b iha ihb =>
    intro p u o hk hn
    cases p with
    | nil => simp only [Ty.nav, Option.some.injEq, Prod.mk.injEq] at hn; obtain ⟨rfl, rfl⟩ := hn; omega
    | cons s p =>
      cases s with
      | idx i => simp [Ty.nav] at hn
      | fld i =>
        cases i with
        | zero => simp only [Ty.nav] at hn; simp only [okT] at hk; have := iha p u o hk hn; simp only [Ty.size]; omega
        | succ i =>
          simp only [Ty.nav] at hn
          simp only [okT] at hk
          split at hn
          · rename_i u1 o1 e
            cases hn
            have := ihb (.fld i :: p) u o1 hk e
            simp only [Ty.size]; omega
          · cases hn
  | arr n t ih =>
    intro p u o hk hn
    cases p with
    | nil => simp only [Ty.nav, Option.some.injEq, Prod.mk.injEq] at hn; obtain ⟨rfl, rfl⟩ := hn; omega
    | cons s p =>
      cases s with
      | fld i => simp [Ty.nav] at hn
      | idx i =>
        simp only [Ty.nav] at hn
        simp only [okT] at hk
        split at hn
        · rename_i u1 o1 e
          cases hn
          have h1 := ih p u o1 hk.2 e
          have h2 : (i + 1) * t.size ≤ n * t.size := Nat.mul_le_mul_right _ hk.1
          rw [Nat.add_mul] at h2
          simp only [Ty.size]; omega
        · cases hn
  | _ =>
    intro p u o hk hn
    cases p with
    | nil => simp only [Ty.nav, Option.some.injEq, Prod.mk.injEq] at hn; obtain ⟨rfl, rfl⟩ := hn; omega
    | cons s p => cases s <;> simp [Ty.nav] at hn

theorem clash_apart : ∀ (t : Ty) (p q : List Stp) (u w : Ty) (o1 o2 : Nat), clash p q = false → okT t p → okT t q → t.nav p = some (u, o1) → t.nav q = some (w, o2) → o1 + u.size ≤ o2 ∨ o2 + w.size ≤ o1 := by
  intro t
  induction t with
  | pair a b iha ihb =>
    intro p q u w o1 o2 hc h1 h2 n1 n2
    cases p with
    | nil => simp [clash] at hc
    | cons s p =>
      cases s with
      | idx i => simp [clash] at hc
      | fld i =>
        cases q with
        | nil => simp [clash] at hc
        | cons s' q =>
          cases s' with
          | idx j => simp [clash] at hc
          | fld j =>
            cases i with
            | zero =>
              simp only [Ty.nav] at n1
              simp only [okT] at h1
              cases j with
              | zero => simp only [Ty.nav] at n2; simp only [okT] at h2; simp only [clash, beq_self_eq_true, if_true] at hc; exact iha p q u w o1 o2 hc h1 h2 n1 n2
              | succ j =>
                simp only [Ty.nav] at n2
                split at n2
                · rename_i u2 o3 e
                  cases n2
                  have := nav_le a p u o1 h1 n1
                  left; omega
                · cases n2
            | succ i =>
              simp only [Ty.nav] at n1
              simp only [okT] at h1
              split at n1
              · rename_i u1 o3 e
                cases n1
                cases j with
                | zero =>
                  simp only [Ty.nav] at n2
                  simp only [okT] at h2
                  have := nav_le a q w o2 h2 n2
                  right; omega
                | succ j =>
                  simp only [Ty.nav] at n2
                  simp only [okT] at h2
                  split at n2
                  · rename_i u2 o4 e2
                    cases n2
                    have hc' : clash (.fld i :: p) (.fld j :: q) = false := by
                      simp only [clash] at hc ⊢
                      by_cases hij : i = j
                      · subst hij; simpa using hc
                      · simp [hij]
                    rcases ihb (.fld i :: p) (.fld j :: q) u w o3 o4 hc' h1 h2 e e2 with h | h
                    · left; omega
                    · right; omega
                  · cases n2
              · cases n1
  | _ =>
    intro p q u w o1 o2 hc h1 h2 n1 n2
    cases p with
    | nil => simp [clash] at hc
    | cons s p => cases s <;> first | (simp [clash] at hc; done) | (simp [Ty.nav] at n1)

theorem putL_out {l vs : List Value} {o i : Nat} (h : o + vs.length ≤ l.length) (hi : i < o ∨ o + vs.length ≤ i) : (putL l o vs)[i]? = l[i]? := by
  unfold putL
  rw [List.getElem?_append, List.getElem?_append]
  simp only [List.length_append, List.length_take, Nat.min_eq_left (show o ≤ l.length by omega)]
  rcases hi with hi | hi
  · rw [if_pos (by omega), if_pos hi, List.getElem?_take, if_pos hi]
  · rw [if_neg (by omega), List.getElem?_drop]; congr 1; omega

theorem lk_new {a : AV} {b : Option Blk} {path p : List Stp} {kk : Nat} {lk : List (List Stp × Nat)} (hm : (p, kk) ∈ lkSet path (a, b) lk) :
    (∃ u b', a = .whole kk (.arr 0 u) [] ∧ b = some b' ∧ b'.row = true ∧ b'.fz = true ∧ fldOnly path = true ∧ p = path) ∨ ((p, kk) ∈ lk ∧ clash p path = false) := by
  simp only [lkSet, List.mem_append, List.mem_filter, Bool.not_eq_true'] at hm
  rcases hm with hm | hm
  · left
    split at hm
    · split at hm
      · rename_i hc
        simp only [Bool.and_eq_true] at hc
        simp only [List.mem_singleton, Prod.mk.injEq] at hm
        obtain ⟨rfl, rfl⟩ := hm
        exact ⟨_, _, rfl, rfl, hc.1.1, hc.1.2, hc.2, rfl⟩
      · cases hm
    · cases hm
  · exact .inr hm

theorem sound_store (hI : In E B0 F ρ L w) {t : TypeId} {X Y : Operand} {x y : AV × Option Blk} (hop : o.op = .store t X Y) (hx : Arg F ρ L x (ev X)) (hy : Arg F ρ L y (ev Y))
    (e : evalStore (E.ty t) x.1 x.2 y = some r) (hc : ∀ c, c ∈ r.cs → c) : Does E.P o ev w (Post B0 F ρ L w .tnil (r.L L)) := by
  obtain ⟨a, b⟩ := x
  obtain ⟨ha, hb⟩ := hx
  obtain ⟨a', b'⟩ := y
  obtain ⟨ha', hb'⟩ := hy
  simp only at ha hb ha' hb' e
  unfold evalStore at e
  split at e
  · rename_i t' k root path blk ht
    split at e
    · cases e
    rename_i hfz
    simp only [Bool.or_eq_true, not_or, Bool.not_eq_true] at hfz
    obtain ⟨hz, hrow⟩ := hfz
    split at e
    · rename_i z cs e1
      split at e
      · rename_i zz e2
        cases e
        have hv := deepV_sound (E := true) hI.rel ha' hb' e1 hc
        simp only [if_true] at hv
        have hvc := repV_cells hv
        obtain ⟨k', hk', hL⟩ := blkL_some hb
        cases hk'
        obtain ⟨rfl, hok, bb, cap, u', off, h1, h2, h3⟩ := repAV_ptr.1 ha blk hL
        obtain ⟨c, eid, fr, cl, rest, g1, g2, g3, g4, g5, g6⟩ := hI.rel.live hL h1
        obtain ⟨o2, n1, n2, n3, n4⟩ := blk_set g5 hok hrow e2 hvc
        rw [h2] at n1; cases n1
        simp only at n2 n3
        have hty := hI.env.ty _ _ ht
        have lv := rep_len _ _ _ hvc
        have lc : c.toList.length = cl.length + rest.length := by rw [g4, List.length_append]
        simp only [Array.length_toList] at lv lc
        have hst := run_storeCells' E.P bb off eid fr (ev Y).cells.toList 0 c w g2 g3 (by simp; omega) (rep_one _ _ _ hvc)
        have hput : putL c.toList off (ev Y).cells.toList = putL cl off (ev Y).cells.toList ++ rest := by
          simp only [putL, g4, Array.length_toList]
          rw [List.take_append, List.drop_append, show off - cl.length = 0 by omega, show off + (ev Y).cells.size - cl.length = 0 by omega]
          simp
        have hsz : (putL c.toList off (ev Y).cells.toList).toArray.size = c.size := by
          rw [List.size_toArray, putL_len (by simp; omega)]; simp
        have hlen' : (⟨blk.row, blk.t, zz, false, if blk.row then [] else lkSet path (a', b') blk.lk⟩ : Blk).len = blk.len := by
          simp only [Blk.len]
          cases hr : blk.row
          · rw [hr] at n3 g5; exact lenT_var n3 g5
          · exact n4 hr
        obtain ⟨F', f1, f2, f3⟩ := hI.rel.redo (k' := k) (blk' := ⟨blk.row, blk.t, zz, false, if blk.row then [] else lkSet path (a', b') blk.lk⟩) (c' := (putL c.toList off (ev Y).cells.toList).toArray) (cs := cl) (cs' := putL cl off (ev Y).cells.toList) (rest' := rest)
          hL (.inl ⟨rfl, rfl, rfl, hlen'⟩) h1 g2 g1 g3 g6 hsz (by simpa using hput) (by rw [hsz]; exact n3) (fun h => by rw [hz] at h; cases h) (by
            intro p kk hm
            cases hrw : blk.row
            · rw [hrw] at hm hok
              have hokT : okT blk.t path := hok
              simp only [Bool.false_eq_true, if_false] at hm
              rcases lk_new hm with ⟨u2, b2, rfl, rfl, hc1, hc2, hc3, rfl⟩ | ⟨hm, hcl⟩
              · · · obtain ⟨k3, hk3, hL3⟩ := blkL_some hb'
                    simp only [AV.key, Option.some.injEq] at hk3
                    subst hk3
                    obtain ⟨hroot, _⟩ := repAV_whole.1 ha' _ hL3
                    have hts : t' = .slc u2 := by
                      obtain ⟨row2, t2, x2, fz2, lk2⟩ := b2
                      simp only at hroot hc2
                      subst hroot
                      cases t' with
                      | slc u =>
                        simp only [deepV, hc2, Bool.not_true, Bool.and_false, Bool.false_eq_true, if_false, getP] at e1
                        split at e1
                        · rename_i y e3
                          have := TV.as_eq e3
                          injection this with h4
                          injection h4 with h4
                          rw [h4]
                        · cases e1
                      | _ => simp [deepV] at e1
                    subst hts
                    refine ⟨by rw [hL3]; rfl, hc3, u2, off, ev Y, h2, ?_, ha'⟩
                    have hcells : (ev Y).cells.toList = [ev Y] := by
                      obtain ⟨v, hv1, hv2⟩ := hvc
                      have : ∀ w : Value, w.cells.toList = [w] ∨ ∃ cs, w = .agg cs := by
                        intro w; cases w <;> first | (left; rfl) | (right; exact ⟨_, rfl⟩)
                      rcases this (ev Y) with h | ⟨cs, h⟩
                      · exact h
                      · exfalso
                        rw [h] at hv
                        simp only [RepV, Ty.isAgg] at hv
                        obtain ⟨v2, hv3, hv4⟩ := hv
                        simp at hv3
                        rcases hv4 with ⟨h5, _⟩ | ⟨_, _, _, _, h5, _⟩
                        · rw [← hv3] at h5; cases h5
                        · rw [← hv3] at h5; cases h5
                    rw [List.getElem?_toArray]
                    unfold putL
                    rw [hcells, List.append_assoc, List.getElem?_append_right (by simp; omega)]
                    simp only [List.length_take, Array.length_toList]
                    rw [Nat.min_eq_left (by omega), Nat.sub_self]; rfl
              · obtain ⟨q1, q2⟩ := hI.rel.lnk k blk hL p kk hm
                obtain ⟨q0, u3, off3, v3, q3, q4, q5⟩ := q2 bb cap h1
                refine ⟨q1, q0, u3, off3, v3, q3, ?_, q5⟩
                have hc3 : c.toList[off3]? = some v3 := by simp only [cellAt, g2] at q4; simpa using q4
                have hap := clash_apart blk.t p path _ _ _ _ hcl (fld_ok _ _ _ _ q0 q3) hokT q3 h2
                have : (putL c.toList off (ev Y).cells.toList)[off3]? = c.toList[off3]? := putL_out (by simp; omega) (by
                  simp only [Ty.size] at hap
                  simp only [Array.length_toList, lv]
                  omega)
                rw [List.getElem?_toArray, this]; exact hc3
            · rw [hrw] at hm; simp at hm)
        rw [L_set]
        refine does_skip (w' := { w with heap := w.heap.setIfInBounds bb (.cells (putL c.toList off (ev Y).cells.toList).toArray eid fr) }) ?_ ⟨F', _, ?_, f3, f1, fun b hb => f2 b (fun e => hb (e ▸ g1)), ?_, ?_⟩
        · simp only [Nat.add_zero] at hst
          simp [execOp, hop, h3, Instr.storeAt, Instr.sureAddr, storeVar, run_sizeOf' hty, lv, hst]
        · simp only [RepAV, AV.isTup, if_true]; exact ⟨[], rfl, rfl⟩
        · exact LLe.redo (blk' := ⟨blk.row, blk.t, zz, false, if blk.row then [] else lkSet path (a', b') blk.lk⟩) hL (.inl ⟨rfl, rfl, rfl, hlen'⟩) h1
        · refine ⟨rfl, rfl, rfl, by simp, fun i hi => ?_⟩
          show (w.heap.setIfInBounds bb _)[i]? = _
          have hne : bb ≠ i := fun e => hi (by rw [← e]; exact g1)
          rw [Array.getElem?_setIfInBounds_ne hne]
      · cases e
    · cases e
  · cases e

theorem below_set {bb : Nat} (hb : B0 bb) (ob : Obj) : Kept B0 w { w with heap := w.heap.setIfInBounds bb ob } := by
  refine ⟨rfl, rfl, rfl, by simp, fun i hi => ?_⟩
  show (w.heap.setIfInBounds bb _)[i]? = _
  have hne : bb ≠ i := fun e => hi (by rw [← e]; exact hb)
  rw [Array.getElem?_setIfInBounds_ne hne]

theorem below_drew {w' : World} (h : Kept B0 w w') : Kept B0 w { w' with drawn := w'.drawn + 1 } := ⟨h.os, h.tape, h.output, h.size, h.block⟩

/-- MAKE. -/
theorem sound_makeSlice (hI : In E B0 F ρ L w) {t : TypeId} {X Y : Operand} {x y : AV × Option Blk} (hop : o.op = .makeSlice t X Y) (hx : RepAV F ρ L x.1 (ev X)) (hy : RepAV F ρ L y.1 (ev Y)) (hnew : ∀ p, p ∈ r.new → L p.1 = none)
    (e : evalOp E (.makeSlice t X Y) o.type o.dst [x, y] = some r) (hc : ∀ c, c ∈ r.cs → c) : Does E.P o ev w (Post B0 F ρ L w r.v (r.L L)) := by
  obtain ⟨x, xb⟩ := x
  obtain ⟨y, yb⟩ := y
  simp only [evalOp] at e
  split at e
  · rename_i u l c d ht hl hcn hd
    cases e
    obtain ⟨k1, e1⟩ := num_rep hx hl
    obtain ⟨k2, e2⟩ := num_rep hy hcn
    have hb : 0 ≤ l ∧ l ≤ c := hc _ (by simp)
    have hroom : Room c.toNat (E.bytes t) := hc _ (by simp)
    have hty := hI.env.ty _ _ ht
    obtain ⟨eid, g1, g2⟩ := hty.slc
    obtain ⟨i, z, i1, i2, i3, i4, i5, _⟩ := g2.info.out
    have hbytes := hI.env.bytes _ _ _ _ ht g1 i1
    have hzs : z.cells.size = u.size := by rw [← Array.length_toList, i5, zeroCs_len]
    obtain ⟨r1, r2⟩ := hroom
    have hb2 : (i.bytes : Int) * c ≤ 281474976710656 := by
      have h1 : i.bytes * c.toNat ≤ 2 ^ 46 := by
        calc i.bytes * c.toNat ≤ E.bytes t * c.toNat := Nat.mul_le_mul_right _ hbytes
          _ = c.toNat * E.bytes t := Nat.mul_comm _ _
          _ ≤ 2 ^ 46 := r2
      have h2 : ((i.bytes * c.toNat : Nat) : Int) ≤ 2 ^ 46 := by exact_mod_cast h1
      rw [Int.natCast_mul, Int.toNat_of_nonneg (by omega)] at h2
      omega
    have hrun := run_make (P := E.P) w t eid i z g1 i1 i3 k1 k2 l c hb.1 hb.2 hb2 (by omega)
    have hcells : (madeCells z.cells (c.toNat * i.size)).toList = (List.replicate l.toNat (zeroCs u)).flatten ++ (List.replicate (c.toNat - l.toNat) (zeroCs u)).flatten := by
      rw [madeCells, i2, ← hzs, range_cycle' z.cells c.toNat, List.toList_toArray, i5, ← List.flatten_append, List.replicate_append_replicate]
      congr 2; omega
    have hfl : ∀ n, (List.replicate n (zeroCs u)).flatten.length = n * u.size := fun n => by simp [zeroCs_len]
    refine does_newRow hI (hnew _ (List.mem_singleton.2 rfl)) (w' := w) (id := eid) (cl := (List.replicate l.toNat (zeroCs u)).flatten) (rest := (List.replicate (c.toNat - l.toNat) (zeroCs u)).flatten) (cap := c.toNat) rfl (Kept.refl _ _)
      (repL_replicate (rep_dflt u) _) (by rw [hfl, hfl, ← Nat.add_mul]; congr 1; omega) (by simp; omega) ?_
    rw [← hcells]
    simp only [execOp, hop, e1, e2, Sem.run_bind, hrun, Result.andThen_ok, Sem.run_pure, List.length_replicate]
  · cases e

end
end Lc
