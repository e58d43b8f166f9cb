/- The engine, part J: loads, places, slices of slices, lengths, conversions. -/
import Derived.Test.YtbaiojghpadffaaEngI
namespace Lc
open Go Go.RowKit
set_option linter.unusedVariables false
set_option linter.unusedSimpArgs false

theorem nav_append : ∀ (root : Ty) (p q : List Stp) (t u : Ty) (o o' : Nat), root.nav p = some (t, o) → t.nav q = some (u, o') → root.nav (p ++ q) = some (u, o + o') := by
  intro root
  induction root with
  | pair a b iha ihb =>
    intro p q t u o o' h1 h2
    cases p with
    | nil => simp [Ty.nav] at h1; obtain ⟨rfl, rfl⟩ := h1; simpa using h2
    | cons s p =>
      cases s with
      | idx i => simp [Ty.nav] at h1
      | fld i =>
        cases i with
        | zero => exact iha p q t u o o' h1 h2
        | succ i =>
          simp only [Ty.nav] at h1
          split at h1
          · rename_i v ov e
            cases h1
            have := ihb (.fld i :: p) q t u ov o' e h2
            simp only [List.cons_append, Ty.nav] at this ⊢
            rw [this]; simp; omega
          · cases h1
  | arr n a ih =>
    intro p q t u o o' h1 h2
    cases p with
    | nil => simp [Ty.nav] at h1; obtain ⟨rfl, rfl⟩ := h1; simpa using h2
    | cons s p =>
      cases s with
      | fld i => simp [Ty.nav] at h1
      | idx i =>
        simp only [Ty.nav] at h1
        split at h1
        · rename_i v ov e
          cases h1
          have := ih p q t u ov o' e h2
          simp only [List.cons_append, Ty.nav, this]; simp; omega
        · cases h1
  | _ =>
    intro p q t u o o' h1 h2
    cases p with
    | nil => simp [Ty.nav] at h1; obtain ⟨rfl, rfl⟩ := h1; simpa using h2
    | cons s p => simp [Ty.nav] at h1

theorem okT_nil (t : Ty) : okT t [] := by cases t <;> simp [okT]

theorem okT_append : ∀ (root : Ty) (p q : List Stp) (t : Ty) (o : Nat), okT root p → root.nav p = some (t, o) → okT t q → okT root (p ++ q) := by
  intro root
  induction root with
  | pair a b iha ihb =>
    intro p q t o hk h1 h2
    cases p with
    | nil => simp [Ty.nav] at h1; obtain ⟨rfl, rfl⟩ := h1; simpa using h2
    | cons s p =>
      cases s with
      | idx i => simp [Ty.nav] at h1
      | fld i =>
        cases i with
        | zero => exact iha p q t o hk h1 h2
        | succ i =>
          simp only [Ty.nav] at h1
          split at h1
          · rename_i v ov e
            cases h1
            exact ihb (.fld i :: p) q t ov hk e h2
          · cases h1
  | arr n a ih =>
    intro p q t o hk h1 h2
    cases p with
    | nil => simp [Ty.nav] at h1; obtain ⟨rfl, rfl⟩ := h1; simpa using h2
    | cons s p =>
      cases s with
      | fld i => simp [Ty.nav] at h1
      | idx i =>
        simp only [Ty.nav] at h1
        split at h1
        · rename_i v ov e
          cases h1
          exact ⟨hk.1, ih p q t ov hk.2 e h2⟩
        · cases h1
  | _ =>
    intro p q t o hk h1 h2
    cases p with
    | nil => simp [Ty.nav] at h1; obtain ⟨rfl, rfl⟩ := h1; simpa using h2
    | cons s p => simp [Ty.nav] at h1

theorem okB_append {row : Bool} {n : Nat} {root : Ty} {p q : List Stp} {t : Ty} {o : Nat} (hk : okB row n root p) (hp : (row && p.isEmpty) = false) (h1 : root.nav p = some (t, o)) (h2 : okT t q) : okB row n root (p ++ q) := by
  cases row
  · simp only [okB, Bool.false_eq_true, if_false] at hk ⊢; exact okT_append _ _ _ _ _ hk h1 h2
  · cases p with
    | nil => simp at hp
    | cons s p =>
      cases root with
      | arr m u =>
        cases s with
        | fld i => simp [okB] at hk
        | idx i =>
          simp only [okB, if_true, List.cons_append] at hk ⊢
          simp only [Ty.nav] at h1
          split at h1
          · rename_i v ov e; cases h1; exact ⟨hk.1, okT_append _ _ _ _ _ hk.2 e h2⟩
          · cases h1
      | _ => simp [okB] at hk

theorem chain_field {P : Program} : ∀ (t : Ty) (fs : List Field) (off i : Nat) (u : Ty) (o : Nat), tOkB P t (.inr (fs, off)) = true → t.nav [.fld i] = some (u, o) →
    ∃ f, fs[i]? = some f ∧ f.offset = off + o ∧ TyOk P u f.type ∧ u.size ≠ 0 ∧ okT t [.fld i] := by
  intro t
  induction t with
  | pair a b _ ihb =>
    intro fs off i u o h hn
    cases fs with
    | nil => simp [tOkB] at h
    | cons f r =>
      simp only [tOkB, Bool.and_eq_true, beq_iff_eq, bne_iff_ne, ne_eq] at h
      cases i with
      | zero => simp [Ty.nav] at hn; obtain ⟨rfl, rfl⟩ := hn; exact ⟨f, rfl, by omega, h.1.2, h.1.1.2, by simp [okT]⟩
      | succ i =>
        simp only [Ty.nav] at hn
        split at hn
        · rename_i v ov e
          cases hn
          obtain ⟨g, g1, g2, g3, g4, g5⟩ := ihb r (off + a.size) i u ov h.2 e
          exact ⟨g, g1, by omega, g3, g4, g5⟩
        · cases hn
  | unit => intro fs off i u o h hn; simp [Ty.nav] at hn
  | _ => intro fs off i u o h hn; cases fs <;> simp [tOkB] at h

theorem TyOk.field {P : Program} {t : Ty} {id : TypeId} (h : TyOk P t id) {i : Nat} {u : Ty} {o : Nat} (hn : t.nav [.fld i] = some (u, o)) :
    ∃ fs f, P.underlying id = some (.struct fs) ∧ fs[i]? = some f ∧ f.offset = o ∧ TyOk P u f.type ∧ u.size ≠ 0 ∧ okT t [.fld i] := by
  cases t with
  | pair a b =>
    obtain ⟨fs, f, r, h1, h2, h3, h4, h5, h6, h7, h8⟩ := h.pair
    have hc : tOkB P (.pair a b) (.inr (fs.toList, 0)) = true := by
      rw [h3]; simp only [tOkB, Bool.and_eq_true, beq_iff_eq, bne_iff_ne, ne_eq]
      exact ⟨⟨⟨⟨h4, h5⟩, h6⟩, h7⟩, by simpa using h8⟩
    obtain ⟨g, g1, g2, g3, g4, g5⟩ := chain_field _ _ _ _ _ _ hc hn
    exact ⟨fs, g, h1, by simpa using g1, by simpa using g2, g3, g4, g5⟩
  | _ => simp [Ty.nav] at hn

section
variable {E : Env} {B0 : Nat → Prop} {F : FH} {ρ : RM} {L : HL} {w : World} {o : Oper} {ev : Operand → Value} {r : Res}

theorem repA_nt {a : AV} {v : Value} (h : RepAV F ρ L a v) (ht : a.isTup = false) : RepA F ρ L a [v] := by
  unfold RepAV at h; rw [if_neg (by simp [ht])] at h; exact h
theorem repAV_nt {a : AV} {v : Value} (ht : a.isTup = false) (h : RepA F ρ L a [v]) : RepAV F ρ L a v := by
  unfold RepAV; rw [if_neg (by simp [ht])]; exact h

theorem repAV_cptr {t : Ty} {x : t.den} {v : Value} : RepAV F ρ L (.cptr t x) v ↔ ∃ b off cs, v = .pointer (some ⟨b, off, none⟩) ∧ Rep F t x cs ∧ FAt F b off cs := by
  constructor
  · intro h; obtain ⟨b, off, cs, h1, h2⟩ := repA_nt h rfl; simp at h1; exact ⟨b, off, cs, h1, h2⟩
  · rintro ⟨b, off, cs, rfl, h2⟩; exact repAV_nt rfl ⟨b, off, cs, rfl, h2⟩

theorem repAV_ptr {k : Nat} {root : Ty} {p : List Stp} {v : Value} : RepAV F ρ L (.ptr k root p) v ↔ ∀ blk, L k = some (some blk) → blk.t = root ∧ okB blk.row blk.len root p ∧
      ∃ b cap u off, ρ k = some (b, cap) ∧ root.nav p = some (u, off) ∧ v = .pointer (some ⟨b, cap.2 + off, none⟩) := by
  constructor
  · intro h; obtain ⟨v', h1, h2⟩ := repA_nt h rfl; simp at h1; subst h1; exact h2
  · intro h; exact repAV_nt rfl ⟨v, rfl, h⟩

theorem repAV_whole {k : Nat} {root : Ty} {p : List Stp} {v : Value} : RepAV F ρ L (.whole k root p) v ↔ ∀ blk, L k = some (some blk) → blk.t = root ∧ okB blk.row blk.len root p ∧ HW (ρ k) blk.row blk.len root p v := by
  constructor
  · intro h; obtain ⟨v', h1, h2⟩ := repA_nt h rfl; simp at h1; subst h1; exact h2
  · intro h; exact repAV_nt rfl ⟨v, rfl, h⟩

theorem repAV_sub {k : Nat} {root : Ty} {p : List Stp} {s l : Nat} {v : Value} : RepAV F ρ L (.sub k root p s l) v ↔ ∀ blk, L k = some (some blk) → blk.t = root ∧ okB blk.row blk.len root p ∧ HS (ρ k) blk.row blk.len root p s l v := by
  constructor
  · intro h; obtain ⟨v', h1, h2⟩ := repA_nt h rfl; simp at h1; subst h1; exact h2
  · intro h; exact repAV_nt rfl ⟨v, rfl, h⟩

/-- LOAD. -/
theorem samePath_eq : ∀ (p q : List Stp), samePath p q = true → p = q
  | [], [], _ => rfl
  | [], s :: q, h => by simp [samePath] at h
  | .idx i :: p, q, h => by cases q <;> simp [samePath] at h
  | .fld i :: p, [], h => by simp [samePath] at h
  | .fld i :: p, .idx j :: q, h => by simp [samePath] at h
  | .fld i :: p, .fld j :: q, h => by
    simp only [samePath, Bool.and_eq_true, beq_iff_eq] at h
    rw [h.1, samePath_eq p q h.2]
theorem lkAt_mem {path : List Stp} {k : Nat} : ∀ (l : List (List Stp × Nat)), lkAt path l = some k → (path, k) ∈ l
  | [], h => by cases h
  | (p, k') :: r, h => by
    simp only [lkAt] at h
    split at h
    · rename_i hp; cases h; rw [samePath_eq _ _ hp]; exact List.mem_cons_self
    · exact List.mem_cons_of_mem _ (lkAt_mem r h)

theorem sound_load (hI : In E B0 F ρ L w) {t : TypeId} {X : Operand} {x : AV × Option Blk} (hop : o.op = .load t X) (hx : Arg F ρ L x (ev X))
    (e : evalLoad (E.ty t) x.1 x.2 = some r) : Does E.P o ev w (Post B0 F ρ L w r.v (r.L L)) := by
  obtain ⟨a, b⟩ := x
  obtain ⟨ha, hb⟩ := hx
  simp only at ha hb e
  unfold evalLoad at e
  split at e
  · rename_i u t' y ht
    split at e
    · rename_i hu; subst hu
      cases e
      obtain ⟨bb, off, cs, hv, h1, h2⟩ := repAV_cptr.1 ha
      have hty := hI.env.ty _ _ ht
      have hl := run_loadVar' hty w bb off cs (rep_len _ _ _ h1) (fun i c hc => hI.rel.cons _ _ _ (h2 i c hc))
      refine does_pure hI (v := mkV _ cs) ?_ (repAV_val.2 (repV_mk h1)) rfl
      simp [execOp, hop, hv, Instr.loadAt, Instr.sureAddr, hl]
    · cases e
  · rename_i t' k root path blk ht
    split at e
    · cases e
    rename_i hrow
    have hrow : (blk.row && path.isEmpty) = false := by simpa using hrow
    split at e
    · rename_i u y hg
      split at e
      · rename_i hu; subst hu
        cases e
        obtain ⟨k', hk', hL⟩ := blkL_some hb
        cases hk'
        obtain ⟨rfl, hok, bb, cap, u', off, h1, h2, h3⟩ := repAV_ptr.1 ha blk hL
        obtain ⟨c, e, fr, hd, cl, rest, g1, g2, g3, g4, g5, g6⟩ := hI.rel.live hL h1 (notMap_row h2 hrow)
        obtain ⟨o2, n1, n2, n3⟩ := blk_get g5 hok hrow hg
        rw [h2] at n1; cases n1
        have hty := hI.env.ty _ _ ht
        have hl := run_loadVar' hty w bb (cap.2 + off) _ (rep_len _ _ _ n3) (fun i c' hc => by
          have hc2 := take_drop_get hc
          simp only [cellAt, g2]
          rw [Nat.add_assoc]; exact at_of g4.1 g4.2.2 hc2)
        refine does_pure hI (v := mkV u ((cl.drop off).take u.size)) ?_ ?_ rfl
        · simp [execOp, hop, h3, Instr.loadAt, Instr.sureAddr, hl]
        · have plain := repAV_val (ρ := ρ) (L := L) |>.2 (repV_mk n3)
          unfold loadAV
          split
          · rename_i kk ww e1 e2
            have hu : u = .slc ww := by cases u <;> simp [isSlc] at e2; rw [e2]
            subst hu
            obtain ⟨_, q2⟩ := hI.rel.lnk k blk hL path kk (lkAt_mem _ e1)
            obtain ⟨_, u3, off3, v3, m1, m2, m3⟩ := q2 bb cap h1
            rw [h2] at m1
            cases m1
            obtain ⟨vv, hvv, _⟩ := n3
            have hcell : (cl.drop off).take 1 = [v3] := by
              have hv4 : c.toList[cap.2 + off]? = some v3 := by simp only [cellAt, g2] at m2; simpa using m2
              have hlt : off < cl.length := by
                have := congrArg List.length hvv
                simp only [Ty.size, List.length_take, List.length_drop, List.length_singleton] at this
                omega
              rw [g4.2.2, List.getElem?_append_right (by omega), g4.1, Nat.add_sub_cancel_left, List.getElem?_append_left hlt] at hv4
              rw [List.drop_eq_getElem_cons hlt]
              simp only [List.take_succ_cons, List.take_zero]
              rw [List.getElem?_eq_getElem hlt] at hv4
              cases hv4; rfl
            have : mkV (.slc ww) ((cl.drop off).take (Ty.slc ww).size) = v3 := by
              show mkV (.slc ww) ((cl.drop off).take 1) = v3
              rw [hcell]; rfl
            rw [this]; exact m3
          · exact plain
      · cases e
    · cases e
  · cases e

theorem run_fieldPlace {P : Program} {u : Ty} {f : Field} (h : TyOk P u f.type) (hs : u.size ≠ 0) (b off : Nat) : (fieldPlace ⟨b, off, none⟩ f).run P w = .ok ⟨b, off + f.offset, none⟩ w := by
  simp [fieldPlace, run_sizeOf' h, hs, addr_add]

theorem getP_one {t : Ty} {x : t.den} {f : Nat} {v : TV} (h : getP t x [.fld f] = some v) : okT t [.fld f] := by
  revert f v
  induction t with
  | pair a b _ ihb =>
    intro f v h
    cases f with
    | zero => simp [okT]
    | succ f => exact ihb h
  | _ => intro f v h; simp [getP] at h

/-- THE ADDRESS OF A FIELD. -/
theorem sound_fieldAddr (hI : In E B0 F ρ L w) {s : TypeId} {X : Operand} {f : Nat} {x : AV × Option Blk} (hop : o.op = .fieldAddr s X f) (hx : Arg F ρ L x (ev X))
    (e : evalFieldAddr (E.ty s) f x.1 x.2 = some r) : Does E.P o ev w (Post B0 F ρ L w r.v (r.L L)) := by
  obtain ⟨a, b⟩ := x
  obtain ⟨ha, hb⟩ := hx
  simp only at ha hb e
  unfold evalFieldAddr at e
  split at e
  · rename_i t k root path blk ht
    split at e
    · rename_i hc
      cases e
      obtain ⟨hc1, hc2, hrow⟩ := hc
      obtain ⟨⟨u, ou⟩, hu⟩ := Option.isSome_iff_exists.1 hc2
      have hty := hI.env.ty _ _ ht
      obtain ⟨fs, g, g1, g2, g3, g4, g5, g6⟩ := hty.field hu
      obtain ⟨k', hk', hL⟩ := blkL_some hb
      cases hk'
      obtain ⟨rfl, hok, bb, cap, u', off, h1, h2, h3⟩ := repAV_ptr.1 ha blk hL
      rw [h2] at hc1
      simp at hc1; subst hc1
      refine does_pure hI (v := .pointer (some ⟨bb, cap.2 + (off + ou), none⟩)) ?_ ?_ rfl
      · simp [execOp, hop, h3, Instr.fieldAt, Instr.sureAddr, run_underlying g1, g2, run_fieldPlace g4 g5, g3, Nat.add_assoc]
      · refine repAV_ptr.2 (fun blk' hL' => ?_)
        rw [hL] at hL'; cases hL'
        exact ⟨rfl, okB_append hok hrow h2 g6, bb, cap, u, off + ou, h1, nav_append _ _ _ _ _ _ _ h2 hu, rfl⟩
    · cases e
  · rename_i t u y ht
    split at e
    · rename_i hu; subst hu
      split at e
      · rename_i v z hg
        cases e
        obtain ⟨bb, off, cs, hv, h1, h2⟩ := repAV_cptr.1 ha
        have hty := hI.env.ty _ _ ht
        obtain ⟨ou, n1, n2, n3⟩ := getP_rep _ _ _ _ h1 (getP_one hg) _ hg
        obtain ⟨fs, g, g1, g2, g3, g4, g5, g6⟩ := hty.field n1
        refine does_pure hI (v := .pointer (some ⟨bb, off + ou, none⟩)) ?_ ?_ rfl
        · simp [execOp, hop, hv, Instr.fieldAt, Instr.sureAddr, run_underlying g1, g2, run_fieldPlace g4 g5, g3]
        · exact repAV_cptr.2 ⟨bb, off + ou, _, rfl, n3, fun i c hc => by rw [Nat.add_assoc]; exact h2 _ _ (take_drop_get hc)⟩
      · cases e
    · cases e
  · cases e

/-- A FIELD OF A VALUE. -/
theorem sound_field (hI : In E B0 F ρ L w) {s : TypeId} {X : Operand} {f : Nat} {x : AV} (hop : o.op = .field s X f) (hx : RepAV F ρ L x (ev X))
    (e : evalField (E.ty s) f x = some r) : Does E.P o ev w (Post B0 F ρ L w r.v (r.L L)) := by
  unfold evalField at e
  split at e
  · rename_i t u y ht
    split at e
    · rename_i hu; subst hu
      split at e
      · rename_i v z hg
        cases e
        have hty := hI.env.ty _ _ ht
        rw [repAV_val] at hx
        have hag : u.isAgg = true := by cases u <;> first | rfl | (simp [getP] at hg)
        unfold RepV at hx
        rw [if_pos hag] at hx
        obtain ⟨cs, hv, h1⟩ := hx
        obtain ⟨ou, n1, n2, n3⟩ := getP_rep _ _ _ _ h1 (getP_one hg) _ hg
        obtain ⟨fs, g, g1, g2, g3, g4, g5, g6⟩ := hty.field n1
        have hl := rep_len _ _ _ h1
        simp only at n1 n2 n3
        have hp := run_part' g4 w cs.toArray ou (by simp; omega)
        refine does_pure hI (v := mkV v ((cs.drop ou).take v.size)) ?_ (repAV_val.2 (repV_mk n3)) rfl
        simp only at hp
        simp [execOp, hop, hv, Instr.field, asAgg, run_underlying g1, g2, g3, hp]
      · cases e
    · cases e
  · cases e

theorem own_list {F : FH} {ρ : RM} {L : HL} {H : Array Obj} (h : HRel F ρ L H B0) {k : Nat} {blk : Blk} (hL : L k = some (some blk)) {b : Nat} {cap : Cap} (hr : ρ k = some (b, cap)) {path : List Stp}
    (hok : okB blk.row blk.len blk.t path) {m n : Nat} {u u' : Ty} {xs : List u.den} (hg : getP blk.t blk.x path = some ⟨.arr m u, xs⟩) {off : Nat} (hn : blk.t.nav path = some (.arr n u', off)) :
    u' = u ∧ m = n ∧ (lcap blk.row path blk.len cap n).1 = xs.length ∧ xs.length ≤ (lcap blk.row path blk.len cap n).2 ∧
    ∀ i, i < xs.length → okB blk.row blk.len blk.t (path ++ [.idx i]) ∧ blk.t.nav (path ++ [.idx i]) = some (u, off + i * u.size) := by
  obtain ⟨c, e, fr, hd, cl, rest, g1, g2, g3, g4, g5, g6⟩ := h.live hL hr (notMap_get hg)
  by_cases hrow : (blk.row && path.isEmpty) = true
  · simp only [lcap, hrow, if_true]
    simp only [Bool.and_eq_true, List.isEmpty_iff] at hrow
    obtain ⟨r1, rfl⟩ := hrow
    simp only [getP, Option.some.injEq] at hg
    cases blk with
    | mk row t x fz =>
      cases hg
      simp only at r1
      subst r1
      simp only [RepC, if_true] at g5
      simp only [Ty.nav, Option.some.injEq, Prod.mk.injEq, Ty.arr.injEq] at hn
      obtain ⟨⟨rfl, rfl⟩, rfl⟩ := hn
      refine ⟨rfl, rfl, rfl, g5.2.2, fun i hi => ⟨?_, by simp [Ty.nav]⟩⟩
      simp only [List.nil_append, okB, if_true]
      exact ⟨hi, okT_nil _⟩
  · have hrow : (blk.row && path.isEmpty) = false := by simpa using hrow
    obtain ⟨o2, n1, n2, n3, n4⟩ := blk_get g5 hok hrow hg
    rw [hn] at n1
    cases n1
    have n3' : xs.length = m := n3
    have e1 : lcap blk.row path blk.len cap m = (m, m) := by simp only [lcap, hrow, Bool.false_eq_true, if_false]
    rw [e1]
    refine ⟨rfl, rfl, n3'.symm, by simp only; omega, fun i hi => ⟨okB_append hok hrow hn ⟨by omega, okT_nil _⟩, nav_append _ _ _ _ _ _ _ hn (by simp [Ty.nav])⟩⟩

theorem num_rep {a : AV} {v : Value} {n : Int} (h : RepAV F ρ L a v) (e : a.num = some n) : ∃ k, v = .int k n := by
  unfold AV.num at e
  split at e
  · cases e; exact ⟨_, repAV_int.1 h⟩
  · cases e

/-- THE ADDRESS OF AN ELEMENT. -/
theorem sound_indexAddr (hI : In E B0 F ρ L w) {t : TypeId} {X Y : Operand} {x : AV × Option Blk} {y : AV} {i : Int} (hop : o.op = .indexAddr t X Y) (hx : Arg F ρ L x (ev X)) (hy : RepAV F ρ L y (ev Y)) (hn : y.num = some i)
    (e : evalIndexAddr E t x i = some r) (hc : ∀ c, c ∈ r.cs → c) : Does E.P o ev w (Post B0 F ρ L w r.v (r.L L)) := by
  obtain ⟨a, b⟩ := x
  obtain ⟨ha, hb⟩ := hx
  obtain ⟨ik, hi⟩ := num_rep hy hn
  simp only at ha hb
  unfold evalIndexAddr at e
  simp only at e
  split at e
  · -- an array behind a pointer of the call's own
    rename_i n u k root path blk ht
    split at e
    · rename_i hcc
      obtain ⟨hc1, hrow⟩ := hcc
      cases e
      obtain ⟨i0, i1⟩ := one_mem hc
      have hty := hI.env.ty _ _ ht
      obtain ⟨eid, g1, g2⟩ := hty.arr
      obtain ⟨k', hk', hL⟩ := blkL_some hb
      cases hk'
      obtain ⟨rfl, hok, bb, cap, u', off, h1, h2, h3⟩ := repAV_ptr.1 ha blk hL
      rw [h2] at hc1
      simp at hc1; subst hc1
      refine does_pure hI (v := .pointer (some ⟨bb, cap.2 + (off + i.toNat * u.size), none⟩)) ?_ ?_ rfl
      · simp [execOp, hop, h3, hi, Instr.indexAt, Instr.sureAddr, asIntOf, run_underlying g1, i0, i1, run_sizeOf' g2, addr_add, Nat.add_assoc]
      · refine repAV_ptr.2 (fun blk' hL' => ?_)
        rw [hL] at hL'; cases hL'
        exact ⟨rfl, okB_append hok hrow h2 ⟨by omega, okT_nil u⟩, bb, cap, u, off + i.toNat * u.size, h1, nav_append _ _ _ _ _ _ _ h2 (by simp [Ty.nav]), rfl⟩
    · cases e
  · -- an array in frozen memory
    rename_i n u ww xs ht
    split at e
    · rename_i xs' e1
      have := TV.as_eq e1
      cases this
      cases e
      obtain ⟨i0, i1⟩ := one_mem hc
      have hty := hI.env.ty _ _ ht
      obtain ⟨eid, g1, g2⟩ := hty.arr
      obtain ⟨bb, off, cs, hv, ⟨h1, h1'⟩, h2⟩ := repAV_cptr.1 ha
      refine does_pure hI (v := .pointer (some ⟨bb, off + i.toNat * u.size, none⟩)) ?_ ?_ rfl
      · simp [execOp, hop, hv, hi, Instr.indexAt, Instr.sureAddr, asIntOf, run_underlying g1, i0, i1, run_sizeOf' g2, addr_add]
      · have g := repL_get (fun x cs => rep_len u x cs) _ _ h1' i.toNat u.dflt (by omega)
        exact repAV_cptr.2 ⟨bb, _, _, rfl, g, fun j c hc => by rw [Nat.add_assoc]; exact h2 _ _ (take_drop_get hc)⟩
    · cases e
  · -- a slice in frozen memory
    rename_i u ww xs ht
    split at e
    · rename_i xs' e1
      have := TV.as_eq e1
      cases this
      cases e
      obtain ⟨i0, i1⟩ := one_mem hc
      have hty := hI.env.ty _ _ ht
      obtain ⟨eid, g1, g2⟩ := hty.slc
      rw [repAV_val] at ha
      obtain ⟨v, hv, hs⟩ := ha
      simp at hv; subst hv
      rcases hs with ⟨_, h1, _⟩ | ⟨bb, off, cap, cs, hv, h1, h2, h3⟩
      · omega
      · refine does_pure hI (v := .pointer (some ⟨bb, off + i.toNat * u.size, none⟩)) ?_ ?_ rfl
        · simp [execOp, hop, hv, hi, Instr.indexAt, asIntOf, run_underlying g1, i0, i1, run_sizeOf' g2, addr_add]
        · have g := repL_get (fun x cs => rep_len u x cs) _ _ h2 i.toNat u.dflt (by omega)
          exact repAV_cptr.2 ⟨bb, _, _, rfl, g, fun j c hc => by rw [Nat.add_assoc]; exact h3 _ _ (take_drop_get hc)⟩
    · cases e
  · -- the same, cut
    rename_i u ww xs ht
    split at e
    · rename_i xs' e1
      have := TV.as_eq e1
      cases this
      cases e
      obtain ⟨i0, i1⟩ := one_mem hc
      have hty := hI.env.ty _ _ ht
      obtain ⟨eid, g1, g2⟩ := hty.slc
      rcases repA_nt ha rfl with ⟨h1, _⟩ | ⟨bb, off, cs, hv, h2, h3⟩
      · subst h1; simp at i1; omega
      · simp at hv
        refine does_pure hI (v := .pointer (some ⟨bb, off + i.toNat * u.size, none⟩)) ?_ ?_ rfl
        · simp [execOp, hop, hv, hi, Instr.indexAt, asIntOf, run_underlying g1, i0, i1, run_sizeOf' g2, addr_add]
        · have g := repL_get (fun x cs => rep_len u x cs) _ _ h2 i.toNat u.dflt (by omega)
          exact repAV_cptr.2 ⟨bb, _, _, rfl, g, fun j c hc => by rw [Nat.add_assoc]; exact h3 _ _ (take_drop_get hc)⟩
    · cases e
  · -- a whole slice of the call's own
    rename_i u k root path blk ht
    split at e
    · rename_i m ww xs hg
      split at e
      · rename_i hw; subst hw
        cases e
        obtain ⟨i0, i1⟩ := one_mem hc
        have hty := hI.env.ty _ _ ht
        obtain ⟨eid, g1, g2⟩ := hty.slc
        obtain ⟨k', hk', hL⟩ := blkL_some hb
        cases hk'
        obtain ⟨rfl, hok, hw⟩ := repAV_whole.1 ha blk hL
        rcases hw with ⟨h1, h2, h3, h4, h5⟩ | ⟨bb, cap, n, u', off, h1, h2, h3⟩
        · subst h3
          simp only [getP, Option.some.injEq] at hg
          have : blk.len = List.length xs := by cases blk; cases hg; rfl
          omega
        · obtain ⟨rfl, rfl, l1, l2, l3⟩ := own_list hI.rel hL h1 hok hg h2
          obtain ⟨m1, m2⟩ := l3 i.toNat (by omega)
          rw [l1] at h3
          refine does_pure hI (v := .pointer (some ⟨bb, cap.2 + (off + i.toNat * u'.size), none⟩)) ?_ ?_ rfl
          · simp [execOp, hop, h3, hi, Instr.indexAt, asIntOf, run_underlying g1, i0, i1, run_sizeOf' g2, addr_add, Nat.add_assoc]
          · refine repAV_ptr.2 (fun blk' hL' => ?_)
            rw [hL] at hL'; cases hL'
            exact ⟨rfl, m1, bb, cap, _, _, h1, m2, rfl⟩
      · cases e
    · cases e
  · -- a part of a slice of the call's own
    rename_i u k root path s l blk ht
    split at e
    · rename_i m ww xs hg
      split at e
      · rename_i hw; subst hw
        cases e
        obtain ⟨i0, i1⟩ := hc (0 ≤ i ∧ i < (l : Int)) (by simp)
        have hlen : s + l ≤ List.length xs := hc _ (by simp)
        have hty := hI.env.ty _ _ ht
        obtain ⟨eid, g1, g2⟩ := hty.slc
        obtain ⟨k', hk', hL⟩ := blkL_some hb
        cases hk'
        obtain ⟨rfl, hok, hw⟩ := repAV_sub.1 ha blk hL
        rcases hw with ⟨h1, h2, h3, h4, h5, h6, h7⟩ | ⟨bb, cap, n, u', off, off', h1, h2, h3, h4, h5⟩
        · omega
        · obtain ⟨rfl, rfl, l1, l2, l3⟩ := own_list hI.rel hL h1 hok hg h2
          obtain ⟨m1, m2⟩ := l3 (s + i.toNat) (by omega)
          have h5 := h5 (by omega)
          refine does_pure hI (v := .pointer (some ⟨bb, off' + i.toNat * u'.size, none⟩)) ?_ ?_ rfl
          · simp [execOp, hop, h3, hi, Instr.indexAt, asIntOf, run_underlying g1, i0, i1, run_sizeOf' g2, addr_add]
          · refine repAV_ptr.2 (fun blk' hL' => ?_)
            rw [hL] at hL'; cases hL'
            exact ⟨rfl, m1, bb, cap, _, _, h1, m2, by rw [h5, Nat.add_mul]; simp only [Nat.add_assoc]⟩
      · cases e
    · cases e
  · cases e

end
end Lc
