/- The engine, part N, second text: maps. -/
import Derived.Test.YtbaiojghpadffaaEngN
import Derived.WideKeyRuns
namespace Lc
open Go Go.RowKit
set_option linter.unusedVariables false
set_option linter.unusedSimpArgs false

section
variable {P : Program} {F : FH} {w : World}

theorem ints_agg {n : Nat} {q : IntKind} {x : List Int} {v : Value} (h : RepV F (.arr n (.int q)) x v) : x.length = n ∧ v = .agg (x.map (Value.int q)).toArray := by
  obtain ⟨cs, rfl, h1, h2⟩ : ∃ cs : List Value, v = .agg cs.toArray ∧ Rep F (.arr n (.int q)) x cs := h
  exact ⟨h1, by rw [(repL_ints x cs).1 h2]⟩

theorem check_ints {n : Nat} {q : IntKind} {id : TypeId} (ht : TyOk P (.arr n (.int q)) id) {x : List Int} {v : Value} (hv : RepV F (.arr n (.int q)) x v) (em : Bool) : (Instr.checkKey em 10000 id v).run P w = .ok () w := by
  obtain ⟨hl, rfl⟩ := ints_agg hv
  obtain ⟨e, hu, he⟩ := ht.arr
  rw [show (10000 : Nat) = 9999 + 1 from rfl, Instr.checkKey]
  simp only [Sem.run_bind, run_underlying hu, Result.andThen_ok]
  simp only [Std.Legacy.Range.forIn_eq_forIn_range', Std.Legacy.Range.size, Nat.sub_zero, Nat.add_one_sub_one, Nat.div_one]
  have each : ∀ j, j ∈ List.range' 0 n → j < n := by intro j hj; simp [List.mem_range'] at hj; omega
  generalize List.range' 0 n = is at each
  induction is with
  | nil => simp
  | cons j is ih =>
    have hj := each j (by simp)
    have p1 := run_part' he w (x.map (Value.int q)).toArray (j * 1) (by simp [Ty.size]; omega)
    simp only [List.toList_toArray] at p1
    have hg : ((x.map (Value.int q)).drop (j * 1)).take (Ty.int q).size = [Value.int q (x.getD j 0)] := by
      rw [Nat.mul_one]
      simp only [Ty.size]
      rw [List.drop_eq_getElem_cons (by simp; omega)]
      simp [List.getD_eq_getElem?_getD, show j < x.length by omega]
    rw [hg] at p1
    have p2 : (Instr.checkKey em 9999 e (.int q (x.getD j 0))).run P w = .ok () w := by
      rw [show (9999 : Nat) = 9998 + 1 from rfl, Instr.checkKey]
      simp [run_underlying he.int]
    have hm : mkV (.int q) [Value.int q (x.getD j 0)] = .int q (x.getD j 0) := rfl
    rw [hm] at p1
    have hs : (Go.sizeOf e).run P w = .ok 1 w := run_sizeOf' he w
    simp only [List.forIn_cons, Sem.run_bind, hs, Result.andThen_ok, p1, p2, Sem.run_pure]
    exact ih (fun y hy => each y (by simp [hy]))

theorem bits_ints (q : IntKind) (x : List Int) : Instr.sameBits 10000 (.agg (x.map (Value.int q)).toArray) (.agg (x.map (Value.int q)).toArray) = true := by
  rw [show (10000 : Nat) = 9999 + 1 from rfl]
  simp only [Instr.sameBits, beq_self_eq_true, Bool.true_and, List.all_eq_true, List.toList_toArray]
  intro p hp
  have : ∀ (l : List Int) (p : Value × Value), p ∈ (l.map (Value.int q)).zip (l.map (Value.int q)) → ∃ n, p = (.int q n, .int q n) := by
    intro l
    induction l with
    | nil => intro p h; cases h
    | cons a l ih =>
      intro p h
      simp only [List.map_cons, List.zip_cons_cons, List.mem_cons] at h
      rcases h with h | h
      · exact ⟨a, h⟩
      · exact ih p h
  obtain ⟨n, rfl⟩ := this x p hp
  simp [Instr.sameBits]

theorem find_rep {n : Nat} {q : IntKind} {V : Ty} {kt : TypeId} (ht : TyOk P (.arr n (.int q)) kt) {k : List Int} {kv : Value} (hk : RepV F (.arr n (.int q)) k kv) (v : V.den) (d : V.den) :
    ∀ (xs : List (List Int × V.den)) (es : List MapEntry) (j : Nat), RepM F (.arr n (.int q)) V xs es →
      (mhas (.arr n (.int q)) V k xs = false ∧ (Instr.findAsking kt kv es j).run P w = .ok none w ∧ mget (.arr n (.int q)) V k d xs = d ∧ ∀ e : MapEntry, e.key = kv → RepV F V v e.val → RepM F (.arr n (.int q)) V (mput (.arr n (.int q)) V k v xs) (es ++ [e])) ∨
      (mhas (.arr n (.int q)) V k xs = true ∧ ∃ i val, (Instr.findAsking kt kv es j).run P w = .ok (some (j + i, val)) w ∧ i < es.length ∧ RepV F V (mget (.arr n (.int q)) V k d xs) val ∧ (es[i]?).map (·.key) = some kv ∧
        ∀ e : MapEntry, e.key = kv → RepV F V v e.val → RepM F (.arr n (.int q)) V (mput (.arr n (.int q)) V k v xs) (es.set i e)) := by
  intro xs
  induction xs with
  | nil =>
    rintro es j rfl
    exact .inl ⟨rfl, rfl, rfl, fun e h1 h2 => ⟨e, [], rfl, by rw [h1]; exact hk, h2, rfl⟩⟩
  | cons x xs ih =>
    rintro es j ⟨e0, r, rfl, h1, h2, h3⟩
    have heq := (equal_rep (P := P) (F := F) (.arr n (.int q)) rfl).1 kt Op.maxDepth kv e0.key k x.1 w ht (by simp [Op.maxDepth, Ty.dep]) hk h1
    have hrun : (Instr.findAsking kt kv (e0 :: r) j).run P w = if (Ty.arr n (.int q)).beq k x.1 then .ok (some (j, e0.val)) w else (Instr.findAsking kt kv r (j + 1)).run P w := by
      simp only [Instr.findAsking, Sem.run_bind, Op.equal, heq, Result.andThen_ok]
      split <;> rfl
    cases hb : (Ty.arr n (.int q)).beq k x.1 with
    | true =>
      have hx := (Ty.beq_iff _ _ _).1 hb
      right
      refine ⟨by simp only [mhas, hb, if_true], 0, e0.val, by rw [hrun, hb]; rfl, by simp, by simp only [mget, hb, if_true]; exact h2, ?_, fun e g1 g2 => ?_⟩
      · obtain ⟨_, e1⟩ := ints_agg hk
        obtain ⟨_, e2⟩ := ints_agg h1
        simp only [List.getElem?_cons_zero, Option.map_some, Option.some.injEq]
        rw [e1, e2, hx]
      · simp only [mput, hb, if_true, List.set_cons_zero]
        exact ⟨e, r, rfl, by rw [g1]; exact hk, g2, h3⟩
    | false =>
      rcases ih r (j + 1) h3 with ⟨a1, a2, a3, a4⟩ | ⟨a1, i, val, a2, a3, a4, a5, a6⟩
      · left
        refine ⟨by simp only [mhas, hb, Bool.false_eq_true, if_false]; exact a1, by rw [hrun, hb]; exact a2, by simp only [mget, hb, Bool.false_eq_true, if_false]; exact a3, fun e g1 g2 => ?_⟩
        simp only [mput, hb, Bool.false_eq_true, if_false]
        exact ⟨e0, r ++ [e], rfl, h1, h2, a4 e g1 g2⟩
      · right
        refine ⟨by simp only [mhas, hb, Bool.false_eq_true, if_false]; exact a1, i + 1, val, by rw [hrun, hb]; simp only [Bool.false_eq_true, if_false]; rw [a2]; congr 3; omega, by simp; omega, by simp only [mget, hb, Bool.false_eq_true, if_false]; exact a4, by simpa using a5, fun e g1 g2 => ?_⟩
        simp only [mput, hb, Bool.false_eq_true, if_false, List.set_cons_succ]
        exact ⟨e0, r.set i e, rfl, h1, h2, a6 e g1 g2⟩

theorem run_find {n : Nat} {q : IntKind} {kt : TypeId} (ht : TyOk P (.arr n (.int q)) kt) (kv : Value) (es : List MapEntry) : (Instr.findKey kt kv es).run P w = (Instr.findAsking kt kv es).run P w := by
  obtain ⟨e, hu, _⟩ := ht.arr
  exact run_findKey_eq w (by rw [hu]) kv es
end

section
variable {E : Env} {B0 : Nat → Prop} {F : FH} {ρ : RM} {L : HL} {w : World} {o : Oper} {ev : Operand → Value} {r : Res}

theorem repAV_mref {k : Nat} {v : Value} : RepAV F ρ L (.mref k) v ↔ ∀ blk, L k = some (some blk) → ∃ b cap, ρ k = some (b, cap) ∧ v = .map (some b) := by
  constructor
  · intro h; obtain ⟨v', h1, h2⟩ := repA_nt h rfl; simp at h1; subst h1; exact h2
  · intro h; exact repAV_nt rfl ⟨v, rfl, h⟩

/-- What the block of a map is. -/
theorem HRel.mapAt {H : Array Obj} (h : HRel F ρ L H B0) {k : Nat} {K V : Ty} {xs : List (K.den × V.den)} {lk : List (List Stp × Nat)} (hk : L k = some (some ⟨true, .map K V, xs, false, lk⟩)) {b : Nat} {cap : Cap} (hr : ρ k = some (b, cap)) :
    cap = (0, 0) ∧ B0 b ∧ ∃ es clock, H[b]? = some (.map es clock) ∧ RepM F K V xs es.toList := by
  rcases h.blk _ _ hk with g | ⟨b', cap', c, e, fr, hd, cs, rest, g1, g2, g3, g4, g5, g6, g7⟩ | ⟨K', V', xs', _, _, g, b', es, clock, g1, g2, g3, g4⟩
  · rw [g] at hr; cases hr
  · simp only [RepC, Bool.true_eq_false, false_and] at g6
  · rw [g1] at hr
    cases hr
    cases g
    exact ⟨rfl, g2, es, clock, g3, g4⟩

theorem sound_makeMap (hI : In E B0 F ρ L w) {t : TypeId} {res : Option Operand} {args : List (AV × Option Blk)} (hop : o.op = .makeMap t res) (ha : ArgsOk F ρ L args (res.toArray.toList.map ev)) (hnew : ∀ p, p ∈ r.new → L p.1 = none)
    (e : evalMakeMap (E.ty t) o.dst args = some r) : Does E.P o ev w (Post B0 F ρ L w r.v (r.L L)) := by
  unfold evalMakeMap at e
  have fin : ∀ (K V : Ty) (d : Nat), r = ⟨[], .mref d, [(d, ⟨true, .map K V, [], false, []⟩)], [], []⟩ → (execOp ev o).run E.P w = .ok (.value (.map (some w.heap.size))) (w.alloc (.map #[] 0)) → Does E.P o ev w (Post B0 F ρ L w r.v (r.L L)) := by
    rintro K V d rfl hrun
    rw [L_new]
    have hk : L d = none := hnew _ (List.mem_singleton.2 rfl)
    refine does_ok hrun ⟨F, upd ρ d (some (w.heap.size, (0, 0))), ?_, hI.rel.freshMap hk K V hI.size, FH.le.rfl, fun _ _ => rfl, LLe.fresh hk _ _, (Kept.refl _ _).alloc hI.size _⟩
    exact repAV_mref.2 (fun blk _ => ⟨w.heap.size, (0, 0), by rw [upd_same], rfl⟩)
  split at e
  · rename_i K V d ht hd
    cases e
    cases res with
    | some x => exact ha.elim
    | none => exact fin K V d rfl (by simp [execOp, hop, Instr.makeMap, newObj]; rfl)
  · rename_i K V d a b ht hd
    split at e
    · rename_i n hn
      cases e
      cases res with
      | none => exact ha.elim
      | some x =>
        obtain ⟨kd, hx⟩ := num_rep ha.1.1 hn
        obtain ⟨ka, kb, hu, _⟩ := (hI.env.ty _ _ ht).map
        exact fin K V d rfl (by simp [execOp, hop, Instr.makeMap, hx, run_underlying hu, asInt, asIntOf, newObj]; rfl)
    · cases e
  · cases e

theorem key_rep {H : Array Obj} (hR : HRel F ρ L H B0) {av : AV} {v : Value} {n : Nat} {q : IntKind} {kx : List Int} (hy : RepAV F ρ L av v) (e2 : deepV false (.arr n (.int q)) av none = some (kx, [])) : RepV F (.arr n (.int q)) kx v := by
  have hb : (none : Option Blk) = blkL L av := by cases av <;> simp only [deepV] at e2 <;> first | rfl | (cases e2; done)
  exact repV_flat rfl (deepV_sound (E := false) hR hy hb e2 (fun c hc => by cases hc))

theorem sound_lookup (hI : In E B0 F ρ L w) {t : TypeId} {X Y : Operand} {ok : Bool} {x y : AV × Option Blk} (hop : o.op = .lookup t X Y ok) (hx : Arg F ρ L x (ev X)) (hy : RepAV F ρ L y.1 (ev Y)) (e : evalLookup (E.ty t) ok x y.1 = some r) :
    Does E.P o ev w (Post B0 F ρ L w r.v (r.L L)) := by
  obtain ⟨a, b⟩ := x
  obtain ⟨ha, hb⟩ := hx
  simp only at ha hb
  unfold evalLookup at e
  simp only at e
  split at e
  · rename_i n q V k u xs lk ht
    split at e
    · rename_i xs' kx e1 e2
      have := TV.as_eq e1
      cases this
      obtain ⟨k', hk', hL⟩ := blkL_some hb
      cases hk'
      obtain ⟨bb, cap, h1, h2⟩ := repAV_mref.1 ha _ hL
      obtain ⟨rfl, g1, es, clock, g2, g3⟩ := hI.rel.mapAt hL h1
      obtain ⟨kt, vt, hu, hkt, hvt⟩ := (hI.env.ty _ _ ht).map
      have hkv : RepV F (.arr n (.int q)) kx (ev Y) := key_rep hI.rel hy e2
      obtain ⟨z, z1, z2, _⟩ := run_zeroValue' hvt
      have hfind := find_rep (w := w) hkt hkv V.dflt V.dflt xs' es.toList 0 g3
      have hget : (getObj bb).run E.P w = .ok (.map es clock) w := MapKept.run_getObj_map g2
      have run : ∀ (rv : Value) (rb : Bool), ((∃ i, (Instr.findAsking kt (ev Y) es.toList 0).run E.P w = .ok (some (i, rv)) w) ∧ rb = true) ∨ ((Instr.findAsking kt (ev Y) es.toList 0).run E.P w = .ok none w ∧ rv = z ∧ rb = false) →
          (execOp ev o).run E.P w = .ok (.value (if ok then .tuple #[rv, .bool rb] else rv)) w := by
        intro rv rb h
        have hl : (Instr.lookup t (ev X) (ev Y) ok).run E.P w = .ok (if ok then .tuple #[rv, .bool rb] else rv) w := by
          rw [h2]
          rcases h with ⟨⟨i, h⟩, rfl⟩ | ⟨h, rfl, rfl⟩
          · simp [Instr.lookup, run_underlying hu, hget, check_ints hkt hkv, run_find hkt, h]
          · simp [Instr.lookup, run_underlying hu, hget, check_ints hkt hkv, run_find hkt, h, z1]
        simp [execOp, hop, hl]
      have key : ∃ rv, RepV F V (mget (.arr n (.int q)) V kx V.dflt xs') rv ∧ (execOp ev o).run E.P w = .ok (.value (if ok then .tuple #[rv, .bool (mhas (.arr n (.int q)) V kx xs')] else rv)) w := by
        rcases hfind with ⟨a1, a2, a3, _⟩ | ⟨a1, i, val, a2, _, a4, _⟩
        · exact ⟨z, by rw [a3]; exact z2 F, run z _ (.inr ⟨a2, rfl, a1⟩)⟩
        · exact ⟨val, a4, run val _ (.inl ⟨⟨_, a2⟩, a1⟩)⟩
      obtain ⟨rv, hrv, hrun⟩ := key
      split at e
      · rename_i hok
        cases e
        rw [hok] at hrun
        refine does_pure hI hrun ?_ rfl
        refine ⟨[rv, .bool _], rfl, rv, [.bool _], rfl, ⟨rv, rfl, hrv⟩, .bool _, [], rfl, ⟨_, rfl, repV_bool.2 rfl⟩, rfl⟩
      · rename_i hok
        cases e
        have hok : ok = false := by simpa using hok
        rw [hok] at hrun
        exact does_pure hI hrun (repAV_val.2 hrv) rfl
    · cases e
  · cases e

theorem sound_mapUpdate (hI : In E B0 F ρ L w) {t : TypeId} {X Y Z : Operand} {x y z : AV × Option Blk} (hop : o.op = .mapUpdate t X Y Z ∨ o.op = .insert t X Y Z) (hx : Arg F ρ L x (ev X)) (hy : RepAV F ρ L y.1 (ev Y)) (hz : Arg F ρ L z (ev Z))
    (e : evalMapUpdate (E.ty t) x y.1 z = some r) (hc : ∀ c, c ∈ r.cs → c) : Does E.P o ev w (Post B0 F ρ L w r.v (r.L L)) := by
  obtain ⟨a, b⟩ := x
  obtain ⟨ha, hb⟩ := hx
  simp only at ha hb
  unfold evalMapUpdate at e
  simp only at e
  split at e
  · rename_i n q V k u xs lk ht
    split at e
    · rename_i xs' kx vx cs e1 e2 e3
      have := TV.as_eq e1
      cases this
      cases e
      obtain ⟨k', hk', hL⟩ := blkL_some hb
      cases hk'
      obtain ⟨bb, cap, h1, h2⟩ := repAV_mref.1 ha _ hL
      obtain ⟨rfl, g1, es, clock, g2, g3⟩ := hI.rel.mapAt hL h1
      obtain ⟨kt, vt, hu, hkt, hvt⟩ := (hI.env.ty _ _ ht).map
      have hkv : RepV F (.arr n (.int q)) kx (ev Y) := key_rep hI.rel hy e2
      have hvv : RepV F V vx (ev Z) := deepV_sound (E := true) hI.rel hz.1 hz.2 e3 hc
      have hfind := find_rep (w := w) hkt hkv vx V.dflt xs' es.toList 0 g3
      have hget : (getObj bb).run E.P w = .ok (.map es clock) w := MapKept.run_getObj_map g2
      have hset : ∀ ob : Obj, (setObj bb ob).run E.P w = .ok () { w with heap := w.heap.setIfInBounds bb ob } := by
        intro ob; exact MapKept.run_setObj_map ob g2
      have fin : ∀ (es' : Array MapEntry) (clock' : Nat), RepM F (.arr n (.int q)) V (mput (.arr n (.int q)) V kx vx xs') es'.toList → (Instr.mapUpdate t (ev X) (ev Y) (ev Z)).run E.P w = .ok () { w with heap := w.heap.setIfInBounds bb (.map es' clock') } →
          Does E.P o ev w (Post B0 F ρ L w .tnil ((⟨cs, .tnil, [], [(k, ⟨true, .map (.arr n (.int q)) V, mput (.arr n (.int q)) V kx vx xs', false, []⟩)], []⟩ : Res).L L)) := by
        intro es' clock' hrep hrun
        rw [L_set]
        have e0 : upd (upd L k (some none)) k (some (some (⟨true, .map (.arr n (.int q)) V, mput (.arr n (.int q)) V kx vx xs', false, []⟩ : Blk))) = upd L k (some (some ⟨true, .map (.arr n (.int q)) V, mput (.arr n (.int q)) V kx vx xs', false, []⟩)) := by
          funext m; by_cases h : m = k <;> simp [upd, h]
        rw [e0]
        have hrel := hI.rel.setMap (lk := lk) (ys := mput (.arr n (.int q)) V kx vx xs') (clock' := clock') hL h1 g2 hrep
        refine does_skip (w' := { w with heap := w.heap.setIfInBounds bb (.map es' clock') }) ?_ ⟨F, ρ, ?_, hrel, FH.le.rfl, fun _ _ => rfl, ?_, below_set g1 _⟩
        · rcases hop with hop | hop <;> simp [execOp, hop, hrun]
        · simp only [RepAV, AV.isTup, if_true]; exact ⟨[], rfl, rfl⟩
        · intro m hm blk' hb'
          by_cases hmk : m = k
          · subst hmk
            rw [upd_same] at hb'
            cases hb'
            exact ⟨_, hL, rfl, rfl, rfl, rfl⟩
          · rw [upd_ne _ _ hmk] at hb'
            exact ⟨blk', hb', rfl, rfl, rfl, rfl⟩
      rcases hfind with ⟨a1, a2, _, a4⟩ | ⟨a1, i, val, a2, a3, _, a5, a6⟩
      · refine fin (es.push { key := ev Y, val := ev Z, born := clock }) (clock + 1) (by simpa using a4 _ rfl hvv) ?_
        rw [h2]
        simp [Instr.mapUpdate, run_underlying hu, hget, check_ints hkt hkv, run_find hkt, a2, hset]
      · have hi : i < es.size := by simpa using a3
        rw [Nat.zero_add] at a2
        have hold : (es[i]?).map (·.key) = some (ev Y) := by simpa using a5
        have hstay : (Instr.keyThatStays (((es[i]?).map (·.key)).getD (ev Y)) (ev Y)).run E.P w = .ok (ev Y) w := by
          rw [hold]
          obtain ⟨_, hagg⟩ := ints_agg hkv
          simp only [Option.getD_some, Instr.keyThatStays]
          rw [hagg, bits_ints]; rfl
        refine fin (es.modify i fun e => { e with key := ev Y, val := ev Z }) clock ?_ ?_
        · have := a6 { es[i] with key := ev Y, val := ev Z } rfl hvv
          have e5 : (es.modify i fun e => { e with key := ev Y, val := ev Z }).toList = es.toList.set i { es[i] with key := ev Y, val := ev Z } := by
            apply List.ext_getElem?
            intro m
            simp only [Array.toList_modify, List.getElem?_modify, List.getElem?_set]
            by_cases hm : i = m
            · subst hm; simp [hi]
            · simp [hm]
          rw [e5]; exact this
        · rw [h2]
          simp [Instr.mapUpdate, run_underlying hu, hget, check_ints hkt hkv, run_find hkt, a2, hstay, hset]
    · cases e
  · cases e
end
end Lc
