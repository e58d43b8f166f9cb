/- Chapter 03: the laws' conditions. -/
import Derived.Test.YtlennfpjbpjcjaaDoorShaB
import Derived.Test.YtlennfpjbpjcjaaDoorEngV
import Derived.KernelRfl
set_option linter.unusedVariables false
set_option maxRecDepth 100000
namespace Lc
open Go

theorem sum_nil : sum [] = [227, 176, 196, 66, 152, 252, 28, 20, 154, 251, 244, 200, 153, 111, 185, 36, 39, 174, 65, 228, 100, 155, 147, 76, 164, 149, 153, 27, 120, 82, 184, 85] := by kernel_rfl
theorem sum_abc : sum [97, 98, 99] = [186, 120, 22, 191, 143, 1, 207, 234, 65, 65, 64, 222, 93, 174, 34, 35, 176, 3, 97, 163, 150, 23, 122, 156, 180, 16, 255, 97, 242, 0, 21, 173] := by kernel_rfl

def LawSane.pre : Prop := True
def LawSane.fn : Bool := true
def LawSane.VC : Prop := LawSane.pre →
 ShaSum.pre [] ∧
 0 < List.length ([(97 : Int), (98 : Int), (99 : Int)] : List Int) ∧
 ShaSum.pre [(97 : Int), (98 : Int), (99 : Int)] ∧
 (0 ≤ (0 : Int) ∧ (0 : Int) < 32) ∧
 (let v9 : Bool := (((ShaSum.fn []).getD (Int.toNat (0 : Int)) (0 : Int)) == (227 : Int))
 (v9 = true → (0 ≤ (1 : Int) ∧ (1 : Int) < 32)) ∧
 (v9 = true → v9 = true) ∧
 (v9 = true → v9 = true) ∧
 (v9 = true → v9 = true) ∧
 (let v14 : Bool := (bif v9 then (((ShaSum.fn []).getD (Int.toNat (1 : Int)) (0 : Int)) == (176 : Int)) else false)
 (v14 = true → (0 ≤ (31 : Int) ∧ (31 : Int) < 32)) ∧
 (v14 = true → v14 = true) ∧
 (v14 = true → v14 = true) ∧
 (v14 = true → v14 = true) ∧
 (let v19 : Bool := (bif v14 then (((ShaSum.fn []).getD (Int.toNat (31 : Int)) (0 : Int)) == (85 : Int)) else false)
 (v19 = true → (0 ≤ (0 : Int) ∧ (0 : Int) < 32)) ∧
 (v19 = true → v19 = true) ∧
 (v19 = true → v19 = true) ∧
 (v19 = true → v19 = true) ∧
 (let v24 : Bool := (bif v19 then (((ShaSum.fn [(97 : Int), (98 : Int), (99 : Int)]).getD (Int.toNat (0 : Int)) (0 : Int)) == (186 : Int)) else false)
 (v24 = true → (0 ≤ (1 : Int) ∧ (1 : Int) < 32)) ∧
 (v24 = true → v24 = true) ∧
 (v24 = true → v24 = true) ∧
 (v24 = true → v24 = true) ∧
 (let v29 : Bool := (bif v24 then (((ShaSum.fn [(97 : Int), (98 : Int), (99 : Int)]).getD (Int.toNat (1 : Int)) (0 : Int)) == (120 : Int)) else false)
 (v29 = true → (0 ≤ (31 : Int) ∧ (31 : Int) < 32)) ∧
 (v29 = true → v29 = true) ∧
 (v29 = true → v29 = true) ∧
 (v29 = true → v29 = true) ∧
 (let v34 : Bool := (bif v29 then (((ShaSum.fn [(97 : Int), (98 : Int), (99 : Int)]).getD (Int.toNat (31 : Int)) (0 : Int)) == (173 : Int)) else false)
 (Ret1 v34 LawSane.fn)))))))
theorem LawSane.vc : LawSane.VC := by
  intro _
  simp only [ShaSum.fn, sum_nil, sum_abc]
  refine ⟨⟨by simp, fun x h => by cases h⟩, by simp, ⟨by simp, fun x h => ?_⟩, ?_⟩
  · simp only [List.mem_cons, List.not_mem_nil, or_false] at h; omega
  · simp [Ret1, LawSane.fn]

theorem rngBytes {xs : List Int} (h : ∀ x, x ∈ xs → Rng (.int .u8) x) : Bytes xs := fun x hx => by
  have := h x hx
  simpa [Rng, IntKind.min, IntKind.max, IntKind.signed, IntKind.bits] using this

def ShaCompresses.pre (x b : List Int) : Prop := x.length = 8 ∧ b.length = 64 ∧ Bytes b
def ShaCompresses.fn (x b : List Int) : Bool := true
def ShaCompresses.VC : Prop := ∀ (x0 : (List Int)) (x1 : (List Int)), ShaCompresses.pre x0 x1 →
 LawSane.pre ∧
 ((LawSane.fn) = true → (LawSane.fn) = true) ∧
 ((LawSane.fn) = true → (LawSane.fn) = true) ∧
 ((LawSane.fn) = true → ShaCompress.pre x0 x1) ∧
 ((LawSane.fn) = true → (LawSane.fn) = true) ∧
 ((LawSane.fn) = true → (LawSane.fn) = true) ∧
 ((LawSane.fn) = true → RefCompress.pre x0 x1) ∧
 ((LawSane.fn) = true → (LawSane.fn) = true) ∧
 ((LawSane.fn) = true → (LawSane.fn) = true) ∧
 ((LawSane.fn) = true → (LawSane.fn) = true) ∧
 (let v14 : Bool := (bif (LawSane.fn) then (Ty.beq (.arr 8 (.int .u32)) (ShaCompress.fn x0 x1) (RefCompress.fn x0 x1)) else false)
 (Ret1 v14 (ShaCompresses.fn x0 x1)))
theorem ShaCompresses.vc : ShaCompresses.VC := by
  intro x b h
  refine ⟨trivial, ?_⟩
  have e : Ty.beq (.arr 8 (.int .u32)) (ShaCompress.fn x b) (RefCompress.fn x b) = true := beq_self _ _
  simp only [LawSane.fn, e]
  simp only [forall_const, true_and]
  exact ⟨h, h, rfl⟩

def ShaPads.pre (n : Int) : Prop := U64 n
def ShaPads.fn (n : Int) : Bool := true
def ShaPads.VC : Prop := ∀ (x0 : Int), ShaPads.pre x0 →
 ShaPad.pre x0 ∧
 RefPad.pre x0 ∧
 LawSane.pre ∧
 ((LawSane.fn) = true → (LawSane.fn) = true) ∧
 ((LawSane.fn) = true → (LawSane.fn) = true) ∧
 ((LawSane.fn) = true → (LawSane.fn) = true) ∧
 ((LawSane.fn) = true → (LawSane.fn) = true) ∧
 ((LawSane.fn) = true → (LawSane.fn) = true) ∧
 (let v16 : Bool := (bif (LawSane.fn) then ((strOf (ShaPad.fn x0)).toList == (strOf (RefPad.fn x0)).toList) else false)
 (v16 = true → v16 = true) ∧
 (v16 = true → v16 = true) ∧
 (v16 = true → v16 = true) ∧
 (v16 = true → v16 = true) ∧
 (v16 = true → v16 = true) ∧
 (v16 = true → (64 : Int) ≠ 0) ∧
 (v16 = true → v16 = true) ∧
 (v16 = true → v16 = true) ∧
 (let v25 : Bool := (bif v16 then ((Int.tmod (IntKind.u64.wrap (x0 + (IntKind.u64.wrap ((ShaPad.fn x0).length : Int)))) (64 : Int)) == (0 : Int)) else false)
 (Ret1 v25 (ShaPads.fn x0))))
theorem ShaPads.vc : ShaPads.VC := by
  intro n h
  refine ⟨h, h, trivial, ?_⟩
  have hl : ((ShaPad.fn n).length : Int) = 9 + padZ n := pad_len n
  have hz : 0 ≤ padZ n ∧ padZ n < 64 := by unfold padZ; omega
  have hz2 : (n + padZ n + 9) % 64 = 0 := by unfold padZ; omega
  have e1 : Int.tmod (IntKind.u64.wrap (n + IntKind.u64.wrap ((ShaPad.fn n).length : Int))) 64 = 0 := by
    rw [hl, tmod_of_nonneg (u64r _).1, u64m, u64m]; omega
  have e2 : ((strOf (ShaPad.fn n)).toList == (strOf (RefPad.fn n)).toList) = true := beq_self_eq_true _
  simp only [LawSane.fn, e1, e2]
  simp [Ret1, ShaPads.fn]

def ShaSums.pre (x : List Int) : Prop := Bytes x
def ShaSums.fn (x : List Int) : Bool := true
def ShaSums.VC : Prop := ∀ (x0 : (List Int)), ShaSums.pre x0 →
 LawSane.pre ∧
 (((!(LawSane.fn)) = true →
 (Ret1 false (ShaSums.fn x0))) ∧
 ((!(LawSane.fn)) = false →
 ((decide ((x0.length : Int) > (3000 : Int))) = false → (decide ((x0.length : Int) > (3000 : Int))) = false) ∧
 ((decide ((x0.length : Int) > (3000 : Int))) = false → ShaSum.pre x0) ∧
 ((decide ((x0.length : Int) > (3000 : Int))) = false → (decide ((x0.length : Int) > (3000 : Int))) = false) ∧
 ((decide ((x0.length : Int) > (3000 : Int))) = false → RefSum.pre x0) ∧
 ((decide ((x0.length : Int) > (3000 : Int))) = false → (decide ((x0.length : Int) > (3000 : Int))) = false) ∧
 ((decide ((x0.length : Int) > (3000 : Int))) = false → (decide ((x0.length : Int) > (3000 : Int))) = false) ∧
 ((decide ((x0.length : Int) > (3000 : Int))) = false → (decide ((x0.length : Int) > (3000 : Int))) = false) ∧
 (((decide ((x0.length : Int) > (3000 : Int))) = false ∧ (Ty.beq (.arr 32 (.int .u8)) (ShaSum.fn x0) (RefSum.fn x0)) = true) → ((decide ((x0.length : Int) > (3000 : Int))) = false ∧ (Ty.beq (.arr 32 (.int .u8)) (ShaSum.fn x0) (RefSum.fn x0)) = true)) ∧
 (((decide ((x0.length : Int) > (3000 : Int))) = false ∧ (Ty.beq (.arr 32 (.int .u8)) (ShaSum.fn x0) (RefSum.fn x0)) = true) → ShaDouble.pre x0) ∧
 (((decide ((x0.length : Int) > (3000 : Int))) = false ∧ (Ty.beq (.arr 32 (.int .u8)) (ShaSum.fn x0) (RefSum.fn x0)) = true) → ((decide ((x0.length : Int) > (3000 : Int))) = false ∧ (Ty.beq (.arr 32 (.int .u8)) (ShaSum.fn x0) (RefSum.fn x0)) = true)) ∧
 (((decide ((x0.length : Int) > (3000 : Int))) = false ∧ (Ty.beq (.arr 32 (.int .u8)) (ShaSum.fn x0) (RefSum.fn x0)) = true) → RefDouble.pre x0) ∧
 (((decide ((x0.length : Int) > (3000 : Int))) = false ∧ (Ty.beq (.arr 32 (.int .u8)) (ShaSum.fn x0) (RefSum.fn x0)) = true) → ((decide ((x0.length : Int) > (3000 : Int))) = false ∧ (Ty.beq (.arr 32 (.int .u8)) (ShaSum.fn x0) (RefSum.fn x0)) = true)) ∧
 (((decide ((x0.length : Int) > (3000 : Int))) = false ∧ (Ty.beq (.arr 32 (.int .u8)) (ShaSum.fn x0) (RefSum.fn x0)) = true) → ((decide ((x0.length : Int) > (3000 : Int))) = false ∧ (Ty.beq (.arr 32 (.int .u8)) (ShaSum.fn x0) (RefSum.fn x0)) = true)) ∧
 ((decide ((x0.length : Int) > (3000 : Int))) = false → (decide ((x0.length : Int) > (3000 : Int))) = false) ∧
 ((decide ((x0.length : Int) > (3000 : Int))) = false → ((Ty.beq (.arr 32 (.int .u8)) (ShaSum.fn x0) (RefSum.fn x0)) = true → ((decide ((x0.length : Int) > (3000 : Int))) = false ∧ (Ty.beq (.arr 32 (.int .u8)) (ShaSum.fn x0) (RefSum.fn x0)) = true))) ∧
 ((decide ((x0.length : Int) > (3000 : Int))) = false → (decide ((x0.length : Int) > (3000 : Int))) = false) ∧
 (let v21 : Bool := (bif (decide ((x0.length : Int) > (3000 : Int))) then true else (bif (Ty.beq (.arr 32 (.int .u8)) (ShaSum.fn x0) (RefSum.fn x0)) then (Ty.beq (.arr 32 (.int .u8)) (ShaDouble.fn x0) (RefDouble.fn x0)) else false))
 (Ret1 v21 (ShaSums.fn x0)))))
theorem ShaSums.vc : ShaSums.VC := by
  intro x h
  refine ⟨trivial, fun h0 => by simp [LawSane.fn] at h0, fun _ => ?_⟩
  have e1 : Ty.beq (.arr 32 (.int .u8)) (ShaSum.fn x) (RefSum.fn x) = true := beq_self _ _
  have e2 : Ty.beq (.arr 32 (.int .u8)) (ShaDouble.fn x) (RefDouble.fn x) = true := beq_self _ _
  have ok : decide ((x.length : Int) > 3000) = false → SumOk x := fun hc => ⟨by have := of_decide_eq_false hc; omega, h⟩
  simp only [e1, e2, and_true, cond_true]
  refine ⟨id, ok, id, ok, id, id, id, id, ok, id, ok, id, id, id, fun hc _ => hc, id, ?_⟩
  cases decide ((x.length : Int) > 3000) <;> rfl

def ShaKeyed.pre (t : ByteArray) (k b : List Int) : Prop := Bytes k ∧ Bytes b
def ShaKeyed.fn (t : ByteArray) (k b : List Int) : Bool := true
def ShaKeyed.VC : Prop := ∀ (x0 : ByteArray) (x1 : (List Int)) (x2 : (List Int)), ShaKeyed.pre x0 x1 x2 →
 LawSane.pre ∧
 (((!(LawSane.fn)) = true →
 (Ret1 false (ShaKeyed.fn x0 x1 x2))) ∧
 ((!(LawSane.fn)) = false →
 ((decide ((x0.size : Int) > (500 : Int))) = false → (decide ((x0.size : Int) > (500 : Int))) = false) ∧
 ((decide ((x0.size : Int) > (500 : Int))) = false → (decide ((x0.size : Int) > (500 : Int))) = false) ∧
 ((decide ((x0.size : Int) > (500 : Int))) = false → (decide ((x0.size : Int) > (500 : Int))) = false) ∧
 (let v16 : Bool := (bif (decide ((x0.size : Int) > (500 : Int))) then true else (decide ((x1.length : Int) > (500 : Int))))
 (v16 = false → v16 = false) ∧
 (v16 = false → v16 = false) ∧
 (v16 = false → v16 = false) ∧
 (let v21 : Bool := (bif v16 then true else (decide ((x2.length : Int) > (2000 : Int))))
 (v21 = false → v21 = false) ∧
 (v21 = false → v21 = false) ∧
 (v21 = false → ShaTagged.pre x0 x2) ∧
 (v21 = false → v21 = false) ∧
 (v21 = false → v21 = false) ∧
 (v21 = false → RefTagged.pre x0 x2) ∧
 (v21 = false → v21 = false) ∧
 (v21 = false → v21 = false) ∧
 (v21 = false → v21 = false) ∧
 ((v21 = false ∧ (Ty.beq (.arr 32 (.int .u8)) (ShaTagged.fn x0 x2) (RefTagged.fn x0 x2)) = true) → (v21 = false ∧ (Ty.beq (.arr 32 (.int .u8)) (ShaTagged.fn x0 x2) (RefTagged.fn x0 x2)) = true)) ∧
 ((v21 = false ∧ (Ty.beq (.arr 32 (.int .u8)) (ShaTagged.fn x0 x2) (RefTagged.fn x0 x2)) = true) → (v21 = false ∧ (Ty.beq (.arr 32 (.int .u8)) (ShaTagged.fn x0 x2) (RefTagged.fn x0 x2)) = true)) ∧
 ((v21 = false ∧ (Ty.beq (.arr 32 (.int .u8)) (ShaTagged.fn x0 x2) (RefTagged.fn x0 x2)) = true) → ShaHmac.pre x1 x2) ∧
 ((v21 = false ∧ (Ty.beq (.arr 32 (.int .u8)) (ShaTagged.fn x0 x2) (RefTagged.fn x0 x2)) = true) → (v21 = false ∧ (Ty.beq (.arr 32 (.int .u8)) (ShaTagged.fn x0 x2) (RefTagged.fn x0 x2)) = true)) ∧
 ((v21 = false ∧ (Ty.beq (.arr 32 (.int .u8)) (ShaTagged.fn x0 x2) (RefTagged.fn x0 x2)) = true) → (v21 = false ∧ (Ty.beq (.arr 32 (.int .u8)) (ShaTagged.fn x0 x2) (RefTagged.fn x0 x2)) = true)) ∧
 ((v21 = false ∧ (Ty.beq (.arr 32 (.int .u8)) (ShaTagged.fn x0 x2) (RefTagged.fn x0 x2)) = true) → RefHmac.pre x1 x2) ∧
 ((v21 = false ∧ (Ty.beq (.arr 32 (.int .u8)) (ShaTagged.fn x0 x2) (RefTagged.fn x0 x2)) = true) → (v21 = false ∧ (Ty.beq (.arr 32 (.int .u8)) (ShaTagged.fn x0 x2) (RefTagged.fn x0 x2)) = true)) ∧
 ((v21 = false ∧ (Ty.beq (.arr 32 (.int .u8)) (ShaTagged.fn x0 x2) (RefTagged.fn x0 x2)) = true) → (v21 = false ∧ (Ty.beq (.arr 32 (.int .u8)) (ShaTagged.fn x0 x2) (RefTagged.fn x0 x2)) = true)) ∧
 (v21 = false → v21 = false) ∧
 (v21 = false → ((Ty.beq (.arr 32 (.int .u8)) (ShaTagged.fn x0 x2) (RefTagged.fn x0 x2)) = true → (v21 = false ∧ (Ty.beq (.arr 32 (.int .u8)) (ShaTagged.fn x0 x2) (RefTagged.fn x0 x2)) = true))) ∧
 (v21 = false → v21 = false) ∧
 (let v39 : Bool := (bif v21 then true else (bif (Ty.beq (.arr 32 (.int .u8)) (ShaTagged.fn x0 x2) (RefTagged.fn x0 x2)) then (Ty.beq (.arr 32 (.int .u8)) (ShaHmac.fn x1 x2) (RefHmac.fn x1 x2)) else false))
 (Ret1 v39 (ShaKeyed.fn x0 x1 x2)))))))
theorem ShaKeyed.vc : ShaKeyed.VC := by
  intro t k b ⟨hk, hb⟩
  refine ⟨trivial, fun h0 => by simp [LawSane.fn] at h0, fun _ => ?_⟩
  have e1 : Ty.beq (.arr 32 (.int .u8)) (ShaTagged.fn t b) (RefTagged.fn t b) = true := beq_self _ _
  have e2 : Ty.beq (.arr 32 (.int .u8)) (ShaHmac.fn k b) (RefHmac.fn k b) = true := beq_self _ _
  simp only [e1, e2, and_true, cond_true]
  refine ⟨id, id, id, id, id, id, ?_⟩
  generalize hv : (bif (bif decide ((t.size : Int) > 500) then true else decide ((k.length : Int) > 500)) then true else decide ((b.length : Int) > 2000)) = v
  have ok : v = false → t.size ≤ 500 ∧ k.length ≤ 500 ∧ b.length ≤ 2000 := by
    intro h
    rw [h] at hv
    cases h1 : decide ((t.size : Int) > 500) <;> cases h2 : decide ((k.length : Int) > 500) <;> cases h3 : decide ((b.length : Int) > 2000) <;> simp [h1, h2, h3] at hv
    have := of_decide_eq_false h1
    have := of_decide_eq_false h2
    have := of_decide_eq_false h3
    omega
  have ok1 : v = false → TagOk t b := fun h => by obtain ⟨a1, a2, a3⟩ := ok h; exact ⟨by omega, by omega, hb⟩
  have ok2 : v = false → KeyOk k b := fun h => by obtain ⟨a1, a2, a3⟩ := ok h; exact ⟨⟨by omega, hk⟩, by omega, hb⟩
  refine ⟨id, id, ok1, id, id, ok1, id, id, id, id, id, ok2, id, id, ok2, id, id, id, fun hc _ => hc, id, ?_⟩
  cases v <;> rfl

def ShaDoubles.pre (t : ByteArray) (b : List Int) : Prop := Bytes b
def ShaDoubles.fn (t : ByteArray) (b : List Int) : Bool := true
def ShaDoubles.VC : Prop := ∀ (x0 : ByteArray) (x1 : (List Int)), ShaDoubles.pre x0 x1 →
 LawSane.pre ∧
 (((!(LawSane.fn)) = true →
 (Ret1 false (ShaDoubles.fn x0 x1))) ∧
 ((!(LawSane.fn)) = false →
 ((decide ((x0.size : Int) > (500 : Int))) = false → (decide ((x0.size : Int) > (500 : Int))) = false) ∧
 ((decide ((x0.size : Int) > (500 : Int))) = false → (decide ((x0.size : Int) > (500 : Int))) = false) ∧
 ((decide ((x0.size : Int) > (500 : Int))) = false → (decide ((x0.size : Int) > (500 : Int))) = false) ∧
 (let v17 : Bool := (bif (decide ((x0.size : Int) > (500 : Int))) then true else (decide ((x1.length : Int) > (2000 : Int))))
 ((v17 = true →
 (Ret1 true (ShaDoubles.fn x0 x1))) ∧
 (v17 = false →
 ShaSum.pre x1 ∧
 ShaSum.pre (bytesOf x0) ∧
 Room (ShaSum.fn (bytesOf x0)).length 1 ∧
 Room ((ShaSum.fn (bytesOf x0)).length + (ShaSum.fn (bytesOf x0)).length) 1 ∧
 Room (((ShaSum.fn (bytesOf x0)) ++ (ShaSum.fn (bytesOf x0))).length + x1.length) 1 ∧
 (let v28h : (List Int) := (((ShaSum.fn (bytesOf x0)) ++ (ShaSum.fn (bytesOf x0))) ++ x1)
 ShaDouble.pre x1 ∧
 ShaSum.pre (ShaSum.fn x1) ∧
 (let v33 : Bool := (Ty.beq (.arr 32 (.int .u8)) (ShaDouble.fn x1) (ShaSum.fn (ShaSum.fn x1)))
 (v33 = true → v33 = true) ∧
 (v33 = true → v33 = true) ∧
 (v33 = true → ShaTagged.pre x0 x1) ∧
 (v33 = true → v33 = true) ∧
 (v33 = true → ShaSum.pre v28h) ∧
 (v33 = true → v33 = true) ∧
 (v33 = true → v33 = true) ∧
 (v33 = true → v33 = true) ∧
 (let v41 : Bool := (bif v33 then (Ty.beq (.arr 32 (.int .u8)) (ShaTagged.fn x0 x1) (ShaSum.fn v28h)) else false)
 (Ret1 v41 (ShaDoubles.fn x0 x1))))))))))
theorem ShaDoubles.vc : ShaDoubles.VC := by
  intro t b hb
  refine ⟨trivial, fun h0 => by simp [LawSane.fn] at h0, fun _ => ?_⟩
  refine ⟨id, id, id, fun _ => rfl, fun hc => ?_⟩
  have ok : t.size ≤ 500 ∧ b.length ≤ 2000 := by
    cases h1 : decide ((t.size : Int) > 500) <;> cases h2 : decide ((b.length : Int) > 2000) <;> simp [h1, h2] at hc
    have := of_decide_eq_false h1
    have := of_decide_eq_false h2
    omega
  have e1 : Ty.beq (.arr 32 (.int .u8)) (ShaDouble.fn b) (ShaSum.fn (ShaSum.fn b)) = true := beq_self _ _
  have e2 : Ty.beq (.arr 32 (.int .u8)) (ShaTagged.fn t b) (ShaSum.fn (ShaSum.fn (bytesOf t) ++ ShaSum.fn (bytesOf t) ++ b)) = true := beq_self _ _
  simp only [e1, e2, forall_const, true_and, cond_true]
  have hs : ∀ x, (ShaSum.fn x).length = 32 := sum_len
  refine ⟨⟨by omega, hb⟩, tag_ok t (by omega), room_of (by rw [hs]; omega) (by omega), room_of (by rw [hs]; omega) (by omega), room_of (by rw [List.length_append, hs]; omega) (by omega), ⟨by omega, hb⟩, sum_ok _, ⟨by omega, by omega, hb⟩,
    SumOk.append ((sum_bytes _).append (sum_bytes _)) hb (by rw [List.length_append, hs]; omega), rfl⟩

def ShaLongKeys.pre (k b : List Int) : Prop := Bytes k ∧ Bytes b
def ShaLongKeys.fn (k b : List Int) : Bool := true
def ShaLongKeys.VC : Prop := ∀ (x0 : (List Int)) (x1 : (List Int)), ShaLongKeys.pre x0 x1 →
 LawSane.pre ∧
 (((!(LawSane.fn)) = true →
 (Ret1 false (ShaLongKeys.fn x0 x1))) ∧
 ((!(LawSane.fn)) = false →
 ((decide ((x0.length : Int) > (500 : Int))) = false → (decide ((x0.length : Int) > (500 : Int))) = false) ∧
 ((decide ((x0.length : Int) > (500 : Int))) = false → (decide ((x0.length : Int) > (500 : Int))) = false) ∧
 ((decide ((x0.length : Int) > (500 : Int))) = false → (decide ((x0.length : Int) > (500 : Int))) = false) ∧
 (let v15 : Bool := (bif (decide ((x0.length : Int) > (500 : Int))) then true else (decide ((x1.length : Int) > (1000 : Int))))
 ((v15 = true →
 (Ret1 true (ShaLongKeys.fn x0 x1))) ∧
 (v15 = false →
 (((decide ((x0.length : Int) > (64 : Int))) = true →
 ShaSum.pre x0 ∧
 ShaHmac.pre x0 x1 ∧
 ShaHmac.pre (ShaSum.fn x0) x1 ∧
 (let v27 : Bool := (Ty.beq (.arr 32 (.int .u8)) (ShaHmac.fn x0 x1) (ShaHmac.fn (ShaSum.fn x0) x1))
 (Ret1 v27 (ShaLongKeys.fn x0 x1)))) ∧
 ((decide ((x0.length : Int) > (64 : Int))) = false →
 ShaHmac.pre x0 x1 ∧
 Room x0.length 1 ∧
 0 ≤ (IntKind.i64.wrap ((64 : Int) - (x0.length : Int))) ∧
 Room (x0.length + (List.replicate ((IntKind.i64.wrap ((64 : Int) - (x0.length : Int)))).toNat (0 : Int)).length) 1 ∧
 (let v36h : (List Int) := (x0 ++ (List.replicate ((IntKind.i64.wrap ((64 : Int) - (x0.length : Int)))).toNat (0 : Int)))
 ShaHmac.pre v36h x1 ∧
 (let v39 : Bool := (Ty.beq (.arr 32 (.int .u8)) (ShaHmac.fn x0 x1) (ShaHmac.fn v36h x1))
 (Ret1 v39 (ShaLongKeys.fn x0 x1)))))))))))
theorem ShaLongKeys.vc : ShaLongKeys.VC := by
  intro k b ⟨hk, hb⟩
  refine ⟨trivial, fun h0 => by simp [LawSane.fn] at h0, fun _ => ?_⟩
  refine ⟨id, id, id, fun _ => rfl, fun hc => ?_⟩
  have ok : k.length ≤ 500 ∧ b.length ≤ 1000 := by
    cases h1 : decide ((k.length : Int) > 500) <;> cases h2 : decide ((b.length : Int) > 1000) <;> simp [h1, h2] at hc
    have := of_decide_eq_false h1
    have := of_decide_eq_false h2
    omega
  have kok : KeyOk k b := ⟨⟨by omega, hk⟩, by omega, hb⟩
  refine ⟨fun hd => ?_, fun hd => ?_⟩
  · have hd := of_decide_eq_true hd
    have e : ShaHmac.fn k b = ShaHmac.fn (ShaSum.fn k) b := by
      have h1 : shortKey k = sum k := by rw [shortKey, if_pos hd]
      have h2 : shortKey (sum k) = sum k := by rw [shortKey, if_neg (by rw [sum_len]; omega)]
      show hmac k b = hmac (sum k) b
      rw [hmac, hmac, h1, h2]
    refine ⟨⟨by omega, hk⟩, kok, ⟨sum_ok _, by omega, hb⟩, ?_⟩
    rw [← e, beq_self]; rfl
  · have hd := of_decide_eq_false hd
    rw [i64w (by omega) (by omega)]
    have hl : (64 - (k.length : Int)).toNat = 64 - k.length := by omega
    have e : ShaHmac.fn k b = ShaHmac.fn (k ++ List.replicate (64 - (k.length : Int)).toNat 0) b := by
      rw [hl]
      have h1 : shortKey k = k := by rw [shortKey, if_neg hd]
      have h2 : shortKey (k ++ List.replicate (64 - k.length) 0) = k ++ List.replicate (64 - k.length) 0 := by
        rw [shortKey, if_neg]; rw [List.length_append, List.length_replicate]; omega
      have h3 : key64 (k ++ List.replicate (64 - k.length) 0) = key64 k := by
        have hx : (k ++ List.replicate (64 - k.length) (0 : Int)).length = 64 := by rw [List.length_append, List.length_replicate]; omega
        simp only [key64, List.length_replicate, hx]
        rw [List.take_of_length_le (by rw [hx]; omega), List.take_of_length_le (by omega), List.drop_replicate, List.drop_replicate, Nat.sub_self, List.replicate_zero, List.append_nil]
      show hmac k b = hmac _ b
      rw [hmac, hmac, h1, h2, h3]
    refine ⟨kok, room_of (by omega) (by omega), by omega, room_of (by rw [List.length_replicate]; omega) (by omega), ⟨⟨by rw [List.length_append, List.length_replicate]; omega, hk.append (Bytes.zeros _)⟩, by omega, hb⟩, ?_⟩
    rw [← e, beq_self]; rfl

def ShaChains.pre (b : List Int) (c : Int) : Prop := Bytes b ∧ 0 ≤ c ∧ c ≤ 255
def ShaChains.fn (b : List Int) (c : Int) : Bool := true
def chAt (b : List Int) (k : Int) (v5 v6 : List Int) : Prop := 0 ≤ k ∧ 64 * k ≤ (message b).length ∧ v5 = (message b).drop (64 * k).toNat ∧ v6 = chain (message b) k
def ShaChains.inv8 (b : List Int) (c : Int) (v5 v6 : List Int) (v7 : Int) : Prop := 0 ≤ v7 ∧ v7 ≤ 2 ∧ ∃ k, chAt b k v5 v6 ∧ (v7 = 2 → 64 * k = (message b).length)
def ShaChains.mes8 (b : List Int) (c : Int) (v5 v6 : List Int) (v7 : Int) : Nat := (2 - v7).toNat
def ShaChains.inv13 (b : List Int) (c : Int) (s7 : Int) (v5 v6 : List Int) (v8 : Int) : Prop := 0 ≤ v8 ∧ ∃ k, chAt b k v5 v6 ∧ 64 * (k + v8) ≤ (message b).length ∧ (s7 = 1 → 64 * (k + v8) = (message b).length)
def ShaChains.mes13 (b : List Int) (c : Int) (s7 : Int) (v5 v6 : List Int) (v8 : Int) : Nat := v8.toNat
def ShaChains.inv20 (b : List Int) (c : Int) (s55 v5 v10 : List Int) (v56 : Int) : Prop := 0 ≤ v56 ∧ v56 ≤ 8 ∧ v5 = [] ∧ v10 = sum b
def ShaChains.mes20 (b : List Int) (c : Int) (s55 v5 v10 : List Int) (v56 : Int) : Nat := (8 - v56).toNat
def ShaChains.VC : Prop := ∀ (x0 : (List Int)) (x1 : Int), ShaChains.pre x0 x1 →
 LawSane.pre ∧
 (((!(LawSane.fn)) = true →
 (Ret1 false (ShaChains.fn x0 x1))) ∧
 ((!(LawSane.fn)) = false →
 (((decide ((x0.length : Int) > (2000 : Int))) = true →
 (Ret1 true (ShaChains.fn x0 x1))) ∧
 ((decide ((x0.length : Int) > (2000 : Int))) = false →
 Room x0.length 1 ∧
 ShaPad.pre (IntKind.u64.wrap (x0.length : Int)) ∧
 Room (x0.length + (ShaPad.fn (IntKind.u64.wrap (x0.length : Int))).length) 1 ∧
 RefInitial.pre ∧
 (ShaChains.inv8 x0 x1 (x0 ++ (ShaPad.fn (IntKind.u64.wrap (x0.length : Int)))) (RefInitial.fn) (0 : Int) ∧
 ∀ (v5 : (List Int)) (v6 : (List Int)) (v7 : Int), ShaChains.inv8 x0 x1 v5 v6 v7 →
 (((decide (v7 < (2 : Int))) = true →
 (64 : Int) ≠ 0 ∧
 (let v35 : Int := (if (IntKind.i64.wrap (Int.tdiv (v5.length : Int) (64 : Int))) < (IntKind.i64.wrap x1) then (IntKind.i64.wrap (Int.tdiv (v5.length : Int) (64 : Int))) else (IntKind.i64.wrap x1))
 (((v7 == (1 : Int)) = true →
 (64 : Int) ≠ 0 ∧
 (ShaChains.inv13 x0 x1 v7 v5 v6 (IntKind.i64.wrap (Int.tdiv (v5.length : Int) (64 : Int))) ∧
 ∀ (v5_1 : (List Int)) (v6_1 : (List Int)) (v8 : Int), ShaChains.inv13 x0 x1 v7 v5_1 v6_1 v8 →
 (((decide (v8 > (0 : Int))) = true →
 (let v47 : Int := ((min v5_1.length (List.replicate 64 (0 : Int)).length : Nat) : Int)
 (let v9h : (List Int) := (v5_1.take (List.replicate 64 (0 : Int)).length ++ (List.replicate 64 (0 : Int)).drop v5_1.length)
 ShaCompress.pre v6_1 v9h ∧
 (0 ≤ (64 : Int) ∧ (64 : Int) ≤ (v5_1.length : Int) ∧ (v5_1.length : Int) ≤ (v5_1.length : Int)) ∧
 (let v52 : (List Int) := ((v5_1.drop (Int.toNat (64 : Int))).take ((Int.toNat (v5_1.length : Int)) - (Int.toNat (64 : Int))))
 (ShaChains.inv13 x0 x1 v7 v52 (ShaCompress.fn v6_1 v9h) (IntKind.i64.wrap (v8 - (1 : Int))) ∧ ShaChains.mes13 x0 x1 v7 v52 (ShaCompress.fn v6_1 v9h) (IntKind.i64.wrap (v8 - (1 : Int))) < ShaChains.mes13 x0 x1 v7 v5_1 v6_1 v8))))) ∧
 ((decide (v8 > (0 : Int))) = false →
 (ShaChains.inv8 x0 x1 v5_1 v6_1 (IntKind.i64.wrap (v7 + (1 : Int))) ∧ ShaChains.mes8 x0 x1 v5_1 v6_1 (IntKind.i64.wrap (v7 + (1 : Int))) < ShaChains.mes8 x0 x1 v5 v6 v7))))) ∧
 ((v7 == (1 : Int)) = false →
 (ShaChains.inv13 x0 x1 v7 v5 v6 v35 ∧
 ∀ (v5_2 : (List Int)) (v6_2 : (List Int)) (v8_1 : Int), ShaChains.inv13 x0 x1 v7 v5_2 v6_2 v8_1 →
 (((decide (v8_1 > (0 : Int))) = true →
 (let v47_1 : Int := ((min v5_2.length (List.replicate 64 (0 : Int)).length : Nat) : Int)
 (let v9_1h : (List Int) := (v5_2.take (List.replicate 64 (0 : Int)).length ++ (List.replicate 64 (0 : Int)).drop v5_2.length)
 ShaCompress.pre v6_2 v9_1h ∧
 (0 ≤ (64 : Int) ∧ (64 : Int) ≤ (v5_2.length : Int) ∧ (v5_2.length : Int) ≤ (v5_2.length : Int)) ∧
 (let v52_1 : (List Int) := ((v5_2.drop (Int.toNat (64 : Int))).take ((Int.toNat (v5_2.length : Int)) - (Int.toNat (64 : Int))))
 (ShaChains.inv13 x0 x1 v7 v52_1 (ShaCompress.fn v6_2 v9_1h) (IntKind.i64.wrap (v8_1 - (1 : Int))) ∧ ShaChains.mes13 x0 x1 v7 v52_1 (ShaCompress.fn v6_2 v9_1h) (IntKind.i64.wrap (v8_1 - (1 : Int))) < ShaChains.mes13 x0 x1 v7 v5_2 v6_2 v8_1))))) ∧
 ((decide (v8_1 > (0 : Int))) = false →
 (ShaChains.inv8 x0 x1 v5_2 v6_2 (IntKind.i64.wrap (v7 + (1 : Int))) ∧ ShaChains.mes8 x0 x1 v5_2 v6_2 (IntKind.i64.wrap (v7 + (1 : Int))) < ShaChains.mes8 x0 x1 v5 v6 v7)))))))) ∧
 ((decide (v7 < (2 : Int))) = false →
 ShaSum.pre x0 ∧
 (ShaChains.inv20 x0 x1 v6 v5 (ShaSum.fn x0) (0 : Int) ∧
 ∀ (v5_3 : (List Int)) (v10 : (List Int)) (v56 : Int), ShaChains.inv20 x0 x1 v6 v5_3 v10 v56 →
 (((decide (v56 < (8 : Int))) = true →
 (0 ≤ v56 ∧ v56 < 8) ∧
 (0 ≤ (IntKind.i64.wrap ((4 : Int) * v56)) ∧ (IntKind.i64.wrap ((4 : Int) * v56)) < 32) ∧
 (let v64 : Int := (v10.getD (Int.toNat (IntKind.i64.wrap ((4 : Int) * v56))) (0 : Int))
 0 ≤ (24 : Int) ∧
 (let v69 : Int := (IntKind.i64.wrap ((IntKind.i64.wrap ((4 : Int) * v56)) + (1 : Int)))
 (0 ≤ v69 ∧ v69 < 32) ∧
 0 ≤ (16 : Int) ∧
 (let v73 : Int := (ishl .u32 (IntKind.u32.wrap (v10.getD (Int.toNat v69) (0 : Int))) (16 : Int))
 (let v77 : Int := (IntKind.i64.wrap ((IntKind.i64.wrap ((4 : Int) * v56)) + (2 : Int)))
 (0 ≤ v77 ∧ v77 < 32) ∧
 0 ≤ (8 : Int) ∧
 (let v81 : Int := (ishl .u32 (IntKind.u32.wrap (v10.getD (Int.toNat v77) (0 : Int))) (8 : Int))
 (let v82 : Int := (ior .u32 (ior .u32 (ishl .u32 (IntKind.u32.wrap v64) (24 : Int)) v73) v81)
 (let v85 : Int := (IntKind.i64.wrap ((IntKind.i64.wrap ((4 : Int) * v56)) + (3 : Int)))
 (0 ≤ v85 ∧ v85 < 32) ∧
 (let v89 : Int := (ior .u32 v82 (IntKind.u32.wrap (v10.getD (Int.toNat v85) (0 : Int))))
 ((((v6.getD (Int.toNat v56) (0 : Int)) != v89) = true →
 (Ret1 false (ShaChains.fn x0 x1))) ∧
 (((v6.getD (Int.toNat v56) (0 : Int)) != v89) = false →
 (ShaChains.inv20 x0 x1 v6 v5_3 v10 (IntKind.i64.wrap (v56 + (1 : Int))) ∧ ShaChains.mes20 x0 x1 v6 v5_3 v10 (IntKind.i64.wrap (v56 + (1 : Int))) < ShaChains.mes20 x0 x1 v6 v5_3 v10 v56)))))))))))) ∧
 ((decide (v56 < (8 : Int))) = false →
 (Ret1 ((v5_3.length : Int) == (0 : Int)) (ShaChains.fn x0 x1))))))))))))
theorem digWord {s : List Int} {i w : Int} (hi : 0 ≤ i) (hw : w = s.getD i.toNat 0) (h0 : 0 ≤ w) (h1 : w ≤ 4294967295) :
    w = 16777216 * digByte s (4 * i) + 65536 * digByte s (4 * i + 1) + 256 * digByte s (4 * i + 2) + digByte s (4 * i + 3) := by
  have sh : ∀ k : Nat, k ≤ 32 → ishr .u32 w k = w / 2 ^ k := by
    intro k hk
    have e : ishr .u32 w k = w.fdiv (2 ^ (min (k : Int).toNat 32)) := rfl
    rw [e, Int.toNat_natCast, Nat.min_eq_left hk, Int.fdiv_eq_ediv_of_nonneg _ (by exact_mod_cast Nat.zero_le _)]
  have s24 : ishr .u32 w 24 = w / 2 ^ 24 := sh 24 (by omega)
  have s16 : ishr .u32 w 16 = w / 2 ^ 16 := sh 16 (by omega)
  have s8 : ishr .u32 w 8 = w / 2 ^ 8 := sh 8 (by omega)
  have d0 : digByte s (4 * i) = w / 2 ^ 24 % 256 := by rw [digByte, show 4 * i / 4 = i by omega, show 24 - 4 * i % 4 * 8 = 24 by omega, ← hw, s24, u8m]
  have d1 : digByte s (4 * i + 1) = w / 2 ^ 16 % 256 := by rw [digByte, show (4 * i + 1) / 4 = i by omega, show 24 - (4 * i + 1) % 4 * 8 = 16 by omega, ← hw, s16, u8m]
  have d2 : digByte s (4 * i + 2) = w / 2 ^ 8 % 256 := by rw [digByte, show (4 * i + 2) / 4 = i by omega, show 24 - (4 * i + 2) % 4 * 8 = 8 by omega, ← hw, s8, u8m]
  have d3 : digByte s (4 * i + 3) = w % 256 := by rw [digByte, show (4 * i + 3) / 4 = i by omega, show 24 - (4 * i + 3) % 4 * 8 = 0 by omega, ← hw, ishr0, u8m]
  rw [d0, d1, d2, d3]
  omega
theorem ShaChains.vc : ShaChains.VC := by
  intro b c ⟨hb, hc0, hc1⟩
  refine ⟨trivial, fun h0 => by simp [LawSane.fn] at h0, fun _ => ⟨fun _ => rfl, fun hlen => ?_⟩⟩
  have hlen := of_decide_eq_false hlen
  have hm := message_len b
  have hz : 0 ≤ padZ b.length ∧ padZ b.length < 64 := by unfold padZ; omega
  have hz2 : ((message b).length : Int) % 64 = 0 := by rw [hm]; unfold padZ; omega
  have hmb := message_bytes hb
  rw [u64w (n := (b.length : Int)) (by omega) (by omega)]
  have er : b ++ ShaPad.fn (b.length : Int) = message b := rfl
  have hp : ((ShaPad.fn (b.length : Int)).length : Int) = 9 + padZ b.length := pad_len _
  rw [er]
  have inner : ∀ (s7 : Int) (w5 w6 : List Int) (v8 : Int), ShaChains.inv13 b c s7 w5 w6 v8 → v8 > 0 →
      ShaCompress.pre w6 (w5.take (List.replicate 64 (0 : Int)).length ++ (List.replicate 64 (0 : Int)).drop w5.length) ∧
      (0 ≤ (64 : Int) ∧ (64 : Int) ≤ (w5.length : Int) ∧ (w5.length : Int) ≤ (w5.length : Int)) ∧
      ShaChains.inv13 b c s7 ((w5.drop (Int.toNat (64 : Int))).take ((Int.toNat (w5.length : Int)) - (Int.toNat (64 : Int)))) (ShaCompress.fn w6 (w5.take (List.replicate 64 (0 : Int)).length ++ (List.replicate 64 (0 : Int)).drop w5.length)) (IntKind.i64.wrap (v8 - (1 : Int))) ∧
      ShaChains.mes13 b c s7 ((w5.drop (Int.toNat (64 : Int))).take ((Int.toNat (w5.length : Int)) - (Int.toNat (64 : Int)))) (ShaCompress.fn w6 (w5.take (List.replicate 64 (0 : Int)).length ++ (List.replicate 64 (0 : Int)).drop w5.length)) (IntKind.i64.wrap (v8 - (1 : Int))) < ShaChains.mes13 b c s7 w5 w6 v8 := by
    rintro s7 w5 w6 v8 ⟨k1, k, ⟨c1, c2, rfl, rfl⟩, k3, k4⟩ hpos
    have hl : 64 ≤ ((message b).drop (64 * k).toNat).length := by rw [List.length_drop]; omega
    have hl2 : (((message b).drop (64 * k).toNat).length : Int) = (message b).length - 64 * k := by rw [List.length_drop]; omega
    rw [take64 hl, i64w (n := v8 - 1) (by omega) (by omega)]
    refine ⟨⟨chain_len _ _, by rw [List.length_take]; omega, (hmb.drop _).take _⟩, by omega, ⟨by omega, k + 1, ⟨by omega, by omega, ?_, ?_⟩, by omega, fun h => by have := k4 h; omega⟩, by simp only [ShaChains.mes13]; omega⟩
    · rw [List.take_of_length_le (by rw [List.length_drop]; omega), List.drop_drop]
      congr 1
      omega
    · rw [chain_succ _ c1]; rfl
  refine ⟨room_of (by omega) (by omega), ⟨by omega, by omega⟩, room_of (by omega) (by omega), trivial, ⟨by omega, by omega, 0, ⟨by omega, by omega, by simp, by rw [chain_zero]; rfl⟩, fun h => by omega⟩, ?_⟩
  rintro v5 v6 v7 ⟨q1, q2, k, ⟨c1, c2, rfl, rfl⟩, q3⟩
  have hl2 : (((message b).drop (64 * k).toNat).length : Int) = (message b).length - 64 * k := by rw [List.length_drop]; omega
  refine ⟨fun hd => ?_, fun hd => ?_⟩
  · have hd : v7 < 2 := of_decide_eq_true hd
    have e1 : IntKind.i64.wrap (Int.tdiv (((message b).drop (64 * k).toNat).length : Int) 64) = ((message b).length - 64 * k) / 64 := by rw [hl2, tdiv_of_nonneg (by omega), i64w (by omega) (by omega)]
    rw [e1, i64w (n := c) (by omega) (by omega), i64w (n := v7 + 1) (by omega) (by omega)]
    refine ⟨by omega, fun he => ?_, fun he => ?_⟩
    · have he : v7 = 1 := by simpa using he
      refine ⟨by omega, ⟨by omega, k, ⟨c1, c2, rfl, rfl⟩, by omega, fun _ => by omega⟩, ?_⟩
      rintro w5 w6 v8 hi
      refine ⟨fun hf => inner v7 w5 w6 v8 hi (of_decide_eq_true hf), fun hf => ?_⟩
      have hf : ¬ (v8 > 0) := of_decide_eq_false hf
      obtain ⟨k1, k', hk', k3, k4⟩ := hi
      refine ⟨⟨by omega, by omega, k', hk', fun _ => by have := k4 he; omega⟩, by simp only [ShaChains.mes8]; omega⟩
    · have he : v7 ≠ 1 := by simpa using he
      refine ⟨⟨by split <;> omega, k, ⟨c1, c2, rfl, rfl⟩, by split <;> omega, fun h => absurd h he⟩, ?_⟩
      rintro w5 w6 v8 hi
      refine ⟨fun hf => inner v7 w5 w6 v8 hi (of_decide_eq_true hf), fun hf => ?_⟩
      have hf : ¬ (v8 > 0) := of_decide_eq_false hf
      obtain ⟨k1, k', hk', k3, k4⟩ := hi
      refine ⟨⟨by omega, by omega, k', hk', fun _ => by omega⟩, by simp only [ShaChains.mes8]; omega⟩
  · have hd : ¬ (v7 < 2) := of_decide_eq_false hd
    have hk : 64 * k = (message b).length := q3 (by omega)
    have hpos : 0 < k := by omega
    refine ⟨⟨by omega, hb⟩, ⟨by omega, by omega, List.eq_nil_of_length_eq_zero (by omega), rfl⟩, ?_⟩
    rintro w5 w10 v56 ⟨r1, r2, rfl, rfl⟩
    refine ⟨fun he => ?_, fun he => ?_⟩
    · have he : v56 < 8 := of_decide_eq_true he
      have hsum : sum b = digest (chain (message b) k) := by unfold sum; rw [show ((message b).length : Int) / 64 = k by omega]
      have hst : ∀ i, 0 ≤ (chain (message b) k).getD i 0 ∧ (chain (message b) k).getD i 0 ≤ 4294967295 := by
        intro i
        have : chain (message b) k = compress (chain (message b) (k - 1)) (((message b).drop (64 * (k - 1)).toNat).take 64) := by
          rw [← chain_succ _ (by omega), show k - 1 + 1 = k by omega]
        rw [this]; exact compress_get _ _ i
      simp (disch := omega) only [i64w]
      rw [hsum]
      have g : ∀ j, 0 ≤ j → j < 32 → (digest (chain (message b) k)).getD j.toNat 0 = digByte (chain (message b) k) j := fun j h1 h2 => digest_get _ h1 h2
      have gb : ∀ j, 0 ≤ digByte (chain (message b) k) j ∧ digByte (chain (message b) k) j ≤ 255 := fun j => u8r _
      rw [g (4 * v56) (by omega) (by omega), g (4 * v56 + 1) (by omega) (by omega), g (4 * v56 + 2) (by omega) (by omega), g (4 * v56 + 3) (by omega) (by omega), or4 (gb _) (gb _) (gb _) (gb _)]
      rw [← digWord r1 rfl (hst _).1 (hst _).2]
      refine ⟨by omega, by omega, by omega, by omega, by omega, by omega, by omega, by omega, fun hx => ?_, fun _ => ⟨⟨by omega, by omega, rfl, hsum.symm⟩, by simp only [ShaChains.mes20]; omega⟩⟩
      simp at hx
    · rfl
end Lc
