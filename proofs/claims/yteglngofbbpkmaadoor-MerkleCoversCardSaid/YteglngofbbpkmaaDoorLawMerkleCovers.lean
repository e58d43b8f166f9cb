/- The laws of this seat, for every input: each law returns true and its arguments read behind the call as before; the package-level tables are as the text of the program lays them. -/
import Derived.Test.YteglngofbbpkmaaDoorCards
import Derived.Test.YteglngofbbpkmaaDoorTie
import Derived.Test.YteglngofbbpkmaaDoorSound
import Derived.Test.YteglngofbbpkmaaDoorEngV
import Derived.Stop.LaidErr
namespace Go.Proofs.YteglngofbbpkmaaDoor
open Go Lc Go.ChangeShapes Go.WideShapes Go.ChangeAt Go.RowKit
set_option maxRecDepth 1000000
set_option linter.unusedVariables false
theorem own : ownKnob Tryd.prog.godebug = none := by kernel_rfl
theorem laidOut : laidOutB Tryd.prog = true := by kernel_rfl
theorem tables {W : World} (h : laidMetH Tryd.prog Rows.merkleCoversRow.laid W) : GlobOk gl (full W.heap) := by
  have h0 : laidMet Tryd.prog Rows.merkleCoversRow.laid W := h
  have h1 := h0.tail
  refine globOk_tabs (P := Tryd.prog) glT rfl (fun p hp => ?_)
  simp only [glT, List.mem_cons, List.not_mem_nil, or_false] at hp
  rcases hp with rfl | rfl
  · exact ⟨ "lightclient/sha.initial", .u32, ShaInitial, by kernel_rfl, Lib.tabIs_of_head (g := 0) (t := 84) (e := 83) (n := 8) (by kernel_rfl) (by kernel_rfl) (by kernel_rfl) (by kernel_rfl) (by kernel_rfl) (by kernel_rfl) h1, rfl⟩
  · exact ⟨ "lightclient/sha.k", .u32, ShaK, by kernel_rfl, Lib.tabIs_of_head (g := 1) (t := 96) (e := 83) (n := 64) (by kernel_rfl) (by kernel_rfl) (by kernel_rfl) (by kernel_rfl) (by kernel_rfl) (by kernel_rfl) h0, rfl⟩
noncomputable def cells0 : Array Value := #[.int .u32 1116352408, .int .u32 1899447441, .int .u32 3049323471, .int .u32 3921009573, .int .u32 961987163, .int .u32 1508970993, .int .u32 2453635748, .int .u32 2870763221, .int .u32 3624381080, .int .u32 310598401, .int .u32 607225278, .int .u32 1426881987, .int .u32 1925078388, .int .u32 2162078206, .int .u32 2614888103, .int .u32 3248222580, .int .u32 3835390401, .int .u32 4022224774, .int .u32 264347078, .int .u32 604807628, .int .u32 770255983, .int .u32 1249150122, .int .u32 1555081692, .int .u32 1996064986, .int .u32 2554220882, .int .u32 2821834349, .int .u32 2952996808, .int .u32 3210313671, .int .u32 3336571891, .int .u32 3584528711, .int .u32 113926993, .int .u32 338241895, .int .u32 666307205, .int .u32 773529912, .int .u32 1294757372, .int .u32 1396182291, .int .u32 1695183700, .int .u32 1986661051, .int .u32 2177026350, .int .u32 2456956037, .int .u32 2730485921, .int .u32 2820302411, .int .u32 3259730800, .int .u32 3345764771, .int .u32 3516065817, .int .u32 3600352804, .int .u32 4094571909, .int .u32 275423344, .int .u32 430227734, .int .u32 506948616, .int .u32 659060556, .int .u32 883997877, .int .u32 958139571, .int .u32 1322822218, .int .u32 1537002063, .int .u32 1747873779, .int .u32 1955562222, .int .u32 2024104815, .int .u32 2227730452, .int .u32 2361852424, .int .u32 2428436474, .int .u32 2756734187, .int .u32 3204031479, .int .u32 3329325298]
noncomputable def cells1 : Array Value := #[.int .u32 1779033703, .int .u32 3144134277, .int .u32 1013904242, .int .u32 2773480762, .int .u32 1359893119, .int .u32 2600822924, .int .u32 528734635, .int .u32 1541459225]
noncomputable def laidWorld (os : Os) : World :=
  { World.holding Tryd.prog os ⟨#[], #[], []⟩ with heap := (((World.holding Tryd.prog os ⟨#[], #[], []⟩).heap.modify 1 fun | .cells _ t frozen => .cells cells0 t frozen | o => o).modify 0 fun | .cells _ t frozen => .cells cells1 t frozen | o => o) }
namespace lawMerkleCovers
noncomputable def wa : Array Value := #[(.slice none 0 0), (.slice none 0 0)]
noncomputable def wd {H : Type} : List (DataW H) := [.nil, .nil]
theorem pre_of : ∀ xs, RngT conMerkleCovers.params xs → conMerkleCovers.pre xs := by
  rintro ⟨l, w, _⟩ ⟨h1, _⟩; exact rngHashes h1
theorem contract (H : Type) (enc : TypeId × Value → H) (W : World) (base : Nat) (args : Array Value) (ds gs : List (DataW H)) (before : List MemPlace)
    (hval : ∀ (j : Nat) t v, Tryd.f11.params[j]? = some t → args[j]? = some v → Value.okWide Tryd.prog W .any base t v)
    (hW : DataW.Whole enc Tryd.prog Tryd.f11.params.toList Rows.merkleCoversSpec.vars false W args.toList ds gs before) (hL : laidMetH Tryd.prog Rows.merkleCoversRow.laid W) :
    Calls Tryd.prog 11 args W fun e W' => ∃ v, e = .returned v ∧ Rows.merkleCoversSpec.post enc Tryd.prog Tryd.f11 false true false false W args v W' :=
  law_post (ts := conMerkleCovers.params) (pre := conMerkleCovers.pre) (is := [22, 47]) (tb := 4) okMerkleCovers laidOut (by kernel_rfl) (by kernel_rfl) (by kernel_rfl) (by kernel_rfl) rfl
    (fun ds h => by exact (match ds, h with | [d0, d1], _ => rfl)) hval hW (tables hL) pre_of
theorem laid_met (os : Os) : laidMet Tryd.prog Rows.merkleCoversRow.laid ((laidWorld os).forCall (fun _ _ => 0) ⟨#[], wa, []⟩).memory :=
  laidMet_of_run' 8 (by kernel_rfl) (by kernel_rfl)
theorem reads (os : Os) {H : Type} (enc : TypeId × Value → H) : ∃ places, DataW.whole enc Tryd.prog ((laidWorld os).forCall (fun _ _ => 0) ⟨#[], wa, []⟩).memory Tryd.f11.params.toList Rows.merkleCoversSpec.vars false (wa : Array Value).toList 8 = some (wd, [], places) :=
  ⟨[], by kernel_rfl⟩
theorem lifted (os : Os) (started : os.Started) (H : Type) (enc : TypeId × Value → H) (F : Stop.Interp) :
    ReturnsInHanded {} Tryd.checked os 11 .any ((OpenSpec.ofChange Rows.merkleCoversSpec).preRow enc Tryd.prog Tryd.f11 Rows.merkleCoversRow.domain false Rows.merkleCoversRow.laid) (((OpenSpec.ofChange Rows.merkleCoversSpec).at F).post enc Tryd.prog Tryd.f11 false true false false) := by
  obtain ⟨places, hx⟩ := reads os enc
  refine returnsInHanded_of_row (C := Tryd.checked) (s := OpenSpec.ofChange Rows.merkleCoversSpec) own started (by kernel_rfl) Tryd.func11
    (witness_row_at (enc := enc) (C := Tryd.checked) false (laidWorld os) wa rfl (by kernel_rfl) (by kernel_rfl) (by kernel_rfl)
      (OpenSpec.preRow_of_cond 8 hx (by kernel_rfl) (fun k hk => by cases hk) (by kernel_rfl) (laid_met os))) ?_
  intro W base args ds gs before hval hW _ _ _ hL _ _
  exact contract H enc W base args ds gs before hval hW hL
theorem said : Rows.MerkleCoversSaid :=
  OpenClaim.holds_of_cond 11 Tryd.f11 rfl rfl rfl rfl rfl rfl rfl ⟨rfl, rfl, rfl, rfl, rfl⟩ rfl rfl rfl rfl rfl (by kernel_rfl) Tryd.func11 (by kernel_rfl)
    (of_decide_eq_true (by kernel_rfl)) (by unfold Func.isWrapper; first | (rw [if_pos (by decide +kernel)]; kernel_rfl) | (rw [if_neg (by decide +kernel)]; exact ⟨rfl, rfl⟩))
    (fun os started H enc _ F => by rw [OpenClaim.pre_eq_preRow]; exact lifted os started H enc F)
theorem plain (f : FuncId) (fn : Func) (hf : Tryd.pinned.checked.prog.funcNamed "lightclient/lightclientlaw07.MerkleCovers" = some f) (hfn : Tryd.pinned.checked.prog.funcs[f]? = some fn) :
    false = Tryd.pinned.checked.prog.looks [] ∧ ∀ (j : Nat) t, fn.params[j]? = some t → Tryd.pinned.checked.prog.wantsStandIn t = false := by
  obtain rfl : f = 11 := Option.some.inj ((show Tryd.prog.funcNamed "lightclient/lightclientlaw07.MerkleCovers" = some 11 by kernel_rfl).symm.trans hf) |>.symm
  obtain rfl : fn = Tryd.f11 := (Option.some.inj (Tryd.func11.symm.trans hfn)).symm
  refine ⟨by kernel_rfl, fun j t ht => ?_⟩
  rw [Tryd.params11] at ht
  have hm := Array.mem_of_getElem? ht
  have all : (#[22, 47] : Array Nat).all (fun t => !(Tryd.prog.wantsStandIn t)) = true := by kernel_rfl
  rw [Array.all_eq_true'] at all
  have h3 := all t hm
  exact (Bool.not_eq_true' _).mp h3
theorem card : Rows.MerkleCoversCardSaid :=
  Claim7.holds_tied_plain_at .later [] _ _ _ _ said (fun _ h => by cases h) (by kernel_rfl) (fun _ h => by cases h) merkleCovers_row_tie rfl ⟨rfl, rfl⟩ (by kernel_rfl) rfl plain (by kernel_rfl)
end lawMerkleCovers
theorem merkleCoversHolds : Rows.MerkleCoversCardSaid := lawMerkleCovers.card
end Go.Proofs.YteglngofbbpkmaaDoor
