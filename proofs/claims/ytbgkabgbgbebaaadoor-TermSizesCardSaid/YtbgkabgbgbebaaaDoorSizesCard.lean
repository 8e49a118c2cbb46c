/- TermSizes: Size and Depth return the sizes of any term (the card's statement), where the package variable words holds what the program's text lays. -/
import Derived.Test.YtbgkabgbgbebaaaDoorSizes
import Derived.Test.YtbgkabgbgbebaaaDoorWit
import Derived.Test.YtbgkabgbgbebaaaDoorTie
import Derived.Test.YtbgkabgbgbebaaaDoorCards
namespace Go.Proofs.YtbgkabgbgbebaaaDoor
open Go.ChangeShapes Go.WideShapes Go.RowKit

theorem rec_term : Tryd.prog.readableRec 24 = true ∧ 24 < Tryd.prog.types.size := ⟨by kernel_rfl, of_decide_eq_true (by kernel_rfl)⟩

set_option maxRecDepth 100000 in
theorem sizes_lifted (os : Os) (started : os.Started) (H : Type) (enc : TypeId × Value → H) (F : Stop.Interp) :
    ReturnsInHanded {} Tryd.checked os 3 .any ((OpenSpec.ofChange Rows.termSizesSpec).preRow enc Tryd.prog Tryd.f3 Rows.termSizesRow.domain false Rows.termSizesRow.laid) (((OpenSpec.ofChange Rows.termSizesSpec).at F).post enc Tryd.prog Tryd.f3 false true false false) := by
  have hw : (DataW.whole enc Tryd.prog ((laidWorld os).forCall (fun _ _ => 0) ⟨#[], #[zeroArg], []⟩).memory Tryd.f3.params.toList Rows.termSizesSpec.vars false #[zeroArg].toList 8).map (fun x => (x.1, x.2.1)) =
      some ([zeroRead H], []) := by kernel_rfl
  obtain ⟨⟨x1, x2, x3⟩, hx, hx1⟩ := Option.map_eq_some_iff.1 hw
  simp only [Prod.mk.injEq] at hx1
  obtain ⟨rfl, rfl⟩ := hx1
  refine returnsInHanded_of_row (C := Tryd.checked) (s := OpenSpec.ofChange Rows.termSizesSpec) own started (by kernel_rfl) Tryd.func3
    (witness_row_atRef (enc := enc) (C := Tryd.checked) false (laidWorld os) #[zeroArg] rfl (by kernel_rfl) (by kernel_rfl) (by kernel_rfl)
      (OpenSpec.preRow_of_cond 8 hx (by kernel_rfl) (fun k hk => by cases hk) (by kernel_rfl) (laid_met os _))) ?_
  intro W base args ds gs before hval0 hW _ _ _ hL _ _
  have hval : ∀ (j : Nat) t v, Tryd.f3.params[j]? = some t → args[j]? = some v → Value.okWide Tryd.prog W .any base t v := hval0
  have hW' := hW
  obtain ⟨p, q, hA0, hV, -, -, -⟩ := hW
  have hA : DataW.TrodAll enc Tryd.prog W 0 (fun _ => true) true Tryd.f3.params.toList args.toList ds p := hA0
  rw [Tryd.params3] at hA hval
  obtain ⟨v0, d0, hargs, rfl, h0⟩ := trodAll_one hA
  obtain rfl : args = #[v0] := by cases args; simp_all
  obtain ⟨t, A, cap, rfl, hrep⟩ := open_term (hval 0 24 v0 rfl rfl) h0
  refine (sizes_law t A cap W (laid_words hL) hrep).mono ?_
  rintro e W' ⟨rfl, hb⟩
  refine ⟨_, rfl, law_post hW' rfl (by kernel_rfl) rfl ?_ hb⟩
  intro t ht
  rw [Tryd.params3] at ht
  obtain rfl : t = 24 := by simpa using ht
  exact rec_term

theorem sizes_said : Rows.TermSizesSaid :=
  OpenClaim.holds_of_cond 3 Tryd.f3 rfl rfl rfl rfl rfl rfl rfl ⟨rfl, rfl, rfl, rfl, rfl⟩ rfl rfl rfl rfl rfl (by kernel_rfl) Tryd.func3 (by kernel_rfl)
    (of_decide_eq_true (by kernel_rfl)) (by unfold Func.isWrapper; first | (rw [if_pos (by decide +kernel)]; kernel_rfl) | (rw [if_neg (by decide +kernel)]; exact ⟨rfl, rfl⟩))
    (fun os started H enc _ F => by rw [OpenClaim.pre_eq_preRow]; exact sizes_lifted os started H enc F)

theorem sizes_plain (f : FuncId) (fn : Func) (hf : Tryd.pinned.checked.prog.funcNamed "sealring/sealringlaw01.TermSizes" = some f) (hfn : Tryd.pinned.checked.prog.funcs[f]? = some fn) :
    false = Tryd.pinned.checked.prog.looks [] ∧ ∀ (j : Nat) t, fn.params[j]? = some t → Tryd.pinned.checked.prog.wantsStandIn t = false := by
  obtain rfl : f = 3 := Option.some.inj ((show Tryd.prog.funcNamed "sealring/sealringlaw01.TermSizes" = some 3 by kernel_rfl).symm.trans hf) |>.symm
  obtain rfl : fn = Tryd.f3 := (Option.some.inj (Tryd.func3.symm.trans hfn)).symm
  refine ⟨by kernel_rfl, fun j t ht => ?_⟩
  rw [Tryd.params3] at ht
  obtain rfl : t = 24 := by simpa using Array.mem_of_getElem? ht
  exact (show Tryd.prog.wantsStandIn 24 = false by kernel_rfl)

/-- TermSizes' card. -/
theorem sizes_card : Rows.TermSizesCardSaid :=
  Claim7.holds_tied_plain_at .later [] _ _ _ _ sizes_said (fun _ h => by cases h) (by kernel_rfl) (fun _ h => by cases h) termSizes_row_tie rfl ⟨rfl, rfl⟩ (by kernel_rfl) rfl sizes_plain (by kernel_rfl)
#print axioms sizes_card
end Go.Proofs.YtbgkabgbgbebaaaDoor
