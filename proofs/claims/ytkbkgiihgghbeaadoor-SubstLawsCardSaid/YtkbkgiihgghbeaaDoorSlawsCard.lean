/- SubstLaws: The composition has the effect of both substitutions, one after the other, and is associative (the card's statement), where the package variable words holds what the program's text lays. -/
import Derived.Test.YtkbkgiihgghbeaaDoorSlawsLaw
import Derived.Test.YtkbkgiihgghbeaaDoorSopenD
import Derived.Test.YtkbkgiihgghbeaaDoorGi
import Derived.Test.YtkbkgiihgghbeaaDoorTie
import Derived.Test.YtkbkgiihgghbeaaDoorCards
namespace Go.Proofs.YtkbkgiihgghbeaaDoor.substLaws
open Go.ChangeShapes Go.WideShapes Go.RowKit

theorem recs : ∀ t ∈ Tryd.f6.params.toList, Tryd.prog.readableRec t = true ∧ t < Tryd.prog.types.size := by
  intro t ht
  rw [Tryd.params6] at ht
  simp only [List.mem_cons, List.not_mem_nil, or_false] at ht
  rcases ht with rfl | rfl | rfl
  all_goals exact ⟨by kernel_rfl, of_decide_eq_true (by kernel_rfl)⟩

set_option maxRecDepth 100000 in
theorem lifted (os : Os) (started : os.Started) (H : Type) (enc : TypeId × Value → H) (F : Stop.Interp) :
    ReturnsInHanded {} Tryd.checked os 6 .any ((OpenSpec.ofChange Rows.substLawsSpec).preRow enc Tryd.prog Tryd.f6 Rows.substLawsRow.domain false Rows.substLawsRow.laid) (((OpenSpec.ofChange Rows.substLawsSpec).at F).post enc Tryd.prog Tryd.f6 false true false false) := by
  have hw : (DataW.whole enc Tryd.prog ((laidWorld os).forCall (fun _ _ => 0) ⟨#[], #[(.agg #[.slice none 0 0, .slice none 0 0, .slice none 0 0, .int .u8 0] : Value), .agg #[.slice none 0 0, .slice none 0 0, .slice none 0 0, .int .u8 0], .slice none 0 0], []⟩).memory Tryd.f6.params.toList Rows.substLawsSpec.vars false (#[(.agg #[.slice none 0 0, .slice none 0 0, .slice none 0 0, .int .u8 0] : Value), .agg #[.slice none 0 0, .slice none 0 0, .slice none 0 0, .int .u8 0], .slice none 0 0] : Array Value).toList 8).map (fun x => (x.1, x.2.1)) =
      some ([.agg [.nil, .nil, .nil, .lit (.int .u8 0)], .agg [.nil, .nil, .nil, .lit (.int .u8 0)], .nil], []) := by kernel_rfl
  obtain ⟨⟨x1, x2, x3⟩, hx, hx1⟩ := Option.map_eq_some_iff.1 hw
  simp only [Prod.mk.injEq] at hx1
  obtain ⟨rfl, rfl⟩ := hx1
  refine returnsInHanded_of_row (C := Tryd.checked) (s := OpenSpec.ofChange Rows.substLawsSpec) own started (by kernel_rfl) Tryd.func6
    (witness_row_atRef (enc := enc) (C := Tryd.checked) false (laidWorld os) #[(.agg #[.slice none 0 0, .slice none 0 0, .slice none 0 0, .int .u8 0] : Value), .agg #[.slice none 0 0, .slice none 0 0, .slice none 0 0, .int .u8 0], .slice none 0 0] rfl (by kernel_rfl) (by kernel_rfl) (by kernel_rfl)
      (OpenSpec.preRow_of_cond 8 hx (by kernel_rfl) (fun k hk => by cases hk) (by kernel_rfl) (laid_met os _))) ?_
  intro W base args ds gs before hval0 hW _ _ _ hL _ _
  have hval : ∀ (j : Nat) t v, Tryd.f6.params[j]? = some t → args[j]? = some v → Value.okWide Tryd.prog W .any base t v := hval0
  have hW' := hW
  obtain ⟨p, q, hA0, hV, -, -, -⟩ := hW
  have hA : DataW.TrodAll enc Tryd.prog W 0 (fun _ => true) true Tryd.f6.params.toList args.toList ds p := hA0
  rw [Tryd.params6] at hA hval
  obtain ⟨v0, vs0, d0, ds0, p0, q0, hargs0, rfl, rfl, h0, r0⟩ := trodAll_cons hA
  obtain ⟨v1, vs1, d1, ds1, p1, q1, hargs1, rfl, rfl, h1, r1⟩ := trodAll_cons r0
  obtain ⟨v2, vs2, d2, ds2, p2, q2, hargs2, rfl, rfl, h2, r2⟩ := trodAll_cons r1
  obtain ⟨rfl, rfl, rfl⟩ := trodAll_nil r2
  subst hargs2
  subst hargs1
  obtain rfl : args = #[v0, v1, v2] := by cases args; simp_all
  obtain ⟨t0, A0, c0, rfl, hr0⟩ := open_draft (hval 0 38 v0 rfl rfl) h0
  obtain ⟨t1, A1, c1, rfl, hr1⟩ := open_draft (hval 1 38 v1 rfl rfl) h1
  obtain ⟨t2, A2, c2, rfl, hr2⟩ := open_byteS (hval 2 36 v2 rfl rfl) h2
  refine (laws_law t0 t1 t2 A0 A1 A2 c0 c1 c2 W (laid_words hL) hr0 hr1 hr2).mono ?_
  rintro e W' ⟨rfl, hb⟩
  exact ⟨_, rfl, law_post hW' rfl (by kernel_rfl) rfl recs hb⟩

theorem said : Rows.SubstLawsSaid :=
  OpenClaim.holds_of_cond 6 Tryd.f6 rfl rfl rfl rfl rfl rfl rfl ⟨rfl, rfl, rfl, rfl, rfl⟩ rfl rfl rfl rfl rfl (by kernel_rfl) Tryd.func6 (by kernel_rfl)
    (of_decide_eq_true (by kernel_rfl)) (by unfold Func.isWrapper; first | (rw [if_pos (by decide +kernel)]; kernel_rfl) | (rw [if_neg (by decide +kernel)]; exact ⟨rfl, rfl⟩))
    (fun os started H enc _ F => by rw [OpenClaim.pre_eq_preRow]; exact lifted os started H enc F)

theorem plain (f : FuncId) (fn : Func) (hf : Tryd.pinned.checked.prog.funcNamed "sealring/sealringlaw02.SubstLaws" = some f) (hfn : Tryd.pinned.checked.prog.funcs[f]? = some fn) :
    false = Tryd.pinned.checked.prog.looks [] ∧ ∀ (j : Nat) t, fn.params[j]? = some t → Tryd.pinned.checked.prog.wantsStandIn t = false := by
  obtain rfl : f = 6 := Option.some.inj ((show Tryd.prog.funcNamed "sealring/sealringlaw02.SubstLaws" = some 6 by kernel_rfl).symm.trans hf) |>.symm
  obtain rfl : fn = Tryd.f6 := (Option.some.inj (Tryd.func6.symm.trans hfn)).symm
  refine ⟨by kernel_rfl, fun j t ht => ?_⟩
  rw [Tryd.params6] at ht
  have hm := Array.mem_of_getElem? ht
  simp only [List.mem_toArray, List.mem_cons, List.not_mem_nil, or_false] at hm
  rcases hm with rfl | rfl | rfl
  · exact (show Tryd.prog.wantsStandIn 38 = false by kernel_rfl)
  · exact (show Tryd.prog.wantsStandIn 38 = false by kernel_rfl)
  · exact (show Tryd.prog.wantsStandIn 36 = false by kernel_rfl)

/-- SubstLaws' card. -/
theorem card : Rows.SubstLawsCardSaid :=
  Claim7.holds_tied_plain_at .later [] _ _ _ _ said (fun _ h => by cases h) (by kernel_rfl) (fun _ h => by cases h) substLaws_row_tie rfl ⟨rfl, rfl⟩ (by kernel_rfl) rfl plain (by kernel_rfl)
#print axioms card
end Go.Proofs.YtkbkgiihgghbeaaDoor.substLaws
