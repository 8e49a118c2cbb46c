/- SubstParse: Parse returns the substitution with any text, whose text it is, or the specified error (the card's statement), where the package variable words holds what the program's text lays. -/
import Derived.Test.YtipmibjhlpnhjaaGreatDoorSparseLaw
import Derived.Test.YtipmibjhlpnhjaaGreatDoorGi
import Derived.Test.YtipmibjhlpnhjaaGreatDoorTie
import Derived.Test.YtipmibjhlpnhjaaGreatDoorCards
namespace Go.Proofs.YtipmibjhlpnhjaaGreatDoor.substParse
open Go.ChangeShapes Go.WideShapes Go.RowKit

theorem recs : ∀ t ∈ Tryz.f9.params.toList, Tryz.prog.readableRec t = true ∧ t < Tryz.prog.types.size := by
  intro t ht
  rw [Tryz.params9] at ht
  simp only [List.mem_cons, List.not_mem_nil, or_false] at ht
  subst ht
  all_goals exact ⟨by kernel_rfl, of_decide_eq_true (by kernel_rfl)⟩

set_option maxRecDepth 100000 in
theorem lifted (os : Os) (started : os.Started) (H : Type) (enc : TypeId × Value → H) (F : Stop.Interp) :
    ReturnsInHanded {} Tryz.checked os 9 .any ((OpenSpec.ofChange Rows.substParseSpec).preRow enc Tryz.prog Tryz.f9 Rows.substParseRow.domain false Rows.substParseRow.laid) (((OpenSpec.ofChange Rows.substParseSpec).at F).post enc Tryz.prog Tryz.f9 false true false false) := by
  have hw : (DataW.whole enc Tryz.prog ((laidWorld os).forCall (fun _ _ => 0) ⟨#[], #[(.string ⟨#[]⟩ : Value)], []⟩).memory Tryz.f9.params.toList Rows.substParseSpec.vars false (#[(.string ⟨#[]⟩ : Value)] : Array Value).toList 8).map (fun x => (x.1, x.2.1)) =
      some ([.lit (.string [])], []) := by kernel_rfl
  obtain ⟨⟨x1, x2, x3⟩, hx, hx1⟩ := Option.map_eq_some_iff.1 hw
  simp only [Prod.mk.injEq] at hx1
  obtain ⟨rfl, rfl⟩ := hx1
  refine returnsInHanded_of_row (C := Tryz.checked) (s := OpenSpec.ofChange Rows.substParseSpec) own started (by kernel_rfl) Tryz.func9
    (witness_row_atRef (enc := enc) (C := Tryz.checked) false (laidWorld os) #[(.string ⟨#[]⟩ : Value)] rfl (by kernel_rfl) (by kernel_rfl) (by kernel_rfl)
      (OpenSpec.preRow_of_cond 8 hx (by kernel_rfl) (fun k hk => by cases hk) (by kernel_rfl) (laid_met os _))) ?_
  intro W base args ds gs before hval0 hW _ _ _ hL hSh _
  have hval : ∀ (j : Nat) t v, Tryz.f9.params[j]? = some t → args[j]? = some v → Value.okWide Tryz.prog W .any base t v := hval0
  have hW' := hW
  obtain ⟨p, q, hA0, hV, -, -, -⟩ := hW
  have hA : DataW.TrodAll enc Tryz.prog W 0 (fun _ => true) true Tryz.f9.params.toList args.toList ds p := hA0
  rw [Tryz.params9] at hA hval
  obtain ⟨v0, vs0, d0, ds0, p0, q0, hargs0, rfl, rfl, h0, r0⟩ := trodAll_cons hA
  obtain ⟨rfl, rfl, rfl⟩ := trodAll_nil r0
  obtain rfl : args = #[v0] := by cases args; simp_all
  obtain ⟨t0, rfl, -, -, -⟩ := Go.ChangeMaps.open_string Tryz.underlying9 (hval 0 9 v0 rfl rfl) h0
  refine (sparse_law t0 W (maxl_of_shaped hSh) (laid_words hL) ).mono ?_
  rintro e W' ⟨rfl, hb⟩
  exact ⟨_, rfl, law_post hW' rfl (by kernel_rfl) rfl recs hb⟩

theorem said : Rows.SubstParseSaid :=
  OpenClaim.holds_of_cond 9 Tryz.f9 rfl rfl rfl rfl rfl rfl rfl ⟨rfl, rfl, rfl, rfl, rfl⟩ rfl rfl rfl rfl rfl (by kernel_rfl) Tryz.func9 (by kernel_rfl)
    (of_decide_eq_true (by kernel_rfl)) (by unfold Func.isWrapper; first | (rw [if_pos (by decide +kernel)]; kernel_rfl) | (rw [if_neg (by decide +kernel)]; exact ⟨rfl, rfl⟩))
    (fun os started H enc _ F => by rw [OpenClaim.pre_eq_preRow]; exact lifted os started H enc F)

theorem plain (f : FuncId) (fn : Func) (hf : Tryz.pinned.checked.prog.funcNamed "sealring/sealringlaw02.SubstParse" = some f) (hfn : Tryz.pinned.checked.prog.funcs[f]? = some fn) :
    false = Tryz.pinned.checked.prog.looks [] ∧ ∀ (j : Nat) t, fn.params[j]? = some t → Tryz.pinned.checked.prog.wantsStandIn t = false := by
  obtain rfl : f = 9 := Option.some.inj ((show Tryz.prog.funcNamed "sealring/sealringlaw02.SubstParse" = some 9 by kernel_rfl).symm.trans hf) |>.symm
  obtain rfl : fn = Tryz.f9 := (Option.some.inj (Tryz.func9.symm.trans hfn)).symm
  refine ⟨by kernel_rfl, fun j t ht => ?_⟩
  rw [Tryz.params9] at ht
  obtain rfl : t = 9 := by simpa using Array.mem_of_getElem? ht
  exact (show Tryz.prog.wantsStandIn 9 = false by kernel_rfl)

/-- SubstParse' card. -/
theorem card : Rows.SubstParseCardSaid :=
  Claim7.holds_tied_plain_at .later [] _ _ _ _ said (fun _ h => by cases h) (by kernel_rfl) (fun _ h => by cases h) substParse_row_tie rfl ⟨rfl, rfl⟩ (by kernel_rfl) rfl plain (by kernel_rfl)
#print axioms card
end Go.Proofs.YtipmibjhlpnhjaaGreatDoor.substParse
