/- UnifyGeneral: General returns the generalization of two terms, or the specified error; both are instances of it, and it is one of every term of which both are (a third term with at most 450 nodes) (the card's statement), where the tables of the library hold what its text lays. -/
import Derived.Test.YtpjmdilpldaapaaGreatDoorCards
import Derived.Test.YtpjmdilpldaapaaGreatDoorK24
import Derived.Test.YtpjmdilpldaapaaGreatDoorKGi
import Derived.Test.YtpjmdilpldaapaaGreatDoorKUitoa
import Derived.Test.YtpjmdilpldaapaaGreatDoorKUwit
import Derived.Test.YtpjmdilpldaapaaGreatDoorTie
set_option maxRecDepth 100000
namespace Go.Proofs.YtpjmdilpldaapaaGreatDoor.unifyGeneral
open Go.ChangeShapes Go.WideShapes Go.RowKit
theorem recs : ∀ t ∈ Tryz.f7.params.toList, Tryz.prog.readableRec t = true ∧ t < Tryz.prog.types.size := by
 intro t ht;rw [Tryz.params7] at ht;simp only [List.mem_cons, List.not_mem_nil, or_false] at ht;rcases ht with rfl | rfl | rfl
 all_goals exact ⟨by kernel_rfl, of_decide_eq_true (by kernel_rfl)⟩
theorem lifted (os : Os) (started : os.Started) (H : Type) (enc : TypeId × Value → H) (F : Stop.Interp) :
  ReturnsInHanded {} Tryz.checked os 7 .any ((OpenSpec.ofChange Rows.unifyGeneralSpec).preRow enc Tryz.prog Tryz.f7 Rows.unifyGeneralRow.domain false Rows.unifyGeneralRow.laid) (((OpenSpec.ofChange Rows.unifyGeneralSpec).at F).post enc Tryz.prog Tryz.f7 false true false false) := by
 have hw : (DataW.whole enc Tryz.prog ((laidWorld os).forCall (fun _ _ => 0) ⟨#[], #[qdl, qdl, qdl], []⟩).memory Tryz.f7.params.toList Rows.unifyGeneralSpec.vars false (#[qdl, qdl, qdl] : Array Value).toList 8).map (fun x => (x.1, x.2.1)) =
   some ([qh7 H, qh7 H, qh7 H], []) := by kernel_rfl
 obtain ⟨⟨x1, x2, x3⟩, hx, hx1⟩ := Option.map_eq_some_iff.1 hw;simp only [Prod.mk.injEq] at hx1;obtain ⟨rfl, rfl⟩ := hx1;refine returnsInHanded_of_row (C := Tryz.checked) (s := OpenSpec.ofChange Rows.unifyGeneralSpec) own started (by kernel_rfl) Tryz.func7
  (witness_row_atRef (enc := enc) (C := Tryz.checked) false (laidWorld os) #[qdl, qdl, qdl] rfl (by kernel_rfl) (by kernel_rfl) (by kernel_rfl)
   (OpenSpec.preRow_of_cond 8 hx (by kernel_rfl) (fun k hk => by cases hk) (by kernel_rfl) (laid_met os _))) ?_
 intro W base args ds gs before hval0 hW _ _ _ hL hSh _;have hval : ∀ (j : Nat) t v, Tryz.f7.params[j]? = some t → args[j]? = some v → Value.okWide Tryz.prog W .any base t v := hval0;have hW' := hW;obtain ⟨p, q, hA0, hV, -, -, -⟩ := hW;have hA : DataW.TrodAll enc Tryz.prog W 0 (fun _ => true) true Tryz.f7.params.toList args.toList ds p := hA0;rw [Tryz.params7] at hA hval;obtain ⟨v0, vs0, d0, ds0, p0, q0, hargs0, rfl, rfl, h0, r0⟩ := trodAll_cons hA;obtain ⟨v1, vs1, d1, ds1, p1, q1, hargs1, rfl, rfl, h1, r1⟩ := trodAll_cons r0;obtain ⟨v2, vs2, d2, ds2, p2, q2, hargs2, rfl, rfl, h2, r2⟩ := trodAll_cons r1;obtain ⟨rfl, rfl, rfl⟩ := trodAll_nil r2;subst hargs2;subst hargs1;obtain rfl : args = #[v0, v1, v2] := by cases args; simp_all
 obtain ⟨t0, A0, c0, rfl, hr0⟩ := qgl (hval 0 24 v0 rfl rfl) h0;obtain ⟨t1, A1, c1, rfl, hr1⟩ := qgl (hval 1 24 v1 rfl rfl) h1;obtain ⟨t2, A2, c2, rfl, hr2⟩ := qgl (hval 2 24 v2 rfl rfl) h2;refine (qi1 t0 t1 t2 A0 A1 A2 c0 c1 c2 W (qji hL 400000 (by omega))  hr0 hr1 hr2).mono ?_;rintro e W' ⟨rfl, hb⟩;exact ⟨_, rfl, law_post hW' rfl (by kernel_rfl) rfl recs hb⟩
theorem said : Rows.UnifyGeneralSaid :=
 OpenClaim.holds_of_cond 7 Tryz.f7 rfl rfl rfl rfl rfl rfl rfl ⟨rfl, rfl, rfl, rfl, rfl⟩ rfl rfl rfl rfl rfl (by kernel_rfl) Tryz.func7 (by kernel_rfl)
  (of_decide_eq_true (by kernel_rfl)) (by unfold Func.isWrapper; first | (rw [if_pos (by decide +kernel)]; kernel_rfl) | (rw [if_neg (by decide +kernel)]; exact ⟨rfl, rfl⟩))
  (fun os started H enc _ F => by rw [OpenClaim.pre_eq_preRow]; exact lifted os started H enc F)
theorem plain (f : FuncId) (fn : Func) (hf : Tryz.pinned.checked.prog.funcNamed "sealring/sealringlaw03.UnifyGeneral" = some f) (hfn : Tryz.pinned.checked.prog.funcs[f]? = some fn) :
  false = Tryz.pinned.checked.prog.looks [] ∧ ∀ (j : Nat) t, fn.params[j]? = some t → Tryz.pinned.checked.prog.wantsStandIn t = false := by
 obtain rfl : f = 7 := Option.some.inj ((show Tryz.prog.funcNamed "sealring/sealringlaw03.UnifyGeneral" = some 7 by kernel_rfl).symm.trans hf) |>.symm;obtain rfl : fn = Tryz.f7 := (Option.some.inj (Tryz.func7.symm.trans hfn)).symm;refine ⟨by kernel_rfl, fun j t ht => ?_⟩;rw [Tryz.params7] at ht;obtain rfl : t = 24 := by simpa using Array.mem_of_getElem? ht
 exact (show Tryz.prog.wantsStandIn 24 = false by kernel_rfl)
theorem card : Rows.UnifyGeneralCardSaid :=
 Claim7.holds_tied_plain_at .later [] _ _ _ _ said (fun _ h => by cases h) (by kernel_rfl) (fun _ h => by cases h) unifyGeneral_row_tie rfl ⟨rfl, rfl⟩ (by kernel_rfl) rfl plain (by kernel_rfl)
#print axioms card
end Go.Proofs.YtpjmdilpldaapaaGreatDoor.unifyGeneral
