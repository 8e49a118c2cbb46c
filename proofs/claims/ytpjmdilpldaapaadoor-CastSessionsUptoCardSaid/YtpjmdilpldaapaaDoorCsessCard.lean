/- CastSessions: Sessions returns all lists of sessions, in order, or the specified error (here: where what the call reads is of bulk at most the bound of the second form) (the card's statement). -/
import Derived.Test.YtpjmdilpldaapaaDoorCsessLaw
import Derived.Test.YtpjmdilpldaapaaDoorCwit
import Derived.Test.YtpjmdilpldaapaaDoorCbulk
import Derived.Test.YtpjmdilpldaapaaDoorTie
import Derived.Test.YtpjmdilpldaapaaDoorCards
namespace Go.Proofs.YtpjmdilpldaapaaDoor.castSessions
open Go.ChangeShapes Go.WideShapes Go.RowKit

theorem recs : ∀ t ∈ Tryd.f3.params.toList, Tryd.prog.readableRec t = true ∧ t < Tryd.prog.types.size := by
  intro t ht
  rw [Tryd.params3] at ht
  simp only [List.mem_cons, List.not_mem_nil, or_false] at ht
  rcases ht with rfl | rfl | rfl
  all_goals exact ⟨by kernel_rfl, of_decide_eq_true (by kernel_rfl)⟩

set_option maxRecDepth 100000 in
theorem lifted (os : Os) (started : os.Started) (H : Type) (enc : TypeId × Value → H) (F : Stop.Interp) :
    ReturnsInHanded {} Tryd.checked os 3 .any ((Rows.OpenSpec.upto Rows.castSessionsSpec).preRow enc Tryd.prog Tryd.f3 Rows.castSessionsUptoRow.domain false Rows.castSessionsUptoRow.laid) (((Rows.OpenSpec.upto Rows.castSessionsSpec).at F).post enc Tryd.prog Tryd.f3 false true false false) := by
  have hw : (DataW.whole enc Tryd.prog ((laidWorld os).forCall (fun _ _ => 0) ⟨#[], #[(.agg #[.slice none 0 0, .slice none 0 0] : Value), .int .i64 0, .int .i64 0], []⟩).memory Tryd.f3.params.toList Rows.castSessionsSpec.vars false (#[(.agg #[.slice none 0 0, .slice none 0 0] : Value), .int .i64 0, .int .i64 0] : Array Value).toList 8).map (fun x => (x.1, x.2.1)) =
      some ([.agg [.nil, .nil], .lit (.int .i64 0), .lit (.int .i64 0)], []) := by kernel_rfl
  obtain ⟨⟨x1, x2, x3⟩, hx, hx1⟩ := Option.map_eq_some_iff.1 hw
  simp only [Prod.mk.injEq] at hx1
  obtain ⟨rfl, rfl⟩ := hx1
  refine returnsInHanded_of_row (C := Tryd.checked) (s := Rows.OpenSpec.upto Rows.castSessionsSpec) own started (by kernel_rfl) Tryd.func3
    (witness_row_atRef (enc := enc) (C := Tryd.checked) false (laidWorld os) #[(.agg #[.slice none 0 0, .slice none 0 0] : Value), .int .i64 0, .int .i64 0] rfl (by kernel_rfl) (by kernel_rfl) (by kernel_rfl)
      (OpenSpec.preRow_of_cond 8 hx (by kernel_rfl) (fun k hk => by cases hk; kernel_rfl) (by kernel_rfl) (laid_met os _))) ?_
  intro W base args ds gs before hval0 hW _ hcond _ hL _ _
  have hval : ∀ (j : Nat) t v, Tryd.f3.params[j]? = some t → args[j]? = some v → Value.okWide Tryd.prog W .any base t v := hval0
  have hW' := hW
  obtain ⟨p, q, hA0, hV, -, -, -⟩ := hW
  have hA : DataW.TrodAll enc Tryd.prog W 0 (fun _ => true) true Tryd.f3.params.toList args.toList ds p := hA0
  rw [Tryd.params3] at hA hval
  obtain ⟨v0, vs0, d0, ds0, p0, q0, hargs0, rfl, rfl, h0, r0⟩ := trodAll_cons hA
  obtain ⟨v1, vs1, d1, ds1, p1, q1, hargs1, rfl, rfl, h1, r1⟩ := trodAll_cons r0
  obtain ⟨v2, vs2, d2, ds2, p2, q2, hargs2, rfl, rfl, h2, r2⟩ := trodAll_cons r1
  obtain ⟨rfl, rfl, rfl⟩ := trodAll_nil r2
  subst hargs2
  subst hargs1
  obtain rfl : args = #[v0, v1, v2] := by cases args; simp_all
  obtain ⟨g0, k0, A0, c0, B0, e0, rfl, hr0, hd0⟩ := open_castB (hval 0 24 v0 rfl rfl) h0
  obtain ⟨t1, rfl, -, -, -⟩ := Go.ChangeShapes.open_int Tryd.underlying3 (hval 1 3 v1 rfl rfl) h1
  obtain ⟨t2, rfl, -, -, -⟩ := Go.ChangeShapes.open_int Tryd.underlying3 (hval 2 3 v2 rfl rfl) h2
  have hb0 := cast_room hd0 (hcond _ rfl)
  refine (castSessions_law g0 k0 A0 B0 c0 e0 t1 t2 W  hr0 hb0).mono ?_
  rintro e W' ⟨rfl, hb⟩
  exact ⟨_, rfl, law_post hW' rfl (by kernel_rfl) rfl recs hb⟩

theorem said : Rows.CastSessionsUptoSaid :=
  OpenClaim.holds_of_cond 3 Tryd.f3 rfl rfl rfl rfl rfl rfl rfl ⟨rfl, rfl, rfl, rfl, rfl⟩ rfl rfl rfl rfl rfl (by kernel_rfl) Tryd.func3 (by kernel_rfl)
    (of_decide_eq_true (by kernel_rfl)) (by unfold Func.isWrapper; first | (rw [if_pos (by decide +kernel)]; kernel_rfl) | (rw [if_neg (by decide +kernel)]; exact ⟨rfl, rfl⟩))
    (fun os started H enc _ F => by rw [OpenClaim.pre_eq_preRow]; exact lifted os started H enc F)

theorem plain (f : FuncId) (fn : Func) (hf : Tryd.pinned.checked.prog.funcNamed "sealring/sealringlaw15.CastSessions" = some f) (hfn : Tryd.pinned.checked.prog.funcs[f]? = some fn) :
    false = Tryd.pinned.checked.prog.looks [] ∧ ∀ (j : Nat) t, fn.params[j]? = some t → Tryd.pinned.checked.prog.wantsStandIn t = false := by
  obtain rfl : f = 3 := Option.some.inj ((show Tryd.prog.funcNamed "sealring/sealringlaw15.CastSessions" = some 3 by kernel_rfl).symm.trans hf) |>.symm
  obtain rfl : fn = Tryd.f3 := (Option.some.inj (Tryd.func3.symm.trans hfn)).symm
  refine ⟨by kernel_rfl, fun j t ht => ?_⟩
  rw [Tryd.params3] at ht
  have hm := Array.mem_of_getElem? ht
  simp only [List.mem_toArray, List.mem_cons, List.not_mem_nil, or_false] at hm
  rcases hm with rfl | rfl | rfl
  · exact (show Tryd.prog.wantsStandIn 24 = false by kernel_rfl)
  · exact (show Tryd.prog.wantsStandIn 3 = false by kernel_rfl)
  · exact (show Tryd.prog.wantsStandIn 3 = false by kernel_rfl)

/-- CastSessions' card. -/
theorem card : Rows.CastSessionsUptoCardSaid :=
  Claim7.holds_tied_plain_at .later [] _ _ _ _ said (fun _ h => by cases h) (by kernel_rfl) (fun _ h => by cases h) castSessionsUpto_row_tie rfl ⟨rfl, rfl⟩ (by kernel_rfl) rfl plain (by kernel_rfl)
#print axioms card
end Go.Proofs.YtpjmdilpldaapaaDoor.castSessions
