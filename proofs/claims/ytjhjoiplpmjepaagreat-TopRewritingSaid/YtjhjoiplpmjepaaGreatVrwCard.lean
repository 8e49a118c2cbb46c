/- TopRewriting: rewriting by the destructor rules ends, whatever redexes are chosen, and at the normal form. -/
import Derived.Test.YtjhjoiplpmjepaaGreatRows
import Derived.Test.YtjhjoiplpmjepaaGreatW23
import Derived.Test.YtjhjoiplpmjepaaGreatWGi
import Derived.Test.YtjhjoiplpmjepaaGreatWVwit
set_option maxRecDepth 100000
namespace Go.Proofs.YtjhjoiplpmjepaaGreat.topRewriting
open Go.ChangeShapes Go.WideShapes Go.RowKit
theorem recs:∀t∈Tryz.f5.params.toList,Tryz.prog.readableRec t=true∧t < Tryz.prog.types.size:=by
 intro t ht;rw[Tryz.params5]at ht;simp only[List.mem_cons,List.not_mem_nil,or_false]at ht;rcases ht with rfl|rfl
 all_goals exact⟨by kernel_rfl,of_decide_eq_true (by kernel_rfl)⟩
theorem lifted (os:Os) (started:os.Started) (H:Type) (enc:TypeId×Value→H) (F:Stop.Interp) :
  ReturnsInHanded {} Tryz.checked os 5 .any ((OpenSpec.ofChange Rows.topRewritingSpec).preRow enc Tryz.prog Tryz.f5 Rows.topRewritingRow.domain false Rows.topRewritingRow.laid) (((OpenSpec.ofChange Rows.topRewritingSpec).at F).post enc Tryz.prog Tryz.f5 false true false false):=by
 have hw:(DataW.whole enc Tryz.prog ((laidWorld os).forCall (fun _ _=>0) ⟨#[],#[qm3,.slice none 0 0],[]⟩).memory Tryz.f5.params.toList Rows.topRewritingSpec.vars false (#[qm3,.slice none 0 0]:Array Value).toList 8).map (fun x=>(x.1,x.2.1)) =
   some ([zeroRead H,.nil],[]):=by kernel_rfl
 obtain⟨⟨x1,x2,x3⟩,hx,hx1⟩:=Option.map_eq_some_iff.1 hw;simp only[Prod.mk.injEq]at hx1;obtain⟨rfl,rfl⟩:=hx1;refine returnsInHanded_of_row (C:=Tryz.checked) (s:=OpenSpec.ofChange Rows.topRewritingSpec) own started (by kernel_rfl) Tryz.func5
  (witness_row_atRef (enc := enc) (C := Tryz.checked) false (laidWorld os) #[qm3, .slice none 0 0] rfl (by kernel_rfl) (by kernel_rfl) (by kernel_rfl)
   (OpenSpec.preRow_of_cond 8 hx (by kernel_rfl) (fun k hk=>by cases hk) (by kernel_rfl) (laid_met os _))) ?_
 intro W base args ds gs before hval0 hW _ _ _ hL _ _;have hval:∀(j:Nat) t v,Tryz.f5.params[j]?=some t→args[j]?=some v→Value.okWide Tryz.prog W .any base t v:=hval0;have hW':=hW;obtain⟨p,q,hA0,hV,-,-,-⟩:=hW;have hA:DataW.TrodAll enc Tryz.prog W 0 (fun _=>true) true Tryz.f5.params.toList args.toList ds p:=hA0;rw[Tryz.params5]at hA hval;obtain⟨v0,vs0,d0,ds0,p0,q0,hargs0,rfl,rfl,h0,r0⟩:=trodAll_cons hA;obtain⟨v1,vs1,d1,ds1,p1,q1,hargs1,rfl,rfl,h1,r1⟩:=trodAll_cons r0;obtain⟨rfl,rfl,rfl⟩:=trodAll_nil r1;subst hargs1;obtain rfl:args=#[v0,v1]:=by cases args;simp_all
 obtain⟨t0,A0,c0,rfl,hr0⟩:=open_term (hval 0 24 v0 rfl rfl) h0;obtain⟨t1,A1,c1,rfl,hr1⟩:=ql4 (hval 1 44 v1 rfl rfl) h1;refine(toprw_law t0 A0 c0 t1 A1 c1 W  hr0 hr1).mono ?_;rintro e W' ⟨rfl,hb⟩;exact⟨_,rfl,law_post hW' rfl (by kernel_rfl) rfl recs hb⟩
theorem said:Rows.TopRewritingSaid:=
 OpenClaim.holds_of_cond 5 Tryz.f5 rfl rfl rfl rfl rfl rfl rfl ⟨rfl,rfl,rfl,rfl,rfl⟩ rfl rfl rfl rfl rfl (by kernel_rfl) Tryz.func5 (by kernel_rfl)
  (of_decide_eq_true (by kernel_rfl)) (by unfold Func.isWrapper;first|(rw[if_pos (by decide +kernel)];kernel_rfl)|(rw[if_neg (by decide +kernel)];exact⟨rfl,rfl⟩))
  (fun os started H enc _ F=>by rw[OpenClaim.pre_eq_preRow];exact lifted os started H enc F)
#print axioms said
end Go.Proofs.YtjhjoiplpmjepaaGreat.topRewriting
