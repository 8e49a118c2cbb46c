/- Umix4, Umix5, Gj (joined by shake.py). -/
import Derived.Test.YtjhjoiplpmjepaaGreatL0
import Derived.Test.YtjhjoiplpmjepaaGreatShl
import Derived.Test.YtjhjoiplpmjepaaGreatL1
import Derived.Test.YtjhjoiplpmjepaaGreatL4
set_option maxRecDepth 100000
set_option linter.unusedVariables false
set_option linter.unusedSimpArgs false
set_option maxHeartbeats 2000000
namespace Go.Proofs.YtjhjoiplpmjepaaGreat
section
variable {P:Program} {ops:Array Oper} {Q:Exit→Act→World→Prop} {md:Region.Mode} {S S2:World→Prop} {wk:List Nat} {R:Nat→World→Prop}
def qhj (P:Program) (md:Region.Mode) (ops:Array Oper) (Q:Exit→Act→World→Prop) (R:Nat→World→Prop):Nat→Array Bool→Act→World→Prop
 | 0,listed,a,w=>Region.ready md ops listed=[]∧Q .normal a w
 | fuel+1,listed,a,w=>
  (Region.ready md ops listed=[]→Q .normal a w)∧
  ∀i∈Region.ready md ops listed,wpOp P ops Q i (fun a' w'=>R i w'∧qhj P md ops Q R fuel (listed.setIfInBounds i true) a' w') a w
theorem qid:∀(fuel:Nat) (listed:Array Bool) (a:Act) (w:World),qhj P md ops Q R fuel listed a w→wpAny P md ops Q fuel listed a w
 | 0,_,_,_,h=>h
 | fuel+1,_,_,_,h=>⟨h.1,fun i hi=>wpOp_mono (fun a' w' h'=>qid fuel _ a' w' h'.2) (h.2 i hi)⟩
theorem qlw {l0 l:Array Bool} {j:Nat} (h:∀k,l0.getD k true=true→l.getD k true=true):∀k,l0.getD k true=true→(l.setIfInBounds j true).getD k true=true:=by
 intro k hk;by_cases hjk:j=k
 ·subst hjk;simp only[Array.getD_eq_getD_getElem?,Array.getElem?_setIfInBounds];rw[if_pos trivial]
  split<;>rfl
 ·rw[getD_set_ne true hjk];exact h k hk
theorem qjx {S':World→Prop} {i:Nat} {oi:Oper} {v:Value} (hi:ops[i]?=some oi) (hsel:∀(j:Nat) (o:Oper) cs b,ops[j]?=some o→o.op≠.select cs b) (l0:Array Bool)
  (hS':∀(listed:Array Bool) (j:Nat) (w:World),(∀k,l0.getD k true=true→listed.getD k true=true)→listed.getD i true=false→j∈Region.ready md ops listed→j≠i→R j w→S' w) (hSS:∀w,S' w→R i w)
  (hQ:∀c a w,Q (.panic c) (a.put oi.dst v) w→Q (.panic c) a w) :
  ∀(fuel:Nat) (listed:Array Bool) (a:Act) (w:World),(∀k,l0.getD k true=true→listed.getD k true=true)→
   (∀j oj,ops[j]?=some oj→j≠i→listed.getD j true=false→(∀e∈oj.after,Region.binds md e=true→e.on≠i)→oi.apart ops oj=true)→
   i∈Region.ready md ops listed→YieldsIf P ops S' oi v a→S' w→
   qhj P md ops Q R fuel (listed.setIfInBounds i true) (a.put oi.dst v) w→qhj P md ops Q R (fuel+1) listed a w:=by
 intro fuel
 induction fuel with
 | zero=>
  intro listed a w _ _ hr hy hS H;refine⟨fun h=>(by rw[h]at hr;cases hr),fun j hj=>?_⟩;by_cases hji:j=i
  ·subst hji;exact hy.wpOp hi hS ⟨hSS w hS,H⟩
  ·have:=ready_mono hj hji;rw[H.1]at this;cases this
 | succ fuel ih=>
  intro listed a w hsub hfree hr hy hS H;have hun:=(mem_ready.1 hr).1;refine⟨fun h=>(by rw[h]at hr;cases hr),fun j hj=>?_⟩;by_cases hji:j=i
  ·subst hji;exact hy.wpOp hi hS ⟨hSS w hS,H⟩
  ·have h1:=H.2 j (ready_mono hj hji);obtain⟨hjun,oj,hoj,hall⟩:=mem_ready.1 hj;have hnot:∀e∈oj.after,Region.binds md e=true→e.on≠i:=fun e he hb heq=>by
    have h1:=hall e he hb;rw[heq,getD_both hun]at h1;cases h1
   have h2:=wpOp_putIf hoj (hfree j oj hoj hji hjun hnot) (fun cs b=>hsel i oi cs b hi) (fun cs b=>hsel j oj cs b hoj) hQ hy h1;have hfree':∀k ok,ops[k]?=some ok→k≠i→(listed.setIfInBounds j true).getD k true=false→
     (∀e∈ok.after,Region.binds md e=true→e.on≠i)→oi.apart ops ok=true:=fun k ok hk hki hu hno=>by
    refine hfree k ok hk hki ?_ hno;by_cases hjk:j=k
    ·subst hjk;exact hjun
    ·rw[getD_set_ne true hjk]at hu;exact hu
   refine wpOp_mono (fun a' w' h3=>⟨h3.2.1,ih (listed.setIfInBounds j true) a' w' (qlw hsub) hfree' (ready_mono hr (Ne.symm hji)) h3.1 (hS' listed j w' hsub hun hj hji h3.2.1) ?_⟩) h2;rw[Array.setIfInBounds_comm _ _ hji];exact h3.2.2
def askR (S S2:World→Prop) (wk:List Nat) (j:Nat) (w:World):Prop:=(wk.contains j=false→S w)∧S2 w
def qax (P:Program) (ops:Array Oper) (Q:Exit→Act→World→Prop) (S S2:World→Prop) (wk:List Nat):Mx3→Act→World→Prop
 | .nil,a,w=>Q .normal a w
 | .held i r,a,w|.pure i r,a,w=>askR S S2 wk i w∧∃o v,ops[i]?=some o∧YieldsIf P ops (askR S S2 wk i) o v a∧(∀c a' w',Q (.panic c) (a'.put o.dst v) w'→Q (.panic c) a' w')∧qax P ops Q S S2 wk r (a.put o.dst v) w
 | .op i r,a,w=>wpOp P ops Q i (fun a' w'=>askR S S2 wk i w'∧qax P ops Q S S2 wk r a' w') a w
 | .two i j r r',a,w=>wpOp P ops Q i (fun a' w'=>askR S S2 wk i w'∧qax P ops Q S S2 wk r a' w') a w∧wpOp P ops Q j (fun a' w'=>askR S S2 wk j w'∧qax P ops Q S S2 wk r' a' w') a w
 | .three i j k r r' r'',a,w=>wpOp P ops Q i (fun a' w'=>askR S S2 wk i w'∧qax P ops Q S S2 wk r a' w') a w∧wpOp P ops Q j (fun a' w'=>askR S S2 wk j w'∧qax P ops Q S S2 wk r' a' w') a w∧wpOp P ops Q k (fun a' w'=>askR S S2 wk k w'∧qax P ops Q S S2 wk r'' a' w') a w
def wkB (md:Region.Mode) (ops:Array Oper) (wk:List Nat) (listed:Array Bool) (i:Nat):Bool:=wk.contains i || (wk.all fun j=>listed.getD j true || Region.waitsFor md ops j i)
def qfm (md:Region.Mode) (ops:Array Oper) (wk:List Nat):Mx3→Array Bool→Bool
 | .nil,listed=>(Region.ready md ops listed).isEmpty
 | .held i r,listed|.pure i r,listed=>(Region.ready md ops listed).contains i && Region.free md ops listed i && wkB md ops wk listed i && qfm md ops wk r (listed.setIfInBounds i true)
 | .op i r,listed=>decide (Region.ready md ops listed=[i]) && qfm md ops wk r (listed.setIfInBounds i true)
 | .two i j r r',listed=>decide (Region.ready md ops listed=[i,j]) && decide (r.len=r'.len) && qfm md ops wk r (listed.setIfInBounds i true) && qfm md ops wk r' (listed.setIfInBounds j true)
 | .three i j k r r' r'',listed=>decide (Region.ready md ops listed=[i,j,k]) && decide (r.len=r'.len) && decide (r.len=r''.len) && qfm md ops wk r (listed.setIfInBounds i true) && qfm md ops wk r' (listed.setIfInBounds j true) && qfm md ops wk r'' (listed.setIfInBounds k true)
def mixOk4 (md:Region.Mode) (ops:Array Oper) (wk:List Nat) (order:Mx3):Bool:=
 Region.noSelect ops && decide (order.len=ops.size) && qfm md ops wk order (Array.replicate ops.size false)
theorem qeu (hsel:Region.noSelect ops=true) {i:Nat} {o:Oper} {v:Value} {listed:Array Bool} {a:Act} {w:World} {fuel:Nat} (hr:(Region.ready md ops listed).contains i=true) (hf:Region.free md ops listed i=true) (hwk:wkB md ops wk listed i=true) (hS:askR S S2 wk i w) (ho:ops[i]?=some o)
  (hy:YieldsIf P ops (askR S S2 wk i) o v a) (hQ:∀c a' w',Q (.panic c) (a'.put o.dst v) w'→Q (.panic c) a' w') (h:qhj P md ops Q (askR S S2 wk) fuel (listed.setIfInBounds i true) (a.put o.dst v) w):qhj P md ops Q (askR S S2 wk) (fuel+1) listed a w:=by
 refine qjx ho (Region.noSelect_spec hsel) listed (fun l j w hsub hun hj hji hR=>⟨fun hi=>hR.1 ?_,hR.2⟩) (fun _ h=>h) hQ fuel listed a w (fun _ h=>h) (Region.free_spec ho hf) (by simpa using hr) hy hS h;unfold wkB at hwk;rw[hi,Bool.false_or,List.all_eq_true]at hwk
 cases hc:wk.contains j with
 | false=>rfl
 | true=>
  exfalso;obtain⟨hjun,oj,hoj,hall⟩:=mem_ready.1 hj;have h1:=hwk j (by simpa using hc);rw[Bool.or_eq_true]at h1;rcases h1 with h1|h1
  ·rw[hsub j h1]at hjun;cases hjun
  ·obtain⟨o',ho',e,he,hbi,hon⟩:=Region.waitsFor_spec h1;have:o'=oj:=Option.some.inj (ho'.symm.trans hoj);subst this;have h2:=hall e he hbi;rw[hon,getD_both hun]at h2;cases h2
theorem qa9 (hsel:Region.noSelect ops=true) :
  ∀(order:Mx3) (listed:Array Bool) (a:Act) (w:World),qfm md ops wk order listed=true→qax P ops Q S S2 wk order a w→qhj P md ops Q (askR S S2 wk) order.len listed a w
 | .nil,listed,a,w,hB,h=>⟨by simpa[qfm]using hB,h⟩
 | .held i r,listed,a,w,hB,h=>by
  simp only[qfm,Bool.and_eq_true]at hB;obtain⟨⟨⟨hr,hf⟩,hwk⟩,hB2⟩:=hB;obtain⟨hS,o,v,ho,hy,hQ,hrest⟩:=h;exact qeu hsel hr hf hwk hS ho hy hQ (qa9 hsel r _ _ _ hB2 hrest)
 | .pure i r,listed,a,w,hB,h=>by
  simp only[qfm,Bool.and_eq_true]at hB;obtain⟨⟨⟨hr,hf⟩,hwk⟩,hB2⟩:=hB;obtain⟨hS,o,v,ho,hy,hQ,hrest⟩:=h;exact qeu hsel hr hf hwk hS ho hy hQ (qa9 hsel r _ _ _ hB2 hrest)
 | .op i r,listed,a,w,hB,h=>by
  simp only[qfm,Bool.and_eq_true,decide_eq_true_eq]at hB;refine⟨fun h0=>(by rw[hB.1]at h0;cases h0),fun j hj=>?_⟩;rw[hB.1]at hj;obtain rfl:j=i:=by simpa using hj
  exact wpOp_mono (fun a' w' h'=>⟨h'.1,qa9 hsel r _ a' w' hB.2 h'.2⟩) h
 | .two i k r r',listed,a,w,hB,h=>by
  simp only[qfm,Bool.and_eq_true,decide_eq_true_eq]at hB;obtain⟨⟨⟨hr,hlen⟩,hB1⟩,hB2⟩:=hB;refine⟨fun h0=>(by rw[hr]at h0;cases h0),fun j hj=>?_⟩;rw[hr]at hj;simp only[List.mem_cons,List.not_mem_nil,or_false]at hj;rcases hj with rfl|rfl
  ·exact wpOp_mono (fun a' w' h'=>⟨h'.1,qa9 hsel r _ a' w' hB1 h'.2⟩) h.1
  ·exact wpOp_mono (fun a' w' h'=>⟨h'.1,by rw[hlen];exact qa9 hsel r' _ a' w' hB2 h'.2⟩) h.2
 | .three i k m r r' r'',listed,a,w,hB,h=>by
  simp only[qfm,Bool.and_eq_true,decide_eq_true_eq]at hB;obtain⟨⟨⟨⟨⟨hr,hlen⟩,hlen2⟩,hB1⟩,hB2⟩,hB3⟩:=hB;refine⟨fun h0=>(by rw[hr]at h0;cases h0),fun j hj=>?_⟩;rw[hr]at hj;simp only[List.mem_cons,List.not_mem_nil,or_false]at hj;rcases hj with rfl|rfl|rfl
  ·exact wpOp_mono (fun a' w' h'=>⟨h'.1,qa9 hsel r _ a' w' hB1 h'.2⟩) h.1
  ·exact wpOp_mono (fun a' w' h'=>⟨h'.1,by rw[hlen];exact qa9 hsel r' _ a' w' hB2 h'.2⟩) h.2.1
  ·exact wpOp_mono (fun a' w' h'=>⟨h'.1,by rw[hlen2];exact qa9 hsel r'' _ a' w' hB3 h'.2⟩) h.2.2
theorem qaf {id:Nat} {Q:Exit→Act→World→Prop} {a:Act} {w:World} {l:List Oper} (S S2:World→Prop) (wk:List Nat) (order:Mx3) (hm:P.follows .mixedOrders=true)
  (hB:mixOk4 .any l.toArray wk order=true) (h:qax P l.toArray Q S S2 wk order a w.drew):(Code.region id l.toArray true).wp P Q a w:=by
 simp only[mixOk4,Bool.and_eq_true,decide_eq_true_eq]at hB;obtain⟨⟨hsel,hlen⟩,hB⟩:=hB;refine wp_region_any hm ?_;have:=qid _ _ _ _ (qa9 (md:=.any) hsel order _ a w.drew hB h);rw[hlen]at this;exact this
theorem qar {a:Act} {w:World} (h:Q .normal a w):qax P ops Q S S2 wk .nil a w:=h
theorem qci {i:Nat} {r:Mx3} {a:Act} {w:World} {o:Oper} {v:Value} (ho:ops[i]?=some o) (hg:o.guard=none) (hw:wk.contains i=false) (hQ:∀c a' w',Q (.panic c) (a'.put o.dst v) w'→Q (.panic c) a' w')
  (hS:S w) (hS2:S2 w) (hv:∀w,S w→S2 w→(execOp a.eval o).run P w=.ok (.value v) w) (h:qax P ops Q S S2 wk r (a.put o.dst v) w):qax P ops Q S S2 wk (.held i r) a w:=
 ⟨⟨fun _=>hS,hS2⟩,o,v,ho,Or.inl ⟨by simp[Region.wanted,hg],fun w h=>hv w (h.1 hw) h.2⟩,hQ,h⟩
theorem mix4_weak {i:Nat} {r:Mx3} {a:Act} {w:World} {o:Oper} {v:Value} (ho:ops[i]?=some o) (hg:o.guard=none) (hw:wk.contains i=true) (hQ:∀c a' w',Q (.panic c) (a'.put o.dst v) w'→Q (.panic c) a' w')
  (hS2:S2 w) (hv:∀w,S2 w→(execOp a.eval o).run P w=.ok (.value v) w) (h:qax P ops Q S S2 wk r (a.put o.dst v) w):qax P ops Q S S2 wk (.held i r) a w:=
 ⟨⟨fun e=>absurd (hw.symm.trans e) (by decide),hS2⟩,o,v,ho,Or.inl ⟨by simp[Region.wanted,hg],fun w h=>hv w h.2⟩,hQ,h⟩
theorem qae {i:Nat} {r:Mx3} {a:Act} {w:World} {o:Oper} (ho:ops[i]?=some o) (hg:o.guard=none)
  (h:∀K:Act→World→Prop,(∀a' w',askR S S2 wk i w'∧qax P ops Q S S2 wk r a' w'→K a' w')→o.wp P a w K Q):qax P ops Q S S2 wk (.op i r) a w:=by
 show wpOp P ops Q i _ a w;unfold wpOp;simp only[ho,Region.wanted,hg,if_true];exact .inl (h _ fun a' w' h=>h)
theorem stkz {i:Nat} {r:Mx3} {a:Act} {w:World} {o:Oper} (v:Value) (ho:ops[i]?=some o) (hg:o.guard=none) (hw:wk.contains i=false) (hQ:∀c a' w',Q (.panic c) (a'.put o.dst v) w'→Q (.panic c) a' w')
  (hS:S w) (hv:∀w,S w→(execOp a.eval o).run P w=.ok (.value v) w) (h:qax P ops Q S (fun _=>True) wk r (a.put o.dst v) w):qax P ops Q S (fun _=>True) wk (.held i r) a w:=
 qci ho hg hw hQ hS trivial (fun w h _=>hv w h) h
theorem qbw {i j:Nat} {r r':Mx3} {a:Act} {w:World} (h:qax P ops Q S S2 wk (.op i r) a w) (h':qax P ops Q S S2 wk (.op j r') a w):qax P ops Q S S2 wk (.two i j r r') a w:=⟨h,h'⟩
theorem mix4_three {i j k:Nat} {r r' r'':Mx3} {a:Act} {w:World} (h:qax P ops Q S S2 wk (.op i r) a w) (h':qax P ops Q S S2 wk (.op j r') a w) (h'':qax P ops Q S S2 wk (.op k r'') a w):qax P ops Q S S2 wk (.three i j k r r' r'') a w:=⟨h,h',h''⟩
theorem qaz {i:Nat} {r:Mx3} {a:Act} {w:World} {o:Oper} (ho:ops[i]?=some o) (hw:Region.wanted o (yielded ops a.tmps)=true)
  (h:∀K:Act→World→Prop,(∀a' w',askR S S2 wk i w'∧qax P ops Q S S2 wk r a' w'→K a' w')→o.wp P a w K Q):qax P ops Q S S2 wk (.op i r) a w:=by
 show wpOp P ops Q i _ a w;unfold wpOp;simp only[ho,hw,if_true];exact .inl (h _ fun a' w' h=>h)
end
theorem qac {P:Program} {ops:Array Oper} {Q:Exit→Act→World→Prop} {S S2:World→Prop} {wk:List Nat} {i:Nat} {r:Mx3} {a:Act} {w:World} {o:Oper} {v:Value} (ho:ops[i]?=some o) (hg:Region.wanted o (yielded ops a.tmps)=true) (hw:wk.contains i=false) (hQ:∀c a' w',Q (.panic c) (a'.put o.dst v) w'→Q (.panic c) a' w')
  (hS:S w) (hS2:S2 w) (hv:∀w,S w→S2 w→(execOp a.eval o).run P w=.ok (.value v) w) (h:qax P ops Q S S2 wk r (a.put o.dst v) w):qax P ops Q S S2 wk (.held i r) a w:=
 ⟨⟨fun _=>hS,hS2⟩,o,v,ho,Or.inl ⟨hg,fun w h=>hv w (h.1 hw) h.2⟩,hQ,h⟩
theorem qah {P:Program} {ops:Array Oper} {Q:Exit→Act→World→Prop} {S S2:World→Prop} {wk:List Nat} {i:Nat} {r:Mx3} {a:Act} {w:World} {o:Oper} (ho:ops[i]?=some o) (hg:Region.wanted o (yielded ops a.tmps)=false) (_hw:wk.contains i=false) (hQ:∀c a' w',Q (.panic c) (a'.put o.dst undef) w'→Q (.panic c) a' w')
  (hS:S w) (hS2:S2 w) (h:qax P ops Q S S2 wk r (a.put o.dst undef) w):qax P ops Q S S2 wk (.held i r) a w:=
 ⟨⟨fun _=>hS,hS2⟩,o,undef,ho,Or.inr ⟨hg,rfl⟩,hQ,h⟩
end Go.Proofs.YtjhjoiplpmjepaaGreat
namespace Go.Proofs.YtjhjoiplpmjepaaGreat
open Go.RowKit
open Go.RowKit
open Go.RowKit
abbrev Ip:=List Int×Option Addr×Nat
def ints (p:List Int):List Value:=p.map (Value.int .i64)
def qfc (x:Ip):Value:=.slice x.2.1 x.1.length x.2.2
def IRep (w:World) (P:Nat→Prop) (p:List Int) (A:Option Addr) (cap:Nat):Prop:=
 ∃b off,A=some ⟨b,off,none⟩∧P b∧p.length≤cap∧cap≤maxLen∧∀j u,(ints p)[j]?=some u→w.cell? ⟨b,off+j,none⟩=some u
theorem IRep.mono {w w':World} {P P':Nat→Prop} (hP:∀b,P b→P' b) (hc:∀p:Addr,P p.block→w'.cell? p=w.cell? p) {p:List Int} {A:Option Addr} {cap:Nat} (h:IRep w P p A cap):IRep w' P' p A cap:=by
 obtain⟨b,off,h1,h2,h3,h4,h5⟩:=h;exact⟨b,off,h1,hP b h2,h3,h4,fun j u hj=>by rw[hc _ h2];exact h5 j u hj⟩
theorem qlv (p:List Int):(ints p).length=p.length:=by simp[ints]
theorem ints_one (p:List Int):∀u∈ints p,u.oneCell'=true:=by
 intro u hu;obtain⟨i,_,rfl⟩:=List.mem_map.1 hu;rfl
theorem ip_one (its:List Ip):∀u∈its.map qfc,u.oneCell'=true:=by
 intro u hu;obtain⟨i,_,rfl⟩:=List.mem_map.1 hu;rfl
theorem qlu {w:World} {base n:Nat} {v:Value} {p:List Int} (h:w.ownsRow base 3 1 v n (ints p)) (hn:n=p.length) (hv:v≠.slice none 0 0) :
  ∃g cap,v=.slice (some ⟨g,0,none⟩) n cap∧base≤g∧g<w.heap.size∧∀P:Nat→Prop,P g→IRep w P p (some ⟨g,0,none⟩) cap:=by
 subst hn;rcases h.2 with⟨h1,_⟩|⟨g,cap,cur,rfl,hb,hg,hnc,hcm,_⟩
 ·exact absurd h1 hv
 ·refine⟨g,cap,rfl,hb,(sltz hg),fun P hP=>⟨g,0,rfl,hP,hnc,hcm,fun j u hj=>?_⟩⟩;have:=h.cells (g:=g) rfl j u hj;unfold Addr.add at this
  split at this<;>simp_all
structure PRow (w:World) (base:Nat) (F:Nat→Prop) (v:Value) (its:List Ip):Prop where
 own:w.ownsRow base 36 1 v its.length (its.map qfc)
 reps:∀x∈its,IRep w (fun b=>F b∧b<w.heap.size∧v.ownBlock≠some b) x.1 x.2.1 x.2.2
theorem PRow.nil (w:World) (base:Nat) (F:Nat→Prop):PRow w base F (.slice none 0 0) []:=⟨World.ownsRow_nil _ _ _ _,by simp⟩
theorem PRow.keep {w w':World} {base:Nat} {F:Nat→Prop} {v:Value} {its:List Ip} (h:PRow w base F v its) (hs:w.heap.size≤w'.heap.size)
  (hc:∀b,b<w.heap.size→(F b∨v.ownBlock=some b)→w'.heap[b]?=w.heap[b]?):PRow w' base F v its:=by
 refine⟨⟨h.own.1,?_⟩,fun x hx=>?_⟩
 ·rcases h.own.2 with hn|⟨g,cap,cur,rfl,hb,hg,r⟩
  ·exact .inl hn
  ·have hlt:g<w.heap.size:=(sltz hg);exact .inr ⟨g,cap,cur,rfl,hb,by rw[hc g hlt (Or.inr rfl)];exact hg,r⟩
 ·refine IRep.mono ?_ ?_ (h.reps x hx)
  ·rintro b ⟨h1,h2,h3⟩;exact⟨h1,by omega,h3⟩
  ·rintro p ⟨h1,h2,h3⟩;exact World.cell?_of_block (hc p.block h2 (Or.inl h1))
theorem PRow.below {w w':World} {base:Nat} {F:Nat→Prop} {v:Value} {its:List Ip} (h:PRow w base F v its) (hb:Below w.heap.size w w'):PRow w' base F v its:=
 h.keep hb.size fun b hb' _=>hb.block b hb'
theorem PRow.lt {w:World} {base:Nat} {F:Nat→Prop} {v:Value} {its:List Ip} (h:PRow w base F v its):∀k,v.ownBlock=some k→base≤k∧k<w.heap.size:=h.own.lt
theorem PRow.loosen {w:World} {base base':Nat} {F F':Nat→Prop} {v:Value} {its:List Ip} (h:PRow w base F v its) (hb:base'≤base) (hF:∀b,F b→F' b):PRow w base' F' v its:=by
 refine⟨⟨h.own.1,?_⟩,fun x hx=>IRep.mono (fun b ⟨h1,h2⟩=>⟨hF b h1,h2⟩) (fun _ _=>rfl) (h.reps x hx)⟩;rcases h.own.2 with h|⟨g,cap,cur,h1,h2,h3⟩
 ·exact .inl h
 ·exact .inr ⟨g,cap,cur,h1,by omega,h3⟩
theorem PRow.form {w:World} {base:Nat} {F:Nat→Prop} {v:Value} {its:List Ip} (h:PRow w base F v its):∃A cap,v=.slice A its.length cap∧(A=none→cap=0):=by
 rcases h.own.2 with⟨rfl,h0⟩|⟨g,cap,cur,rfl,_⟩
 ·exact⟨none,0,by rw[h0],fun _=>rfl⟩
 ·exact⟨_,cap,rfl,fun e=>by cases e⟩
theorem PRow.slot {w:World} {base:Nat} {F:Nat→Prop} {A:Option Addr} {cap n:Nat} {its:List Ip} (h:PRow w base F (.slice A n cap) its) (i:Nat) (hi:i<its.length) :
  ∃g,A=some ⟨g,0,none⟩∧w.cell? ⟨g,i,none⟩=some (.slice its[i].2.1 its[i].1.length its[i].2.2):=by
 rcases h.own.2 with⟨hv,h0⟩|⟨g,cap',cur,hv,hb,hg,r⟩
 ·omega
 ·injection hv with h1;subst h1;have:=h.own.cells (g:=g) rfl i (qfc its[i]) (by simp[hi]);refine⟨g,rfl,?_⟩;unfold Addr.add at this
  split at this<;>simp_all[qfc]
theorem posInfo:(Tryz.prog.info? 36).map (fun i=>(i.zero,i.size,i.bytes))=some (some (.slice none 0 0),1,24):=by kernel_rfl
theorem intInfo:(Tryz.prog.info? 3).map (fun i=>(i.zero,i.size,i.bytes))=some (some (.int .i64 0),1,8):=by kernel_rfl
theorem prow_push {w:World} {base:Nat} {F:Nat→Prop} {v:Value} {its:List Ip} {X:Ip} {g cap:Nat} {w':World} (hrow:PRow w base F v its)
  (hX:IRep w (fun b=>F b∧b<w.heap.size∧v.ownBlock≠some b) X.1 X.2.1 X.2.2)
  (ho:w'.ownsRow base 36 1 (.slice (some ⟨g,0,none⟩) (its.length+1) cap) (its.length+1) (its.map qfc++[qfc X])) (hg:w.grownBy w' v.ownBlock)
  (hat:v.ownBlock=some g∨g=w.heap.size):PRow w' base F (.slice (some ⟨g,0,none⟩) (its.length+1) cap) (its++[X]):=by
 refine⟨by simpa using ho,fun x hx=>?_⟩;have key:IRep w (fun b=>F b∧b<w.heap.size∧v.ownBlock≠some b) x.1 x.2.1 x.2.2:=by
  rcases List.mem_append.1 hx with hx|hx
  ·exact hrow.reps x hx
  ·rw[List.mem_singleton.1 hx];exact hX
 refine IRep.mono ?_ ?_ key
 ·rintro b ⟨h1,h2,h3⟩;refine⟨h1,Nat.lt_of_lt_of_le h2 hg.size,fun e=>?_⟩;injection e with e;rcases hat with e'|e'
  ·exact h3 (by rw[e'];exact congrArg _ e)
  ·simp at e;omega
 ·rintro p ⟨h1,h2,h3⟩;exact World.cell?_of_block (hg.block p.block h2 (fun e=>h3 e.symm))
mutual
def Tm.poss:Tm→List (List Int)
 | .mk _ _ _ l=>[]::Tm.posss l 0
def Tm.posss:List Tm→Nat→List (List Int)
 | [],_=>[]
 | t::r,i=>t.poss.map ((i:Int) :: ·)++Tm.posss r (i+1)
end
mutual
theorem Tm.poss_length:∀t:Tm,t.poss.length=t.size
 | .mk _ _ _ l=>by rw[Tm.poss,Tm.size,List.length_cons,Tm.posss_length l 0];omega
theorem Tm.posss_length:∀(l:List Tm) (i:Nat),(Tm.posss l i).length=Tm.sizes l
 | [],_=>by simp[Tm.posss,Tm.sizes]
 | t::r,i=>by rw[Tm.posss,Tm.sizes,List.length_append,List.length_map,Tm.poss_length t,Tm.posss_length r (i+1)]
end
theorem Tm.posss_take_succ:∀(l:List Tm) (j i:Nat) (h:i<l.length),Tm.posss (l.take (i+1)) j=Tm.posss (l.take i) j++l[i].poss.map (((j+i:Nat):Int) :: ·)
 | [],_,_,h=>by simp at h
 | t::r,j,0,_=>by simp[Tm.posss]
 | t::r,j,i+1,h=>by
  have:=Tm.posss_take_succ r (j+1) i (by simpa using h);simp only[List.take_succ_cons,Tm.posss,List.getElem_cons_succ,this,List.append_assoc];rw[show j+1+i=j+(i+1)by omega]
structure PAcc (B0 ob:Nat) (w0 w:World) (its:List Ip):Prop where
 box:∃v,w.heap[ob]?=some (.cells #[v] 34 (0,0))∧PRow w (ob+2) (fun b=>ob+2≤b) v its
 vis:w.heap[ob+1]?=some (.cells #[.func (.func 99) #[] #[.pointer (some ⟨ob,0,none⟩),.pointer (some ⟨ob+1,0,none⟩)]] 123 (0,0))
 le:B0≤ob
 lt:ob+1<w.heap.size
 below:Below B0 w0 w
theorem PAcc.keep {B0 ob:Nat} {w0 w w':World} {its:List Ip} (h:PAcc B0 ob w0 w its) (hb:Below w.heap.size w w'):PAcc B0 ob w0 w' its:=by
 obtain⟨⟨v,h1,h2⟩,h3,h4,h5,h6⟩:=h;have:=hb.size;exact⟨⟨v,(hb.block ob (by omega)).trans h1,h2.below hb⟩,(hb.block (ob+1) h5).trans h3,h4,by omega,h6.trans (hb.mono (by omega))⟩
def At (w:World) (ob:Nat) (p:List Int) (A:Option Addr) (cap:Nat):Prop:=IRep w (fun b=>ob+2≤b∧b<w.heap.size∧ownAt w ob≠some b) p A cap
theorem At.step {w w':World} {ob:Nat} {p:List Int} {A:Option Addr} {cap:Nat} (h:At w ob p A cap) (hs:Step ob w w'):At w' ob p A cap:=by
 refine IRep.mono (fun b ⟨h1,h2,h3⟩=>⟨h1,Nat.lt_of_lt_of_le h2 hs.size,fun e=>?_⟩) (fun q ⟨h1,h2,h3⟩=>World.cell?_of_block (hs.same q.block h2 (by omega) h3)) h;rcases hs.own with e'|e'
 ·rw[e']at e;exact h3 e
 ·have:=e' b e;omega
def PosOf (w:World) (l:List (List Int)) (e:Ending) (w':World):Prop:=
 ∃v its,e=.returned v∧PRow w' w.heap.size (fun b=>w.heap.size≤b) v its∧Below w.heap.size w w'∧its.map (·.1)=l
theorem ints_more {w:World} {base n:Nat} {v:Value} {p:List Int} (hrow:w.ownsRow base 3 1 v n (ints p)) (hbase:base≤w.heap.size) (b off c m:Nat) (q:List Int) (hm:m=q.length)
  (hc:∀j u,(ints q)[j]?=some u→w.cell? ⟨b,off+j,none⟩=some u) (hlen:n+m≤100000000) :
  ∃v' w',(∀ty,(Builtin.append_ #[36,36] ty #[v,.slice (some ⟨b,off,none⟩) m c]).run Tryz.prog w=.ok v' w')∧w'.ownsRow base 3 1 v' (n+m) (ints (p++q))∧w.grownBy w' v.ownBlock:=by
 subst hm;obtain⟨i0,hi0,hz0,hz1,hz2⟩:=info_parts intInfo;have hadd:∀j,(⟨b,off,none⟩:Addr).add j=⟨b,off+j,none⟩:=fun j=>by unfold Addr.add;split<;>simp_all
 obtain⟨v',w',hr,ho,hg,-⟩:=run_append_own (P:=Tryz.prog) w base 36 0 3 i0 _ 1 8 Tryz.underlying36 hi0 hz0 hz1 hz2 rfl (by omega) v n (ints p) hrow ⟨b,off,none⟩ q.length c (ints q)
  (by simp[qlv]) (fun j u hj=>by rw[hadd];exact hc j u hj) (ints_one q) (by unfold maxLen;omega) (by omega) hbase
 exact⟨v',w',fun ty=>hr,by rw[ints,List.map_append];exact ho,hg⟩
theorem PRow.more1 {w:World} {base:Nat} {F:Nat→Prop} {v:Value} {its:List Ip} (hrow:PRow w base F v its) (hbase:base≤w.heap.size) (X:Ip)
  (hX:IRep w (fun b=>F b∧b<w.heap.size∧v.ownBlock≠some b) X.1 X.2.1 X.2.2) (hlen:its.length+1≤100000000) :
  ∃g c' w',(∀ty,(Builtin.append_ #[34,34] ty #[v,.slice (some ⟨w.heap.size,0,none⟩) 1 1]).run Tryz.prog (w.alloc (.cells #[qfc X] 36))=.ok (.slice (some ⟨g,0,none⟩) (its.length+1) c') w')∧
   PRow w' base F (.slice (some ⟨g,0,none⟩) (its.length+1) c') (its++[X])∧(w.alloc (.cells #[qfc X] 36)).grownBy w' v.ownBlock∧(v.ownBlock=some g∨g=w.heap.size+1):=by
 obtain⟨i0,hi0,hz0,hz1,hz2⟩:=info_parts posInfo;have hb:Below w.heap.size w (w.alloc (.cells #[qfc X] 36)):=qad (Nat.le_refl _) _;have hrow':=hrow.below hb;have hn:=heap_alloc_new w (.cells #[qfc X] 36);obtain⟨v',w',hr,ho,hg,-,hat⟩:=run_append_own_at (P:=Tryz.prog) (w:=w.alloc (.cells #[qfc X] 36)) base 34 0 36 i0 _ 1 24 Tryz.underlying34 hi0 hz0 hz1 hz2 rfl (by omega) v its.length (its.map qfc) hrow'.own
  ⟨w.heap.size,0,none⟩ 1 1 [qfc X] rfl (fun j u hj=>by
   match j,hj with
   | 0,hj=>
    simp only[List.getElem?_cons_zero,Option.some.injEq]at hj;subst hj;unfold World.cell? Addr.add;simp only[if_true,hn];rfl
   | j+1,hj=>simp at hj) (fun u hu=>ip_one [X] u (by simpa using hu)) (by unfold maxLen;omega) (by omega) (by simp;omega)
 rcases ho.2 with⟨-,h0⟩|⟨g,cap,cur,rfl,_⟩
 ·omega
 ·have hat':v.ownBlock=some g∨g=(w.alloc (.cells #[qfc X] 36)).heap.size:=by
   rcases hat with h|h
   ·exact .inl h.symm
   ·exact .inr (by injection h)
  refine⟨g,cap,w',fun ty=>hr,prow_push hrow' (IRep.mono (fun b ⟨h1,h2,h3⟩=>⟨h1,by simp;omega,h3⟩) (fun p ⟨_,h2,_⟩=>hb.cell h2) hX) ho hg hat',hg,?_⟩;simpa using hat'
mutual
theorem Tm.poss_len:∀(t:Tm) (p:List Int),p∈t.poss→p.length<t.size
 | .mk _ _ _ l,p,h=>by
  rw[Tm.poss,List.mem_cons]at h;rw[Tm.size];rcases h with rfl|h
  ·simp;omega
  ·have:=Tm.posss_len l 0 p h;omega
theorem Tm.posss_len:∀(l:List Tm) (i:Nat) (p:List Int),p∈Tm.posss l i→p.length<1+Tm.sizes l
 | [],_,p,h=>by simp[Tm.posss]at h
 | t::r,i,p,h=>by
  rw[Tm.posss,List.mem_append,List.mem_map]at h;rw[Tm.sizes];rcases h with⟨q,hq,rfl⟩|h
  ·have:=Tm.poss_len t q hq;simp;omega
  ·have:=Tm.posss_len r (i+1) p h;omega
end
theorem PosOf.keep_row {wr w1 w2:World} {v:Value} {its:List Ip} (h:PRow w1 wr.heap.size (fun b=>wr.heap.size≤b) v its) (hs:w1.heap.size≤w2.heap.size)
  (hc:∀b,wr.heap.size≤b→b<w1.heap.size→w2.heap[b]?=w1.heap[b]?):PRow w2 wr.heap.size (fun b=>wr.heap.size≤b) v its:=
 h.keep hs fun b hb hor=>hc b (by
  rcases hor with hor|hor
  ·exact hor
  ·exact(h.lt b hor).1) hb
theorem rposs_any (n:Nat):∀(t:Tm) (A:Option Addr) (cap:Nat) (w:World),t.size≤n→n≤1000000→RepT w w.heap.size t A cap→
  Calls Tryz.prog 10 #[t.val A cap] w (PosOf w t.poss):=by
 induction n with
 | zero=>intro t _ _ _ h;have:=t.size_pos;omega
 | succ n ih=>
  intro t A cap w hn hb hrep;obtain⟨tk,tn,ts,l⟩:=t;obtain⟨W0,hW0⟩:∃W0,W0=w.alloc (.cells #[.int .i64 tk,.string tn,.int .i64 ts,.slice A l.length cap] 24):=⟨_,rfl⟩;have hs0:W0.heap.size=w.heap.size+1:=by rw[hW0];simp
  have hb0:Below w.heap.size w W0:=by rw[hW0];exact qad (Nat.le_refl _) _
  obtain⟨W1,hW1⟩:∃W1,W1=W0.alloc (.cells #[] 3):=⟨_,rfl⟩;obtain⟨W2,hW2⟩:∃W2,W2=W1.alloc (.cells #[.slice (some ⟨w.heap.size+1,0,none⟩) 0 0] 36):=⟨_,rfl⟩;have hs1:W1.heap.size=w.heap.size+1+1:=by rw[hW1];simp[hs0]
  have hb1:Below W0.heap.size W0 W1:=by rw[hW1];exact qad (Nat.le_refl _) _
  have hb2:Below W1.heap.size W1 W2:=by rw[hW2];exact qad (Nat.le_refl _) _
  have hb12:Below (w.heap.size+1) W0 W2:=by
   have:=qa7 hb1 hb2 hb1.size
   rwa[hs0]at this
  have hbx:W0.cell? ⟨w.heap.size,3,none⟩=some (.slice A l.length cap):=by rw[hW0];simp
  have hlit:PRow W2 (w.heap.size+1) (fun b=>w.heap.size+1≤b) (.slice (some ⟨w.heap.size+1+1,0,none⟩) 1 1) [([],some ⟨w.heap.size+1,0,none⟩,0)]:=by
   refine⟨?_,fun x hx=>?_⟩
   ·have:=World.ownsRow_lit (base:=w.heap.size+1) (e:=36) (size:=1) W1 #[.slice (some ⟨w.heap.size+1,0,none⟩) 0 0] 1 (by omega) (by simp[maxLen]) rfl;rw[hs1]at this;rw[hW2];exact this
   ·rw[List.mem_singleton.1 hx];refine⟨w.heap.size+1,0,rfl,⟨Nat.le_refl _,by rw[hW2];simp[hs1],fun e=>by injection e with e;simp at e⟩,Nat.le_refl _,Nat.zero_le _,fun j u hj=>by simp[ints]at hj⟩
  rw[qbh]at hrep;obtain⟨hr1,hr2,hr3,hr4⟩:=hrep;rw[Tm.size]at hn;have hls:=Tm.length_le_sizes l;have hlb:l.length≤1000000:=by omega
  rw[hW1]at hW2;have HW2:=hdzz hW2;have HLIT:=hdzz hlit;clear hlit;have HB12:=hdzz hb12;clear hb12 hb1 hb2 hs1 hW1;have HB0:=hdzz hb0;clear hb0;have HBX:=hdzz hbx;clear hbx;have HS0:=hdzz hs0;clear hs0;have HW0:=hdzz hW0;rw[hW2,hW0]at HLIT HB12;clear hW0 hW2;simp only[Tm.val,Tm.kind,Tm.name,Tm.sort,Tm.kids];go_enter Tryz.func10,Tryz.ntmps10
  go_wp2_with fail
  go_loopw [3,4] (fun v i wr=>∃(k m c:Nat) (A':Option Addr) (its:List Ip),k≤l.length∧i=.int .i64 k∧v=.slice A' m c∧Hid (m=its.length)∧Hid (PRow wr (w.heap.size+1) (fun b=>w.heap.size+1≤b) (.slice A' m c) its)∧
    Hid (its.map (·.1)=[]::Tm.posss (l.take k) 0)∧Hid (Below (w.heap.size+1) W0 wr))
   (fun _ i _=>l.length - (intOf i).toNat)
  case atStart=>exact⟨0,1,1,_,[([],some ⟨w.heap.size+1,0,none⟩,0)],Nat.zero_le _,rfl,rfl,hdzz rfl,HLIT.out,by simp[Tm.posss,Hid],by rw[HW0.out];exact HB12.out⟩
  case round=>
   obtain⟨k,m,c,A',its,hk,rfl,rfl,HL,HR,HM,HBW⟩:=hrel;obtain⟨wo,rfl⟩:∃x,x=wr:=⟨wr,rfl⟩;clear HLIT HB12 HW2;have hbox:wo.cell? ⟨w.heap.size,3,none⟩=some (.slice A l.length cap):=by rw[HBW.out.cell (by simp)];exact HBX.out
   have hbww:Below w.heap.size w wo:=HB0.out.trans (HBW.out.mono (by omega));have i1:(0:Int)≤(k:Int):=Int.natCast_nonneg _;by_cases hlt:k<l.length
   ·rcases hr4 with rfl|⟨b,off,rfl,hbB,hl⟩
    ·simp at hlt
    have hlw:RepL wo w.heap.size l b off:=RepL.below hl hbww hbB;obtain⟨Ak,ck,h0,h1,h2,h3,h5⟩:=RepLP.get hlw k hlt;have hsg:=Tm.sizes_get l k hlt;have hsw:=hbww.size;have hC:=ih l[k] Ak ck wo (by omega) (by omega) (RepP.mono (fun b h=>by omega) (fun _ _=>rfl) _ _ _ h5);have HC:=hdzz hC;clear hC h5 hlw;have HBWW:=hdzz hbww;clear hbww;have i2:(k:Int)<(l.length:Int):=by omega
    have hks:l[k].size≤1000000:=by omega
    have HSG:=hdzz hsg;clear hsg;have HN:=hdzz hn;clear hn;have HKS:=hdzz hks;clear hks;simp only[Tm.val]at HC;go_wp2_with fail
    refine HC.out.mono ?_;rintro e w1 ⟨v5,its5,rfl,hrow5,hbel5,hmap5⟩;obtain⟨A5,c5,rfl,-⟩:=hrow5.form;have hl5:its5.length=l[k].size:=by rw[←Tm.poss_length,←hmap5,List.length_map]
    have hown:∀g,(Value.slice A' m c).ownBlock=some g→g<wo.heap.size∨w1.heap.size≤g:=fun g hg=>.inl (HR.out.lt g hg).2;have hR1:=HR.out.below hbel5;have hB1:Below (w.heap.size+1) W0 w1:=HBW.out.trans (hbel5.mono (by have:=HS0.out;have:=HBW.out.size;omega));have hs15:=hbel5.size;have hml0:its.length=1+Tm.sizes (l.take k):=by
     have:=congrArg List.length HM.out;rw[List.length_map,List.length_cons,Tm.posss_length]at this;omega
    have htl:Tm.sizes (l.take k)+l[k].size≤Tm.sizes l:=by
     have h1:=Tm.sizes_take_succ l k hlt;have h2:=Tm.sizes_take_le l (k+1);omega
    have hl5':its5.length≤1000000:=by have:=HKS.out;omega
    have hlt3:its.length+its5.length≤1000000:=by have:=HN.out;omega
    have HLT3:=hdzz hlt3;clear hlt3 htl hml0;have HL5:=hdzz hl5;clear hl5;have HM5:=hdzz hmap5;clear hmap5;have HOWN:=hdzz hown;clear hown;have HR1:=hdzz hR1;clear hR1;have HB1:=hdzz hB1;clear hB1;have HROW5:=hdzz hrow5;clear hrow5 hbel5 HC;have HS15:=hdzz hs15;clear hs15;go_wp2_with fail
    go_loopw [3,6] (fun v j wq=>∃(q m' c':Nat) (A2:Option Addr) (its2:List Ip),q≤its5.length∧j=.int .i64 q∧v=.slice A2 m' c'∧Hid (m'=its2.length)∧Hid (PRow wq (w.heap.size+1) (fun b=>w.heap.size+1≤b) (.slice A2 m' c') its2)∧
      Hid (its2.map (·.1)=its.map (·.1)++(l[k].poss.take q).map ((k:Int) :: ·))∧Hid (Below (w.heap.size+1) W0 wq)∧
      Hid (w1.heap.size≤wq.heap.size∧(∀b,wo.heap.size≤b→b<w1.heap.size→wq.heap[b]?=w1.heap[b]?)∧∀g,(Value.slice A2 m' c').ownBlock=some g→g<wo.heap.size∨w1.heap.size≤g))
     (fun _ j _=>its5.length - (intOf j).toNat)
    case atStart=>exact⟨0,m,c,A',its,Nat.zero_le _,rfl,rfl,HL,HR1,hdzz (by simp),HB1,hdzz ⟨Nat.le_refl _,fun _ _ _=>rfl,HOWN.out⟩⟩
    case round=>
     obtain⟨q,m2,c2,A2,its2,hq,rfl,rfl,HL2,HR2,HM2,HB2,HK2⟩:=hrel;clear HR1 HB1 HOWN;have j1:(0:Int)≤(q:Int):=Int.natCast_nonneg _;by_cases hlt2:q<its5.length
     ·have j2:(q:Int)<(its5.length:Int):=by omega
      obtain⟨k21,k22,k23⟩:=HK2.out;have hrow5q:=PosOf.keep_row HROW5.out k21 k22;obtain⟨g5,rfl,hslot⟩:=hrow5q.slot q hlt2;have hrep5:=hrow5q.reps its5[q] (List.getElem_mem _);have hp5:its5[q].1∈l[k].poss:=by rw[←HM5.out];exact List.mem_map_of_mem (List.getElem_mem _)
      have hpq:(its5[q].1::[])=(l[k].poss.drop q).take 1:=by
       have e:l[k].poss[q]?=some its5[q].1:=by rw[←HM5.out];simp[hlt2]
       obtain⟨hlt9,e9⟩:=List.getElem?_eq_some_iff.1 e;rw[List.drop_eq_getElem_cons hlt9,e9];rfl
      obtain⟨X,hX⟩:∃X,X=its5[q]:=⟨_,rfl⟩;rw[←hX]at hslot hrep5 hp5 hpq;clear hX;obtain⟨p5,B5,k5⟩:=X;obtain⟨bq,oq,hAq,⟨hbq1,hbq2,-⟩,hq1,hq2,hq3⟩:=hrep5;simp only at hslot hAq hq1 hq2 hq3 hp5 hpq;subst hAq;have hpl:p5.length<l[k].size:=Tm.poss_len _ _ hp5;have hpl2:p5.length≤1000000:=by have:=HKS.out;omega
      have own3:(wr.alloc (.cells #[.int .i64 k] 3)).ownsRow wr.heap.size 3 1 (.slice (some ⟨wr.heap.size,0,none⟩) 1 1) 1 (ints [(k:Int)]):=World.ownsRow_lit (size:=1) wr #[.int .i64 k] 1 (Nat.le_refl _) (by simp[maxLen]) rfl;have hb3:Below wr.heap.size wr (wr.alloc (.cells #[.int .i64 k] 3)):=qad (Nat.le_refl _) _;obtain⟨v4,w4,hap1,own4,hg4⟩:=ints_more own3 (by simp) bq oq k5 p5.length p5 rfl (fun j u hj=>by rw[hb3.cell (by simpa using hbq2)];exact hq3 j u hj) (by omega);have hb4:Below wr.heap.size wr w4:=qaw hb3 (by simp) hg4 (fun g hg=>(own3.lt g hg).1);have hv4:v4≠.slice none 0 0:=by
       rintro rfl;rcases own4.2 with⟨-,h0⟩|⟨_,_,_,h,_⟩
       ·omega
       ·cases h
      obtain⟨g4,cap4,rfl,hg41,hg42,hI⟩:=qlu own4 (by simp;omega) hv4;have hrow4:=HR2.out.below hb4;have hml:its2.length+1≤100000000:=by
       have h1:=congrArg List.length HM2.out;have h2:=HLT3.out;simp only[List.length_map,List.length_append,List.length_take]at h1;omega
      have hs4:=hb4.size;have hwq:w.heap.size+1≤wr.heap.size:=by have:=HB2.out.size;have:=HS0.out;omega
      obtain⟨g6,c6,w5,hap2,hrow5',hg5,hat5⟩:=hrow4.more1 (by omega) (((k:Int)::p5),some ⟨g4,0,none⟩,cap4) (hI _ ⟨by omega,hg42,fun e=>by have:=(HR2.out.lt g4 e).2;omega⟩) hml;simp only[qfc,List.length_cons]at hap2;rw[Nat.add_comm p5.length 1]at hap2;have hb5:Below (w.heap.size+1) W0 w5:=by
       have h1:Below (w.heap.size+1) W0 (w4.alloc (.cells #[qfc ((k:Int)::p5,some ⟨g4,0,none⟩,cap4)] 36)):=(HB2.out.trans (hb4.mono hwq)).alloc (by omega) _;exact qaw h1 (by simp;omega) hg5 (fun g hg=>(HR2.out.lt g hg).1)
      have hk5:w1.heap.size≤w5.heap.size∧(∀b,wo.heap.size≤b→b<w1.heap.size→w5.heap[b]?=w1.heap[b]?)∧∀g,(Value.slice (some ⟨g6,0,none⟩) (its2.length+1) c6).ownBlock=some g→g<wo.heap.size∨w1.heap.size≤g:=by
       have h1:=hg5.size;rw[World.size_alloc]at h1;refine⟨by omega,fun b hb1 hb2=>?_,fun g hg=>?_⟩
       ·rw[hg5.block b (by rw[World.size_alloc];omega) (fun e=>by rcases k23 b e.symm with h|h<;>omega),(qad (Nat.le_refl _) _:Below w4.heap.size w4 _).block b (by omega),hb4.block b (by omega)];exact k22 b hb1 hb2
       ·have hg':g6=g:=by injection hg
        subst hg';rcases hat5 with h|h
        ·exact k23 _ h
        ·right;omega
      have hm5:(its2++[(((k:Int)::p5,some ⟨g4,0,none⟩,cap4):Ip)]).map (·.1)=its.map (·.1)++(l[k].poss.take (q+1)).map ((k:Int) :: ·):=by
       rw[List.map_append,HM2.out,List.take_add,List.map_append,←hpq,List.append_assoc];rfl
      have hg5l : g5 < wr.heap.size := (hrow5q.lt g5 rfl).2;have HK := hdzz hk5; clear hk5;have HBB := hdzz hb5; clear hb5;have HMM := hdzz hm5; clear hm5;have HRR := hdzz hrow5'; clear hrow5';clear hg5 hat5 hs4 hml hrow4 hI hg41 hg42 hv4 hb4 own4 hg4 hb3 own3 hpl hpl2 hpq hp5 hq1 hq2 hq3 hbq1 hbq2 hrow5q k21 k22 k23 HK2 HB2 HM2 HR2 HL2;go_wp2_with (at_builtin; first
       | (refine qab rfl _ _ rfl rfl rfl hap1 ?_)
       | (refine qab rfl _ _ rfl rfl rfl hap2 ?_))
      go_roundw
      case rel=>exact⟨q+1,its2.length+1,c6,_,_,by omega,by go_num,rfl,hdzz (by simp),HRR.out,HMM.out,HBB.out,HK.out⟩
      case measure=>simp[intOf];omega
     ·obtain rfl:q=its5.length:=by omega
      have hm:its2.map (·.1)=[]::Tm.posss (l.take (k+1)) 0:=by
       have h5:its5.length=l[k].poss.length:=by rw[HL5.out,Tm.poss_length]
       rw[HM2.out,HM.out,h5,List.take_length,Tm.posss_take_succ l 0 k hlt,List.cons_append,Nat.zero_add]
      have HMM:=hdzz hm;clear hm;go_wp2_with fail
      go_roundw
      case rel=>exact⟨k+1,m2,c2,A2,its2,by omega,by go_num,rfl,HL2,HR2.out,HMM.out,HB2.out⟩
      case measure=>simp[intOf];omega
   ·obtain rfl:k=l.length:=by omega
    have hm:its.map (·.1)=(Tm.mk tk tn ts l).poss:=by rw[HM.out,List.take_length,Tm.poss]
    have HMM:=hdzz hm;clear hm;have HBWW:=hdzz hbww;clear hbww;go_wp2_with fail
    go_ret
    exact⟨_,its,rfl,HR.out.loosen (by omega) (fun b h=>by omega),HBWW.out,HMM.out⟩
end Go.Proofs.YtjhjoiplpmjepaaGreat
