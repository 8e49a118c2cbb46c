/- The base texts Open, Laid, Shut, Wit in one. -/
import Derived.Test.YtjhjoiplpmjepaaGreatW0
import Derived.Test.YtjhjoiplpmjepaaGreatRows
import Derived.Test.YtjhjoiplpmjepaaGreatW1
import Derived.Test.YtjhjoiplpmjepaaGreatW4
import Derived.Deep.Slices
import Derived.Deep.Fields
import Derived.Lib.SmallJoins
import Derived.Lib.LaidTab
import Derived.WideKeyArgs
import Derived.ChangeSame
import Derived.RowKit
import Derived.ProofKit
import Derived.OpenShut
import Derived.Deep.DeepHandedRow
import Derived.Deep.DeepWitnessRowRef
import Derived.Lib.LaidIn
set_option maxRecDepth 100000
set_option linter.unusedVariables false
set_option linter.unusedSimpArgs false
namespace Go.Proofs.YtjhjoiplpmjepaaGreat
open Go.ChangeShapes Go.WideShapes Go.Deep Go.Joins Go.RowKit
theorem cellsT:Tryz.prog.cellsOf 24=4:=by kernel_rfl
theorem cellsI:Tryz.prog.cellsOf 3=1:=by kernel_rfl
theorem cellsStr:Tryz.prog.cellsOf 9=1:=by kernel_rfl
theorem cellsS:Tryz.prog.cellsOf 22=1:=by kernel_rfl
theorem fieldsT:∃f0 f1 f2 f3:Field,Tryz.prog.underlying 24=some (.struct #[f0,f1,f2,f3])∧(f0.type = 3∧f0.offset=0)∧(f1.type = 9∧f1.offset=1)∧
  (f2.type = 3∧f2.offset=2)∧(f3.type = 22∧f3.offset=3):=⟨_,_,_,_,Tryz.underlying24,⟨rfl,rfl⟩,⟨rfl,rfl⟩,⟨rfl,rfl⟩,⟨rfl,rfl⟩⟩
theorem RepLP.of_get {w:World} {P:Nat→Prop}:∀{l:List Tm} {b off:Nat},(∀i (h:i<l.length),∃A cap,
  w.cell? ⟨b,off+i*4,none⟩=some (.int .i64 l[i].kind)∧w.cell? ⟨b,off+i*4+1,none⟩=some (.string l[i].name)∧
   w.cell? ⟨b,off+i*4+2,none⟩=some (.int .i64 l[i].sort)∧w.cell? ⟨b,off+i*4+3,none⟩=some (.slice A l[i].kids.length cap)∧RepP w P l[i] A cap)→RepLP w P l b off
 | [],_,_,_=>by rw[RepLP];trivial
 | t::r,b,off,h=>by
  rw[RepLP];refine⟨?_,RepLP.of_get fun i hi=>?_⟩
  ·obtain⟨A,cap,g0,g1,g2,g3,g4⟩:=h 0 (Nat.zero_lt_succ _);exact⟨A,cap,by simpa using g0,by simpa using g1,by simpa using g2,by simpa using g3,g4⟩
  ·have:=h (i+1) (by simp;omega);have e:off+(i+1)*4=off+4+i*4:=by omega
   simpa[e]using this
section
variable {H:Type} {enc:TypeId×Value→H} {w:World} {base:Nat} {spare:Nat→Bool} {held:Bool}
theorem World.block_lt {w:World} {a:Addr} {v:Value} (h:w.cell? a=some v):a.block<w.heap.size:=by
 unfold World.cell? at h
 split at h
 ·rename_i c t f hb
  exact(sltz hb)
 ·cases h
theorem ql3 {n : Nat} (one : ∀ (cs : List Value) (x : DataW H × List MemPlace), DataW.trod enc Tryz.prog w base spare held n 24 cs = some x →
   ∃(t:Tm) (A:Option Addr) (cap:Nat),cs=t.cells A cap∧RepT w w.heap.size t A cap)
  {a:Addr} {len cap:Nat} {elems:List (DataW H×List MemPlace)} (hl:len≤cap) (hm:cap≤maxLen) (hlen:elems.length=len)
  (hel:∀i,i<len→(w.cells? base (a.add (i * Tryz.prog.cellsOf 24)) (Tryz.prog.cellsOf 24)).bind (DataW.trod enc Tryz.prog w base spare held n 24)=elems[i]?) :
  ∃l:List Tm,l.length=len∧RepS w (fun b=>b<w.heap.size) l (some a) cap:=by
 have step:∀i,i<len→∃t:Tm,∃A c,(∀j,j<4→w.cell? ((a.add (i*4)).add j)=(t.cells A c)[j]?)∧RepT w w.heap.size t A c:=fun i hi=>by
  have h:=hel i hi;rw[List.getElem?_eq_getElem (by omega),cellsT]at h;obtain⟨cs,hc,ht⟩:=Option.bind_eq_some_iff.1 h;obtain⟨t,A,c,rfl,hr⟩:=one _ _ ht;exact⟨t,A,c,(World.cells?_some hc).2.2,hr⟩
 obtain⟨f,hf⟩:=choose_lt step;refine⟨(List.range len).map f,by simp,by simpa using hl,hm,?_⟩;by_cases h0:len=0
 ·left;subst h0;rfl
 right;obtain⟨A0,c0,h00,_⟩:=hf 0 (by omega);have h000:=h00 0 (by omega);simp only[Tm.cells,Nat.zero_mul,Addr.add,if_true,List.getElem?_cons_zero]at h000;have hs:=World.cell?_spot h000;have hb:=World.block_lt h000;obtain⟨b,off,sp⟩:=a;subst hs;refine⟨b,off,rfl,hb,RepLP.of_get fun i hi=>?_⟩;obtain⟨A,c,hc,hr⟩:=hf i (by simpa using hi);have e:∀j,((⟨b,off,none⟩:Addr).add (i*4)).add j=⟨b,off+i*4+j,none⟩:=fun j=>by
  rw[add_add];unfold Addr.add;split
  ·rename_i h;rw[show off+i*4+j=off by omega]
  ·rw[Nat.add_assoc]
 refine⟨A,c,?_,?_,?_,?_,?_⟩
 ·have:=hc 0 (by omega);rw[e]at this;simpa[Tm.cells]using this
 ·have:=hc 1 (by omega);rw[e]at this;simpa[Tm.cells]using this
 ·have:=hc 2 (by omega);rw[e]at this;simpa[Tm.cells]using this
 ·have:=hc 3 (by omega);rw[e]at this;simpa[Tm.cells]using this
 ·rw[show((List.range len).map f)[i]=f i by simp];exact hr
theorem open_tm:∀(n:Nat) (cs:List Value) (x:DataW H×List MemPlace),DataW.trod enc Tryz.prog w base spare held n 24 cs=some x→
  ∃(t:Tm) (A:Option Addr) (cap:Nat),cs=t.cells A cap∧RepT w w.heap.size t A cap:=by
 intro n
 induction n using Nat.strongRecOn with
 | ind n ih=>
 intro cs x h;obtain⟨f0,f1,f2,f3,hu,⟨t0,o0⟩,⟨t1,o1⟩,⟨t2,o2⟩,⟨t3,o3⟩⟩:=fieldsT;obtain⟨xs,m,rfl,-,hcl,hxl,hf⟩:=DataW.trod_struct hu h;rw[cellsT]at hcl;simp only[List.size_toArray,List.length_cons,List.length_nil]at hxl
 match cs,hcl,xs,hxl with
 | [c0,c1,c2,c3],_,[x0,x1,x2,x3],_=>
  have g0:=hf 0 f0 rfl;have g1:=hf 1 f1 rfl;have g2:=hf 2 f2 rfl;have g3:=hf 3 f3 rfl;rw[t0,o0,cellsI]at g0;rw[t1,o1,cellsStr]at g1;rw[t2,o2,cellsI]at g2;rw[t3,o3,cellsS]at g3;obtain⟨k,hk,-,-⟩:=DataW.trod_int Tryz.underlying3 g0;obtain⟨s,hs,-,hsz⟩:=DataW.trod_string Tryz.underlying9 g1;obtain⟨q,hq,-,-⟩:=DataW.trod_int Tryz.underlying3 g2;simp only[List.drop_zero,List.drop_succ_cons,List.take_succ_cons,List.take_zero,List.cons.injEq,and_true]at hk hs hq;subst hk hs hq;rcases DataW.trod_slice Tryz.underlying22 g3 with⟨hn,-⟩|⟨a,len,cap,elems,rest,j,hj,hn,-,-,hl,hm,hlen,hel,-,-⟩
  ·simp only[List.drop_succ_cons,List.drop_zero,List.take_succ_cons,List.take_zero,List.cons.injEq,and_true]at hn;subst hn;exact⟨.mk k s q [],none,0,rfl,by rw[qbe];exact⟨hsz,Nat.zero_le _,Nat.zero_le _,.inl rfl⟩⟩
  ·simp only[List.drop_succ_cons,List.drop_zero,List.take_succ_cons,List.take_zero,List.cons.injEq,and_true]at hn;subst hn;obtain⟨l,hll,h1,h2,h3⟩:=ql3 (fun cs x h=>ih j (by omega) cs x h) hl hm hlen hel;exact⟨.mk k s q l,some a,cap,by simp[Tm.cells,Tm.kind,Tm.name,Tm.sort,Tm.kids,hll],by rw[qbe];exact⟨hsz,h1,h2,h3⟩⟩
theorem open_term {v:Value} {d:DataW H} {p:List MemPlace} {r:Reach} {b0:Nat} (hv:Value.okWide Tryz.prog w r b0 24 v) (h:DataW.Trod enc Tryz.prog w base spare held 24 v d p) :
  ∃(t:Tm) (A:Option Addr) (cap:Nat),v=t.val A cap∧RepT w w.heap.size t A cap:=by
 obtain⟨f0,f1,f2,f3,hu,-⟩:=fieldsT;obtain⟨cs,rfl,-⟩:=okWide_struct hu hv;obtain⟨n,hn⟩:=h;obtain⟨t,A,cap,hc,hr⟩:=open_tm n _ _ hn;refine⟨t,A,cap,?_,hr⟩;obtain⟨l⟩:=cs;simp only[Value.cells]at hc;subst hc;rfl
theorem open_terms {v:Value} {d:DataW H} {p:List MemPlace} {r:Reach} {b0:Nat} (hv:Value.okWide Tryz.prog w r b0 22 v) (h:DataW.Trod enc Tryz.prog w base spare held 22 v d p) :
  ∃(l:List Tm) (A:Option Addr) (cap:Nat),v=.slice A l.length cap∧RepS w (fun b=>b<w.heap.size) l A cap:=by
 obtain⟨A,len,cap,rfl⟩:=okWide_slice Tryz.underlying22 hv;obtain⟨n,hn⟩:=h;rcases DataW.trod_slice Tryz.underlying22 hn with⟨hn,-⟩|⟨a,len',cap',elems,rest,j,hj,hn,-,-,hl,hm,hlen,hel,-,-⟩
 ·simp[Value.cells]at hn;obtain⟨rfl,rfl,rfl⟩:=hn;exact⟨[],none,0,rfl,Nat.zero_le _,Nat.zero_le _,.inl rfl⟩
 ·simp[Value.cells]at hn;obtain⟨rfl,rfl,rfl⟩:=hn;obtain⟨l,rfl,hr⟩:=ql3 (fun cs x h=>open_tm j cs x h) hl hm hlen hel;exact⟨l,some a,cap,rfl,hr⟩
end
end Go.Proofs.YtjhjoiplpmjepaaGreat
namespace Go.Proofs.YtjhjoiplpmjepaaGreat
open Go.ChangeShapes Go.WideShapes Go.RowKit
theorem own:ownKnob Tryz.prog.godebug=none:=by kernel_rfl
theorem qnu:laidOutB Tryz.prog=true:=by kernel_rfl
section
variable {H:Type} {enc:TypeId×Value→H}
theorem qf7 {W W':World} (hb:Below W.heap.size W W') {sp:Nat→Bool}:∀{ts:List TypeId} {vs:List Value} {ds:List (DataW H)} {ps:List MemPlace},
  (∀t∈ts,Tryz.prog.readableRec t=true∧t < Tryz.prog.types.size)→(∀p∈ps,p.block<W.heap.size∧sp p.block=true)→
  DataW.TrodAll enc Tryz.prog W 0 (fun _=>true) true ts vs ds ps→DataW.TrodAll enc Tryz.prog W' 0 sp true ts vs ds ps
 | [],vs,ds,ps,_,_,h=>by
  obtain⟨rfl,rfl,rfl⟩:=trodAll_nil h;rfl
 | t::ts,vs,ds,ps,ht,hp,h=>by
  obtain⟨v,vs,d,ds,p,q,rfl,rfl,rfl,h0,h1⟩:=trodAll_cons h;refine⟨p,q,?_,qf7 hb (fun t h=>ht t (List.mem_cons_of_mem _ h)) (fun x hx=>hp x (List.mem_append_right _ hx)) h1,rfl⟩;obtain⟨h2,h3⟩:=ht t (List.mem_cons_self ..);exact WideElems.Trod_stays qnu h2 h3 h0 (fun x hx=>hb.same (hp x (List.mem_append_left _ hx)).1) (fun x hx=>(hp x (List.mem_append_left _ hx)).2)
theorem law_post {fn:Func} {s:ChangeSpec} {W W':World} {args:Array Value} {ds gs:List (DataW H)} {before:List MemPlace}
  (hW:DataW.Whole enc Tryz.prog fn.params.toList s.vars false W args.toList ds gs before) (hvars:s.vars=[]) (hres:fn.resultTypes=#[4])
  (hfn:s.fn H ds = { results:=[.lit (.bool true)],args:=ds,vars:=[] })
  (hrec:∀t∈fn.params.toList,Tryz.prog.readableRec t=true∧t < Tryz.prog.types.size) (hb:Below W.heap.size W W') :
  s.post enc Tryz.prog fn false true false false W args (.bool true) W':=by
 have hW':=hW;obtain⟨p,q,hA,hV,hpq,hfz,-⟩:=hW;rw[hvars]at hV;obtain⟨rfl,rfl⟩:=trodVars_none hV;rw[List.append_nil]at hpq;subst hpq;have hlt:∀x∈before,x.block<W.heap.size:=fun x hx=>hW'.lt x hx;have hargs:∀sp:Nat→Bool,(∀x∈before,sp x.block=true)→DataW.TrodAll enc Tryz.prog W' 0 sp true fn.params.toList args.toList ds before:=
  fun sp hsp=>qf7 hb hrec (fun x hx=>⟨hlt x hx,hsp x hx⟩) hA
 have hr:∀(b:Nat) (sp:Nat→Bool) (hd:Bool),DataW.TrodAll enc Tryz.prog W' b sp hd fn.resultTypes.toList ((Value.bool true).resultList fn.resultTypes.size) [.lit (.bool true)] []:=fun b sp hd=>by
  rw[hres];exact trodAll_cons_mk (shut_bool Tryz.underlying4 _) trodAll_mk0
 have hv:∀sp:Nat→Bool,DataW.TrodVars enc Tryz.prog W' sp s.vars [] []:=fun sp=>by rw[hvars];rfl
 rw[show ds=ds++[]from(List.append_nil _).symm]at hfn;have hold:∀x∈before,(fun b=>decide (b<W.heap.size)) x.block=true:=fun x hx=>by simpa using hlt x hx
 have e1:(s.fn H (ds++[])).results=[.lit (.bool true)]:=by rw[hfn]
 have e2:(s.fn H (ds++[])).args=ds:=by rw[hfn];simp
 have e3:(s.fn H (ds++[])).vars=[]:=by rw[hfn]
 refine⟨ds,[],before,[],before,[],hW',by rw[e1];exact hr _ _ _,by rw[e2];exact hargs _ hold,by rw[e3];exact hv _,hb.frame _,fun _=>⟨?_,?_⟩⟩
 ·rw[hres];intro j t r h1 h2
  match j with
  | 0=>
   simp[Value.resultList]at h1 h2;subst h1 h2;exact okWide_bool_mk Tryz.underlying4 _
  | j+1=>simp at h1
 ·refine⟨_,_,([]++before)++[],⟨[]++before,[],trodAll_append (hargs _ (fun _ _=>rfl)) (hr _ _ _),hv _,rfl,?_,fun h=>by cases h⟩,?_⟩
  ·intro b off hp;have hp':MemPlace.cell b off∈before:=by simpa using hp
   rw[hb.frozen (hlt _ hp')];exact hfz b off (by simpa using hp')
  ·intro x hx _;simpa using hx
end
def qm3:Value:=.agg #[.int .i64 0,.string ⟨#[]⟩,.int .i64 0,.slice none 0 0]
def zeroRead (H:Type):DataW H:=.agg [.lit (.int .i64 0),.lit (.string []),.lit (.int .i64 0),.nil]
end Go.Proofs.YtjhjoiplpmjepaaGreat
