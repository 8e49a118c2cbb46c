/- Tlaw0, Tnfc, Vplain, Trules, Vhas, Vfits, Vvalid, Vfirst, Trat (joined by shake.py). -/
import Derived.Test.YtjhjoiplpmjepaaGreatW0
import Derived.Test.YtjhjoiplpmjepaaGreatW7
import Derived.Test.YtjhjoiplpmjepaaGreatW10
import Derived.Test.YtjhjoiplpmjepaaGreatW13
import Derived.Test.YtjhjoiplpmjepaaGreatW14
import Derived.Test.YtjhjoiplpmjepaaGreatW15
import Derived.Deep.QuietTactic
set_option maxRecDepth 100000
set_option linter.unusedVariables false
set_option linter.unusedSimpArgs false
set_option maxHeartbeats 16000000
namespace Go.Proofs.YtjhjoiplpmjepaaGreat
mutual
theorem qf2.of:∀{t:Tm},t.check=0→qf2 t
 | .mk k n s l,hc=>by
  rw[Tm.check]at hc;rw[qf2]
  split at hc
  ·split at hc
   ·exact absurd hc (by decide)
   ·rename_i h1
    have hl:l=[]:=Classical.byContradiction fun e=>h1 (.inr (.inr e));subst hl;exact⟨fun _=>rfl,by simp⟩
  ·split at hc
   ·rename_i hk
    split at hc
    ·exact absurd hc (by decide)
    ·split at hc
     ·exact absurd hc (by decide)
     ·split at hc
      ·exact absurd hc (by decide)
      ·exact⟨fun e=>absurd hk e,qf2.ofs hc⟩
   ·exact absurd hc (by decide)
theorem qf2.ofs:∀{l:List Tm},Tm.checks l=0→∀t∈l,qf2 t
 | [],_,t,h=>by simp at h
 | u::r,hc,t,h=>by
  rw[Tm.checks]at hc
  split at hc
  ·rename_i hn;exact absurd hc hn
  ·rename_i hn
   rcases List.mem_cons.1 h with h|h
   ·rw[h];exact qf2.of (Classical.not_not.1 hn)
   ·exact qf2.ofs hc t h
end
theorem qgj {t k:Tm} {i:Int} (h:t.kid i=some k):k∈t.kids:=by
 unfold Tm.kid at h
 split at h
 ·exact List.mem_of_getElem? h
 ·cases h
theorem ArT.atP:∀(p:List Int) (t x:Tm),ArT t→Tm.atP p t=some x→ArT x∧x.size≤t.size
 | [],t,x,ht,h=>by rw[Tm.atP,Option.some.injEq]at h;subst h;exact⟨ht,Nat.le_refl _⟩
 | i::r,t,x,ht,h=>by
  rw[Tm.atP]at h
  cases hk:t.kid i with
  | none=>simp[hk]at h
  | some k=>
   rw[hk]at h;have hm:=qgj hk;have h1:=ArT.atP r k x (ht.kids k hm) h;have h2:=qdm hm;exact⟨h1.1,by omega⟩
mutual
theorem Tm.poss_at:∀(t:Tm) (p:List Int),p∈t.poss→∃x,Tm.atP p t=some x
 | .mk k n s l,p,h=>by
  rw[Tm.poss,List.mem_cons]at h;rcases h with rfl|h
  ·exact⟨_,rfl⟩
  ·obtain⟨j,r,y,rfl,hj,x,hx⟩:=Tm.posss_at l 0 p h;refine⟨x,?_⟩;have hk:(Tm.mk k n s l).kid ((0+j:Nat):Int)=some y:=by
    unfold Tm.kid;rw[if_pos (Int.natCast_nonneg _),Int.toNat_natCast,Nat.zero_add];exact hj
   rw[Tm.atP,hk];exact hx
theorem Tm.posss_at:∀(l:List Tm) (i:Nat) (p:List Int),p∈Tm.posss l i→∃(j:Nat) (r:List Int) (y:Tm),p=((i+j:Nat):Int)::r∧l[j]?=some y∧∃x,Tm.atP r y=some x
 | [],_,p,h=>by simp[Tm.posss]at h
 | t::l,i,p,h=>by
  rw[Tm.posss,List.mem_append,List.mem_map]at h;rcases h with⟨q,hq,rfl⟩|h
  ·exact⟨0,q,t,rfl,rfl,Tm.poss_at t q hq⟩
  ·obtain⟨j,r,y,rfl,hj,hx⟩:=Tm.posss_at l (i+1) p h;exact⟨j+1,r,y,by rw[show i+1+j=i+(j+1)by omega],hj,hx⟩
end
theorem qlp:∀l:List Tm,Tm.sizes l.reverse=Tm.sizes l
 | []=>rfl
 | t::r=>by rw[List.reverse_cons,qew,qlp r,Tm.sizes,Tm.sizes,Tm.sizes];omega
theorem nOf_size (j:Nat):(nOf j).size=1:=by unfold nOf;split<;>rfl
theorem bend_size (k j:Nat) (u:Tm):(bendT k (nOf j) u).size≤3*u.size+20:=by
 have hn:=nOf_size j;have hu:=u.size_pos
 match k with
 | 0|1|2|3|4|5|6|7|8|9|10|11=>simp only[bendT,appT,Tm.size,Tm.sizes];omega
 | k+12=>
  show(qmz u).size≤_;unfold qmz
  split
  ·obtain⟨k0,n,s,l⟩:=u;simp only[appT,Tm.size,Tm.kids,Tm.name];rw[qlp];omega
  ·split
   ·have h1:(kidT (kidT u.kids 0).kids 0).size≤u.size:=Nat.le_trans qg4 qg4;have h2:(kidT (kidT u.kids 0).kids 1).size≤u.size:=Nat.le_trans qg4 qg4;have h3:(kidT u.kids 1).size≤u.size:=qg4;simp only[appT,Tm.size,Tm.sizes];omega
   ·omega
theorem qhr {t:Tm} (h:t.validT=0):t.valid=0∧t.th=0:=by
 unfold Tm.validT at h
 split at h
 ·rename_i hn;exact absurd h hn
 ·rename_i hn;exact⟨Classical.not_not.1 hn,h⟩
structure Bent (t u:Tm):Prop where
 v:u.validT=0
 n:u.nf=t.nf
 s:u.size≤150
theorem Bent.ar {t u:Tm} (h:Bent t u):ArT u:=by
 have h1:=qhr h.v;exact ArT.of_th (qai h1.1).1 h1.2
theorem Bent.step {t u x:Tm} {p:List Int} (h:Bent t u) (hx:Tm.atP p u=some x) (k j:Nat):∃y,Tm.repl p u (bendT k (nOf j) x)=some y∧y.nf=t.nf∧y.size≤1000:=by
 have hax:=ArT.atP p u x h.ar hx;have hf:=qf2.of (qai (qhr h.v).1).1;have hb:=nf_bent k (nOf j) x (by rw[nOf_kind];decide) (fun hE=>⟨(hax.1.num hE).2.1 (by decide),fun hE0=>((ArT.kidl hax.1.kids 0).num hE0).2.1 (by decide)⟩);refine⟨_,Tm.repl_some hx,?_,?_⟩
 ·rw[nf_put p u x _ hf hx hb,h.n]
 ·have h1:=Tm.put_size p u (bendT k (nOf j) x);have h2:=bend_size k j x;have h3:=h.s;omega
end Go.Proofs.YtjhjoiplpmjepaaGreat
namespace Go.Proofs.YtjhjoiplpmjepaaGreat
open Go.RowKit Go.Sort
theorem qd0:∀{l:List Tm},Tm.checks l=0↔∀t∈l,t.check=0
 | []=>by rw[Tm.checks];simp
 | t::r=>by
  rw[Tm.checks];by_cases h:t.check=0
  ·rw[if_neg (by simp[h]),qd0 (l:=r)];simp[h]
  ·rw[if_pos h];simp[h]
theorem qmv {n:ByteArray} {s:Int} {l:List Tm}:(Tm.mk 3 n s l).check=0↔s=0∧qbg n.data.toList=true∧l.length≤8∧∀t∈l,t.check=0:=by
 rw[Tm.check,if_neg (by decide),if_pos rfl,←qd0];by_cases h1:s=0
 ·by_cases h2:qbg n.data.toList=true
  ·by_cases h3:8<l.length
   ·rw[if_neg (by simp[h1]),if_neg (by simp[h2]),if_pos h3];exact⟨fun h=>absurd h (by decide),fun h=>by omega⟩
   ·rw[if_neg (by simp[h1]),if_neg (by simp[h2]),if_neg h3];exact⟨fun h=>⟨h1,h2,by omega,h⟩,fun h=>h.2.2.2⟩
  ·rw[if_neg (by simp[h1]),if_pos (by simpa using h2)];exact⟨fun h=>absurd h (by decide),fun h=>absurd h.2.1 h2⟩
 ·rw[if_pos h1];exact⟨fun h=>absurd h (by decide),fun h=>absurd h.1 h1⟩
theorem qn3 {t:Tm} (h:t.check=0) (hk:t.kind=3):∀k∈t.kids,k.check=0:=by
 obtain⟨k,n,s,l⟩:=t;have hk':k=3:=hk;subst hk';exact(qmv.1 h).2.2.2
end Go.Proofs.YtjhjoiplpmjepaaGreat
namespace Go.Proofs.YtjhjoiplpmjepaaGreat
def vX:Tm:=.mk 1 ⟨#[120]⟩ 0 []
def vY:Tm:=.mk 1 ⟨#[121]⟩ 0 []
def rulesT:List Bd:=
 [(.mk 3 nFst 0 [.mk 3 qbd 0 [vX,vY]],vX),(.mk 3 nSnd 0 [.mk 3 qbd 0 [vX,vY]],vY),(.mk 3 nDec 0 [.mk 3 nEnc 0 [vX,vY],vY],vX),
  (.mk 3 qbi 0 [.mk 3 qcf 0 [vX,.mk 3 nPk 0 [vY]],vY],vX),(.mk 3 qbh 0 [.mk 3 qa7 0 [vX,vY],.mk 3 nPk 0 [vY]],vX),(.mk 3 qb4 0 [.mk 3 qa7 0 [vX,vY]],vX)]
def qgo:Nat→ByteArray
 | 0=>nFst|1=>nSnd|2=>nDec|3=>qbi|4=>qbh|_=>qb4
def redI (i:Nat) (u:Tm):Prop:=u.isA (qgo i)∧fitD u.name u.kids
instance (i:Nat) (u:Tm):Decidable (redI i u):=by unfold redI;infer_instance
theorem qc2 {n:ByteArray} {l:List Tm} (u:Tm) (m:List Bd):(Tm.mk 3 n 0 l).mat u m=if u.isA n∧u.kids.length=l.length then Tm.mats l u.kids m else (m,false):=by
 rw[ql9,if_neg (show ¬(Tm.mk 3 n 0 l).kind=1 by show ¬(3:Int)=1;decide)];have e:qd2 (Tm.mk 3 n 0 l) u=decide (u.isA n∧u.kids.length=l.length):=by
  unfold qd2 Tm.isA;show(decide ((3:Int)=3) && decide (u.kind=3) && decide (n=u.name) && decide (l.length=u.kids.length))=_;rw[show decide ((3:Int)=3)=true from rfl,Bool.true_and,Bool.eq_iff_iff];simp only[Bool.and_eq_true,decide_eq_true_eq];exact⟨fun h=>⟨⟨h.1.1,h.1.2.symm⟩,h.2.symm⟩,fun h=>⟨⟨h.1.1,h.1.2.symm⟩,h.2.symm⟩⟩
 rw[e];by_cases h:u.isA n∧u.kids.length=l.length
 ·rw[if_pos (by simpa using h),if_pos h];rfl
 ·rw[if_neg (by simpa using h),if_neg h];have:¬Tm.mk 3 n 0 l=u:=fun e=>h (by rw[←e];exact⟨⟨rfl,rfl⟩,rfl⟩);simp[this]
theorem qkp {x b:Tm} {m:List Bd} (hx:x=vX∨x=vY) (hm:hasS m x=false) (hb:b.valid=0):x.mat b m=(m++[(x,b)],true):=by
 have hk:x.kind=1:=by rcases hx with rfl|rfl<;>rfl
 have hv:x.valid=0:=by rcases hx with rfl|rfl<;>decide
 have hs:x.sort=0:=by rcases hx with rfl|rfl<;>rfl
 rw[ql9,if_pos hk,hm,if_neg Bool.false_ne_true];simp[fits,hv,hb,hk,hs]
theorem qnt {x b:Tm} {m:List Bd} (hx:x=vX∨x=vY) (hm:hasS m x=true):x.mat b m=(m,decide (getS m x=b)):=by
 have hk:x.kind=1:=by rcases hx with rfl|rfl<;>rfl
 rw[ql9,if_pos hk,hm];simp
theorem qkw (a b:Tm):getS [(vX,a),(vY,b)] vY=b:=by simp[getS,vX,vY]
theorem qdw {p t:Tm} {l r:List Tm} {m m':List Bd} {b:Bool} (h:p.mat t m=(m',b)):Tm.mats (p::l) (t::r) m=if b=true then Tm.mats l r m' else (m',false):=by rw[Tm.mats,h]
theorem qc8 (m:List Bd):Tm.mats [] [] m=(m,true):=by rw[Tm.mats];intros;contradiction
theorem len1 {l:List Tm} (h:l.length=1):l=[kidT l 0]:=by
 match l,h with
 | [a],_=>rfl
theorem len2 {l:List Tm} (h:l.length=2):l=[kidT l 0,kidT l 1]:=by
 match l,h with
 | [a,b],_=>rfl
theorem qb6 {u:Tm} (hv:u.valid=0) {i:Nat} (hi:i<u.kids.length):(kidT u.kids i).valid=0:=by
 unfold kidT;rw[List.getElem?_eq_getElem hi];exact qb1 hv (List.getElem_mem hi)
theorem qij {n:ByteArray} {a:Tm} (hn:n=qbd∨n=nEnc∨n=qa7) (hv:a.valid=0) (ha:ArT a) :
  (Tm.mk 3 n 0 [vX,vY]).mat a []=if a.isA n then ([(vX,kidT a.kids 0),(vY,kidT a.kids 1)],true)else ([],false):=by
 rw[qc2];by_cases h:a.isA n
 ·have hl:a.kids.length=2:=(ha.num h).2.1 (by rcases hn with rfl|rfl|rfl<;>decide);rw[if_pos ⟨h,hl⟩,if_pos h];rw[show a.kids=[kidT a.kids 0,kidT a.kids 1]from len2 hl];have v0:=qb6 hv (i:=0) (by omega);have v1:=qb6 hv (i:=1) (by omega);rw[Tm.mats,qkp (.inl rfl) rfl v0,if_pos rfl,Tm.mats,qkp (.inr rfl) (by simp[hasS,vX,vY]) v1,if_pos rfl];exact qc8 _
 ·rw[if_neg (fun e=>h e.1),if_neg h]
theorem mat_aenc {a:Tm} (hv:a.valid=0) (ha:ArT a) :
  (Tm.mk 3 qcf 0 [vX,.mk 3 nPk 0 [vY]]).mat a []=if a.isA qcf then (if (kidT a.kids 1).isA nPk then ([(vX,kidT a.kids 0),(vY,kidT (kidT a.kids 1).kids 0)],true)else ([(vX,kidT a.kids 0)],false))else ([],false):=by
 rw[qc2];by_cases h:a.isA qcf
 ·have hl:a.kids.length=2:=(ha.num h).2.1 (by decide);rw[if_pos ⟨h,hl⟩,if_pos h];have v0:=qb6 hv (i:=0) (by omega);have v1:=qb6 hv (i:=1) (by omega);have e0:Tm.mats [vX,.mk 3 nPk 0 [vY]] a.kids []=Tm.mats [.mk 3 nPk 0 [vY]] [kidT a.kids 1] [(vX,kidT a.kids 0)]:=by
   conv=>lhs;rw[len2 hl]
   rw[Tm.mats,qkp (.inl rfl) rfl v0,if_pos rfl];rfl
  rw[e0];by_cases h2:(kidT a.kids 1).isA nPk
  ·have ha2:ArT (kidT a.kids 1):=ArT.kidl ha.kids 1;have hl2:(kidT a.kids 1).kids.length=1:=(ha2.num h2).2.2 (by decide);rw[if_pos h2];have v2:=qb6 v1 (i:=0) (by omega);have e1:Tm.mats [vY] (kidT a.kids 1).kids [(vX,kidT a.kids 0)]=([(vX,kidT a.kids 0),(vY,kidT (kidT a.kids 1).kids 0)],true):=by
    conv=>lhs;rw[len1 hl2]
    rw[Tm.mats,qkp (.inr rfl) (by simp[hasS,vX,vY]) v2,if_pos rfl];exact qc8 _
   rw[qdw (p:=.mk 3 nPk 0 [vY]) ((qc2 _ _).trans ((if_pos ⟨h2,hl2⟩).trans e1)),if_pos rfl];exact qc8 _
  ·rw[if_neg h2,qdw (p:=.mk 3 nPk 0 [vY]) ((qc2 _ _).trans (if_neg (fun e=>h2 e.1)))];rfl
 ·rw[if_neg (fun e=>h e.1),if_neg h]
def MatR (i:Nat) (u:Tm) (q:List Bd×Bool) (v:Tm):Prop:=
 (redI i u→q.2=true∧hasS q.1 v=true∧getS q.1 v=qas u.name u.kids)∧(¬redI i u→q.2=false)
theorem qhj {i:Nat} {u:Tm} (h:u.isA (qgo i)):redI i u↔fitD (qgo i) u.kids:=by
 unfold redI;rw[h.2];exact⟨fun h=>h.2,fun e=>⟨h,e⟩⟩
theorem qf0 {i:Nat} {u:Tm} (h:u.isA (qgo i)) (hf:fitD (qgo i) u.kids):qas u.name u.kids=kidT (kidT u.kids 0).kids (if qgo i=nSnd then 1 else 0):=by
 unfold qas;rw[h.2,if_pos hf]
theorem rule_mat {i:Nat} (hi:i<6) {u:Tm} (hv:u.valid=0) (ha:ArT u):MatR i u ((rulesT[i]'hi).1.mat u []) (rulesT[i]'hi).2:=by
 have hno:∀{n:ByteArray} {l:List Tm} {v:Tm} (j:Nat),qgo j=n→¬u.isA n→MatR j u ((Tm.mk 3 n 0 l).mat u []) v:=by
  intro n l v j hj hA;refine⟨fun h=>absurd h.1 (by rw[hj];exact hA),fun _=>?_⟩;rw[qc2,if_neg (fun e=>hA e.1)]
 match i,hi with
 | 0,_=>
  show MatR 0 u ((Tm.mk 3 nFst 0 [.mk 3 qbd 0 [vX,vY]]).mat u []) vX;by_cases hA:u.isA nFst
  ·have hl:u.kids.length=1:=(ha.num hA).2.2 (by decide);have v0:=qb6 hv (i:=0) (by omega);have e:(Tm.mk 3 nFst 0 [.mk 3 qbd 0 [vX,vY]]).mat u []=if (kidT u.kids 0).isA qbd then ([(vX,kidT (kidT u.kids 0).kids 0),(vY,kidT (kidT u.kids 0).kids 1)],true)else ([],false):=by
    rw[qc2,if_pos ⟨hA,hl⟩]
    conv=>lhs;rw[len1 hl]
    rw[Tm.mats,qij (.inl rfl) v0 (ArT.kidl ha.kids 0)]
    split
    ·rw[if_pos rfl,qc8]
    ·rw[if_neg Bool.false_ne_true]
   rw[e];unfold MatR;rw[qhj (i:=0) hA];refine⟨fun h=>?_,fun h=>?_⟩
   ·have hp:(kidT u.kids 0).isA qbd:=by rcases h with h|h|h|h|h|h<;>first|exact h.2|exact absurd h.1 (by decide)
    rw[if_pos hp,qf0 (i:=0) hA h];exact⟨rfl,by simp[hasS],rfl⟩
   ·rw[if_neg fun hp=>h (.inl ⟨rfl,hp⟩)]
  ·exact hno 0 rfl hA
 | 1,_=>
  show MatR 1 u ((Tm.mk 3 nSnd 0 [.mk 3 qbd 0 [vX,vY]]).mat u []) vY;by_cases hA:u.isA nSnd
  ·have hl:u.kids.length=1:=(ha.num hA).2.2 (by decide);have v0:=qb6 hv (i:=0) (by omega);have e:(Tm.mk 3 nSnd 0 [.mk 3 qbd 0 [vX,vY]]).mat u []=if (kidT u.kids 0).isA qbd then ([(vX,kidT (kidT u.kids 0).kids 0),(vY,kidT (kidT u.kids 0).kids 1)],true)else ([],false):=by
    rw[qc2,if_pos ⟨hA,hl⟩]
    conv=>lhs;rw[len1 hl]
    rw[Tm.mats,qij (.inl rfl) v0 (ArT.kidl ha.kids 0)]
    split
    ·rw[if_pos rfl,qc8]
    ·rw[if_neg Bool.false_ne_true]
   rw[e];unfold MatR;rw[qhj (i:=1) hA];refine⟨fun h=>?_,fun h=>?_⟩
   ·have hp:(kidT u.kids 0).isA qbd:=by rcases h with h|h|h|h|h|h<;>first|exact h.2|exact absurd h.1 (by decide)
    rw[if_pos hp,qf0 (i:=1) hA h];exact⟨rfl,by simp[hasS],qkw _ _⟩
   ·rw[if_neg fun hp=>h (.inr (.inl ⟨rfl,hp⟩))]
  ·exact hno 1 rfl hA
 | 2,_=>
  show MatR 2 u ((Tm.mk 3 nDec 0 [.mk 3 nEnc 0 [vX,vY],vY]).mat u []) vX;by_cases hA:u.isA nDec
  ·have hl:u.kids.length=2:=(ha.num hA).2.1 (by decide);have v0:=qb6 hv (i:=0) (by omega);have e:(Tm.mk 3 nDec 0 [.mk 3 nEnc 0 [vX,vY],vY]).mat u []=if (kidT u.kids 0).isA nEnc then ([(vX,kidT (kidT u.kids 0).kids 0),(vY,kidT (kidT u.kids 0).kids 1)],decide (kidT (kidT u.kids 0).kids 1=kidT u.kids 1))else ([],false):=by
    rw[qc2,if_pos ⟨hA,hl⟩]
    conv=>lhs;rw[len2 hl]
    rw[Tm.mats,qij (.inr (.inl rfl)) v0 (ArT.kidl ha.kids 0)]
    split
    ·rw[if_pos rfl,qdw (qnt (.inr rfl) (by simp[hasS])),qkw,qc8];by_cases hc:kidT (kidT u.kids 0).kids 1=kidT u.kids 1
     ·rw[decide_eq_true hc,if_pos rfl]
     ·rw[decide_eq_false hc,if_neg Bool.false_ne_true]
    ·rw[if_neg Bool.false_ne_true]
   rw[e];unfold MatR;rw[qhj (i:=2) hA];refine⟨fun h=>?_,fun h=>?_⟩
   ·have hp:(kidT u.kids 0).isA nEnc∧kidT (kidT u.kids 0).kids 1=kidT u.kids 1:=by rcases h with h|h|h|h|h|h<;>first|exact h.2|exact absurd h.1 (by decide)
    rw[if_pos hp.1,qf0 (i:=2) hA h];exact⟨decide_eq_true hp.2,by simp[hasS],rfl⟩
   ·split
    ·rename_i hp;exact decide_eq_false fun hc=>h (.inr (.inr (.inl ⟨rfl,hp,hc⟩)))
    ·rfl
  ·exact hno 2 rfl hA
 | 3,_=>
  show MatR 3 u ((Tm.mk 3 qbi 0 [.mk 3 qcf 0 [vX,.mk 3 nPk 0 [vY]],vY]).mat u []) vX;by_cases hA:u.isA qbi
  ·have hl:u.kids.length=2:=(ha.num hA).2.1 (by decide);have v0:=qb6 hv (i:=0) (by omega);have e:(Tm.mk 3 qbi 0 [.mk 3 qcf 0 [vX,.mk 3 nPk 0 [vY]],vY]).mat u []=if (kidT u.kids 0).isA qcf then (if (kidT (kidT u.kids 0).kids 1).isA nPk then ([(vX,kidT (kidT u.kids 0).kids 0),(vY,kidT (kidT (kidT u.kids 0).kids 1).kids 0)],decide (kidT (kidT (kidT u.kids 0).kids 1).kids 0=kidT u.kids 1))else ([(vX,kidT (kidT u.kids 0).kids 0)],false))else ([],false):=by
    rw[qc2,if_pos ⟨hA,hl⟩]
    conv=>lhs;rw[len2 hl]
    rw[Tm.mats,mat_aenc v0 (ArT.kidl ha.kids 0)]
    split
    ·split
     ·rw[if_pos rfl,qdw (qnt (.inr rfl) (by simp[hasS])),qkw,qc8];by_cases hc:kidT (kidT (kidT u.kids 0).kids 1).kids 0=kidT u.kids 1
      ·rw[decide_eq_true hc,if_pos rfl]
      ·rw[decide_eq_false hc,if_neg Bool.false_ne_true]
     ·rw[if_neg Bool.false_ne_true]
    ·rw[if_neg Bool.false_ne_true]
   rw[e];unfold MatR;rw[qhj (i:=3) hA];refine⟨fun h=>?_,fun h=>?_⟩
   ·have hp:(kidT u.kids 0).isA qcf∧(kidT (kidT u.kids 0).kids 1).isA nPk∧kidT (kidT (kidT u.kids 0).kids 1).kids 0=kidT u.kids 1:=by rcases h with h|h|h|h|h|h<;>first|exact h.2|exact absurd h.1 (by decide)
    rw[if_pos hp.1,if_pos hp.2.1,qf0 (i:=3) hA h];exact⟨decide_eq_true hp.2.2,by simp[hasS],rfl⟩
   ·split
    ·rename_i hp
     split
     ·rename_i hq;exact decide_eq_false fun hc=>h (.inr (.inr (.inr (.inl ⟨rfl,hp,hq,hc⟩))))
     ·rfl
    ·rfl
  ·exact hno 3 rfl hA
 | 4,_=>
  show MatR 4 u ((Tm.mk 3 qbh 0 [.mk 3 qa7 0 [vX,vY],.mk 3 nPk 0 [vY]]).mat u []) vX;by_cases hA:u.isA qbh
  ·have hl:u.kids.length=2:=(ha.num hA).2.1 (by decide);have v0:=qb6 hv (i:=0) (by omega);have ha1:ArT (kidT u.kids 1):=ArT.kidl ha.kids 1;have e:(Tm.mk 3 qbh 0 [.mk 3 qa7 0 [vX,vY],.mk 3 nPk 0 [vY]]).mat u []=if (kidT u.kids 0).isA qa7 then (if (kidT u.kids 1).isA nPk then ([(vX,kidT (kidT u.kids 0).kids 0),(vY,kidT (kidT u.kids 0).kids 1)],decide (kidT (kidT u.kids 0).kids 1=kidT (kidT u.kids 1).kids 0))else ([(vX,kidT (kidT u.kids 0).kids 0),(vY,kidT (kidT u.kids 0).kids 1)],false))else ([],false):=by
    rw[qc2,if_pos ⟨hA,hl⟩]
    conv=>lhs;rw[len2 hl]
    rw[Tm.mats,qij (.inr (.inr rfl)) v0 (ArT.kidl ha.kids 0)]
    split
    ·rw[if_pos rfl];by_cases h2:(kidT u.kids 1).isA nPk
     ·have hl2:(kidT u.kids 1).kids.length=1:=(ha1.num h2).2.2 (by decide);have e1:Tm.mats [vY] (kidT u.kids 1).kids [(vX,kidT (kidT u.kids 0).kids 0),(vY,kidT (kidT u.kids 0).kids 1)]=([(vX,kidT (kidT u.kids 0).kids 0),(vY,kidT (kidT u.kids 0).kids 1)],decide (kidT (kidT u.kids 0).kids 1=kidT (kidT u.kids 1).kids 0)):=by
       conv=>lhs;rw[len1 hl2]
       rw[qdw (qnt (.inr rfl) (by simp[hasS])),qkw,qc8];by_cases hc:kidT (kidT u.kids 0).kids 1=kidT (kidT u.kids 1).kids 0
       ·rw[decide_eq_true hc,if_pos rfl]
       ·rw[decide_eq_false hc,if_neg Bool.false_ne_true]
      rw[qdw (p:=.mk 3 nPk 0 [vY]) ((qc2 _ _).trans ((if_pos ⟨h2,hl2⟩).trans e1)),if_pos h2,qc8];by_cases hc:kidT (kidT u.kids 0).kids 1=kidT (kidT u.kids 1).kids 0
      ·rw[decide_eq_true hc,if_pos rfl]
      ·rw[decide_eq_false hc,if_neg Bool.false_ne_true]
     ·rw[if_neg h2,qdw (p:=.mk 3 nPk 0 [vY]) ((qc2 _ _).trans (if_neg (fun e=>h2 e.1)))];rfl
    ·rw[if_neg Bool.false_ne_true]
   rw[e];unfold MatR;rw[qhj (i:=4) hA];refine⟨fun h=>?_,fun h=>?_⟩
   ·have hp:(kidT u.kids 0).isA qa7∧(kidT u.kids 1).isA nPk∧kidT (kidT u.kids 0).kids 1=kidT (kidT u.kids 1).kids 0:=by rcases h with h|h|h|h|h|h<;>first|exact h.2|exact absurd h.1 (by decide)
    rw[if_pos hp.1,if_pos hp.2.1,qf0 (i:=4) hA h];exact⟨decide_eq_true hp.2.2,by simp[hasS],rfl⟩
   ·split
    ·rename_i hp
     split
     ·rename_i hq;exact decide_eq_false fun hc=>h (.inr (.inr (.inr (.inr (.inl ⟨rfl,hp,hq,hc⟩)))))
     ·rfl
    ·rfl
  ·exact hno 4 rfl hA
 | 5,_=>
  show MatR 5 u ((Tm.mk 3 qb4 0 [.mk 3 qa7 0 [vX,vY]]).mat u []) vX;by_cases hA:u.isA qb4
  ·have hl:u.kids.length=1:=(ha.num hA).2.2 (by decide);have v0:=qb6 hv (i:=0) (by omega);have e:(Tm.mk 3 qb4 0 [.mk 3 qa7 0 [vX,vY]]).mat u []=if (kidT u.kids 0).isA qa7 then ([(vX,kidT (kidT u.kids 0).kids 0),(vY,kidT (kidT u.kids 0).kids 1)],true)else ([],false):=by
    rw[qc2,if_pos ⟨hA,hl⟩]
    conv=>lhs;rw[len1 hl]
    rw[Tm.mats,qij (.inr (.inr rfl)) v0 (ArT.kidl ha.kids 0)]
    split
    ·rw[if_pos rfl,qc8]
    ·rw[if_neg Bool.false_ne_true]
   rw[e];unfold MatR;rw[qhj (i:=5) hA];refine⟨fun h=>?_,fun h=>?_⟩
   ·have hp:(kidT u.kids 0).isA qa7:=by rcases h with h|h|h|h|h|h<;>first|exact h.2|exact absurd h.1 (by decide)
    rw[if_pos hp,qf0 (i:=5) hA h];exact⟨rfl,by simp[hasS],rfl⟩
   ·rw[if_neg fun hp=>h (.inr (.inr (.inr (.inr (.inr ⟨rfl,hp⟩)))))]
  ·exact hno 5 rfl hA
end Go.Proofs.YtjhjoiplpmjepaaGreat
namespace Go.Proofs.YtjhjoiplpmjepaaGreat
open Go.RowKit Go.Sort
theorem qen {W:World} {B:Nat} {a b c d e f g h:Value} {T:TypeId} (hx:W.heap[B]?=some (.cells #[a,b,c,d,e,f,g,h] T (0,0))) :
  W.cell? ⟨B,0,none⟩=some a∧W.cell? ⟨B,1,none⟩=some b∧W.cell? ⟨B,2,none⟩=some c∧W.cell? ⟨B,3,none⟩=some d∧W.cell? ⟨B,4,none⟩=some e∧W.cell? ⟨B,5,none⟩=some f∧W.cell? ⟨B,6,none⟩=some g∧W.cell? ⟨B,7,none⟩=some h∧∀o,W.frozen? ⟨B,o,none⟩=false:=by
 refine⟨?_,?_,?_,?_,?_,?_,?_,?_,fun o=>?_⟩<;>simp[World.cell?,World.frozen?,hx]
theorem qaf (w:World):Calls Tryz.prog 58 #[] w fun e w'=>e=.returned (.agg #[.int .i64 1,.string ⟨#[120]⟩,.int .i64 0,.slice none 0 0])∧Below w.heap.size w w':=by
 go_enter Tryz.func58,Tryz.ntmps58
 go_wp2_with fail
 have hx:=heap_alloc_new w (.cells #[.int .i64 1,.string ⟨#[120]⟩,.int .i64 0,.slice none 0 0] 24);obtain⟨r0,r1,r2,r3,rf⟩:=qaa hx;refine bodyPost_ret (v:=.agg #[.int .i64 1,.string ⟨#[120]⟩,.int .i64 0,.slice none 0 0]) ?_ rfl ?_
 ·simp[results,Tryz.results58,go_sem,r0,r1,r2,r3]
 exact⟨rfl,qab (Nat.le_refl _) _⟩
theorem qah (w:World):Calls Tryz.prog 59 #[] w fun e w'=>e=.returned (.agg #[.int .i64 1,.string ⟨#[121]⟩,.int .i64 0,.slice none 0 0])∧Below w.heap.size w w':=by
 go_enter Tryz.func59,Tryz.ntmps59
 go_wp2_with fail
 have hx:=heap_alloc_new w (.cells #[.int .i64 1,.string ⟨#[121]⟩,.int .i64 0,.slice none 0 0] 24);obtain⟨r0,r1,r2,r3,rf⟩:=qaa hx;refine bodyPost_ret (v:=.agg #[.int .i64 1,.string ⟨#[121]⟩,.int .i64 0,.slice none 0 0]) ?_ rfl ?_
 ·simp[results,Tryz.results59,go_sem,r0,r1,r2,r3]
 exact⟨rfl,qab (Nat.le_refl _) _⟩
theorem qaj (k:Int) (x n:ByteArray) (s:Int) (A B:Option Addr) (i c m d:Nat) (w:World):Calls Tryz.prog 60 #[.agg #[.int .i64 k,.string x,.int .i64 s,.slice A i c],.string n,.slice B m d] w fun e w'=>
  e=.returned (.agg #[.int .i64 3,.string n,.int .i64 0,.slice B m d,.int .i64 k,.string x,.int .i64 s,.slice A i c])∧Below w.heap.size w w':=by
 have mixed:=mixz;obtain⟨V,hV⟩:∃V,V=(w.alloc (.cells #[.int .i64 k,.string x,.int .i64 s,.slice A i c] 24)).alloc (.cells #[.int .i64 0,.string ⟨#[]⟩,.int .i64 0,.slice none 0 0,.int .i64 0,.string ⟨#[]⟩,.int .i64 0,.slice none 0 0] 98):=⟨_,rfl⟩;have hbV:Below w.heap.size w V:=by rw[hV];exact((Below.refl _ _).alloc (Nat.le_refl _) _).alloc (by simp) _
 have hsV:V.heap.size=w.heap.size+1+1:=by rw[hV];simp
 have hx1:V.heap[w.heap.size]?=some (.cells #[.int .i64 k,.string x,.int .i64 s,.slice A i c] 24 (0,0)):=by rw[hV,Below.heap_alloc _ _ _ (by simp)];exact heap_alloc_new w _
 have hx2:V.heap[w.heap.size+1]?=some (.cells #[.int .i64 0,.string ⟨#[]⟩,.int .i64 0,.slice none 0 0,.int .i64 0,.string ⟨#[]⟩,.int .i64 0,.slice none 0 0] 98 (0,0)):=by
  rw[hV];have h:=heap_alloc_new (w.alloc (.cells #[.int .i64 k,.string x,.int .i64 s,.slice A i c] 24)) (.cells #[.int .i64 0,.string ⟨#[]⟩,.int .i64 0,.slice none 0 0,.int .i64 0,.string ⟨#[]⟩,.int .i64 0,.slice none 0 0] 98);rw[World.size_alloc]at h;exact h
 have AP:=hdzz (qam n B m d V.drew);obtain⟨x0,x1,x2,x3,xf⟩:=qaa (show V.drew.heap[w.heap.size]?=_ from hx1);have HX2:Hid (V.drew.heap[w.heap.size+1]?=_):=hdzz hx2;have hsD:w.heap.size+1<V.drew.heap.size:=by show _<V.heap.size;omega
 have HBD:Hid (Below w.heap.size w V.drew):=hdzz hbV.drew;have HV:=hdzz hV;clear hV hbV hx1 hx2 hsV;go_enter Tryz.func60,Tryz.ntmps60
 go_upto_region 1 with fail
 rw[←HV.out];clear HV;refine qbr (fun Y=>Below V.drew.heap.size V.drew Y) 5 (.held 0 (.held 1 (.held 3 (.op 2 (.held 4 (.op 5 .nil)))))) mixed (by kernel_rfl) ?_;generalize V.drew=Z at *;refine qav (v:=.string n) rfl rfl (fun _ _ _ h=>h) (Below.refl _ _) (fun Y hY=>by(try simp only[Act.put]);go_simp) ?_;refine qav (v:=.slice B m d) rfl rfl (fun _ _ _ h=>h) (Below.refl _ _) (fun Y hY=>by(try simp only[Act.put]);go_simp) ?_;refine qav (v:=.agg #[.int .i64 k,.string x,.int .i64 s,.slice A i c]) rfl rfl (fun _ _ _ h=>h) (Below.refl _ _) (fun Y hY=>by
  have z0:=sclz hY x0 (by omega);have z1:=sclz hY x1 (by omega);have z2:=sclz hY x2 (by omega);have z3:=sclz hY x3 (by omega)
  (try simp only[Act.put]);go_simp) ?_
 simp only[Act.put,fsa,fsb,fsc,fsd,fse,fsf];refine mix_op rfl rfl (fun K hK=>?_);go_wp2_with fail
 refine AP.out.mono ?_;clear AP x0 x1 x2 x3 xf;rintro e w5 ⟨rfl,hb5⟩;refine hK _ _ ⟨fun _=>hb5,?_⟩;clear hK K;have hs5:=hb5.size;have hz:=(hb5.block _ hsD).trans HX2.out;obtain⟨z0,z1,z2,z3,z4,z5,z6,z7,zf⟩:=qen hz;have HB5:=hdzz (HBD.out.trans (hb5.mono (by omega)));clear hz;refine qav (v:=.agg #[.int .i64 3,.string n,.int .i64 0,.slice B m d,.int .i64 k,.string x,.int .i64 s,.slice A i c]) rfl rfl (fun _ _ _ h=>h) hb5 (fun Y hY=>by(try simp only[Act.put]);go_simp) ?_;simp only[Act.put,fsa,fsb,fsc,fsd,fse,fsf];refine mix_op rfl rfl (fun K hK=>?_);go_wp2_with fail
 refine⟨fun h=>absurd h (by decide),qel ?_⟩;go_wp2_with fail
 refine bodyPost_ret (v:=.agg #[.int .i64 3,.string n,.int .i64 0,.slice B m d,.int .i64 k,.string x,.int .i64 s,.slice A i c]) ?_ rfl ?_
 ·simp[results,Tryz.results60,go_sem,z0,z1,z2,z3,z4,z5,z6,z7]
 refine⟨rfl,?_⟩
 iterate 8 refine Below.setCell ?_ (by show _≤w.heap.size+1;omega) _
 exact HB5.out
theorem qpm (w:World):Calls Tryz.prog 28 #[] w fun e w'=>(∃A c,e=.returned (.slice A 6 c))∧Below w.heap.size w w':=by
 have HB:Hid (Below w.heap.size w w):=hdzz (Below.refl _ _);go_enter Tryz.func28,Tryz.ntmps28
 go_wp2_with fail
 first | refine(qaf _).mono ?_|refine(qah _).mono ?_|refine(qam _ _ _ _ _).mono ?_|refine(qaj _ _ _ _ _ _ _ _ _ _ _).mono ?_
 rintro e w1 ⟨rfl,hb⟩;have HB:=hdzz (show Below w.heap.size w w1 from(by first|exact HB.out.trans (hb.mono HB.out.size)|exact(HB.out.alloc HB.out.size _).trans (hb.mono (by have:=HB.out.size;simp;omega))));clear hb;go_wp2_with fail
 first | refine(qaf _).mono ?_|refine(qah _).mono ?_|refine(qam _ _ _ _ _).mono ?_|refine(qaj _ _ _ _ _ _ _ _ _ _ _).mono ?_
 rintro e w2 ⟨rfl,hb⟩;have HB:=hdzz (show Below w.heap.size w w2 from(by first|exact HB.out.trans (hb.mono HB.out.size)|exact(HB.out.alloc HB.out.size _).trans (hb.mono (by have:=HB.out.size;simp;omega))));clear hb;go_wp2_with fail
 first | refine(qaf _).mono ?_|refine(qah _).mono ?_|refine(qam _ _ _ _ _).mono ?_|refine(qaj _ _ _ _ _ _ _ _ _ _ _).mono ?_
 rintro e w3 ⟨rfl,hb⟩;have HB:=hdzz (show Below w.heap.size w w3 from(by first|exact HB.out.trans (hb.mono HB.out.size)|exact(HB.out.alloc HB.out.size _).trans (hb.mono (by have:=HB.out.size;simp;omega))));clear hb;go_wp2_with fail
 first | refine(qaf _).mono ?_|refine(qah _).mono ?_|refine(qam _ _ _ _ _).mono ?_|refine(qaj _ _ _ _ _ _ _ _ _ _ _).mono ?_
 rintro e w4 ⟨rfl,hb⟩;have HB:=hdzz (show Below w.heap.size w w4 from(by first|exact HB.out.trans (hb.mono HB.out.size)|exact(HB.out.alloc HB.out.size _).trans (hb.mono (by have:=HB.out.size;simp;omega))));clear hb;go_wp2_with fail
 first | refine(qaf _).mono ?_|refine(qah _).mono ?_|refine(qam _ _ _ _ _).mono ?_|refine(qaj _ _ _ _ _ _ _ _ _ _ _).mono ?_
 rintro e w5 ⟨rfl,hb⟩;have HB:=hdzz (show Below w.heap.size w w5 from(by first|exact HB.out.trans (hb.mono HB.out.size)|exact(HB.out.alloc HB.out.size _).trans (hb.mono (by have:=HB.out.size;simp;omega))));clear hb;go_wp2_with fail
 first | refine(qaf _).mono ?_|refine(qah _).mono ?_|refine(qam _ _ _ _ _).mono ?_|refine(qaj _ _ _ _ _ _ _ _ _ _ _).mono ?_
 rintro e w6 ⟨rfl,hb⟩;have HB:=hdzz (show Below w.heap.size w w6 from(by first|exact HB.out.trans (hb.mono HB.out.size)|exact(HB.out.alloc HB.out.size _).trans (hb.mono (by have:=HB.out.size;simp;omega))));clear hb;go_wp2_with fail
 first | refine(qaf _).mono ?_|refine(qah _).mono ?_|refine(qam _ _ _ _ _).mono ?_|refine(qaj _ _ _ _ _ _ _ _ _ _ _).mono ?_
 rintro e w7 ⟨rfl,hb⟩;have HB:=hdzz (show Below w.heap.size w w7 from(by first|exact HB.out.trans (hb.mono HB.out.size)|exact(HB.out.alloc HB.out.size _).trans (hb.mono (by have:=HB.out.size;simp;omega))));clear hb;go_wp2_with fail
 first | refine(qaf _).mono ?_|refine(qah _).mono ?_|refine(qam _ _ _ _ _).mono ?_|refine(qaj _ _ _ _ _ _ _ _ _ _ _).mono ?_
 rintro e w8 ⟨rfl,hb⟩;have HB:=hdzz (show Below w.heap.size w w8 from(by first|exact HB.out.trans (hb.mono HB.out.size)|exact(HB.out.alloc HB.out.size _).trans (hb.mono (by have:=HB.out.size;simp;omega))));clear hb;go_wp2_with fail
 first | refine(qaf _).mono ?_|refine(qah _).mono ?_|refine(qam _ _ _ _ _).mono ?_|refine(qaj _ _ _ _ _ _ _ _ _ _ _).mono ?_
 rintro e w9 ⟨rfl,hb⟩;have HB:=hdzz (show Below w.heap.size w w9 from(by first|exact HB.out.trans (hb.mono HB.out.size)|exact(HB.out.alloc HB.out.size _).trans (hb.mono (by have:=HB.out.size;simp;omega))));clear hb;go_wp2_with fail
 first | refine(qaf _).mono ?_|refine(qah _).mono ?_|refine(qam _ _ _ _ _).mono ?_|refine(qaj _ _ _ _ _ _ _ _ _ _ _).mono ?_
 rintro e w10 ⟨rfl,hb⟩;have HB:=hdzz (show Below w.heap.size w w10 from(by first|exact HB.out.trans (hb.mono HB.out.size)|exact(HB.out.alloc HB.out.size _).trans (hb.mono (by have:=HB.out.size;simp;omega))));clear hb;go_wp2_with fail
 first | refine(qaf _).mono ?_|refine(qah _).mono ?_|refine(qam _ _ _ _ _).mono ?_|refine(qaj _ _ _ _ _ _ _ _ _ _ _).mono ?_
 rintro e w11 ⟨rfl,hb⟩;have HB:=hdzz (show Below w.heap.size w w11 from(by first|exact HB.out.trans (hb.mono HB.out.size)|exact(HB.out.alloc HB.out.size _).trans (hb.mono (by have:=HB.out.size;simp;omega))));clear hb;go_wp2_with fail
 first | refine(qaf _).mono ?_|refine(qah _).mono ?_|refine(qam _ _ _ _ _).mono ?_|refine(qaj _ _ _ _ _ _ _ _ _ _ _).mono ?_
 rintro e w12 ⟨rfl,hb⟩;have HB:=hdzz (show Below w.heap.size w w12 from(by first|exact HB.out.trans (hb.mono HB.out.size)|exact(HB.out.alloc HB.out.size _).trans (hb.mono (by have:=HB.out.size;simp;omega))));clear hb;go_wp2_with fail
 first | refine(qaf _).mono ?_|refine(qah _).mono ?_|refine(qam _ _ _ _ _).mono ?_|refine(qaj _ _ _ _ _ _ _ _ _ _ _).mono ?_
 rintro e w13 ⟨rfl,hb⟩;have HB:=hdzz (show Below w.heap.size w w13 from(by first|exact HB.out.trans (hb.mono HB.out.size)|exact(HB.out.alloc HB.out.size _).trans (hb.mono (by have:=HB.out.size;simp;omega))));clear hb;go_wp2_with fail
 first | refine(qaf _).mono ?_|refine(qah _).mono ?_|refine(qam _ _ _ _ _).mono ?_|refine(qaj _ _ _ _ _ _ _ _ _ _ _).mono ?_
 rintro e w14 ⟨rfl,hb⟩;have HB:=hdzz (show Below w.heap.size w w14 from(by first|exact HB.out.trans (hb.mono HB.out.size)|exact(HB.out.alloc HB.out.size _).trans (hb.mono (by have:=HB.out.size;simp;omega))));clear hb;go_wp2_with fail
 first | refine(qaf _).mono ?_|refine(qah _).mono ?_|refine(qam _ _ _ _ _).mono ?_|refine(qaj _ _ _ _ _ _ _ _ _ _ _).mono ?_
 rintro e w15 ⟨rfl,hb⟩;have HB:=hdzz (show Below w.heap.size w w15 from(by first|exact HB.out.trans (hb.mono HB.out.size)|exact(HB.out.alloc HB.out.size _).trans (hb.mono (by have:=HB.out.size;simp;omega))));clear hb;go_wp2_with fail
 first | refine(qaf _).mono ?_|refine(qah _).mono ?_|refine(qam _ _ _ _ _).mono ?_|refine(qaj _ _ _ _ _ _ _ _ _ _ _).mono ?_
 rintro e w16 ⟨rfl,hb⟩;have HB:=hdzz (show Below w.heap.size w w16 from(by first|exact HB.out.trans (hb.mono HB.out.size)|exact(HB.out.alloc HB.out.size _).trans (hb.mono (by have:=HB.out.size;simp;omega))));clear hb;go_wp2_with fail
 first | refine(qaf _).mono ?_|refine(qah _).mono ?_|refine(qam _ _ _ _ _).mono ?_|refine(qaj _ _ _ _ _ _ _ _ _ _ _).mono ?_
 rintro e w17 ⟨rfl,hb⟩;have HB:=hdzz (show Below w.heap.size w w17 from(by first|exact HB.out.trans (hb.mono HB.out.size)|exact(HB.out.alloc HB.out.size _).trans (hb.mono (by have:=HB.out.size;simp;omega))));clear hb;go_wp2_with fail
 first | refine(qaf _).mono ?_|refine(qah _).mono ?_|refine(qam _ _ _ _ _).mono ?_|refine(qaj _ _ _ _ _ _ _ _ _ _ _).mono ?_
 rintro e w18 ⟨rfl,hb⟩;have HB:=hdzz (show Below w.heap.size w w18 from(by first|exact HB.out.trans (hb.mono HB.out.size)|exact(HB.out.alloc HB.out.size _).trans (hb.mono (by have:=HB.out.size;simp;omega))));clear hb;go_wp2_with fail
 first | refine(qaf _).mono ?_|refine(qah _).mono ?_|refine(qam _ _ _ _ _).mono ?_|refine(qaj _ _ _ _ _ _ _ _ _ _ _).mono ?_
 rintro e w19 ⟨rfl,hb⟩;have HB:=hdzz (show Below w.heap.size w w19 from(by first|exact HB.out.trans (hb.mono HB.out.size)|exact(HB.out.alloc HB.out.size _).trans (hb.mono (by have:=HB.out.size;simp;omega))));clear hb;go_wp2_with fail
 first | refine(qaf _).mono ?_|refine(qah _).mono ?_|refine(qam _ _ _ _ _).mono ?_|refine(qaj _ _ _ _ _ _ _ _ _ _ _).mono ?_
 rintro e w20 ⟨rfl,hb⟩;have HB:=hdzz (show Below w.heap.size w w20 from(by first|exact HB.out.trans (hb.mono HB.out.size)|exact(HB.out.alloc HB.out.size _).trans (hb.mono (by have:=HB.out.size;simp;omega))));clear hb;go_wp2_with fail
 first | refine(qaf _).mono ?_|refine(qah _).mono ?_|refine(qam _ _ _ _ _).mono ?_|refine(qaj _ _ _ _ _ _ _ _ _ _ _).mono ?_
 rintro e w21 ⟨rfl,hb⟩;have HB:=hdzz (show Below w.heap.size w w21 from(by first|exact HB.out.trans (hb.mono HB.out.size)|exact(HB.out.alloc HB.out.size _).trans (hb.mono (by have:=HB.out.size;simp;omega))));clear hb;go_wp2_with fail
 first | refine(qaf _).mono ?_|refine(qah _).mono ?_|refine(qam _ _ _ _ _).mono ?_|refine(qaj _ _ _ _ _ _ _ _ _ _ _).mono ?_
 rintro e w22 ⟨rfl,hb⟩;have HB:=hdzz (show Below w.heap.size w w22 from(by first|exact HB.out.trans (hb.mono HB.out.size)|exact(HB.out.alloc HB.out.size _).trans (hb.mono (by have:=HB.out.size;simp;omega))));clear hb;go_wp2_with fail
 first | refine(qaf _).mono ?_|refine(qah _).mono ?_|refine(qam _ _ _ _ _).mono ?_|refine(qaj _ _ _ _ _ _ _ _ _ _ _).mono ?_
 rintro e w23 ⟨rfl,hb⟩;have HB:=hdzz (show Below w.heap.size w w23 from(by first|exact HB.out.trans (hb.mono HB.out.size)|exact(HB.out.alloc HB.out.size _).trans (hb.mono (by have:=HB.out.size;simp;omega))));clear hb;go_wp2_with fail
 first | refine(qaf _).mono ?_|refine(qah _).mono ?_|refine(qam _ _ _ _ _).mono ?_|refine(qaj _ _ _ _ _ _ _ _ _ _ _).mono ?_
 rintro e w24 ⟨rfl,hb⟩;have HB:=hdzz (show Below w.heap.size w w24 from(by first|exact HB.out.trans (hb.mono HB.out.size)|exact(HB.out.alloc HB.out.size _).trans (hb.mono (by have:=HB.out.size;simp;omega))));clear hb;go_wp2_with fail
 first | refine(qaf _).mono ?_|refine(qah _).mono ?_|refine(qam _ _ _ _ _).mono ?_|refine(qaj _ _ _ _ _ _ _ _ _ _ _).mono ?_
 rintro e w25 ⟨rfl,hb⟩;have HB:=hdzz (show Below w.heap.size w w25 from(by first|exact HB.out.trans (hb.mono HB.out.size)|exact(HB.out.alloc HB.out.size _).trans (hb.mono (by have:=HB.out.size;simp;omega))));clear hb;go_wp2_with fail
 first | refine(qaf _).mono ?_|refine(qah _).mono ?_|refine(qam _ _ _ _ _).mono ?_|refine(qaj _ _ _ _ _ _ _ _ _ _ _).mono ?_
 rintro e w26 ⟨rfl,hb⟩;have HB:=hdzz (show Below w.heap.size w w26 from(by first|exact HB.out.trans (hb.mono HB.out.size)|exact(HB.out.alloc HB.out.size _).trans (hb.mono (by have:=HB.out.size;simp;omega))));clear hb;go_wp2_with fail
 first | refine(qaf _).mono ?_|refine(qah _).mono ?_|refine(qam _ _ _ _ _).mono ?_|refine(qaj _ _ _ _ _ _ _ _ _ _ _).mono ?_
 rintro e w27 ⟨rfl,hb⟩;have HB:=hdzz (show Below w.heap.size w w27 from(by first|exact HB.out.trans (hb.mono HB.out.size)|exact(HB.out.alloc HB.out.size _).trans (hb.mono (by have:=HB.out.size;simp;omega))));clear hb;go_wp2_with fail
 first | refine(qaf _).mono ?_|refine(qah _).mono ?_|refine(qam _ _ _ _ _).mono ?_|refine(qaj _ _ _ _ _ _ _ _ _ _ _).mono ?_
 rintro e w28 ⟨rfl,hb⟩;have HB:=hdzz (show Below w.heap.size w w28 from(by first|exact HB.out.trans (hb.mono HB.out.size)|exact(HB.out.alloc HB.out.size _).trans (hb.mono (by have:=HB.out.size;simp;omega))));clear hb;go_wp2_with fail
 first | refine(qaf _).mono ?_|refine(qah _).mono ?_|refine(qam _ _ _ _ _).mono ?_|refine(qaj _ _ _ _ _ _ _ _ _ _ _).mono ?_
 rintro e w29 ⟨rfl,hb⟩;have HB:=hdzz (show Below w.heap.size w w29 from(by first|exact HB.out.trans (hb.mono HB.out.size)|exact(HB.out.alloc HB.out.size _).trans (hb.mono (by have:=HB.out.size;simp;omega))));clear hb;go_wp2_with fail
 first | refine(qaf _).mono ?_|refine(qah _).mono ?_|refine(qam _ _ _ _ _).mono ?_|refine(qaj _ _ _ _ _ _ _ _ _ _ _).mono ?_
 rintro e w30 ⟨rfl,hb⟩;have HB:=hdzz (show Below w.heap.size w w30 from(by first|exact HB.out.trans (hb.mono HB.out.size)|exact(HB.out.alloc HB.out.size _).trans (hb.mono (by have:=HB.out.size;simp;omega))));clear hb;go_wp2_with fail
 first | refine(qaf _).mono ?_|refine(qah _).mono ?_|refine(qam _ _ _ _ _).mono ?_|refine(qaj _ _ _ _ _ _ _ _ _ _ _).mono ?_
 rintro e w31 ⟨rfl,hb⟩;have HB:=hdzz (show Below w.heap.size w w31 from(by first|exact HB.out.trans (hb.mono HB.out.size)|exact(HB.out.alloc HB.out.size _).trans (hb.mono (by have:=HB.out.size;simp;omega))));clear hb;go_wp2_with fail
 first | refine(qaf _).mono ?_|refine(qah _).mono ?_|refine(qam _ _ _ _ _).mono ?_|refine(qaj _ _ _ _ _ _ _ _ _ _ _).mono ?_
 rintro e w32 ⟨rfl,hb⟩;have HB:=hdzz (show Below w.heap.size w w32 from(by first|exact HB.out.trans (hb.mono HB.out.size)|exact(HB.out.alloc HB.out.size _).trans (hb.mono (by have:=HB.out.size;simp;omega))));clear hb;go_wp2_with fail
 first | refine(qaf _).mono ?_|refine(qah _).mono ?_|refine(qam _ _ _ _ _).mono ?_|refine(qaj _ _ _ _ _ _ _ _ _ _ _).mono ?_
 rintro e w33 ⟨rfl,hb⟩;have HB:=hdzz (show Below w.heap.size w w33 from(by first|exact HB.out.trans (hb.mono HB.out.size)|exact(HB.out.alloc HB.out.size _).trans (hb.mono (by have:=HB.out.size;simp;omega))));clear hb;go_wp2_with fail
 first | refine(qaf _).mono ?_|refine(qah _).mono ?_|refine(qam _ _ _ _ _).mono ?_|refine(qaj _ _ _ _ _ _ _ _ _ _ _).mono ?_
 rintro e w34 ⟨rfl,hb⟩;have HB:=hdzz (show Below w.heap.size w w34 from(by first|exact HB.out.trans (hb.mono HB.out.size)|exact(HB.out.alloc HB.out.size _).trans (hb.mono (by have:=HB.out.size;simp;omega))));clear hb;go_wp2_with fail
 first | refine(qaf _).mono ?_|refine(qah _).mono ?_|refine(qam _ _ _ _ _).mono ?_|refine(qaj _ _ _ _ _ _ _ _ _ _ _).mono ?_
 rintro e w35 ⟨rfl,hb⟩;have HB:=hdzz (show Below w.heap.size w w35 from(by first|exact HB.out.trans (hb.mono HB.out.size)|exact(HB.out.alloc HB.out.size _).trans (hb.mono (by have:=HB.out.size;simp;omega))));clear hb;go_wp2_with fail
 go_ret
 exact⟨⟨_,_,rfl⟩,HB.out.alloc HB.out.size _⟩
def memT (l:List Tm) (x:Tm):Bool:=l.any (fun t=>decide (t.cmp x=0))
theorem one_cells {w V:World} {x:Tm} {A:Option Addr} {c:Nat} (h:OneT w x A c V):V.cell? ⟨w.heap.size,0,none⟩=some (.int .i64 x.kind)∧V.cell? ⟨w.heap.size,1,none⟩=some (.string x.name)∧V.cell? ⟨w.heap.size,2,none⟩=some (.int .i64 x.sort)∧V.cell? ⟨w.heap.size,3,none⟩=some (.slice A x.kids.length c)∧∀o,V.frozen? ⟨w.heap.size,o,none⟩=false:=qaa h.one
theorem vhas_any (l:List Tm) (A0:Option Addr) (cap0:Nat) (x:Tm) (A:Option Addr) (c:Nat) (w:World) (hsz:∀t∈l,t.size≤1000000) (hx:x.size≤1000000) (hrep:RepS w (fun b=>b<w.heap.size) l A0 cap0) (hrx:RepT w w.heap.size x A c) :
  Calls Tryz.prog 97 #[.slice A0 l.length cap0,x.val A c] w fun e w'=>e=.returned (.bool (memT l x))∧Lay w.heap.size w w':=by
 obtain⟨V,hV⟩:∃V,V=w.alloc (.cells #[.int .i64 x.kind,.string x.name,.int .i64 x.sort,.slice A x.kids.length c] 24):=⟨_,rfl⟩;have h2:OneT w x A c V:=by rw[hV];exact OneT.new w x A c
 obtain⟨u,hu⟩:∃u,u=memT l x:=⟨_,rfl⟩;rw[←hu];have HU:Hid (u=(l.drop 0).any (fun t=>decide (t.cmp x=0))):=hu;clear hu;obtain⟨h0,h1,h3⟩:=hrep;unfold maxLen at h1;have HSZ:=hdzz hsz;clear hsz;have HRX:=hdzz hrx;clear hrx;have HV:=hdzz hV;clear hV;have H2:=hdzz h2;clear h2;simp only[Tm.val];go_enter Tryz.func97,Tryz.ntmps97
 go_wp2_with fail
 rw[←HV.out];go_loopw [9] (fun i wr=>∃k:Nat,k≤l.length∧i=.int .i64 k∧Hid (u=(l.drop k).any (fun t=>decide (t.cmp x=0)))∧Hid (OneT w x A c wr)) (fun i _=>l.length - (intOf i).toNat)
 case atStart=>exact⟨0,Nat.zero_le _,rfl,HU,H2⟩
 case round=>
  obtain⟨k,hk,rfl,HG,HT⟩:=hrel;have i1:(0:Int)≤(k:Int):=Int.natCast_nonneg _;have hlt2:=HT.out.lt;by_cases hlt:k<l.length
  ·have i2:(k:Int)<(l.length:Int):=by omega
   rcases h3 with rfl|⟨kb,off,rfl,hbB,hl⟩
   ·simp at hlt
   have hlr:RepLP wr (fun b=>b<w.heap.size) l kb off:=RepLP.mono (fun _ h=>h) (fun p hp=>HT.out.lay.below.cell hp) _ _ _ hbB hl;obtain⟨A1,c1,t0,t1,t2,t3,hr1⟩:=hlr.get k hlt;have hb1:=HSZ.out l[k] (List.getElem_mem hlt);have hst:=any_drop (fun t=>decide (t.cmp x=0)) l k hlt;rw[←HG.out]at hst;obtain⟨y,hy⟩:∃y,y=l[k]:=⟨_,rfl⟩;rw[←hy]at t0 t1 t2 t3 hr1 hb1 hst;clear hy;obtain⟨X,hX⟩:∃X,X=wr.alloc (.cells #[.int .i64 y.kind,.string y.name,.int .i64 y.sort,.slice A1 y.kids.length c1] 24):=⟨_,rfl⟩;have hlX:Lay wr.heap.size wr X:=by rw[hX];exact(Lay.refl _ _).alloc (Nat.le_refl _) _
   have hbx:=heap_alloc_new wr (.cells #[.int .i64 y.kind,.string y.name,.int .i64 y.sort,.slice A1 y.kids.length c1] 24);rw[←hX]at hbx;have HT2:=hdzz (HT.out.go hlX);have hss:=HT2.out.lay.size;have CC:=qb7 1000000 y x A1 A c1 c X hb1 (by decide) hx (RepP.mono (fun b (h:b<w.heap.size)=>by omega) (fun p (hp:p.block<w.heap.size)=>hlX.below.cell (by have:=HT.out.lay.size;omega)) _ _ _ hr1) (HRX.out.go HT2.out.lay.below hss);simp only[Tm.val]at CC;have CC:=hdzz CC;obtain⟨z,hz⟩:∃z,z=y.cmp x:=⟨_,rfl⟩;rw[←hz]at CC hst;have HST:=hdzz hst;obtain⟨d0,d1,d2,d3,-⟩:=one_cells HT2.out;obtain⟨e0,e1,e2,e3,-⟩:=qaa hbx;rw[hX]at d0 d1 d2 d3 e0 e1 e2 e3;have HX:=hdzz hX;clear hz hst hl hlr hr1 hX hbx hlX;by_cases hz0:z=0
   ·have hE:u=true:=by rw[HST.out,decide_eq_true hz0,Bool.true_or]
    subst hE hz0;clear HST;go_wp2_with fail
    rw[←HX.out];refine CC.out.mono ?_;clear CC;rintro e w2 ⟨rfl,hl2⟩;go_wp2_with fail
    go_ret
    exact⟨rfl,HT2.out.lay.trans (hl2.mono hss)⟩
   ·have HE:Hid (u=(l.drop (k+1)).any (fun t=>decide (t.cmp x=0))):=hdzz (by rw[HST.out,decide_eq_false hz0,Bool.false_or]);clear HST;go_wp2_with fail
    rw[←HX.out];refine CC.out.mono ?_;clear CC;rintro e w2 ⟨rfl,hl2⟩;have HT3:=hdzz (HT2.out.go hl2);go_wp2_with fail
    go_roundw
    case rel=>exact⟨k+1,by omega,by go_num,HE,HT3.out⟩
    case measure=>simp[intOf];omega
  ·obtain rfl:k=l.length:=by omega
   have hE:u=false:=by have:=HG.out;rw[List.drop_length]at this;exact this
   subst hE;go_wp2_with fail
   go_ret
   exact⟨rfl,HT.out.lay⟩
def ruleV (p r:Tm) (P R:Option Addr) (cp cr:Nat):Value:=.agg #[.int .i64 p.kind,.string p.name,.int .i64 p.sort,.slice P p.kids.length cp,.int .i64 r.kind,.string r.name,.int .i64 r.sort,.slice R r.kids.length cr]
def qed (p r:Tm) (P R:Option Addr) (cp cr:Nat):Obj:=.cells #[.int .i64 p.kind,.string p.name,.int .i64 p.sort,.slice P p.kids.length cp,.int .i64 r.kind,.string r.name,.int .i64 r.sort,.slice R r.kids.length cr] 98
theorem qlg (p r t:Tm) (P R A:Option Addr) (cp cr c:Nat) (w:World) (hp:p.size≤1000000) (ht:t.size≤1000000) (hrp:RepT w w.heap.size p P cp) (hrt:RepT w w.heap.size t A c) :
  Calls Tryz.prog 66 #[ruleV p r P R cp cr,t.val A c] w fun e w'=>e=.returned (.bool (decide ((qb5 p t).2=0)))∧Below w.heap.size w w':=by
 obtain⟨V,hV⟩:∃V,V=(w.alloc (qed p r P R cp cr)).alloc (.cells #[.int .i64 t.kind,.string t.name,.int .i64 t.sort,.slice A t.kids.length c] 24):=⟨_,rfl⟩;have hs1:(w.alloc (qed p r P R cp cr)).heap.size=w.heap.size+1:=by simp
 have hbV:Below w.heap.size w V:=by rw[hV];exact((Below.refl _ _).alloc (Nat.le_refl _) _).alloc (by simp) _
 have hx1:V.heap[w.heap.size]?=some (qed p r P R cp cr):=by rw[hV,Below.heap_alloc _ _ _ (by simp)];exact heap_alloc_new w _
 have hx2:V.heap[w.heap.size+1]?=some (.cells #[.int .i64 t.kind,.string t.name,.int .i64 t.sort,.slice A t.kids.length c] 24 (0,0)):=by
  rw[hV];have h:=heap_alloc_new (w.alloc (qed p r P R cp cr)) (.cells #[.int .i64 t.kind,.string t.name,.int .i64 t.sort,.slice A t.kids.length c] 24);rw[hs1]at h;exact h
 have MT:=qh1 p t P A cp c V hp ht (hrp.go hbV hbV.size) (hrt.go hbV hbV.size);simp only[Tm.val]at MT;have MT:=hdzz MT;obtain⟨r0,r1,r2,r3,r4,r5,r6,r7,rf⟩:=qen (by unfold qed at hx1;exact hx1);obtain⟨x0,x1,x2,x3,xf⟩:=qaa hx2;simp only[qed]at hV;have HV:=hdzz hV;have HB:=hdzz hbV;clear hV hbV hx1 hx2 hs1;simp only[Tm.val,ruleV];go_enter Tryz.func66,Tryz.ntmps66
 go_wp2_with fail
 rw[←HV.out];go_wp2_with fail
 refine MT.out.mono ?_;clear MT r0 r1 r2 r3 r4 r5 r6 r7 rf x0 x1 x2 x3 xf;rintro e w2 ⟨A2,c2,rfl,-,hb2⟩;have HB2:=sbtz HB hb2;clear hb2;go_wp2_with fail
 go_ret
 exact⟨rfl,HB2.out⟩
structure GoodR (b:Bd):Prop where
 l:b.1.valid=0
 r:b.2.valid=0
 k:b.1.kind≠1
 v:∀x∈Tm.set (b.2.all.filter fun u=>u.kind==1),memT (Tm.set (b.1.all.filter fun u=>u.kind==1)) x=true
mutual
theorem all_le:∀(t:Tm),∀u∈t.all,u.size≤t.size
 | .mk k n s l,u,h=>by
  rw[Tm.all,List.mem_cons]at h;rcases h with rfl|h
  ·exact Nat.le_refl _
  ·have:=alls_le l u h;rw[Tm.size];omega
theorem alls_le:∀(l:List Tm),∀u∈Tm.alls l,u.size≤Tm.sizes l
 | [],u,h=>by simp[Tm.alls]at h
 | t::r,u,h=>by
  rw[Tm.alls,List.mem_append]at h;rw[Tm.sizes];rcases h with h|h
  ·have:=all_le t u h;omega
  ·have:=alls_le r u h;omega
end
theorem RepS.goV {w w':World} {l:List Tm} {A:Option Addr} {cap:Nat} (h:RepS w (fun b=>b<w.heap.size) l A cap) (hb:Below w.heap.size w w') (hs:w.heap.size≤w'.heap.size):RepS w' (fun b=>b<w'.heap.size) l A cap:=
 RepS.mono (fun b (h:b<_)=>Nat.lt_of_lt_of_le h hs) (fun p hp=>hb.cell hp) h
theorem qkg {wr X:World} {r:Bd} {P R:Option Addr} {cp cr:Nat} (hX:X=wr.alloc (qed r.1 r.2 P R cp cr)) :
  X.heap[wr.heap.size]?=some (qed r.1 r.2 P R cp cr)∧Below wr.heap.size wr X∧X.heap.size=wr.heap.size+1:=by
 subst hX;exact⟨heap_alloc_new _ _,qab (Nat.le_refl _) _,by simp⟩
theorem qgy (rs:List Bd) (A:Option Addr) (c:Nat) (w:World) (h40:rs.length≤40) (hg:∀r∈rs,GoodR r) (hrep:RepB w (fun b=>b<w.heap.size) rs A c) :
  Calls Tryz.prog 62 #[.slice A rs.length c] w fun e w'=>e=.returned (.int .i64 0)∧Below w.heap.size w w':=by
 have h40I:(rs.length:Int)≤40:=by omega
 have h40d:decide (40<(rs.length:Int))=false:=decide_eq_false (by omega);obtain⟨h0,h1,h3⟩:=hrep;have HG:=hdzz hg;clear hg;go_enter Tryz.func62,Tryz.ntmps62
 go_wp2_with fail
 go_loopw [15] (fun i wr=>∃k:Nat,k≤rs.length∧i=.int .i64 k∧Hid (Below w.heap.size w wr)) (fun i _=>rs.length - (intOf i).toNat)
 case atStart=>exact⟨0,Nat.zero_le _,rfl,Below.refl _ _⟩
 case round=>
  obtain⟨k,hk,rfl,HB⟩:=hrel;have i1:(0:Int)≤(k:Int):=Int.natCast_nonneg _;by_cases hlt:k<rs.length
  ·have i2:(k:Int)<(rs.length:Int):=by omega
   rcases h3 with rfl|⟨b,off,rfl,hbB,hl⟩
   ·simp at hlt
   have hss:=HB.out.size;obtain⟨P,cp,R,cr,t8⟩:=(RepLP.mono (P':=fun b=>b<w.heap.size) (fun _ h=>h) (fun p hp=>HB.out.cell hp) _ _ _ hbB hl:RepLP wr (fun b=>b<w.heap.size) (flat rs) b off).get8 k hlt;have gr:=HG.out rs[k] (List.getElem_mem hlt);obtain⟨r,hr⟩:∃r,r=rs[k]:=⟨_,rfl⟩;rw[←hr]at t8 gr;obtain⟨t0,t1,t2,t3,t4,t5,t6,t7,rp,rr⟩:=t8;clear hr;obtain⟨X,hX⟩:∃X,X=wr.alloc (qed r.1 r.2 P R cp cr):=⟨_,rfl⟩;obtain⟨hbx,hbX,hsX⟩:=qkg hX;have hrp:RepT X X.heap.size r.1 P cp:=RepP.mono (fun b (h:b<w.heap.size)=>by omega) (fun p (hp:p.block<w.heap.size)=>hbX.cell (by omega)) _ _ _ rp;have hrr:RepT X X.heap.size r.2 R cr:=RepP.mono (fun b (h:b<w.heap.size)=>by omega) (fun p (hp:p.block<w.heap.size)=>hbX.cell (by omega)) _ _ _ rr;have hs1:=qai gr.l;have hs2:=qai gr.r
   have VL:=qax r.1 P cp X (by omega) hrp;rw[gr.l]at VL;simp only[Tm.val]at VL;have VL:=hdzz VL;have HX:=hdzz hX;have HBX:=hdzz hbx;have HB1:=hdzz (HB.out.trans (hbX.mono hss));have HP:=hdzz hrp;have HR:=hdzz hrr;have HGR:=hdzz gr;clear hX hbx hbX hrp hrr gr rp rr;simp only[qed]at HX;go_upto_region 6 with fail
   rw[←HX.out];clear HX t0 t1 t2 t3 t4 t5 t6 t7;obtain⟨bb,hbb⟩:∃b,b=wr.heap.size:=⟨_,rfl⟩;rw[←hbb]at HBX;rw[←hbb];have hbbX:bb<X.heap.size:=by omega
   clear hbb hsX;obtain⟨r0,r1,r2,r3,r4,r5,r6,r7,rf⟩:=qen (by have:=HBX.out;unfold qed at this;exact this);go_wp2_with fail
   refine VL.out.mono ?_;clear VL r0 r1 r2 r3 r4 r5 r6 r7 rf;rintro e w1 ⟨rfl,hl1⟩;have HB2:=sbtz HB1 hl1.below;have HBX2:=hdzz ((hl1.below.block _ hbbX).trans HBX.out);have HP2:=hdzz (HP.out.go hl1.below hl1.size);have HR2:=hdzz (HR.out.go hl1.below hl1.size);have hbb2:bb<w1.heap.size:=Nat.lt_of_lt_of_le hbbX hl1.size;clear hl1 HBX HP HR hbbX HB1;have VL:=qax r.2 R cr w1 (by omega) HR2.out;rw[HGR.out.r]at VL;simp only[Tm.val]at VL;have VL:=hdzz VL;obtain⟨r0,r1,r2,r3,r4,r5,r6,r7,rf⟩:=qen (by have:=HBX2.out;unfold qed at this;exact this);go_wp2_with fail
   refine VL.out.mono ?_;clear VL r0 r1 r2 r3 r4 r5 r6 r7 rf;rintro e w2 ⟨rfl,hl1⟩;have HB3:=sbtz HB2 hl1.below;have HBX3:=hdzz ((hl1.below.block _ hbb2).trans HBX2.out);have HP3:=hdzz (HP2.out.go hl1.below hl1.size);have HR3:=hdzz (HR2.out.go hl1.below hl1.size);have hbb3:bb<w2.heap.size:=Nat.lt_of_lt_of_le hbb2 hl1.size;clear hl1 HBX2 HP2 HR2 hbb2 HB2;have hk1:(r.1.kind==1)=false:=beq_eq_false_iff_ne.2 HGR.out.k;have VL:=qj9 r.1 P cp w2 (by omega) HP3.out;simp only[Tm.val]at VL;have VL:=hdzz VL;obtain⟨r0,r1,r2,r3,r4,r5,r6,r7,rf⟩:=qen (by have:=HBX3.out;unfold qed at this;exact this);go_wp2_with fail
   refine VL.out.mono ?_;clear VL r0 r1 r2 r3 r4 r5 r6 r7 rf;rintro e w3 ⟨v,its,rfl,hrow,hb3,hits⟩;obtain⟨A1,c1,rfl,hS1⟩:=hrow.toS (P:=fun b=>b<w3.heap.size) (fun _ _ h=>h) (fun _ _ h=>h);have hv1:∀x∈its.map (·.1),x.size≤1000000:=fun x hx=>by
    rw[hits]at hx;have:=all_le _ _ (List.mem_filter.1 ((Tm.mem_set _ _).1 hx)).1;omega
   have hgv:=HGR.out.v;rw[←hits]at hgv;have HGV:=hdzz hgv;have HV1:=hdzz hv1;have HS1:=hdzz hS1;have HB4:=sbtz HB3 hb3;have HBX4:=hdzz ((hb3.block _ hbb3).trans HBX3.out);have HR4:=hdzz (HR3.out.go hb3 hb3.size);have hbb4:bb<w3.heap.size:=Nat.lt_of_lt_of_le hbb3 hb3.size;obtain⟨n1,hn1⟩:∃n,n=its.length:=⟨_,rfl⟩;have hn1l:n1=(its.map (·.1)).length:=by rw[hn1,List.length_map]
   rw[←hn1];obtain⟨L1,hL1⟩:∃L,L=its.map (·.1):=⟨_,rfl⟩;rw[←hL1]at HGV HV1 HS1 hn1l;clear hb3 hrow hits hS1 hv1 hgv HBX3 HP3 HR3 hbb3 HB3 hn1 hL1;have VL:=qj9 r.2 R cr w3 (by omega) HR4.out;simp only[Tm.val]at VL;have VL:=hdzz VL;obtain⟨r0,r1,r2,r3,r4,r5,r6,r7,rf⟩:=qen (by have:=HBX4.out;unfold qed at this;exact this);go_wp2_with fail
   refine VL.out.mono ?_;clear VL r0 r1 r2 r3 r4 r5 r6 r7 rf;rintro e w4 ⟨v,its2,rfl,hrow,hb3,hits⟩;obtain⟨A2,c2,rfl,hS2⟩:=hrow.toS (P:=fun b=>b<w4.heap.size) (fun _ _ h=>h) (fun _ _ h=>h);have hv2:∀x∈its2.map (·.1),x.size≤1000000:=fun x hx=>by
    rw[hits]at hx;have:=all_le _ _ (List.mem_filter.1 ((Tm.mem_set _ _).1 hx)).1;omega
   have hgv:=HGV.out;rw[←hits]at hgv;have HGV:=hdzz hgv;have HV2:=hdzz hv2;have HS2:=hdzz hS2;have HS1:=hdzz (RepS.goV HS1.out hb3 hb3.size);have HB5:=sbtz HB4 hb3;obtain⟨n2,hn2⟩:∃n,n=its2.length:=⟨_,rfl⟩;have hn2l:n2=(its2.map (·.1)).length:=by rw[hn2,List.length_map]
   rw[←hn2];obtain⟨L2,hL2⟩:∃L,L=its2.map (·.1):=⟨_,rfl⟩;rw[←hL2]at HGV HV2 HS2 hn2l;clear hb3 hrow hits hS2 hv2 hgv HBX4 HR4 hbb4 HB4 hn2 hL2;subst hn1l hn2l;obtain⟨wo,hwo⟩:∃x,x=wr:=⟨_,rfl⟩;rw[←hwo]at *;go_wp2_with fail
   go_loopw [42] (fun i wr=>∃q:Nat,q≤L2.length∧i=.int .i64 q∧Hid (Below w.heap.size w wr)∧Hid (Below w4.heap.size w4 wr)) (fun i _=>L2.length - (intOf i).toNat)
   case atStart=>exact⟨0,Nat.zero_le _,rfl,HB5.out,Below.refl _ _⟩
   case round=>
    obtain⟨q,hq,rfl,HBa,HBb⟩:=hrel;have j1:(0:Int)≤(q:Int):=Int.natCast_nonneg _;by_cases hqt:q<L2.length
    ·have j2:(q:Int)<(L2.length:Int):=by omega
     obtain⟨s0,s1,s3⟩:=HS2.out;unfold maxLen at s1;rcases s3 with hnil|⟨sb,so,rfl,hsb,hsl⟩
     ·rw[hnil]at hqt;simp at hqt
     have hsw:=HBb.out.size;obtain⟨A5,c5,t0,t1,t2,t3,hr5⟩:=(RepLP.mono (P':=fun b=>b<w4.heap.size) (fun _ h=>h) (fun p hp=>HBb.out.cell hp) _ _ _ hsb hsl:RepLP wr (fun b=>b<w4.heap.size) L2 sb so).get q hqt;have hsx:=HV2.out L2[q] (List.getElem_mem hqt);have hmx:=HGV.out L2[q] (List.getElem_mem hqt);obtain⟨x,hx⟩:∃x,x=L2[q]:=⟨_,rfl⟩;rw[←hx]at t0 t1 t2 t3 hr5 hsx hmx;obtain⟨X,hX⟩:∃X,X=wr.alloc (.cells #[.int .i64 x.kind,.string x.name,.int .i64 x.sort,.slice A5 x.kids.length c5] 24):=⟨_,rfl⟩;have hbX:Below wr.heap.size wr X:=by rw[hX];exact qab (Nat.le_refl _) _
     have hbx:=heap_alloc_new wr (.cells #[.int .i64 x.kind,.string x.name,.int .i64 x.sort,.slice A5 x.kids.length c5] 24);rw[←hX]at hbx;have hsX:=hbX.size;have HA:=vhas_any L1 A1 c1 x A5 c5 X HV1.out hsx (RepS.goV HS1.out (HBb.out.trans (hbX.mono hsw)) (by omega)) (RepP.mono (fun b (h:b<w4.heap.size)=>by omega) (fun p (hp:p.block<w4.heap.size)=>hbX.cell (by omega)) _ _ _ hr5);rw[hmx]at HA;simp only[Tm.val]at HA;have HA:=hdzz HA;obtain⟨x0,x1,x2,x3,xf⟩:=qaa hbx;rw[hX]at x0 x1 x2 x3 xf;have HX:=hdzz hX;have HB6:=sbtz HBa hbX;have HB7:=hdzz (HBb.out.trans (hbX.mono hsw));clear hX hbX hbx hr5 hsl hmx hx;go_wp2_with fail
     rw[←HX.out];refine HA.out.mono ?_;clear HA;rintro e w6 ⟨rfl,hl6⟩;have HB8:=sbtz HB6 hl6.below;have HB9:=sbtz HB7 hl6.below;go_wp2_with fail
     go_roundw
     case rel=>exact⟨q+1,by omega,by go_num,HB8.out,HB9.out⟩
     case measure=>simp[intOf];omega
    ·have hqe:q=L2.length:=by omega
     subst hqe;go_wp2_with fail
     go_roundw
     case rel=>exact⟨k+1,by omega,by go_num,HBa.out⟩
     case measure=>simp[intOf];omega
  ·have hke:k=rs.length:=by omega
   subst hke;go_wp2_with fail
   go_ret
   exact⟨rfl,HB.out⟩
def qix (rs:List Bd) (t:Tm):Prop:=∀u∈t.all,∀r∈rs,decide ((qb5 r.1 u).2=0)=false
theorem qix.kid {rs:List Bd} {t k:Tm} (h:qix rs t) (hk:k∈t.kids):qix rs k:=by
 obtain⟨k0,n,s,l⟩:=t;refine fun u hu r hr=>h u ?_ r hr;rw[Tm.all];refine List.mem_cons_of_mem _ ?_;have:∀l:List Tm,k∈l→u∈Tm.alls l:=by
  intro l
  induction l with
  | nil=>intro h;cases h
  | cons a r ih=>
   intro h;rw[Tm.alls];rcases List.mem_cons.1 h with rfl|h
   ·exact List.mem_append_left _ hu
   ·exact List.mem_append_right _ (ih h)
 exact this l hk
theorem qix.self {rs:List Bd} {t:Tm} (h:qix rs t):∀r∈rs,decide ((qb5 r.1 t).2=0)=false:=h t (by obtain⟨k,n,s,l⟩:=t;rw[Tm.all];exact List.mem_cons_self ..)
structure FsAt (w:World) (t:Tm) (A:Option Addr) (c:Nat) (W:World):Prop where
 b3:W.heap[w.heap.size]?=some (qal t A c)
 b4:W.heap[w.heap.size+1]?=some (.cells #[.int .i64 0,.slice none 0 0] 66 (0,0))
 lt:w.heap.size+1<W.heap.size
 bel:Below w.heap.size w W
theorem FsAt.go {w W Z:World} {t:Tm} {A:Option Addr} {c:Nat} (h:FsAt w t A c W) (hb:Below W.heap.size W Z):FsAt w t A c Z:=by
 have h1:=h.lt;have h2:=hb.size;exact⟨(hb.block _ (by omega)).trans h.b3,(hb.block _ (by omega)).trans h.b4,by omega,h.bel.trans (hb.mono (by omega))⟩
theorem qf1 {W:World} {B:Nat} {a b:Value} {T:TypeId} (h:W.heap[B]?=some (.cells #[a,b] T (0,0))):W.cell? ⟨B,0,none⟩=some a∧W.cell? ⟨B,1,none⟩=some b∧∀o,W.frozen? ⟨B,o,none⟩=false:=by
 refine⟨?_,?_,fun o=>?_⟩<;>simp[World.cell?,World.frozen?,h]
theorem put2_box {W:World} {B:Nat} {a b x y:Value} {T:TypeId} (h:W.heap[B]?=some (.cells #[x,y] T (0,0))) :
  ∃Z,Z=((W.setCell ⟨B,0,none⟩ a).setCell ⟨B,1,none⟩ b)∧Z.heap[B]?=some (.cells #[a,b] T (0,0))∧Below B W Z∧Z.heap.size=W.heap.size:=by
 refine⟨_,rfl,?_,?_,by simp[World.setCell]⟩
 ·simp[World.setCell,Array.getElem?_modify,h]
 ·iterate 2 refine Below.setCell ?_ (by exact Nat.le_refl _) _
  exact Below.refl _ _
theorem qpf (n:Nat):∀(rs:List Bd) (RA:Option Addr) (rc:Nat) (t:Tm) (A:Option Addr) (c:Nat) (w:World),t.size≤n→n≤1000000→SizeB rs→qix rs t→RepB w (fun b=>b<w.heap.size) rs RA rc→RepT w w.heap.size t A c→
  Calls Tryz.prog 70 #[.slice RA rs.length rc,t.val A c] w fun e w'=>e=.returned (.tuple #[.agg #[.int .i64 0,.slice none 0 0],.bool false])∧Below w.heap.size w w':=by
 induction n with
 | zero=>intro _ _ _ t _ _ _ h;have:=t.size_pos;omega
 | succ n ih=>
  intro rs RA rc t A c w hn hN hsz hno hrs hrep;obtain⟨V,hV⟩:∃V,V=(w.alloc (qal t A c)).alloc (.cells #[.int .i64 0,.slice none 0 0] 66):=⟨_,rfl⟩;have s1:(w.alloc (qal t A c)).heap.size=w.heap.size+1:=by simp
  have s2:V.heap.size=w.heap.size+1+1:=by rw[hV];simp
  have hAt:FsAt w t A c V:=by
   refine⟨?_,?_,by omega,by rw[hV];exact((Below.refl _ _).alloc (Nat.le_refl _) _).alloc (by simp) _⟩
   ·rw[hV,Below.heap_alloc _ _ _ (by omega)];exact heap_alloc_new w _
   ·rw[hV,←s1];exact heap_alloc_new _ _
  have hkids:∀k∈t.kids,k.size≤n:=fun k hk=>by have:=qdm hk;omega
  have hrep0:=hrep;have hlt:t.kids.length≤1000000:=by obtain⟨tk,tn,ts,tl⟩:=t;have:=Tm.length_le_sizes tl;rw[Tm.size]at hn;show tl.length≤_;omega
  have hkr:RepS w (fun b=>b<w.heap.size) t.kids A c:=by obtain⟨tk,tn,ts,tl⟩:=t;rw[qbe]at hrep;exact hrep.2
  obtain⟨q0,q1,q3⟩:=hkr;obtain⟨p0,p1,p3⟩:=id hrs;unfold maxLen at p1;have HAT:=hdzz hAt;have HV:=hdzz hV;have HREP:=hdzz hrep0;have HRS:=hdzz hrs;have HNO:=hdzz hno;have HSZ:=hdzz hsz;have HK:=hdzz hkids;have IH:=hdzz ih;clear hV hAt hrep hrep0 hrs hno hsz hkids ih s1 s2;simp only[qal]at HV;obtain⟨x0,x1,x2,x3,xf⟩:=qaa HAT.out.b3;simp only[Tm.val];go_enter Tryz.func70,Tryz.ntmps70
  go_upto_region 1 with fail
  rw[←HV.out];clear HV;go_wp2_with fail
  clear x0 x1 x2 x3 xf;go_loopw [15] (fun i wr=>∃k:Nat,k≤t.kids.length∧i=.int .i64 k∧Hid (FsAt w t A c wr)) (fun i _=>t.kids.length - (intOf i).toNat)
  case atStart=>exact⟨0,Nat.zero_le _,rfl,HAT⟩
  case round=>
   obtain⟨k,hk,rfl,HM⟩:=hrel;have i1:(0:Int)≤(k:Int):=Int.natCast_nonneg _;by_cases hlt2:k<t.kids.length
   ·have i2:(k:Int)<(t.kids.length:Int):=by omega
    rcases q3 with hnil|⟨b,off,rfl,hbB,hl⟩
    ·rw[hnil]at hlt2;simp at hlt2
    have hss:=HM.out.bel.size;obtain⟨A1,c1,t0,t1,t2,t3,hr1⟩:=(RepLP.mono (P':=fun b=>b<w.heap.size) (fun _ h=>h) (fun p hp=>HM.out.bel.cell hp) _ _ _ hbB hl:RepLP wr (fun b=>b<w.heap.size) t.kids b off).get k hlt2;have hy:=HK.out t.kids[k] (List.getElem_mem hlt2);have hny:=HNO.out.kid (List.getElem_mem hlt2);obtain⟨y,hye⟩:∃y,y=t.kids[k]:=⟨_,rfl⟩;rw[←hye]at t0 t1 t2 t3 hr1 hy hny;obtain⟨X,hX⟩:∃X,X=wr.alloc (.cells #[.int .i64 y.kind,.string y.name,.int .i64 y.sort,.slice A1 y.kids.length c1] 24):=⟨_,rfl⟩;have hbX:Below wr.heap.size wr X:=by rw[hX];exact qab (Nat.le_refl _) _
    have hxX:=heap_alloc_new wr (.cells #[.int .i64 y.kind,.string y.name,.int .i64 y.sort,.slice A1 y.kids.length c1] 24);rw[←hX]at hxX;have HMX:=hdzz (HM.out.go hbX);have hsX:=hbX.size;have FI:=IH.out rs RA rc y A1 c1 X hy (by omega) HSZ.out hny (RepB.mono (fun b (h:b<w.heap.size)=>by omega) (fun p (hp:p.block<w.heap.size)=>HMX.out.bel.cell hp) HRS.out) (RepP.mono (fun b (h:b<w.heap.size)=>by omega) (fun p (hp:p.block<w.heap.size)=>hbX.cell (by omega)) _ _ _ hr1);simp only[Tm.val]at FI;have FI:=hdzz FI;have HX:=hdzz hX;obtain⟨y0,y1,y2,y3,yf⟩:=qaa hxX;clear hX hbX hxX hr1 hl hy hny hye;go_upto_region 4 with fail
    rw[←HX.out];clear HX t0 t1 t2 t3;go_wp2_with fail
    refine FI.out.mono ?_;clear FI y0 y1 y2 y3 yf;rintro e w2 ⟨rfl,hb2⟩;have HM2:=hdzz (HMX.out.go hb2);clear HMX hb2;obtain⟨Y,hY⟩:∃Y,Y=w2.alloc (.cells #[.int .i64 0,.slice none 0 0] 66):=⟨_,rfl⟩;have HM3:=hdzz (HM2.out.go (Z:=Y) (by rw[hY];exact qab (Nat.le_refl _) _));have HY:=hdzz hY;clear hY HM2;go_wp2_with fail
    go_roundw
    case rel=>exact⟨k+1,by omega,by go_num,by rw[←HY.out];exact HM3.out⟩
    case measure=>simp[intOf];omega
   ·have hke:k=t.kids.length:=by omega
    subst hke;generalize wr=wo at *;go_wp2_with fail
    go_loopw [37] (fun i wr=>∃q:Nat,q≤rs.length∧i=.int .i64 q∧Hid (FsAt w t A c wr)) (fun i _=>rs.length - (intOf i).toNat)
    case atStart=>exact⟨0,Nat.zero_le _,rfl,HM⟩
    case round=>
     obtain⟨q,hq,rfl,HMq⟩:=hrel;have j1:(0:Int)≤(q:Int):=Int.natCast_nonneg _;by_cases hqt:q<rs.length
     ·have j2:(q:Int)<(rs.length:Int):=by omega
      rcases p3 with hnil|⟨b,off,rfl,hbB,hl⟩
      ·rw[hnil]at hqt;simp at hqt
      have hss:=HMq.out.bel.size;obtain⟨P,cp,R,cr,t8⟩:=(RepLP.mono (P':=fun b=>b<w.heap.size) (fun _ h=>h) (fun p hp=>HMq.out.bel.cell hp) _ _ _ hbB hl:RepLP wr (fun b=>b<w.heap.size) (flat rs) b off).get8 q hqt;have hsr:=HSZ.out rs[q] (List.getElem_mem hqt);have hnf:=HNO.out.self rs[q] (List.getElem_mem hqt);obtain⟨r,hr⟩:∃r,r=rs[q]:=⟨_,rfl⟩;rw[←hr]at t8 hsr hnf;obtain⟨t0,t1,t2,t3,t4,t5,t6,t7,rp,rr⟩:=t8;obtain⟨X,hX⟩:∃X,X=wr.alloc (qed r.1 r.2 P R cp cr):=⟨_,rfl⟩;obtain⟨hbx,hbX,hsX⟩:=qkg hX;have HMX:=hdzz (HMq.out.go hbX);have FT:=qlg r.1 r.2 t P R A cp cr c X hsr.1 (by omega) (RepP.mono (fun b (h:b<w.heap.size)=>by omega) (fun p (hp:p.block<w.heap.size)=>hbX.cell (by omega)) _ _ _ rp) (HREP.out.go HMX.out.bel HMX.out.bel.size);rw[hnf]at FT;simp only[Tm.val,ruleV]at FT
      have FT:=hdzz FT;have HX:=hdzz hX;simp only[qed]at HX;obtain⟨r0,r1,r2,r3,r4,r5,r6,r7,rf⟩:=qen (by unfold qed at hbx;exact hbx);obtain⟨x0,x1,x2,x3,xf⟩:=qaa HMX.out.b3;clear hX hbX hbx rp rr hl hnf hr;go_upto_region 12 with fail
      rw[←HX.out];clear HX t0 t1 t2 t3 t4 t5 t6 t7;go_wp2_with fail
      refine FT.out.mono ?_;clear FT r0 r1 r2 r3 r4 r5 r6 r7 rf x0 x1 x2 x3 xf;rintro e w2 ⟨rfl,hb2⟩;have HM2:=hdzz (HMX.out.go hb2);clear hb2 HMX;go_wp2_with fail
      go_roundw
      case rel=>exact⟨q+1,by omega,by go_num,HM2.out⟩
      case measure=>simp[intOf];omega
     ·have hqe:q=rs.length:=by omega
      subst hqe;obtain⟨z0,z1,zf⟩:=qf1 HMq.out.b4;go_wp2_with fail
      obtain⟨Z,hZ,hxZ,hbZ,hsZ⟩:=put2_box (W:=wr) (B:=w.heap.size+1) (a:=.int .i64 0) (b:=.slice none 0 0) HMq.out.b4;rw[←hZ];clear z0 z1 zf;obtain⟨z0,z1,zf⟩:=qf1 hxZ;refine bodyPost_ret (v:=.tuple #[.agg #[.int .i64 0,.slice none 0 0],.bool false]) ?_ rfl ?_
      ·simp[results,Tryz.results70,go_sem,z0,z1]
      exact⟨rfl,HMq.out.bel.trans (hbZ.mono (by omega))⟩
theorem qj8 (rs:List Bd) (RA:Option Addr) (rc:Nat) (t:Tm) (A:Option Addr) (c:Nat) (w:World) (h40:rs.length≤40) (hg:∀r∈rs,GoodR r) (hv:t.valid=0) (hno:qix rs t) (hrs:RepB w (fun b=>b<w.heap.size) rs RA rc) (hrep:RepT w w.heap.size t A c) :
  Calls Tryz.prog 32 #[.slice RA rs.length rc,t.val A c] w fun e w'=>e=.returned (.bool true)∧Below w.heap.size w w':=by
 have hts:=qai hv;have hsz:SizeB rs:=fun r hr=>by
  have h1:=qai (hg r hr).l;have h2:=qai (hg r hr).r;exact⟨by omega,by omega⟩
 obtain⟨V,hV⟩:∃V,V=w.alloc (qal t A c):=⟨_,rfl⟩;have h2:OneT w t A c V:=by rw[hV];exact OneT.new w t A c
 have VV:=hdzz (qgy rs RA rc V h40 hg (RepB.mono (fun b (h:b<w.heap.size)=>Nat.lt_of_lt_of_le h h2.lay.size) (fun p hp=>h2.lay.below.cell hp) hrs));have HRS:=hdzz hrs;have HREP:=hdzz hrep;have H2:=hdzz h2;have HV:=hdzz hV;have HVT:=hdzz hv;have HNO:=hdzz hno;clear hV h2 hrs hrep hg hv hno;simp only[qal]at HV;simp only[Tm.val];go_enter Tryz.func32,Tryz.ntmps32
 go_wp2_with fail
 rw[←HV.out];clear HV;refine VV.out.mono ?_;clear VV;rintro e w1 ⟨rfl,hb1⟩;have hlt:=H2.out.lt;have hB1:=H2.out.lay.below.trans (hb1.mono H2.out.lay.size);have hx1:=(hb1.block _ hlt).trans H2.out.one;have HB1:=hdzz hB1;have HX1:=hdzz hx1;have hs1:=hb1.size;have VL:=qax t A c w1 (by omega) (HREP.out.go hB1 hB1.size);rw[HVT.out]at VL;simp only[Tm.val]at VL;have VL:=hdzz VL;obtain⟨x0,x1,x2,x3,xf⟩:=qaa hx1;clear hb1 hB1 hx1 H2;go_wp2_with fail
 refine VL.out.mono ?_;clear VL x0 x1 x2 x3 xf;rintro e w2 ⟨rfl,hl2⟩;have hB2:=HB1.out.trans (hl2.below.mono HB1.out.size);have hx2:=(hl2.below.block _ (by omega)).trans HX1.out;have FI:=qpf 1000000 rs RA rc t A c w2 (by omega) (Nat.le_refl _) hsz HNO.out (RepB.mono (fun b (h:b<w.heap.size)=>Nat.lt_of_lt_of_le h hB2.size) (fun p hp=>hB2.cell hp) HRS.out) (HREP.out.go hB2 hB2.size);simp only[Tm.val]at FI;have FI:=hdzz FI;have HB2:=hdzz hB2;obtain⟨x0,x1,x2,x3,xf⟩:=qaa hx2;clear hl2 hB2 hx2 HB1 HX1;go_wp2_with fail
 refine FI.out.mono ?_;clear FI x0 x1 x2 x3 xf;rintro e w3 ⟨rfl,hb3⟩;have HB3:=sbtz HB2 hb3;clear hb3;go_wp2_with fail
 go_ret
 exact⟨rfl,HB3.out.trans ((qab (Nat.le_refl _) _).mono HB3.out.size)⟩
end Go.Proofs.YtjhjoiplpmjepaaGreat
namespace Go.Proofs.YtjhjoiplpmjepaaGreat
open Go.RowKit
theorem RepP.drewN {w:World} {P:Nat→Prop} {u:Tm} {A:Option Addr} {c:Nat} (h:RepP w P u A c) (n:Nat):RepP (w.drewN n) P u A c:=
 RepP.mono (w:=w) (w':=w.drewN n) (fun _ h=>h) (fun _ _=>rfl) _ _ _ h
structure AtRelP (P:Nat→Prop) (w:World) (u:Tm) (A:Option Addr) (c:Nat) (wr:World):Prop where
 box:wr.heap[w.heap.size]?=some (qal u A c)
 out:wr.heap[w.heap.size+1]?=some (qal (.mk 0 ⟨#[]⟩ 0 []) none 0)
 rep:RepP wr P u A c
 below:Below w.heap.size w wr
 le:∀b,P b→b<w.heap.size
theorem AtRelP.set {P:Nat→Prop} {w wr:World} {u v:Tm} {A A':Option Addr} {c c':Nat} (h:AtRelP P w u A c wr) (hr:RepP wr P v A' c') :
  AtRelP P w v A' c' ((((wr.setCell ⟨w.heap.size,0,none⟩ (.int .i64 v.kind)).setCell ⟨w.heap.size,1,none⟩ (.string v.name)).setCell ⟨w.heap.size,2,none⟩ (.int .i64 v.sort)).setCell ⟨w.heap.size,3,none⟩ (.slice A' v.kids.length c')):=
 have hb:Below w.heap.size wr ((((wr.setCell ⟨w.heap.size,0,none⟩ (.int .i64 v.kind)).setCell ⟨w.heap.size,1,none⟩ (.string v.name)).setCell ⟨w.heap.size,2,none⟩ (.int .i64 v.sort)).setCell ⟨w.heap.size,3,none⟩ (.slice A' v.kids.length c')):=qcc (Below.refl w.heap.size wr) (Nat.le_refl _)
 ⟨qim h.box,by rw[qbk (by omega)];exact h.out,RepP.mono (fun _ h=>h) (fun q hq=>hb.cell (h.le _ hq)) _ _ _ hr,h.below.trans hb,h.le⟩
theorem AtRelP.start {P:Nat→Prop} {w:World} {t:Tm} {A:Option Addr} {c:Nat} (hP:∀b,P b→b<w.heap.size) (h:RepP w P t A c):AtRelP P w t A c ((w.alloc (qal t A c)).alloc (qal (.mk 0 ⟨#[]⟩ 0 []) none 0)):=by
 have hb1:Below w.heap.size w (w.alloc (qal t A c)):=qab (Nat.le_refl _) _;have hb2:Below w.heap.size w ((w.alloc (qal t A c)).alloc (qal (.mk 0 ⟨#[]⟩ 0 []) none 0)):=hb1.alloc (by simp) _;refine⟨?_,?_,RepP.mono (fun _ h=>h) (fun q hq=>hb2.cell (hP _ hq)) _ _ _ h,hb2,hP⟩
 ·rw[Below.heap_alloc _ _ _ (by simp)];exact heap_alloc_new _ _
 ·have:=heap_alloc_new (w.alloc (qal t A c)) (qal (.mk 0 ⟨#[]⟩ 0 []) none 0)
  rwa[World.size_alloc]at this
theorem AtRelP.drewN {P:Nat→Prop} {w wr:World} {u:Tm} {A:Option Addr} {c:Nat} (h:AtRelP P w u A c wr) (n:Nat):AtRelP P w u A c (wr.drewN n):=
 ⟨h.box,h.out,h.rep.drewN n,h.below.trans ((Lay.refl _ _).drewN n).below,h.le⟩
end Go.Proofs.YtjhjoiplpmjepaaGreat
