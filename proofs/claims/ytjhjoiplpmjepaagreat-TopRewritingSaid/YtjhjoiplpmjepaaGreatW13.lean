/- Tnf, Texp0, Tbend, Tfine, Tcol, Tof, Tmul (joined by shake.py). -/
import Derived.Test.YtjhjoiplpmjepaaGreatW0
import Derived.Test.YtjhjoiplpmjepaaGreatW11
import Derived.Test.YtjhjoiplpmjepaaGreatW12
set_option maxRecDepth 100000
set_option linter.unusedVariables false
set_option linter.unusedSimpArgs false
set_option maxHeartbeats 16000000
namespace Go.Proofs.YtjhjoiplpmjepaaGreat
def qbd:ByteArray:=⟨#[112,97,105,114]⟩
def nEnc:ByteArray:=⟨#[101,110,99]⟩
def qcf:ByteArray:=⟨#[97,101,110,99]⟩
def nPk:ByteArray:=⟨#[112,107]⟩
def qa7:ByteArray:=⟨#[115,105,103,110]⟩
def nExp:ByteArray:=⟨#[101,120,112]⟩
def nFst:ByteArray:=⟨#[102,115,116]⟩
def nSnd:ByteArray:=⟨#[115,110,100]⟩
def nDec:ByteArray:=⟨#[100,101,99]⟩
def qbi:ByteArray:=⟨#[97,100,101,99]⟩
def qbh:ByteArray:=⟨#[111,112,101,110]⟩
def qb4:ByteArray:=⟨#[114,101,97,100]⟩
def Tm.isA (t:Tm) (n:ByteArray):Prop:=t.kind=3∧t.name=n
instance (t:Tm) (n:ByteArray):Decidable (t.isA n):=by unfold Tm.isA;infer_instance
def kidT (l:List Tm) (i:Nat):Tm:=(l[i]?).getD (.mk 0 .empty 0 [])
def fitD (n:ByteArray) (l:List Tm):Prop:=
 n=nFst∧(kidT l 0).isA qbd∨n=nSnd∧(kidT l 0).isA qbd
 ∨n=nDec∧(kidT l 0).isA nEnc∧kidT (kidT l 0).kids 1=kidT l 1
 ∨n=qbi∧(kidT l 0).isA qcf∧(kidT (kidT l 0).kids 1).isA nPk∧kidT (kidT (kidT l 0).kids 1).kids 0=kidT l 1
 ∨n=qbh∧(kidT l 0).isA qa7∧(kidT l 1).isA nPk∧kidT (kidT l 0).kids 1=kidT (kidT l 1).kids 0
 ∨n=qb4∧(kidT l 0).isA qa7
instance (n:ByteArray) (l:List Tm):Decidable (fitD n l):=by unfold fitD;infer_instance
def qas (n:ByteArray) (l:List Tm):Tm:=if fitD n l then kidT (kidT l 0).kids (if n=nSnd then 1 else 0)else .mk 3 n 0 l
def Tm.baseE (t:Tm):Tm:=if t.isA nExp then kidT t.kids 0 else t
def Tm.expoE (t:Tm):List (Tm×Int):=if t.isA nExp then ofT (kidT t.kids 1)else []
def mkE (b:Tm) (p:List (Tm×Int)):Tm:=if p=[]then b else .mk 3 nExp 0 [b,prodT p]
def qbp (b e:Tm):Tm:=mkE b.baseE (mulP b.expoE (ofT e))
def desN (n:ByteArray):Prop:=n=nFst∨n=nSnd∨n=nDec∨n=qbi∨n=qbh∨n=qb4
instance (n:ByteArray):Decidable (desN n):=by unfold desN;infer_instance
def symN (n:ByteArray):Prop:=n=nMul∨n=nInv∨n=nOne
instance (n:ByteArray):Decidable (symN n):=by unfold symN;infer_instance
def nodeF (n:ByteArray) (l:List Tm):Tm:=
 if desN n then qas n l else if n=nXor then xorT (Tm.sumds l [])else if symN n then prodT (ofT (.mk 3 n 0 l))else if n=nExp then qbp (kidT l 0) (kidT l 1)else .mk 3 n 0 l
mutual
def Tm.nf:Tm→Tm
 | .mk k n s l=>if k=3 then nodeF n (Tm.nfs l)else .mk k n s l
def Tm.nfs:List Tm→List Tm
 | []=>[]
 | t::r=>Tm.nf t::Tm.nfs r
end
mutual
def NF:Tm→Prop
 | .mk k n s l=>k=3→NFs l∧nodeF n l=.mk 3 n s l
def NFs:List Tm→Prop
 | []=>True
 | t::r=>NF t∧NFs r
end
theorem qeq:∀{l:List Tm},NFs l↔∀t∈l,NF t
 | []=>by rw[NFs];simp
 | t::r=>by rw[NFs,qeq (l:=r)];simp
theorem qco:∀l:List Tm,Tm.nfs l=l.map Tm.nf
 | []=>rfl
 | t::r=>by rw[Tm.nfs,List.map_cons,qco r]
mutual
theorem NF.self:∀{t:Tm},NF t→t.nf=t
 | .mk k n s l,h=>by
  rw[Tm.nf]
  split
  ·rename_i hk
   subst hk;rw[NF]at h;obtain⟨h1,h2⟩:=h rfl;rw[NFs.self h1,h2]
  ·rfl
theorem NFs.self:∀{l:List Tm},NFs l→Tm.nfs l=l
 | [],_=>rfl
 | t::r,h=>by rw[NFs]at h;rw[Tm.nfs,h.1.self,NFs.self h.2]
end
theorem qnn {n:ByteArray} (h:n=nXor∨n=qdv∨n=nMul∨n=nInv∨n=nOne∨n=nExp):¬desN n:=by
 rcases h with h|h|h|h|h|h<;>subst h<;>decide
theorem qbn (l:List Tm):nodeF nXor l=xorT (Tm.sumds l []):=by rw[nodeF,if_neg (by decide),if_pos rfl]
theorem qa9 {n:ByteArray} (h:symN n) (l:List Tm):nodeF n l=prodT (ofT (.mk 3 n 0 l)):=by
 rw[nodeF,if_neg,if_neg,if_pos h]<;>rcases h with h|h|h<;>subst h<;>decide
theorem qb2 (l:List Tm):nodeF nExp l=qbp (kidT l 0) (kidT l 1):=by rw[nodeF,if_neg (by decide),if_neg (by decide),if_neg (by decide),if_pos rfl]
theorem qa0 {n:ByteArray} (h:desN n) (l:List Tm):nodeF n l=qas n l:=by rw[nodeF,if_pos h]
theorem qba {n:ByteArray} (h1:¬desN n) (h2:n≠nXor) (h3:¬symN n) (h4:n≠nExp) (l:List Tm):nodeF n l=.mk 3 n 0 l:=by
 rw[nodeF,if_neg h1,if_neg h2,if_neg h3,if_neg h4]
theorem NF.kids {t:Tm} (h:NF t) (hk:t.kind=3):∀k∈t.kids,NF k:=by
 obtain⟨k,n,s,l⟩:=t;rw[NF]at h;exact qeq.1 (h hk).1
theorem NF.node {t:Tm} (h:NF t) (hk:t.kind=3):nodeF t.name t.kids=t:=by
 obtain⟨k,n,s,l⟩:=t;rw[NF]at h;have hk':k=3:=hk;subst hk';exact(h rfl).2
theorem NF.zero:NF (.mk 3 qdv 0 []):=by
 rw[NF];exact fun _=>⟨by rw[NFs];trivial,qba (by decide) (by decide) (by decide) (by decide) []⟩
theorem NF.kid {t:Tm} (h:NF t) (hk:t.kind=3) (i:Nat):NF (kidT t.kids i):=by
 unfold kidT
 cases he:t.kids[i]? with
 | none=>show NF (.mk 0 .empty 0 []);rw[NF];exact fun h=>absurd h (by decide)
 | some x=>exact h.kids hk x (List.mem_of_getElem? he)
theorem NF.kidl {l:List Tm} (h:∀t∈l,NF t) (i:Nat):NF (kidT l i):=by
 unfold kidT
 cases he:l[i]? with
 | none=>show NF (.mk 0 .empty 0 []);rw[NF];exact fun h=>absurd h (by decide)
 | some x=>exact h x (List.mem_of_getElem? he)
mutual
theorem NF.sumd:∀{t:Tm},NF t→∀p∈t.sumd,NF p
 | .mk k n s l,h,p,hp=>by
  rw[Tm.sumd]at hp
  split at hp
  ·cases hp
  ·split at hp
   ·rename_i hx
    rw[NF]at h;exact NFs.sumds l [] (h hx.1).1 (by simp) p hp
   ·rw[List.mem_singleton.1 hp];exact h
theorem NFs.sumds:∀(l a:List Tm),NFs l→(∀p∈a,NF p)→∀p∈Tm.sumds l a,NF p
 | [],_,_,ha,p,hp=>ha p hp
 | t::r,a,hl,ha,p,hp=>by
  rw[NFs]at hl;refine NFs.sumds r _ hl.2 (fun q hq=>?_) p hp;rcases (qd7 t.sumd a q (qct (qc7 t))).1 hq with⟨h1,-⟩|⟨-,h2⟩
  ·exact ha q h1
  ·exact hl.1.sumd q h2
end
theorem NF.xorT {L:List Tm} (ha:Asc L) (hs:∀p∈L,p.sumd=[p]) (h:∀p∈L,NF p):NF (xorT L):=by
 match L,ha,hs,h with
 | [],_,_,_=>exact NF.zero
 | [p],_,_,h=>exact h p (List.mem_cons_self ..)
 | a::b::r,ha,hs,h=>
  show NF (.mk 3 nXor 0 (a::b::r));rw[NF];refine fun _=>⟨qeq.2 h,?_⟩;rw[qbn,qh3 ha hs];rfl
theorem NF.sum {t:Tm} (h:NF t):Go.Proofs.YtjhjoiplpmjepaaGreat.xorT t.sumd=t:=by
 obtain⟨k,n,s,l⟩:=t;rw[NF]at h;rw[Tm.sumd]
 split
 ·rename_i hz
  obtain⟨rfl,rfl,rfl⟩:=hz;have h2:=(h rfl).2;rw[qba (by decide) (by decide) (by decide) (by decide)]at h2;exact h2
 ·split
  ·rename_i hx
   obtain⟨rfl,rfl⟩:=hx;have h2:=(h rfl).2;rw[qbn]at h2;exact h2
  ·rfl
mutual
theorem NF.facs:∀{t:Tm},NF t→AllF NF t
 | .mk k n s l,h=>by
  rw[AllF]
  split
  ·rename_i hs
   rw[NF]at h;exact NFs.facs (h hs.1).1
  ·exact h
theorem NFs.facs:∀{l:List Tm},NFs l→AllFs NF l
 | [],_=>by rw[AllFs];trivial
 | t::r,h=>by rw[NFs]at h;rw[AllFs];exact⟨h.1.facs,NFs.facs h.2⟩
end
theorem NF.ofT {t:Tm} (h:NF t):∀p∈Go.Proofs.YtjhjoiplpmjepaaGreat.ofT t,NF p.1:=qfd h.facs
theorem sym_mk {n:ByteArray} {l:List Tm} {s:Int}:(Tm.mk 3 n s l).sym↔symN n:=⟨fun h=>h.2,fun h=>⟨rfl,h⟩⟩
theorem NF.prod {t:Tm} (h:NF t):prodT (Go.Proofs.YtjhjoiplpmjepaaGreat.ofT t)=t:=by
 by_cases hs:t.sym
 ·obtain⟨k,n,s,l⟩:=t;have hk:k=3:=hs.1;subst hk;have h2:=h.node rfl;have h2:nodeF n l=.mk 3 n s l:=h2;rw[qa9 (n:=n) hs.2]at h2;have e:Go.Proofs.YtjhjoiplpmjepaaGreat.ofT (.mk 3 n s l)=Go.Proofs.YtjhjoiplpmjepaaGreat.ofT (.mk 3 n 0 l):=qkk fun x=>by
   rw[qdz,qdz,if_pos (sym_mk (n:=n).2 hs.2),if_pos (sym_mk (n:=n).2 hs.2)]
  rw[e,h2]
 ·rw[ofT_leaf hs,qp4]
theorem NF.inv {t:Tm} (h:NF t) (hs:¬t.sym):NF (.mk 3 nInv 0 [t]):=by
 rw[NF];refine fun _=>⟨by rw[NFs,NFs];exact⟨h,trivial⟩,?_⟩;rw[qa9 (.inr (.inl rfl)),ofT_inv hs,ql2]
theorem NF.prodT {l:List (Tm×Int)} (hg:qbv l) (hs:∀p∈l,¬p.1.sym) (h:∀p∈l,NF p.1):NF (prodT l):=by
 have ho:=qgg hg hs;have hm:∀t∈posP l++negP l,NF t:=by
  intro t ht;rcases List.mem_append.1 ht with ht|ht
  ·obtain⟨p,hp,ht⟩:=List.mem_flatMap.1 ht;rw[List.eq_of_mem_replicate ht];exact h p hp
  ·obtain⟨p,hp,ht⟩:=List.mem_flatMap.1 ht;rw[List.eq_of_mem_replicate ht];exact(h p hp).inv (hs p hp)
 unfold Go.Proofs.YtjhjoiplpmjepaaGreat.prodT at ho ⊢
 match hL:posP l++negP l,hm with
 | [],_=>
  rw[hL]at ho;show NF (.mk 3 nOne 0 []);rw[NF];refine fun _=>⟨by rw[NFs];trivial,?_⟩;rw[qa9 (.inr (.inr rfl)),qnm];rfl
 | [t],hm=>exact hm t (List.mem_cons_self ..)
 | a::b::r,hm=>
  rw[hL]at ho;show NF (.mk 3 nMul 0 (a::b::r));rw[NF];refine fun _=>⟨qeq.2 hm,?_⟩;have ho:Go.Proofs.YtjhjoiplpmjepaaGreat.ofT (.mk 3 nMul 0 (a::b::r))=l:=ho;rw[qa9 (.inl rfl),ho,Go.Proofs.YtjhjoiplpmjepaaGreat.prodT,hL];rfl
def Okp (p:List (Tm×Int)):Prop:=qbv p∧∀q∈p,¬q.1.sym
theorem Okp.ofT (t:Tm):Okp (Go.Proofs.YtjhjoiplpmjepaaGreat.ofT t):=⟨qfe t,qon t⟩
theorem Okp.nil:Okp []:=⟨qbv.nil,by simp⟩
theorem Okp.mul {a b:List (Tm×Int)} (ha:Okp a) (hb:Okp b):Okp (mulP a b):=⟨qhv b ha.1 hb.1.2,qhu (Q:=fun x=>¬x.sym) b a ha.2 hb.2⟩
theorem Okp.expo (t:Tm):Okp t.expoE:=by
 unfold Tm.expoE
 split
 ·exact Okp.ofT _
 ·exact Okp.nil
theorem qk6 {b:Tm} {p:List (Tm×Int)} (h:¬b.isA nExp):(mkE b p).baseE=b:=by
 unfold mkE;split
 ·rw[Tm.baseE,if_neg h]
 ·rw[Tm.baseE,if_pos ⟨rfl,rfl⟩];rfl
theorem qky {b:Tm} {p:List (Tm×Int)} (h:¬b.isA nExp) (hp:Okp p):(mkE b p).expoE=p:=by
 unfold mkE;split
 ·rename_i h0;rw[Tm.expoE,if_neg h,h0]
 ·rw[Tm.expoE,if_pos ⟨rfl,rfl⟩];exact qgg hp.1 hp.2
theorem qdm {t k:Tm} (h:k∈t.kids):k.size<t.size:=by
 obtain⟨k0,n,s,l⟩:=t;obtain⟨i,hi,e⟩:=List.mem_iff_getElem.1 h;have h1:=Tm.sizes_get l i hi;have h2:l[i]=k:=e;rw[h2]at h1;rw[Tm.size];exact Nat.lt_of_le_of_lt h1 (Nat.lt_add_of_pos_left Nat.one_pos)
theorem qot {l:List Tm} {i:Nat} (h:(kidT l i).kind=3):kidT l i∈l:=by
 unfold kidT at h ⊢
 cases he:l[i]? with
 | none=>rw[he]at h;exact absurd h (by decide)
 | some x=>exact List.mem_of_getElem? he
theorem qg4 {t:Tm} {i:Nat}:(kidT t.kids i).size≤t.size:=by
 unfold kidT
 cases he:t.kids[i]? with
 | none=>exact t.size_pos
 | some x=>exact Nat.le_of_lt (qdm (List.mem_of_getElem? he))
theorem qj2 (t:Tm):t.baseE.size≤t.size:=by
 unfold Tm.baseE;split
 ·exact qg4
 ·exact Nat.le_refl _
theorem NF.base {t:Tm} (h:NF t):¬t.baseE.isA nExp:=by
 unfold Tm.baseE
 split
 ·rename_i hx
  intro hb;obtain⟨k,n,s,l⟩:=t;have hx':=hx;obtain⟨rfl,rfl⟩:k=3∧n=nExp:=hx';have h2:=h.node rfl;have h2:nodeF nExp l=.mk 3 nExp s l:=h2;have hb:(kidT l 0).isA nExp:=hb;rw[qb2,qbp,mkE]at h2;have hm:=qot hb.1;have hsz:(kidT l 0).baseE.size<(Tm.mk 3 nExp s l).size:=Nat.lt_of_le_of_lt (qj2 _) (qdm (t:=.mk 3 nExp s l) hm)
  split at h2
  ·rw[h2]at hsz;omega
  ·injection h2 with _ _ _ h3;have h5:kidT l 0=(kidT l 0).baseE:=by
    have:=congrArg (fun z=>kidT z 0) h3;exact this.symm
   have h7:(kidT l 0).baseE.size<(kidT l 0).size:=by
    have h8:((kidT l 0).baseE).isA nExp:=by rw[←h5];exact hb
    rw[Tm.baseE,if_pos hb]at h8 ⊢;exact qdm (qot h8.1)
   rw[←h5]at h7;omega
 ·assumption
theorem NF.power {t:Tm} (h:NF t):mkE t.baseE t.expoE=t:=by
 by_cases hx:t.isA nExp
 ·obtain⟨k,n,s,l⟩:=t;have hx':=hx;obtain⟨rfl,rfl⟩:k=3∧n=nExp:=hx';have h2:=h.node rfl;have h2:nodeF nExp l=.mk 3 nExp s l:=h2;have hb:=h.base;rw[Tm.baseE,if_pos hx]at hb;have hb:¬(kidT l 0).isA nExp:=hb;rw[qb2,qbp,Tm.baseE,if_neg hb,Tm.expoE,if_neg hb,qkm (qfe _)]at h2;rw[Tm.baseE,if_pos hx,Tm.expoE,if_pos hx];exact h2
 ·rw[Tm.baseE,if_neg hx,Tm.expoE,if_neg hx,mkE,if_pos rfl]
theorem NF.baseN {t:Tm} (h:NF t):NF t.baseE:=by
 unfold Tm.baseE;split
 ·rename_i hx;exact h.kid hx.1 0
 ·exact h
theorem NF.expoN {t:Tm} (h:NF t):∀p∈t.expoE,NF p.1:=by
 unfold Tm.expoE;split
 ·rename_i hx;exact(h.kid hx.1 1).ofT
 ·simp
theorem NF.mkE {b:Tm} {p:List (Tm×Int)} (hb:NF b) (hx:¬b.isA nExp) (hp:Okp p) (hn:∀q∈p,NF q.1):NF (mkE b p):=by
 unfold Go.Proofs.YtjhjoiplpmjepaaGreat.mkE;split
 ·exact hb
 ·rename_i h0
  rw[NF];refine fun _=>⟨by rw[NFs,NFs,NFs];exact⟨hb,NF.prodT hp.1 hp.2 hn,trivial⟩,?_⟩;rw[qb2,qbp];have e0:kidT [b,Go.Proofs.YtjhjoiplpmjepaaGreat.prodT p] 0=b:=rfl;have e1:kidT [b,Go.Proofs.YtjhjoiplpmjepaaGreat.prodT p] 1=Go.Proofs.YtjhjoiplpmjepaaGreat.prodT p:=rfl;rw[e0,e1,Tm.baseE,if_neg hx,Tm.expoE,if_neg hx,qgg hp.1 hp.2,qkm hp.1,Go.Proofs.YtjhjoiplpmjepaaGreat.mkE,if_neg h0]
theorem NF.nodeF {n:ByteArray} {l:List Tm} (h:∀t∈l,NF t):NF (nodeF n l):=by
 by_cases h1:desN n
 ·rw[qa0 h1,qas]
  split
  ·by_cases hk:(kidT l 0).kind=3
   ·exact(NF.kidl h 0).kid hk _
   ·rename_i hf
    exfalso;rcases hf with⟨-,hf⟩|⟨-,hf⟩|⟨-,hf,-⟩|⟨-,hf,-⟩|⟨-,hf,-⟩|⟨-,hf⟩<;>exact hk hf.1
  ·rename_i hf
   rw[NF];refine fun _=>⟨qeq.2 h,?_⟩;rw[qa0 h1,qas,if_neg hf]
 ·by_cases h2:n=nXor
  ·subst h2;rw[qbn];exact NF.xorT (qdb l [] List.Pairwise.nil) (qe9 l [] (by simp)) (NFs.sumds l [] (qeq.2 h) (by simp))
  ·by_cases h3:symN n
   ·rw[qa9 h3];refine NF.prodT (qfe _) (qon _) (qfd ?_);rw[AllF,if_pos (sym_mk.2 h3)];exact NFs.facs (qeq.2 h)
   ·by_cases h4:n=nExp
    ·subst h4;rw[qb2,qbp];have hb:=NF.kidl h 0;have he:=NF.kidl h 1;exact NF.mkE hb.baseN hb.base ((Okp.expo _).mul (Okp.ofT _)) (qhu (Q:=NF) _ _ hb.expoN he.ofT)
    ·rw[qba h1 h2 h3 h4,NF];exact fun _=>⟨qeq.2 h,qba h1 h2 h3 h4 l⟩
mutual
theorem NF.nf:∀t:Tm,NF t.nf
 | .mk k n s l=>by
  rw[Tm.nf]
  split
  ·exact NF.nodeF (qeq.1 (NFs.nfs l))
  ·rename_i hk;rw[NF];exact fun h=>absurd h hk
theorem NFs.nfs:∀l:List Tm,NFs (Tm.nfs l)
 | []=>by rw[Tm.nfs,NFs];trivial
 | t::r=>by rw[Tm.nfs,NFs];exact⟨NF.nf t,NFs.nfs r⟩
end
end Go.Proofs.YtjhjoiplpmjepaaGreat
namespace Go.Proofs.YtjhjoiplpmjepaaGreat
open Go.RowKit Go.Sort
theorem qaz {n c:ByteArray} {L:List UInt8} (h:c.data.toList=L):(n=c)↔(n.toList==L)=true:=by
 rw[beq_iff_eq,ByteArray.toList_eq,←h];exact⟨fun e=>by rw[e],fun e=>ByteArray.ext (Array.toList_inj.1 e)⟩
def symB (k:Int) (n:ByteArray):Bool:=(k==3) && ((n.toList==[109,117,108]) || (n.toList==[105,110,118]) || (n.toList==[111,110,101]))
theorem symB_eq (t:Tm):decide t.sym=symB t.kind t.name:=by
 rw[Bool.eq_iff_iff,decide_eq_true_iff];unfold symB Tm.sym;rw[Bool.and_eq_true,Bool.or_eq_true,Bool.or_eq_true,beq_iff_eq,←qaz (n:=t.name) (c:=nMul) (L:=[109,117,108]) rfl,←qaz (n:=t.name) (c:=nInv) (L:=[105,110,118]) rfl,←qaz (n:=t.name) (c:=nOne) (L:=[111,110,101]) rfl];exact⟨fun⟨h,h2⟩=>⟨h,or_assoc.2 h2⟩,fun⟨h,h2⟩=>⟨h,or_assoc.1 h2⟩⟩
theorem qqf (k a b c:Bool):(k=false)∨(k=true∧a=true)∨(k=true∧a=false∧b=true)∨(k=true∧a=false∧b=false∧c=true)∨(k=true∧a=false∧b=false∧c=false):=by
 cases k<;>cases a<;>cases b<;>cases c<;>simp
theorem qox (t:Tm) (A:Option Addr) (cap:Nat) (w:World):Calls Tryz.prog 168 #[t.val A cap] w fun e w'=>e=.returned (.bool (decide t.sym))∧Lay w.heap.size w w':=by
 obtain⟨V,hV⟩:∃V,V=w.alloc (qal t A cap):=⟨_,rfl⟩;have hbV:Lay w.heap.size w V:=by rw[hV];exact(Lay.refl _ _).alloc (Nat.le_refl _) _
 have hbx:V.heap[w.heap.size]?=some (qal t A cap):=by rw[hV];exact heap_alloc_new _ _
 rw[symB_eq];unfold symB;obtain⟨r0,r1,r2,r3,rf⟩:=qaa hbx;simp only[qal]at hV;simp only[Tm.val];have HV:=hdzz hV;have HBV:=hdzz hbV;clear hV hbV hbx;generalize t.kind=tk at *;generalize t.name=tn at *;generalize hk:(tk==3)=k;generalize h1:(tn.toList==[109,117,108])=q1;generalize h2:(tn.toList==[105,110,118])=q2;generalize h3:(tn.toList==[111,110,101])=q3;rcases qqf k q1 q2 q3 with rfl|⟨rfl,rfl⟩|⟨rfl,rfl,rfl⟩|⟨rfl,rfl,rfl,rfl⟩|⟨rfl,rfl,rfl,rfl⟩
 all_goals
  go_enter Tryz.func168,Tryz.ntmps168
  go_wp2_with fail
  rw[←HV.out];go_wp2_with fail
  go_ret
  exact⟨rfl,HBV.out⟩
theorem isA_eq (t:Tm) (n:ByteArray):decide (t.isA n)=((t.kind==3) && (t.name.toList==n.toList)):=by
 rw[Bool.eq_iff_iff,decide_eq_true_iff];unfold Tm.isA;rw[Bool.and_eq_true,beq_iff_eq,beq_iff_eq];refine⟨fun⟨h,h2⟩=>⟨h,by rw[h2]⟩,fun⟨h,h2⟩=>⟨h,?_⟩⟩;rw[ByteArray.toList_eq,ByteArray.toList_eq]at h2;exact ByteArray.ext (Array.toList_inj.1 h2)
theorem qce (t:Tm) (n:ByteArray) (A:Option Addr) (cap:Nat) (w:World):Calls Tryz.prog 133 #[t.val A cap,.string n] w fun e w'=>e=.returned (.bool (decide (t.isA n)))∧Lay w.heap.size w w':=by
 obtain⟨V,hV⟩:∃V,V=w.alloc (qal t A cap):=⟨_,rfl⟩;have hbV:Lay w.heap.size w V:=by rw[hV];exact(Lay.refl _ _).alloc (Nat.le_refl _) _
 have hbx:V.heap[w.heap.size]?=some (qal t A cap):=by rw[hV];exact heap_alloc_new _ _
 rw[isA_eq];obtain⟨r0,r1,r2,r3,rf⟩:=qaa hbx;simp only[qal]at hV;simp only[Tm.val];have HV:=hdzz hV;have HBV:=hdzz hbV;clear hV hbV hbx;generalize t.kind=tk at *;generalize t.name=tn at *;generalize hk:(tk==3)=k;generalize h1:(tn.toList==n.toList)=q1;cases k
 case' true=>cases q1
 all_goals
  go_enter Tryz.func133,Tryz.ntmps133
  go_wp2_with fail
  rw[←HV.out];go_wp2_with fail
  go_ret
  exact⟨rfl,HBV.out⟩
theorem ris_any (t:Tm) (n:ByteArray) (A:Option Addr) (cap:Nat) (w:World):Calls Tryz.prog 27 #[t.val A cap,.string n] w fun e w'=>e=.returned (.bool (decide (t.isA n)))∧Lay w.heap.size w w':=by
 obtain⟨V,hV⟩:∃V,V=w.alloc (qal t A cap):=⟨_,rfl⟩;have hbV:Lay w.heap.size w V:=by rw[hV];exact(Lay.refl _ _).alloc (Nat.le_refl _) _
 have hbx:V.heap[w.heap.size]?=some (qal t A cap):=by rw[hV];exact heap_alloc_new _ _
 rw[isA_eq];obtain⟨r0,r1,r2,r3,rf⟩:=qaa hbx;simp only[qal]at hV;simp only[Tm.val];have HV:=hdzz hV;have HBV:=hdzz hbV;clear hV hbV hbx;generalize t.kind=tk at *;generalize t.name=tn at *;generalize hk:(tk==3)=k;generalize h1:(tn.toList==n.toList)=q1;cases k
 case' true=>cases q1
 all_goals
  go_enter Tryz.func27,Tryz.ntmps27
  go_wp2_with fail
  rw[←HV.out];go_wp2_with fail
  go_ret
  exact⟨rfl,HBV.out⟩
end Go.Proofs.YtjhjoiplpmjepaaGreat
namespace Go.Proofs.YtjhjoiplpmjepaaGreat
def appT (n:ByteArray) (l:List Tm):Tm:=.mk 3 n 0 l
theorem qbq (n:ByteArray) (l:List Tm):(appT n l).nf=nodeF n (l.map Tm.nf):=by rw[appT,Tm.nf,if_pos rfl,qco]
theorem nf_leaf {t:Tm} (h:t.kind≠3):t.nf=t:=by obtain⟨k,n,s,l⟩:=t;rw[Tm.nf];exact if_neg h
theorem qhx (l:List Tm) (x:Tm):qdz (.mk 3 nMul 0 l) x=qb0 l x:=by rw[qdz,if_pos ⟨rfl,.inl rfl⟩,if_neg (by decide)]
theorem qo0 (x:Tm):qdz (.mk 3 nOne 0 []) x=0:=by rw[qdz,if_pos ⟨rfl,.inr (.inr rfl)⟩,if_neg (by decide),qb0]
theorem coefs_rev (l:List Tm) (x:Tm):qb0 l.reverse x=qb0 l x:=by
 induction l with
 | nil=>rfl
 | cons a r ih=>rw[List.reverse_cons,qde,ih,qb0,qb0,qb0];omega
def qmz (u:Tm):Tm:=
 if u.isA nXor∨u.isA nMul then appT u.name u.kids.reverse
 else if u.isA nExp∧(kidT u.kids 0).isA nExp then appT nExp [appT nExp [kidT (kidT u.kids 0).kids 0,kidT u.kids 1],kidT (kidT u.kids 0).kids 1]
 else u
def bendT (k:Nat) (n u:Tm):Tm:=match k with
 | 0=>appT nXor [u,appT nXor [n,n]]
 | 1=>appT nXor [n,appT nXor [u,n]]
 | 2=>appT nFst [appT qbd [u,n]]
 | 3=>appT nSnd [appT qbd [n,u]]
 | 4=>appT nDec [appT nEnc [u,n],n]
 | 5=>appT qb4 [appT qa7 [u,n]]
 | 6=>appT nExp [u,appT nOne []]
 | 7=>appT qbi [appT qcf [u,appT nPk [n]],n]
 | 8=>appT qbh [appT qa7 [u,n],appT nPk [n]]
 | 9=>appT nExp [appT nExp [u,n],appT nInv [n]]
 | 10=>appT nMul [u,appT nMul [n,appT nInv [n]]]
 | 11=>appT nXor [u,appT qdv []]
 | _=>qmz u
theorem qkc {L M:List Tm} (h:Asc M) (k:∀x,parL L x=decide (x∈M)):Tm.sumds L []=M:=
 qdr (qdb L [] List.Pairwise.nil) h fun x=>by rw[qef,k x];simp
theorem qkj (x:Tm):parL [] x=false:=rfl
theorem qch (a:Tm) (r:List Tm) (x:Tm):parL (a::r) x=(decide (x∈a.sumd) ^^ parL r x):=rfl
theorem qll (K:List Tm) (x:Tm):decide (x∈(xorT (Tm.sumds K [])).sumd)=parL K x:=by
 rw[sumd_sum,Bool.eq_iff_iff,decide_eq_true_eq,qef];simp
theorem nf_bent (k:Nat) (n u:Tm) (hn:n.kind≠3) (hu:u.isA nExp→u.kids.length=2∧((kidT u.kids 0).isA nExp→(kidT u.kids 0).kids.length=2)):(bendT k n u).nf=u.nf:=by
 have hnn:n.nf=n:=nf_leaf hn;have hns:¬n.sym:=fun h=>hn h.1;have hns':¬n.isA nExp:=fun h=>hn h.1;have hu1:=NF.nf u;have hpr:∀l,nodeF qbd l=.mk 3 qbd 0 l:=qba (by decide) (by decide) (by decide) (by decide);have hen:∀l,nodeF nEnc l=.mk 3 nEnc 0 l:=qba (by decide) (by decide) (by decide) (by decide);have hae:∀l,nodeF qcf l=.mk 3 qcf 0 l:=qba (by decide) (by decide) (by decide) (by decide);have hpk:∀l,nodeF nPk l=.mk 3 nPk 0 l:=qba (by decide) (by decide) (by decide) (by decide);have hsg:∀l,nodeF qa7 l=.mk 3 qa7 0 l:=qba (by decide) (by decide) (by decide) (by decide);have hze:nodeF qdv []=.mk 3 qdv 0 []:=qba (by decide) (by decide) (by decide) (by decide) [];have hon:nodeF nOne []=.mk 3 nOne 0 []:=by rw[qa9 (.inr (.inr rfl)),qnm];rfl
 have hiv:nodeF nInv [n]=.mk 3 nInv 0 [n]:=by rw[qa9 (.inr (.inl rfl)),ofT_inv hns,ql2]
 have hzs:(Tm.mk 3 qdv 0 []).sumd=[]:=by rw[Tm.sumd,if_pos ⟨rfl,rfl,rfl⟩]
 match k with
 | 0=>
  show(appT nXor [u,appT nXor [n,n]]).nf=_;rw[qbq];simp only[List.map_cons,List.map_nil,qbq,hnn];rw[qbn,qbn]
  conv=>rhs;rw[←hu1.sum]
  congr 1
  refine qkc (qc7 _) fun x=>?_;rw[qch,qch,qll,qch,qch,qkj];simp
 | 1=>
  show(appT nXor [n,appT nXor [u,n]]).nf=_;rw[qbq];simp only[List.map_cons,List.map_nil,qbq,hnn];rw[qbn,qbn]
  conv=>rhs;rw[←hu1.sum]
  congr 1
  refine qkc (qc7 _) fun x=>?_;rw[qch,qch,qll,qch,qch,qkj];cases decide (x∈n.sumd)<;>cases decide (x∈u.nf.sumd)<;>rfl
 | 2=>
  show(appT nFst [appT qbd [u,n]]).nf=_;rw[qbq];simp only[List.map_cons,List.map_nil,qbq,hnn,hpr];rw[qa0 (by decide),qas,if_pos (.inl ⟨rfl,rfl,rfl⟩)];rfl
 | 3=>
  show(appT nSnd [appT qbd [n,u]]).nf=_;rw[qbq];simp only[List.map_cons,List.map_nil,qbq,hnn,hpr];rw[qa0 (by decide),qas,if_pos (.inr (.inl ⟨rfl,rfl,rfl⟩))];rfl
 | 4=>
  show(appT nDec [appT nEnc [u,n],n]).nf=_;rw[qbq];simp only[List.map_cons,List.map_nil,qbq,hnn,hen];rw[qa0 (by decide),qas,if_pos (.inr (.inr (.inl ⟨rfl,⟨rfl,rfl⟩,rfl⟩)))];rfl
 | 5=>
  show(appT qb4 [appT qa7 [u,n]]).nf=_;rw[qbq];simp only[List.map_cons,List.map_nil,qbq,hnn,hsg];rw[qa0 (by decide),qas,if_pos (.inr (.inr (.inr (.inr (.inr ⟨rfl,rfl,rfl⟩)))))];rfl
 | 6=>
  show(appT nExp [u,appT nOne []]).nf=_;rw[qbq];simp only[List.map_cons,List.map_nil,qbq,hon];rw[qb2];show qbp u.nf (.mk 3 nOne 0 [])=_;rw[qbp,qnm];exact hu1.power
 | 7=>
  show(appT qbi [appT qcf [u,appT nPk [n]],n]).nf=_;rw[qbq];simp only[List.map_cons,List.map_nil,qbq,hnn,hae,hpk];rw[qa0 (by decide),qas,if_pos (.inr (.inr (.inr (.inl ⟨rfl,⟨rfl,rfl⟩,⟨rfl,rfl⟩,rfl⟩))))];rfl
 | 8=>
  show(appT qbh [appT qa7 [u,n],appT nPk [n]]).nf=_;rw[qbq];simp only[List.map_cons,List.map_nil,qbq,hnn,hsg,hpk];rw[qa0 (by decide),qas,if_pos (.inr (.inr (.inr (.inr (.inl ⟨rfl,⟨rfl,rfl⟩,⟨rfl,rfl⟩,rfl⟩)))))];rfl
 | 9=>
  show(appT nExp [appT nExp [u,n],appT nInv [n]]).nf=_;rw[qbq];simp only[List.map_cons,List.map_nil,qbq,hnn,hiv];rw[qb2,qb2];show qbp (qbp u.nf n) (.mk 3 nInv 0 [n])=_;have hp:Okp (mulP u.nf.expoE (ofT n)):=(Okp.expo _).mul (Okp.ofT _);rw[qbp,qbp,qk6 hu1.base,qky hu1.base hp]
  conv=>rhs;rw[←hu1.power]
  congr 1
  refine qc4 (hp.mul (Okp.ofT _)).1 (Okp.expo _).1 fun x=>?_;rw[qd8,qd8,qgi,qgi,qk2];omega
 | 10=>
  show(appT nMul [u,appT nMul [n,appT nInv [n]]]).nf=_;rw[qbq];simp only[List.map_cons,List.map_nil,qbq,hnn,hiv]
  conv=>rhs;rw[←hu1.prod]
  have e1:nodeF nMul [n,.mk 3 nInv 0 [n]]=.mk 3 nOne 0 []:=by
   rw[qa9 (.inl rfl),←hon,qa9 (.inr (.inr rfl))]
   congr 1
   refine qkk fun x=>?_;rw[qhx,qb0,qb0,qb0,qk2,qo0];omega
  rw[e1,qa9 (.inl rfl)];show prodT (ofT _)=prodT (ofT _);refine congrArg prodT (qkk fun x=>?_);rw[qhx,qb0,qb0,qb0,qo0];omega
 | 11=>
  show(appT nXor [u,appT qdv []]).nf=_;rw[qbq];simp only[List.map_cons,List.map_nil,qbq,hze];rw[qbn]
  conv=>rhs;rw[←hu1.sum]
  congr 1
  refine qkc (qc7 _) fun x=>?_;rw[qch,qch,qkj,hzs];simp
 | _+12=>
  show(qmz u).nf=u.nf;unfold qmz
  split
  ·rename_i hx
   obtain⟨k',m,s,l⟩:=u;rw[qbq];rcases hx with hx|hx
   ·obtain⟨rfl,rfl⟩:k'=3∧m=nXor:=hx;rw[Tm.nf,if_pos rfl,qco];show nodeF nXor (l.reverse.map Tm.nf)=_;rw[List.map_reverse,qbn,qbn]
    congr 1
    exact sumds_ext fun x=>parL_perm (List.reverse_perm _) x
   ·obtain⟨rfl,rfl⟩:k'=3∧m=nMul:=hx;rw[Tm.nf,if_pos rfl,qco];show nodeF nMul (l.reverse.map Tm.nf)=_;rw[List.map_reverse,qa9 (.inl rfl),qa9 (.inl rfl)]
    congr 1
    refine qkk fun x=>?_;rw[qhx,qhx,coefs_rev]
  split
  ·rename_i hx
   obtain⟨hx1,hx2⟩:=hx;obtain⟨h1,h2⟩:=hu hx1;have h2:=h2 hx2;obtain⟨k',m,s,l⟩:=u;obtain⟨rfl,rfl⟩:k'=3∧m=nExp:=hx1
   match l,h1,hx2,h2 with
   | [a,c],_,hx2,h2=>
    obtain⟨k2,m2,s2,l2⟩:=a;obtain⟨rfl,rfl⟩:k2=3∧m2=nExp:=hx2
    match l2,h2 with
    | [a,b],_=>
     show(appT nExp [appT nExp [a,c],b]).nf=(appT nExp [appT nExp [a,b],c]).nf;simp only[List.map_cons,List.map_nil,qbq,qb2];show qbp (qbp a.nf c.nf) b.nf=qbp (qbp a.nf b.nf) c.nf;have ha:=NF.nf a;have hp:∀y,Okp (mulP a.nf.expoE (ofT y)):=fun y=>(Okp.expo _).mul (Okp.ofT _);rw[qbp,qbp,qbp,qbp,qk6 ha.base,qky ha.base (hp _),qk6 ha.base,qky ha.base (hp _)]
     congr 1
     refine qc4 ((hp _).mul (Okp.ofT _)).1 ((hp _).mul (Okp.ofT _)).1 fun x=>?_;rw[qd8,qd8,qd8,qd8];omega
  ·rfl
def nHash:ByteArray:=⟨#[104,97,115,104]⟩
def nSk:ByteArray:=⟨#[115,107]⟩
def nShk:ByteArray:=⟨#[115,104,107]⟩
def nNew:ByteArray:=⟨#[110,101,119]⟩
structure Sy where
 nm:ByteArray
 lo:Int
 hi:Int
 kd:Int
def tabS:List Sy:=
 [⟨qbd,2,2,1⟩,⟨nEnc,2,2,1⟩,⟨qcf,2,2,1⟩,⟨nPk,1,1,1⟩,⟨qa7,2,2,1⟩,⟨nHash,1,1,1⟩,⟨nXor,2,8,1⟩,⟨qdv,0,0,1⟩,⟨nExp,2,2,1⟩,⟨nMul,2,8,1⟩,⟨nInv,1,1,1⟩,⟨nOne,0,0,1⟩,
  ⟨nSk,1,1,2⟩,⟨nShk,2,2,2⟩,⟨nNew,1,8,2⟩,⟨nFst,1,1,3⟩,⟨nSnd,1,1,3⟩,⟨nDec,2,2,3⟩,⟨qbi,2,2,3⟩,⟨qbh,2,2,3⟩,⟨qb4,1,1,3⟩]
def qft (n:ByteArray):Option Sy:=tabS.find? fun s=>decide (s.nm=n)
def thN (n:ByteArray) (l:List Tm):Int:=match qft n with
 | none=>10
 | some s=>if (l.length:Int)<s.lo∨s.hi<l.length then 6
  else if (n=nSk∨n=nShk)∧(l.any fun k=>decide (k.kind=3∨k.sort≠1))=true then 10
  else if n=nNew∧(kidT l 0).kind≠2 then 10 else 0
mutual
def Tm.th:Tm→Int
 | .mk k n _ l=>if k=3 then (if thN n l≠0 then thN n l else Tm.ths l)else 0
def Tm.ths:List Tm→Int
 | []=>0
 | t::r=>if t.th≠0 then t.th else Tm.ths r
end
def Tm.validT (t:Tm):Int:=if t.valid≠0 then t.valid else t.th
def arE (n:ByteArray) (m:Nat):Prop:=(n=nMul→2≤m)∧(n=nInv→m=1)∧(n=nOne→m=0)
instance (n:ByteArray) (m:Nat):Decidable (arE n m):=by unfold arE;infer_instance
mutual
def Tm.arB:Tm→Bool
 | .mk k n s l=>if (Tm.mk k n s l).sym then decide (arE n l.length) && Tm.arBs l else true
def Tm.arBs:List Tm→Bool
 | []=>true
 | t::r=>t.arB && Tm.arBs r
end
def OfOK (t:Tm):Prop:=t.valid=0∧t.arB=true∧(ofT t).length≤200
def VP (l:List (Tm×Int)):Prop:=l.length≤200∧∀p∈l,p.1.valid=0∧-1000≤p.2∧p.2≤1000
def RP (l:List (Tm×Int)):Prop:=l.length≤200∧∀p∈l,-1000≤p.2∧p.2≤1000
def qo7 (l:List (Tm×Int)):Prop:=VP l∧(posP l++negP l).length≤8∧(prodT l).valid=0
def ExpOK (b e:Tm):Prop:=OfOK e∧(b.isA nExp→OfOK (kidT b.kids 1)∧VP (ofT (kidT b.kids 1))∧VP (ofT e)∧RP (mulP b.expoE (ofT e)))∧(mulP b.expoE (ofT e)≠[]→qo7 (mulP b.expoE (ofT e)))
def FineN (n:ByteArray) (l:List Tm):Prop:=
 (n=nXor→l.length≤200∧(∀t∈l,t.valid=0)∧(xorT (Tm.sumds l [])).valid=0)
 ∧(symN n→OfOK (.mk 3 n 0 l)∧qo7 (ofT (.mk 3 n 0 l)))
 ∧(n=nExp→ExpOK (kidT l 0) (kidT l 1))
mutual
def qei:Tm→Prop
 | .mk k n _ l=>k=3→qeh l∧FineN n (Tm.nfs l)
def qeh:List Tm→Prop
 | []=>True
 | t::r=>qei t∧qeh r
end
theorem qha:∀{l:List Tm},qeh l↔∀t∈l,qei t
 | []=>by rw[qeh];simp
 | t::r=>by rw[qeh,qha (l:=r)];simp
theorem qai {t:Tm} (h:t.valid=0):t.check=0∧t.size≤400∧t.depth≤40:=by
 unfold Tm.valid at h
 split at h
 ·rename_i hc;exact absurd h hc
 ·rename_i hc
  split at h
  ·exact absurd h (by decide)
  ·exact⟨Classical.not_not.1 hc,by omega,by omega⟩
theorem qlq {l:List Tm} {t:Tm} (h:t∈l):t.size≤Tm.sizes l:=by
 obtain⟨i,hi,e⟩:=List.mem_iff_getElem.1 h;rw[←e];exact Tm.sizes_get l i hi
theorem qil (l:List Tm) (i:Nat):(kidT l i).size≤Tm.sizes l+1:=by
 unfold kidT
 cases he:l[i]? with
 | none=>show(Tm.mk 0 .empty 0 []).size≤_;rw[Tm.size,Tm.sizes];omega
 | some x=>exact Nat.le_succ_of_le (qlq (List.mem_of_getElem? he))
theorem qju (t:Tm) (i:Nat):(kidT t.kids i).size≤t.size:=by
 have:=qil t.kids i;obtain⟨k,n,s,l⟩:=t;rw[Tm.size];exact Nat.le_trans this (Nat.le_of_eq (Nat.add_comm _ _))
mutual
theorem qno:∀{t:Tm},qei t→t.nf.size≤500*t.size
 | .mk k n s l,h=>by
  rw[Tm.nf]
  split
  ·rename_i hk
   rw[qei]at h;obtain⟨h1,h2,h3,h4⟩:=h hk;have hs:=qoo h1;rw[Tm.size,Nat.mul_add];have hmk:(Tm.mk 3 n 0 (Tm.nfs l)).size≤500*1+500*Tm.sizes l:=by rw[Tm.size];omega
   by_cases hd:desN n
   ·rw[qa0 hd,qas]
    split
    ·have e1:=qju (kidT (Tm.nfs l) 0) (if n=nSnd then 1 else 0);have e2:=qil (Tm.nfs l) 0;omega
    ·exact hmk
   by_cases hx:n=nXor
   ·have e1:=(qai (h2 hx).2.2).2.1;subst hx;rw[qbn];omega
   by_cases hy:symN n
   ·have e1:=(qai (h3 hy).2.2.2).2.1;rw[qa9 hy];omega
   by_cases he:n=nExp
   ·subst he;obtain⟨-,-,h5⟩:=h4 rfl;have e1:=qj2 (kidT (Tm.nfs l) 0);have e2:=qil (Tm.nfs l) 0;rw[qb2,qbp,mkE]
    split
    ·omega
    ·rename_i hp
     have e3:=(qai (h5 hp).2.2).2.1;rw[Tm.size,Tm.sizes,Tm.sizes,Tm.sizes];omega
   ·rw[qba hd hx hy he];exact hmk
  ·have:=(Tm.mk k n s l).size_pos;omega
theorem qoo:∀{l:List Tm},qeh l→Tm.sizes (Tm.nfs l)≤500*Tm.sizes l
 | [],_=>by rw[Tm.nfs,Tm.sizes];omega
 | t::r,h=>by
  rw[qeh]at h;have h1:=qno h.1;have h2:=qoo h.2;rw[Tm.nfs,Tm.sizes,Tm.sizes];omega
end
def arN (n:ByteArray) (m:Nat):Prop:=
 ((n=qbd∨n=nEnc∨n=qcf∨n=qa7∨n=nExp∨n=nDec∨n=qbi∨n=qbh)→m=2)∧((n=nPk∨n=nFst∨n=nSnd∨n=qb4)→m=1)
mutual
def ArT:Tm→Prop
 | .mk k n s l=>(k=3→s=0∧arN n l.length)∧ArTs l
def ArTs:List Tm→Prop
 | []=>True
 | t::r=>ArT t∧ArTs r
end
theorem ArTs_mem:∀{l:List Tm},ArTs l↔∀t∈l,ArT t
 | []=>by rw[ArTs];simp
 | t::r=>by rw[ArTs,ArTs_mem (l:=r)];simp
theorem ArT.none:ArT (.mk 0 .empty 0 []):=by rw[ArT,ArTs];exact⟨fun h=>absurd h (by decide),trivial⟩
theorem ArT.kidl {l:List Tm} (h:∀t∈l,ArT t) (i:Nat):ArT (kidT l i):=by
 unfold kidT
 cases he:l[i]? with
 | none=>exact ArT.none
 | some x=>exact h x (List.mem_of_getElem? he)
theorem ArT.kids {t:Tm} (h:ArT t):∀k∈t.kids,ArT k:=by obtain⟨k,n,s,l⟩:=t;rw[ArT]at h;exact ArTs_mem.1 h.2
theorem ArT.num {t:Tm} (h:ArT t) {n:ByteArray} (hn:t.isA n):t.sort=0∧arN n t.kids.length:=by
 obtain⟨k,m,s,l⟩:=t;rw[ArT]at h;obtain⟨rfl,rfl⟩:k=3∧m=n:=hn;exact h.1 rfl
mutual
theorem ArT.sumd:∀{t:Tm},ArT t→∀p∈t.sumd,ArT p
 | .mk k n s l,h,p,hp=>by
  rw[Tm.sumd]at hp
  split at hp
  ·cases hp
  ·split at hp
   ·rw[ArT]at h;exact ArTs.sumds l [] h.2 (by simp) p hp
   ·rw[List.mem_singleton.1 hp];exact h
theorem ArTs.sumds:∀(l a:List Tm),ArTs l→(∀p∈a,ArT p)→∀p∈Tm.sumds l a,ArT p
 | [],_,_,ha,p,hp=>ha p hp
 | t::r,a,hl,ha,p,hp=>by
  rw[ArTs]at hl;refine ArTs.sumds r _ hl.2 (fun q hq=>?_) p hp;rcases (qd7 t.sumd a q (qct (qc7 t))).1 hq with⟨h1,-⟩|⟨-,h2⟩
  ·exact ha q h1
  ·exact hl.1.sumd q h2
end
mutual
theorem ArT.facs:∀{t:Tm},ArT t→AllF ArT t
 | .mk k n s l,h=>by
  rw[AllF]
  split
  ·rw[ArT]at h;exact ArTs.facs h.2
  ·exact h
theorem ArTs.facs:∀{l:List Tm},ArTs l→AllFs ArT l
 | [],_=>by rw[AllFs];trivial
 | t::r,h=>by rw[ArTs]at h;rw[AllFs];exact⟨h.1.facs,ArTs.facs h.2⟩
end
theorem arN_any {n:ByteArray} (h:n=nXor∨n=qdv∨n=nMul∨n=nInv∨n=nOne) (m:Nat):arN n m:=by
 rcases h with h|h|h|h|h<;>subst h<;>exact⟨fun h=>absurd h (by decide),fun h=>absurd h (by decide)⟩
theorem ArT.alg {n:ByteArray} {l:List Tm} (h:n=nXor∨n=qdv∨n=nMul∨n=nInv∨n=nOne) (hl:∀t∈l,ArT t):ArT (.mk 3 n 0 l):=by
 rw[ArT];exact⟨fun _=>⟨rfl,arN_any h _⟩,ArTs_mem.2 hl⟩
theorem ArT.xorT {L:List Tm} (h:∀p∈L,ArT p):ArT (Go.Proofs.YtjhjoiplpmjepaaGreat.xorT L):=by
 match L,h with
 | [],_=>exact ArT.alg (.inr (.inl rfl)) (by simp)
 | [p],h=>exact h p (List.mem_cons_self ..)
 | a::b::r,h=>exact ArT.alg (n:=nXor) (.inl rfl) h
theorem ArT.prodT {l:List (Tm×Int)} (h:∀p∈l,ArT p.1):ArT (Go.Proofs.YtjhjoiplpmjepaaGreat.prodT l):=by
 have hm:∀t∈posP l++negP l,ArT t:=by
  intro t ht;rcases List.mem_append.1 ht with ht|ht
  ·obtain⟨p,hp,ht⟩:=List.mem_flatMap.1 ht;rw[List.eq_of_mem_replicate ht];exact h p hp
  ·obtain⟨p,hp,ht⟩:=List.mem_flatMap.1 ht;rw[List.eq_of_mem_replicate ht];exact ArT.alg (.inr (.inr (.inr (.inl rfl)))) fun t ht=>by rw[List.mem_singleton.1 ht];exact h p hp
 unfold Go.Proofs.YtjhjoiplpmjepaaGreat.prodT
 match posP l++negP l,hm with
 | [],_=>exact ArT.alg (n:=nOne) (.inr (.inr (.inr (.inr rfl)))) (by simp)
 | [t],hm=>exact hm t (List.mem_cons_self ..)
 | a::b::r,hm=>exact ArT.alg (n:=nMul) (.inr (.inr (.inl rfl))) hm
theorem ArT.nodeF {n:ByteArray} {l:List Tm} (h:∀t∈l,ArT t) (hn:arN n l.length):ArT (nodeF n l):=by
 have hmk:ArT (.mk 3 n 0 l):=by rw[ArT];exact⟨fun _=>⟨rfl,hn⟩,ArTs_mem.2 h⟩
 by_cases h1:desN n
 ·rw[qa0 h1,qas]
  split
  ·exact ArT.kidl (ArT.kidl h 0).kids _
  ·exact hmk
 ·by_cases h2:n=nXor
  ·subst h2;rw[qbn];exact ArT.xorT (ArTs.sumds l [] (ArTs_mem.2 h) (by simp))
  ·by_cases h3:symN n
   ·rw[qa9 h3];exact ArT.prodT (qfd hmk.facs)
   ·by_cases h4:n=nExp
    ·subst h4;have hb:=ArT.kidl h 0;have he:=ArT.kidl h 1;have hbb:ArT (kidT l 0).baseE:=by
      unfold Tm.baseE;split
      ·exact ArT.kidl hb.kids 0
      ·exact hb
     have hbe:∀p∈(kidT l 0).expoE,ArT p.1:=by
      unfold Tm.expoE;split
      ·exact qfd (ArT.kidl hb.kids 1).facs
      ·simp
     rw[qb2,qbp,mkE]
     split
     ·exact hbb
     ·rw[ArT,ArTs,ArTs,ArTs];exact⟨fun _=>⟨rfl,fun _=>rfl,fun h=>absurd h (by decide)⟩,hbb,ArT.prodT (qhu (Q:=ArT) _ _ hbe (qfd he.facs)),trivial⟩
    ·rw[qba h1 h2 h3 h4];exact hmk
mutual
theorem ArT.nf:∀{t:Tm},ArT t→ArT t.nf
 | .mk k n s l,h=>by
  rw[Tm.nf]
  split
  ·rename_i hk
   rw[ArT]at h;refine ArT.nodeF (ArTs_mem.1 (ArTs.nfs h.2)) ?_;rw[qco,List.length_map];exact(h.1 hk).2
  ·exact h
theorem ArTs.nfs:∀{l:List Tm},ArTs l→ArTs (Tm.nfs l)
 | [],_=>by rw[Tm.nfs,ArTs];trivial
 | t::r,h=>by rw[ArTs]at h;rw[Tm.nfs,ArTs];exact⟨h.1.nf,ArTs.nfs h.2⟩
end
theorem qlj {n:ByteArray} {s:Sy} (h:qft n=some s):s∈tabS∧s.nm=n:=by
 unfold qft at h;exact⟨List.mem_of_find?_eq_some h,by simpa using List.find?_some h⟩
theorem arN_of {n:ByteArray} {l:List Tm} (h:thN n l=0):arN n l.length:=by
 unfold thN at h
 cases hs:qft n with
 | none=>rw[hs]at h;exact absurd h (show ¬(10:Int)=0 by decide)
 | some s=>
  rw[hs]at h;simp only at h
  split at h
  ·exact absurd h (by decide)
  ·rename_i hl
   refine⟨fun hn=>?_,fun hn=>?_⟩
   ·have:s.lo=2∧s.hi=2:=by
     rcases hn with e|e|e|e|e|e|e|e<;>subst e<;>(injection hs with hs;subst hs;exact⟨rfl,rfl⟩)
    omega
   ·have:s.lo=1∧s.hi=1:=by
     rcases hn with e|e|e|e<;>subst e<;>(injection hs with hs;subst hs;exact⟨rfl,rfl⟩)
    omega
mutual
theorem ArT.of_th:∀{t:Tm},t.check=0→t.th=0→ArT t
 | .mk k n s l,hc,h=>by
  rw[Tm.check]at hc;rw[Tm.th]at h;rw[ArT]
  split at hc
  ·rename_i hk
   split at hc
   ·exact absurd hc (by decide)
   ·rename_i h1
    have hl:l=[]:=Classical.byContradiction fun e=>h1 (.inr (.inr e));subst hl;exact⟨fun e=>by omega,by rw[ArTs];trivial⟩
  ·split at hc
   ·rename_i hk
    rw[if_pos hk]at h
    split at hc
    ·exact absurd hc (by decide)
    ·rename_i hs0
     split at hc
     ·exact absurd hc (by decide)
     ·split at hc
      ·exact absurd hc (by decide)
      ·split at h
       ·rename_i hn;exact absurd h hn
       ·rename_i hn
        exact⟨fun _=>⟨Classical.not_not.1 hs0,arN_of (Classical.not_not.1 hn)⟩,ArTs.of_th hc h⟩
   ·exact absurd hc (by decide)
theorem ArTs.of_th:∀{l:List Tm},Tm.checks l=0→Tm.ths l=0→ArTs l
 | [],_,_=>by rw[ArTs];trivial
 | t::r,hc,h=>by
  rw[Tm.checks]at hc;rw[Tm.ths]at h;rw[ArTs]
  split at hc
  ·rename_i hn;exact absurd hc hn
  ·rename_i hn
   split at h
   ·rename_i hm;exact absurd h hm
   ·rename_i hm
    exact⟨ArT.of_th (Classical.not_not.1 hn) (Classical.not_not.1 hm),ArTs.of_th hc h⟩
end
end Go.Proofs.YtjhjoiplpmjepaaGreat
namespace Go.Proofs.YtjhjoiplpmjepaaGreat
open Go.RowKit Go.Sort
def Coll (base:Nat) (l:List Pw) (w:World) (e:Ending) (w':World):Prop:=
 ∃v' jts,e=.returned (.tuple #[v',.bool true])∧RowW w' base (fun b=>base≤b) v' jts∧jts.map IW.pw=l∧Below base w w'
theorem arE_name {k s:Int} {n:ByteArray} {l:List Tm} (h:(Tm.mk k n s l).sym) (ha:(Tm.mk k n s l).arB=true):arE n l.length∧Tm.arBs l=true:=by
 rw[Tm.arB,if_pos h,Bool.and_eq_true,decide_eq_true_iff]at ha;exact ha
theorem arBs_get {l:List Tm} (h:Tm.arBs l=true):∀k (hk:k<l.length),l[k].arB=true:=by
 induction l with
 | nil=>intro k hk;simp at hk
 | cons t r ih=>
  rw[Tm.arBs,Bool.and_eq_true]at h;intro k hk
  cases k with
  | zero=>exact h.1
  | succ k=>exact ih h.2 k (by simpa using hk)
theorem qfl {n:ByteArray} {L M:List UInt8} (h:(n.toList==L)=true) (hne:L≠M):(n.toList==M)=false:=by
 rw[beq_eq_false_iff_ne];rw[beq_iff_eq]at h;rw[h];exact hne
theorem qml (n:Nat):∀(t:Tm) (A:Option Addr) (c:Nat) (w:World) (base:Nat) (v:Value) (its:List IW) (sg:Int) (M L:Nat),t.size≤n→n≤10000→base≤w.heap.size→RepT w base t A c→RowW w base (fun b=>base≤b) v its→
  qbv (its.map IW.pw)→BdP M L (its.map IW.pw)→M+t.size≤10000000→L+t.size≤40000→(sg=1∨sg = -1)→t.arB=true→
  Calls Tryz.prog 134 #[v,t.val A c,.int .i64 sg] w (Coll base (colP t sg (its.map IW.pw)) w):=by
 induction n with
 | zero=>intro t _ _ _ _ _ _ _ _ _ h;have:=t.size_pos;omega
 | succ n ih=>
  intro t A c w base v its sg M L hn hb hbase hrep hrow hg hbd hM hL hsg har;obtain⟨tk,tn,ts,l⟩:=t;have htsz:(Tm.mk tk tn ts l).size≤1000000:=by omega
  obtain⟨V,hV⟩:∃V,V=w.alloc (.cells #[.int .i64 tk,.string tn,.int .i64 ts,.slice A l.length c] 24):=⟨_,rfl⟩;have hbV:Below w.heap.size w V:=by rw[hV];exact qab (Nat.le_refl _) _
  have hsV:V.heap.size=w.heap.size+1:=by rw[hV];simp
  have hbx:V.heap[w.heap.size]?=some (.cells #[.int .i64 tk,.string tn,.int .i64 ts,.slice A l.length c] 24 (0,0)):=by rw[hV];exact heap_alloc_new _ _
  have SY:=qox (.mk tk tn ts l) A c V;obtain⟨r0,r1,r2,r3,rf⟩:=qaa hbx;have HV:=hdzz hV;have HBX:=hdzz hbx;have HBV:=hdzz hbV;clear hV hbx hbV;obtain⟨res,hres⟩:∃r,r=colP (.mk tk tn ts l) sg (its.map IW.pw):=⟨_,rfl⟩;rw[←hres];rw[colP]at hres;by_cases hs:(Tm.mk tk tn ts l).sym
  case neg=>
   rw[if_neg hs]at hres;rw[decide_eq_false hs]at SY;simp only[Tm.val,Tm.kind,Tm.name,Tm.sort,Tm.kids]at SY ⊢;have SY:=hdzz SY;have IN:Hid (∀X,Below V.heap.size V X→Calls Tryz.prog 169 #[v,.agg #[.int .i64 tk,.string tn,.int .i64 ts,.slice A l.length c,.int .i64 sg]] X (Inst base res X)):=hdzz fun X hX=>by
    have hWX:=HBV.out.trans (hX.mono (by omega));have h:=qip X base v its (.mk tk tn ts l) sg A c (hrow.below hWX) (by have:=hX.size;omega) hg (by have:=hbd.1;simp at this;omega) (fun x hx=>(hbd.2 _ (List.mem_map_of_mem hx)).1) (fun x hx=>by have:=(hbd.2 _ (List.mem_map_of_mem hx)).2;simp only[IW.pw]at this;omega) (by omega) htsz
     (RepP.mono (fun b h=>⟨by have:=hX.size;omega,fun e=>by have:=(hrow.lt b e).1;omega⟩) (fun p h=>hWX.cell (by omega)) _ _ _ hrep)
    rw[←hres]at h;exact h
   clear hres hrow hg hbd ih hrep;go_enter Tryz.func134,Tryz.ntmps134
   go_wp2_with fail
   rw[←HV.out];clear HV;go_wp2_with fail
   refine SY.out.mono ?_;clear SY r0 r1 r2 r3 rf;rintro e w1 ⟨rfl,hl1⟩;obtain⟨r0,r1,r2,r3,rf⟩:=qaa ((hl1.below.block _ (by omega)).trans HBX.out);have IN:=hdzz (IN.out w1 hl1.below);have HB1:=hdzz (HBV.out.trans (hl1.below.mono (by omega)));clear hl1;go_wp2_with fail
   refine IN.out.mono ?_;clear IN;rintro e w2 ⟨v',jts,rfl,hr2,hm2,hb2⟩;have HRES:Hid (Coll base res w (.returned (.tuple #[v',.bool true])) w2):=hdzz ⟨v',jts,rfl,hr2,hm2,(HB1.out.mono hbase).trans hb2⟩;clear hr2 hm2 hb2 r0 r1 r2 r3 rf;go_wp2_with fail
   go_ret2
   exact HRES.out
  rw[if_pos hs]at hres;rw[decide_eq_true hs]at SY;obtain⟨hare,hars⟩:=arE_name hs har;obtain⟨sg',hsg'⟩:∃s,s=if tn=nInv then -sg else sg:=⟨_,rfl⟩
  rw[←hsg']at hres;have hsg2:sg'=1∨sg' = -1:=by rw[hsg'];split<;>omega
  have hnm:tn=nMul∨tn=nInv∨tn=nOne:=hs.2;have N1:=qaz (n:=tn) (c:=nMul) (L:=[109,117,108]) rfl;have N2:=qaz (n:=tn) (c:=nInv) (L:=[105,110,118]) rfl;have N3:=qaz (n:=tn) (c:=nOne) (L:=[111,110,101]) rfl;have hcase:((tn.toList==[109,117,108])=true∧(tn.toList==[105,110,118])=false∧(tn.toList==[111,110,101])=false∧¬((l.length:Int)<2)∧sg'=sg)∨
    ((tn.toList==[109,117,108])=false∧(tn.toList==[105,110,118])=true∧(tn.toList==[111,110,101])=false∧((l.length:Int) != 1)=false∧IntKind.i64.wrap (-sg)=sg')∨
    ((tn.toList==[109,117,108])=false∧(tn.toList==[105,110,118])=false∧(tn.toList==[111,110,101])=true∧((l.length:Int) != 0)=false∧sg'=sg):=by
   rcases hnm with h|h|h
   ·have h1:=N1.1 h;have h2:=hare.1 h;exact .inl ⟨h1,qfl h1 (by decide),qfl h1 (by decide),by omega,by rw[hsg',if_neg (fun e=>by rw[h]at e;exact absurd e (by decide))]⟩
   ·have h1:=N2.1 h;have h2:=hare.2.1 h;exact .inr (.inl ⟨qfl h1 (by decide),h1,qfl h1 (by decide),by rw[h2];rfl,by rw[hsg',if_pos h,IntKind.wrap_i64];omega⟩)
   ·have h1:=N3.1 h;have h2:=hare.2.2 h;exact .inr (.inr ⟨qfl h1 (by decide),qfl h1 (by decide),h1,by rw[h2];rfl,by rw[hsg',if_neg (fun e=>by rw[h]at e;exact absurd e (by decide))]⟩)
  have hlen:(l.length:Int)≤1000000:=by have:=Tm.length_le_sizes l;rw[Tm.size]at htsz;omega
  rw[qbe]at hrep;obtain⟨hr1,hr2,hr3,hr4⟩:=hrep;rw[Tm.size]at hn hM hL;simp only[Tm.val,Tm.kind,Tm.name,Tm.sort,Tm.kids]at SY ⊢;have SY:=hdzz SY;have HRES:=hdzz hres;have IH:=hdzz ih;have HROW:=hdzz hrow;have HG:=hdzz hg;have HBD:=hdzz hbd;have HARS:=hdzz hars;have HS2:=hdzz hsg2;have HSG:=hdzz hsg;clear hres ih hrow hg hbd hars hsg2 hsg' hnm N1 N2 N3 hare hs har hsg;rcases hcase with⟨q1,q2,q3,q4,q5⟩|⟨q1,q2,q3,q4,q5⟩|⟨q1,q2,q3,q4,q5⟩
  case' inl=>subst q5
  case' inr.inr=>subst q5
  all_goals
   go_enter Tryz.func134,Tryz.ntmps134
   go_wp2_with fail
   rw[←HV.out];clear HV;go_wp2_with fail
   refine SY.out.mono ?_;clear SY r0 r1 r2 r3 rf;rintro e w1 ⟨rfl,hl1⟩;have hs1:=hl1.below.size;obtain⟨r0,r1,r2,r3,rf⟩:=qaa ((hl1.below.block _ (by omega)).trans HBX.out);have HB1:=hdzz (HBV.out.trans (hl1.below.mono (by omega)));have HR1:=hdzz (HROW.out.below HB1.out);clear hl1;go_wp2_with fail
   clear r0 r1 r2 r3 rf;go_loopw [0,54] (fun u0 i wr=>∃(k:Nat) (jts:List IW),k≤l.length∧i=.int .i64 k∧Hid (RowW wr base (fun b=>base≤b) u0 jts)∧Hid (qbv (jts.map IW.pw)∧BdP (M+Tm.sizes (l.take k)) (L+Tm.sizes (l.take k)) (jts.map IW.pw))∧Hid (qe7 (l.drop k) sg' (jts.map IW.pw)=res)∧Hid (Below base w wr)∧Hid (w.heap.size≤wr.heap.size)) (fun _ i _=>l.length - (intOf i).toNat)
   case atStart=>exact⟨0,its,Nat.zero_le _,rfl,HR1.out,⟨HG.out,HBD.out⟩,HRES.out.symm,HB1.out.mono hbase,HB1.out.size⟩
   case round=>
    obtain⟨k,jts,hk,rfl,HRW,HGB,HCO,HB,HSZ⟩:=hrel;have i1:(0:Int)≤(k:Int):=Int.natCast_nonneg _;by_cases hlt:k<l.length
    ·have i2:(k:Int)<(l.length:Int):=by omega
     rcases hr4 with rfl|⟨b,off,rfl,hbB,hl⟩
     ·simp at hlt
     obtain⟨A',cap',h0,h1,h2,h3,h5⟩:=(hl.below HB.out hbB).get k hlt;have hsg:=Tm.sizes_get l k hlt;have hst:=Tm.sizes_take_succ l k hlt;have hstl:=Tm.sizes_take_le l (k+1);have har:=arBs_get HARS.out k hlt;have hco:=HCO.out;rw[cols_drop l sg' _ hlt]at hco;have HSZ1:=HSZ.out;have CON:Hid (∀X,Below wr.heap.size wr X→Calls Tryz.prog 134 #[u0,l[k].val A' cap',.int .i64 sg'] X (Coll base (colP l[k] sg' (jts.map IW.pw)) X)):=hdzz fun X hX=>
      IH.out l[k] A' cap' X base u0 jts sg' _ _ (by omega) (by omega) (by have:=hX.size;omega) (h5.below (hX.mono (by omega))) (HRW.out.below hX) HGB.out.1 HGB.out.2 (by omega) (by omega) HS2.out har
     have HNX:Hid (qbv (colP l[k] sg' (jts.map IW.pw))∧BdP (M+Tm.sizes (l.take (k+1))) (L+Tm.sizes (l.take (k+1))) (colP l[k] sg' (jts.map IW.pw))):=hdzz ⟨qk1 l[k] (by have:=HS2.out;omega) HGB.out.1,by
      rw[hst,←Nat.add_assoc,←Nat.add_assoc];exact BdP.col l[k] (by omega) HS2.out HGB.out.2⟩
     clear h5 hl hsg hst hstl har;obtain⟨x,hx⟩:∃x,x=l[k]:=⟨_,rfl⟩;rw[←hx]at h0 h1 h2 h3 CON HNX hco;clear hx;have HCN:=hdzz hco;clear hco HCO;simp only[Tm.val]at CON;obtain⟨X,hX⟩:∃X,X=wr.alloc (.cells #[.int .i64 x.kind,.string x.name,.int .i64 x.sort,.slice A' x.kids.length cap'] 24):=⟨_,rfl⟩;have hbX:Below wr.heap.size wr X:=by rw[hX];exact qab (Nat.le_refl _) _
     have hxX:X.heap[wr.heap.size]?=some (.cells #[.int .i64 x.kind,.string x.name,.int .i64 x.sort,.slice A' x.kids.length cap'] 24 (0,0)):=by rw[hX];exact heap_alloc_new wr _
     have HX:=hdzz hX;have CON:=hdzz (CON.out X hbX);have HBX2:=hdzz (HB.out.trans (hbX.mono (by omega)));have hszX:=hbX.size;obtain⟨x0,x1,x2,x3,xf⟩:=qaa hxX;clear hX hbX hxX;go_wp2_with fail
     rw[←HX.out];clear HX h0 h1 h2 h3;go_wp2_with fail
     refine CON.out.mono ?_;clear CON x0 x1 x2 x3 xf;rintro e w2 ⟨v2,jt2,rfl,hr2,hm2,hb2⟩;have HR2:=hdzz hr2;have HB2:=hdzz (HBX2.out.trans hb2);have HS3:Hid (w.heap.size≤w2.heap.size):=hdzz (by have:=hb2.size;omega);have HM2:=hdzz hm2;clear hr2 hb2 hm2;go_wp2_with fail
     go_roundw
     case rel=>exact⟨k+1,jt2,by omega,by go_num,HR2.out,by rw[HM2.out];exact HNX.out,by rw[HM2.out];exact HCN.out,HB2.out,HS3.out⟩
     case measure=>simp[intOf];omega
    ·obtain rfl:k=l.length:=by omega
     have hco:=HCO.out;rw[List.drop_length,qe7]at hco;have HFIN:Hid (Coll base res w (.returned (.tuple #[u0,.bool true])) wr):=hdzz ⟨u0,jts,rfl,HRW.out,hco,HB.out⟩;clear hco HCO HRW;go_wp2_with fail
     go_ret2
     exact HFIN.out
def OkW (l:List Pw) (w:World) (e:Ending) (w':World):Prop:=
 ∃A c,e=.returned (.tuple #[.slice A l.length c,.int .i64 0])∧RepW w' (fun b=>w.heap.size≤b∧b<w'.heap.size) l A c∧Below w.heap.size w w'
theorem qio (t:Tm) (A:Option Addr) (c:Nat) (w:World) (hok:OfOK t) (hrep:RepT w w.heap.size t A c):Calls Tryz.prog 106 #[t.val A c] w (OkW (ofT t) w):=by
 obtain⟨hv,har,hlen⟩:=hok;have hsz:=(qai hv).2.1;obtain⟨V,hV⟩:∃V,V=w.alloc (qal t A c):=⟨_,rfl⟩;have hbV:Below w.heap.size w V:=by rw[hV];exact qab (Nat.le_refl _) _
 have hsV:V.heap.size=w.heap.size+1:=by rw[hV];simp
 have hbx:V.heap[w.heap.size]?=some (qal t A c):=by rw[hV];exact heap_alloc_new _ _
 have VA:=qax t A c V (by omega) (hrep.go hbV (by omega));rw[hv]at VA;have CO:Hid (∀X,Below V.heap.size V X→Calls Tryz.prog 134 #[.slice none 0 0,t.val A c,.int .i64 1] X (Coll X.heap.size (ofT t) X)):=hdzz fun X hX=>
  qml 10000 t A c X X.heap.size (.slice none 0 0) [] 1 0 0 (by omega) (Nat.le_refl _) (Nat.le_refl _) (hrep.go (hbV.trans (hX.mono (by omega))) (by have:=hX.size;omega)) (RowW.nil _ _ _) qbv.nil BdP.nil (by omega) (by omega) (.inl rfl) har
 obtain⟨res,hres⟩:∃r,r=ofT t:=⟨_,rfl⟩;rw[←hres]at hlen CO ⊢;clear hres;simp only[qal]at hV hbx;simp only[Tm.val]at VA CO ⊢;have VA:=hdzz VA;have HBX:=hdzz hbx;obtain⟨r0,r1,r2,r3,rf⟩:=qaa hbx;have HV:=hdzz hV;have HBV:=hdzz hbV;clear hV hbx hbV hrep hv har;go_enter Tryz.func106,Tryz.ntmps106
 go_wp2_with fail
 rw[←HV.out];clear HV;go_wp2_with fail
 refine VA.out.mono ?_;clear VA r0 r1 r2 r3 rf;rintro e w1 ⟨rfl,hl1⟩;have hs1:=hl1.below.size;have HB1:=hdzz (HBV.out.trans (hl1.below.mono (by omega)));have CO:=hdzz (CO.out w1 hl1.below);obtain⟨r0,r1,r2,r3,rf⟩:=qaa ((hl1.below.block _ (by omega)).trans HBX.out);clear hl1 HBX HBV;go_wp2_with fail
 refine CO.out.mono ?_;clear CO r0 r1 r2 r3 rf;rintro e w2 ⟨v',jts,rfl,hr2,hm2,hb2⟩;obtain⟨A2,c2,rfl,hW⟩:=hr2.toW (P:=fun b=>w.heap.size≤b∧b<w2.heap.size) (fun b h1 h=>⟨Nat.le_trans HB1.out.size h1,h⟩) (fun b h=>⟨Nat.le_trans HB1.out.size (hr2.lt b h).1,(hr2.lt b h).2⟩);rw[hm2]at hW;have hjl:jts.length=res.length:=by rw[←hm2];simp
 rw[hjl];have HW:=hdzz hW;have HB2:=hdzz (HB1.out.trans (hb2.mono (by have:=HB1.out.size;omega)));clear hr2 hm2 hb2 hW hjl HB1;have hlI:¬((200:Int)<(res.length:Int)):=by omega
 go_wp2_with fail
 go_ret2
 exact⟨A2,c2,rfl,HW.out,HB2.out⟩
def OwnW (l:List Pw) (w:World) (e:Ending) (w':World):Prop:=
 ∃v' jts,e=.returned v'∧RowW w' w.heap.size (fun b=>w.heap.size≤b) v' jts∧jts.map IW.pw=l∧Below w.heap.size w w'
attribute [local irreducible] qay
theorem qny (l:List Pw) (A:Option Addr) (c:Nat) (w:World) (hlen:l.length≤40000) (hsz:∀p∈l,p.1.size≤1000000) (hrep:RepW w (fun b=>b<w.heap.size) l A c) :
  Calls Tryz.prog 170 #[.slice A l.length c] w (OwnW l w):=by
 have mixed:=mixz;obtain⟨nl,hnl⟩:∃n,n=l.length:=⟨_,rfl⟩;rw[←hnl]at hlen ⊢;have HNL:=hdzz hnl;have HSZ:=hdzz hsz;have HRW:=hdzz hrep;clear hnl hsz hrep;have hlI:(nl:Int)≤40000:=by omega
 go_enter Tryz.func170,Tryz.ntmps170
 go_wp2_with fail
 go_loopw [3,8] (fun u3 i wr=>∃(k:Nat) (jts:List IW),k≤nl∧i=.int .i64 k∧Hid (RowW wr w.heap.size (fun b=>w.heap.size≤b) u3 jts)∧Hid (jts.map IW.pw=l.take k)∧Hid (Below w.heap.size w wr)) (fun _ i _=>nl - (intOf i).toNat)
 case atStart=>exact⟨0,[],Nat.zero_le _,rfl,RowW.nil _ _ _,by rw[List.take_zero];rfl,Below.refl _ _⟩
 case round=>
  obtain⟨k,jts,hk,rfl,HR,HM,HB⟩:=hrel;have i1:(0:Int)≤(k:Int):=Int.natCast_nonneg _;have hsr:=HB.out.size;by_cases hlt:k<nl
  ·have i2:(k:Int)<(nl:Int):=by omega
   have hkl:k<l.length:=by have:=HNL.out;omega
   obtain⟨b,off,rfl,hbB,hget⟩:=(HRW.out.mono (w':=wr) (P':=fun b=>b<w.heap.size) (fun _ h=>h) (fun p hp=>HB.out.cell (by omega))).get (fun e=>by rw[e]at hkl;simp at hkl);obtain⟨A1,c1,h0,h1,h2,h3,h4,h5⟩:=hget k hkl;have hqs:=HSZ.out l[k] (List.getElem_mem hkl);have HTK:=hdzz (List.take_succ_eq_append_getElem hkl);have hjl:jts.length=k:=by have:=congrArg List.length HM.out;simpa[Nat.min_eq_left (Nat.le_of_lt hkl)]using this
   obtain⟨x,hx⟩:∃x,x=l[k]:=⟨_,rfl⟩;rw[←hx]at h0 h1 h2 h3 h4 h5 hqs HTK;clear hx hget;obtain⟨q,m⟩:=x;dsimp only at h0 h1 h2 h3 h4 h5 hqs;obtain⟨X,hX⟩:∃X,X=wr.alloc (.cells #[.int .i64 q.kind,.string q.name,.int .i64 q.sort,.slice A1 q.kids.length c1,.int .i64 m] 163):=⟨_,rfl⟩;have hbX:Below wr.heap.size wr X.drew:=by rw[hX];exact(qab (Nat.le_refl _) _).drew
   have hsX:X.drew.heap.size=wr.heap.size+1:=by rw[hX];simp
   have hxX:X.drew.heap[wr.heap.size]?=some (.cells #[.int .i64 q.kind,.string q.name,.int .i64 q.sort,.slice A1 q.kids.length c1,.int .i64 m] 163 (0,0)):=by rw[hX];exact heap_alloc_new wr _
   have HX:=hdzz hX;have CC:=qfh 1000000 q A1 c1 X.drew _ hqs (Nat.le_refl _) (fun b (h:b<w.heap.size)=>by omega) (RepP.mono (w:=wr) (w':=X.drew) (fun _ h=>h) (fun p h=>hbX.cell (by omega)) _ _ _ h5);simp only[Tm.val]at CC;have CC:=hdzz CC;have HRX:=hdzz (HR.out.below hbX);have HBX:=hdzz (HB.out.trans (hbX.mono hsr));clear hX hbX h5;go_wp2_with fail
   rw[←HX.out];clear HX h0 h1 h2 h3 h4;refine qae (fun Y=>∀q,q<X.drew.heap.size→u3.ownBlock≠some q→Y.heap[q]?=X.drew.heap[q]?) (fun _=>True) [] (.held 0 (.held 1 (.held 2 (.held 4 (.held 5 (.op 3 (.held 6 (.op 7 (.op 8 (.held 9 .nil)))))))))) mixed (by kernel_rfl) ?_;generalize X.drew=D at *;obtain⟨x0,x1,x2,x3,x4,xf⟩:=qdg hxX;have hne:u3.ownBlock≠some wr.heap.size:=fun e=>by have:=(HR.out.lt _ e).2;omega
   refine stkz (u3) rfl rfl rfl (fun _ _ _ h=>h) (fun _ _ _=>rfl) (fun Y hY=>by
     (try simp only[Act.put]);go_simp) ?_
   refine stkz (.pointer (some ⟨wr.heap.size,0,none⟩)) rfl rfl rfl (fun _ _ _ h=>h) (fun _ _ _=>rfl) (fun Y hY=>by
     (try simp only[Act.put]);go_simp) ?_
   refine stkz (.agg #[.int .i64 q.kind,.string q.name,.int .i64 q.sort,.slice A1 q.kids.length c1]) rfl rfl rfl (fun _ _ _ h=>h) (fun _ _ _=>rfl) (fun Y hY=>by
     have z0:Y.cell? ⟨wr.heap.size,0,none⟩=_:=(World.cell?_of_block (hY wr.heap.size (by omega) hne)).trans x0;have z1:Y.cell? ⟨wr.heap.size,1,none⟩=_:=(World.cell?_of_block (hY wr.heap.size (by omega) hne)).trans x1;have z2:Y.cell? ⟨wr.heap.size,2,none⟩=_:=(World.cell?_of_block (hY wr.heap.size (by omega) hne)).trans x2;have z3:Y.cell? ⟨wr.heap.size,3,none⟩=_:=(World.cell?_of_block (hY wr.heap.size (by omega) hne)).trans x3
     (try simp only[Act.put]);go_simp) ?_
   refine stkz (.pointer (some ⟨wr.heap.size,4,none⟩)) rfl rfl rfl (fun _ _ _ h=>h) (fun _ _ _=>rfl) (fun Y hY=>by
     (try simp only[Act.put]);go_simp) ?_
   refine stkz (.int .i64 m) rfl rfl rfl (fun _ _ _ h=>h) (fun _ _ _=>rfl) (fun Y hY=>by
     have z4:Y.cell? ⟨wr.heap.size,4,none⟩=_:=(World.cell?_of_block (hY wr.heap.size (by omega) hne)).trans x4
     (try simp only[Act.put]);go_simp) ?_
   simp only[Act.put,fsa,fsb,fsc,fsd,fse,fsf];refine qar rfl rfl (fun K hK=>?_);go_wp2_with fail
   refine CC.out.mono ?_;clear CC x0 x1 x2 x3 x4 xf;rintro e w5 ⟨A5,c5,rfl,hrep5,hb5⟩;have hs5:=hb5.size;refine hK _ _ ⟨⟨fun _ q hq _=>hb5.block q (by omega),trivial⟩,?_⟩;clear hK K;have hrow5:=HRX.out.below hb5;have hrep5':RepP w5 (fun b=>w.heap.size≤b∧b<w5.heap.size∧u3.ownBlock≠some b) q A5 c5:=RepP.mono (fun b h=>by
    obtain⟨h1,h2⟩:=h;exact⟨by omega,h2,fun e=>by have:=(HRX.out.lt b e).2;omega⟩) (fun _ _=>rfl) _ _ _ hrep5
   obtain⟨g,c7,w7,hap,hr7,hbl7,hold7,hs7,-⟩:=RowW.more1 hrow5 (by omega) ((q,A5,c5),m) hrep5' (by omega);obtain⟨W6,hW6⟩:∃W6,W6=w5.alloc (.cells #[.int .i64 q.kind,.string q.name,.int .i64 q.sort,.slice A5 q.kids.length c5,.int .i64 m] 163):=⟨_,rfl⟩;dsimp only at hap;rw[←hW6]at hap;have hS6:∀q,q<D.heap.size→W6.heap[q]?=D.heap[q]?:=fun q hq=>by rw[hW6,Below.heap_alloc _ _ _ (by omega)];exact hb5.block q (by omega)
   have HS7:Hid (∀q,q<D.heap.size→u3.ownBlock≠some q→w7.heap[q]?=D.heap[q]?):=hdzz fun q hq hne=>(hold7 q (by omega) hne).trans (hb5.block q (by omega));have HR7:=hdzz hr7;have HB7:=hdzz (hbl7 w w.heap.size (HBX.out.trans (hb5.mono (by omega))) (Nat.le_refl _));have HS6:=hdzz hS6;clear hrow5 hrep5 hrep5' hr7 hbl7 hold7 hS6;simp only[Tm.val];refine stkz (.agg #[.int .i64 q.kind,.string q.name,.int .i64 q.sort,.slice A5 q.kids.length c5,.int .i64 m]) rfl rfl rfl (fun _ _ _ h=>h) (fun q hq _=>hb5.block q (by omega)) (fun Y hY=>by
     (try simp only[Act.put]);go_simp) ?_
   simp only[Act.put,fsa,fsb,fsc,fsd,fse,fsf];clear hb5;refine qar rfl rfl (fun K hK=>?_);go_wp2_with fail
   rw[←hW6];refine⟨⟨fun _ q hq _=>HS6.out q (by omega),trivial⟩,?_⟩;rw[hW6]at hap;rw[hW6];clear hW6;refine qar rfl rfl (fun K hK=>?_);refine qdh _ _ rfl rfl rfl (fun ty=>hap ty) ?_;refine hK _ _ ⟨⟨fun _ q hq hne=>HS7.out q (by omega) hne,trivial⟩,?_⟩;clear hK K hap;refine stkz (.slice (some ⟨g,0,none⟩) (jts.length+1) c7) rfl rfl rfl (fun _ _ _ h=>h) (fun q hq hne=>HS7.out q (by omega) hne) (fun Y hY=>by
     (try simp only[Act.put]);go_simp) ?_
   refine qat ?_;simp only[Act.put,fsa,fsb,fsc,fsd,fse,fsf];go_wp2_with fail
   go_roundw
   case rel=>exact⟨k+1,jts++[((q,A5,c5),m)],by omega,by go_num,HR7.out,by rw[List.map_append,HM.out,HTK.out];rfl,HB7.out⟩
   case measure=>simp[intOf];omega
  ·obtain rfl:k=nl:=by omega
   have HFIN:Hid (OwnW l w (.returned u3) wr):=hdzz ⟨u3,jts,rfl,HR.out,by rw[HM.out,HNL.out,List.take_length],HB.out⟩;clear HR HM;go_wp2_with fail
   go_ret
   exact HFIN.out
theorem res1_any (k s m:Int) (n:ByteArray) (A:Option Addr) (g c:Nat) (w:World) (hm:-1000≤m∧m≤1000):Calls Tryz.prog 185 #[.agg #[.int .i64 k,.string n,.int .i64 s,.slice A g c,.int .i64 m]] w fun e w'=>e=.returned (.bool false)∧Below w.heap.size w w':=by
 have h1:¬(m < -1000):=by omega
 have h2:¬((1000:Int)<m):=by omega
 obtain⟨V,hV⟩:∃V,V=w.alloc (.cells #[.int .i64 k,.string n,.int .i64 s,.slice A g c,.int .i64 m] 163):=⟨_,rfl⟩;have hbV:Below w.heap.size w V:=by rw[hV];exact qab (Nat.le_refl _) _
 have hbx:V.heap[w.heap.size]?=some (.cells #[.int .i64 k,.string n,.int .i64 s,.slice A g c,.int .i64 m] 163 (0,0)):=by rw[hV];exact heap_alloc_new _ _
 obtain⟨r0,r1,r2,r3,r4,rf⟩:=qdg hbx;have HV:=hdzz hV;have HB:=hdzz hbV;clear hV hbV hbx;go_enter Tryz.func185,Tryz.ntmps185
 go_wp2_with fail
 rw[←HV.out];go_wp2_with fail
 go_ret
 exact⟨rfl,HB.out⟩
theorem qqd (l:List Pw) (A:Option Addr) (c:Nat) (w:World) (hlen:l.length≤1000000) (hb:∀p∈l,-1000≤p.2∧p.2≤1000) (hrep:RepW w (fun b=>b<w.heap.size) l A c) :
  Calls Tryz.prog 189 #[.slice A l.length c,.func (.func 185) #[] #[]] w fun e w'=>e=.returned (.int .i64 (-1))∧Below w.heap.size w w':=by
 have eg:∀args w,(callFunc 185 args).run Tryz.prog w=.ok (.enter 185 args) w:=enters_of Tryz.func185 (by kernel_rfl) rfl;obtain⟨nl,hnl⟩:∃n,n=l.length:=⟨_,rfl⟩;rw[←hnl]at hlen ⊢;have HNL:=hdzz hnl;have HBD:=hdzz hb;have HRW:=hdzz hrep;clear hnl hb hrep;have hlI:(nl:Int)≤1000000:=by omega
 go_enter Tryz.func189,Tryz.ntmps189
 go_wp2_with fail
 go_loopw [5,8] (fun _ i wr=>∃k:Nat,k≤nl∧i=.int .i64 k∧Hid (Below w.heap.size w wr)) (fun _ i _=>nl - (intOf i).toNat)
 case atStart=>exact⟨0,Nat.zero_le _,rfl,Below.refl _ _⟩
 case round=>
  obtain⟨k,hk,rfl,HB⟩:=hrel;have i1:(0:Int)≤(k:Int):=Int.natCast_nonneg _;have hsr:=HB.out.size;by_cases hlt:k<nl
  ·have i2:(k:Int)<(nl:Int):=by omega
   have hkl:k<l.length:=by have:=HNL.out;omega
   obtain⟨b,off,rfl,hbB,hget⟩:=(HRW.out.mono (w':=wr) (P':=fun b=>b<w.heap.size) (fun _ h=>h) (fun p hp=>HB.out.cell (by omega))).get (fun e=>by rw[e]at hkl;simp at hkl);obtain⟨A1,c1,h0,h1,h2,h3,h4,h5⟩:=hget k hkl;have HC:=hdzz (res1_any l[k].1.kind l[k].1.sort l[k].2 l[k].1.name A1 l[k].1.kids.length c1 wr (HBD.out _ (List.getElem_mem hkl)));obtain⟨x,hx⟩:∃x,x=l[k]:=⟨_,rfl⟩;rw[←hx]at h0 h1 h2 h3 h4 HC;clear hx hget h5;go_wp2_with (go_at_fn 185;refine HC.out.mono ?_;rintro e w' ⟨rfl,hb'⟩)
   go_roundw
   case rel=>exact⟨k+1,by omega,by go_num,HB.out.trans (hb'.mono hsr)⟩
   case measure=>simp[intOf];omega
  ·obtain rfl:k=nl:=by omega
   go_wp2_with fail
   go_ret
   exact⟨rfl,HB.out⟩
theorem qnx (l:List Pw) (A:Option Addr) (c:Nat) (w:World) (hr:RP l) (hrep:RepW w (fun b=>b<w.heap.size) l A c):Calls Tryz.prog 171 #[.slice A l.length c] w fun e w'=>e=.returned (.tuple #[.slice A l.length c,.int .i64 0])∧Below w.heap.size w w':=by
 have IX:Hid (Calls Tryz.prog 189 #[.slice A l.length c,.func (.func 185) #[] #[]] w fun e w'=>e=.returned (.int .i64 (-1))∧Below w.heap.size w w'):=hdzz (qqd l A c w (by have:=hr.1;omega) hr.2 hrep);have hl:=hr.1;have hlI:¬((200:Int)<(l.length:Int)):=by omega
 have CF:Hid (Calls Tryz.prog 184 #[.slice A l.length c,.func (.func 185) #[] #[]] w fun e w'=>e=.returned (.bool false)∧Below w.heap.size w w'):=hdzz (by
  clear hrep;go_enter Tryz.func184,Tryz.ntmps184
  go_wp2_with fail
  refine IX.out.mono ?_;rintro e w1 ⟨rfl,hb⟩;go_wp2_with fail
  go_ret
  exact⟨rfl,hb⟩)
 clear IX hrep;go_enter Tryz.func171,Tryz.ntmps171
 go_wp2_with fail
 refine CF.out.mono ?_;clear CF;rintro e w1 ⟨rfl,hb⟩;have HB:=hdzz hb;clear hb;go_wp2_with fail
 go_ret2
 exact⟨rfl,HB.out⟩
theorem qg5 (l:List Pw) (A:Option Addr) (c:Nat) (w:World) (hv:VP l) (ho:Okp l) (hrep:RepW w (fun b=>b<w.heap.size) l A c) :
  Calls Tryz.prog 135 #[.slice A l.length c] w fun e w'=>e=.returned (.int .i64 0)∧Below w.heap.size w w':=by
 have mixed:=mixz;obtain⟨nl,hnl⟩:∃n,n=l.length:=⟨_,rfl⟩;have hlen:=hv.1;rw[←hnl]at hlen ⊢;have HNL:=hdzz hnl;have HV:=hdzz hv;have HO:=hdzz ho;have HRW:=hdzz hrep;clear hnl hv ho hrep;have hlI:¬((200:Int)<(nl:Int)):=by omega
 have hlJ:(nl:Int)≤200:=by omega
 go_enter Tryz.func135,Tryz.ntmps135
 go_wp2_with fail
 go_loopw [11] (fun i wr=>∃k:Nat,k≤nl∧i=.int .i64 k∧Hid (Below w.heap.size w wr)) (fun i _=>nl - (intOf i).toNat)
 case atStart=>exact⟨0,Nat.zero_le _,rfl,Below.refl _ _⟩
 case round=>
  obtain⟨k,hk,rfl,HB⟩:=hrel;have i1:(0:Int)≤(k:Int):=Int.natCast_nonneg _;have hsr:=HB.out.size;by_cases hlt:k<nl
  ·have i2:(k:Int)<(nl:Int):=by omega
   have hkl:k<l.length:=by have:=HNL.out;omega
   obtain⟨b,off,rfl,hbB,hget⟩:=(HRW.out.mono (w':=wr) (P':=fun b=>b<w.heap.size) (fun _ h=>h) (fun p hp=>HB.out.cell (by omega))).get (fun e=>by rw[e]at hkl;simp at hkl);obtain⟨A1,c1,h0,h1,h2,h3,h4,h5⟩:=hget k hkl;have hvk:=HV.out.2 l[k] (List.getElem_mem hkl);have hnk:=HO.out.2 l[k] (List.getElem_mem hkl);have h0k:=HO.out.1.2 l[k] (List.getElem_mem hkl);have hlt2:Hid (∀(h:0<k),(l[k - 1]'(by omega)).1.cmp l[k].1<0):=hdzz fun h=>good_lt HO.out.1 (by omega) hkl;obtain⟨x,hx⟩:∃x,x=l[k]:=⟨_,rfl⟩;rw[←hx]at h0 h1 h2 h3 h4 h5 hvk hnk h0k hlt2;clear hx;obtain⟨q,m⟩:=x;dsimp only at h0 h1 h2 h3 h4 h5 hvk hnk h0k hlt2;obtain⟨hv0,hm1,hm2⟩:=hvk;have hqs:=(qai hv0).2.1
   obtain⟨X,hX⟩:∃X,X=wr.alloc (.cells #[.int .i64 q.kind,.string q.name,.int .i64 q.sort,.slice A1 q.kids.length c1,.int .i64 m] 163):=⟨_,rfl⟩;have hbX:Below wr.heap.size wr X:=by rw[hX];exact qab (Nat.le_refl _) _
   have hsX:X.heap.size=wr.heap.size+1:=by rw[hX];simp
   have hxX:X.heap[wr.heap.size]?=some (.cells #[.int .i64 q.kind,.string q.name,.int .i64 q.sort,.slice A1 q.kids.length c1,.int .i64 m] 163 (0,0)):=by rw[hX];exact heap_alloc_new wr _
   obtain⟨x0,x1,x2,x3,x4,xf⟩:=qdg hxX;have HX:=hdzz hX;have hqX:RepP X (fun b=>b<w.heap.size) q A1 c1:=RepP.mono (fun _ h=>h) (fun p hp=>hbX.cell (by omega)) _ _ _ h5;have VA:=qax q A1 c1 X (by omega) (RepP.mono (fun b (h:b<w.heap.size)=>by omega) (fun _ _=>rfl) _ _ _ hqX);rw[hv0]at VA;simp only[Tm.val]at VA;have VA:=hdzz VA;have HBX:=hdzz hbX;have HXX:=hdzz hxX;have HQX:=hdzz hqX;have HGET:=hdzz hget;clear hX hbX hxX hqX h5 hget;go_wp2_with fail
   rw[←HX.out];clear HX h0 h1 h2 h3 h4;go_wp2_with fail
   refine VA.out.mono ?_;clear VA x0 x1 x2 x3 x4 xf;rintro e w2 ⟨rfl,hl2⟩;have hs2:=hl2.below.size;obtain⟨x0,x1,x2,x3,x4,xf⟩:=qdg ((hl2.below.block _ (by omega)).trans HXX.out);have SY:=qox q A1 c1 w2;rw[decide_eq_false hnk]at SY;simp only[Tm.val]at SY;have SY:=hdzz SY;have H2:=hdzz hl2.below;clear hl2;go_wp2_with fail
   refine SY.out.mono ?_;clear SY x0 x1 x2 x3 x4 xf;rintro e w3 ⟨rfl,hl3⟩;have hs3:=hl3.below.size;have H3:=hdzz (H2.out.trans (hl3.below.mono (by omega)));have hxx:=(H3.out.block _ (by omega)).trans HXX.out;obtain⟨x0,x1,x2,x3,x4,xf⟩:=qdg hxx;clear hl3 H2;have g1:(m==0)=false:=by rw[beq_eq_false_iff_ne];exact h0k
   have g2:¬(m < -1000):=by omega
   have g3:¬((1000:Int)<m):=by omega
   clear h0k hm1 hm2 hnk hv0;go_wp2_with fail
   have HB3:=hdzz (HB.out.trans ((HBX.out.trans (H3.out.mono (by omega))).mono hsr));have y0:w3.drew.cell? ⟨wr.heap.size,0,none⟩=_:=x0;have y1:w3.drew.cell? ⟨wr.heap.size,1,none⟩=_:=x1;have y2:w3.drew.cell? ⟨wr.heap.size,2,none⟩=_:=x2;have y3:w3.drew.cell? ⟨wr.heap.size,3,none⟩=_:=x3;have hsD:wr.heap.size<w3.drew.heap.size:=by show _<w3.heap.size;omega
   have HBD:=hdzz HB3.out.drew;clear x0 x1 x2 x3 x4 xf hxx;rcases Nat.eq_zero_or_pos k with rfl|hkp
   ·refine qae (fun Y=>Below w3.drew.heap.size w3.drew Y) (fun _=>True) [] (.held 0 (.held 1 (.held 2 (.held 3 (.held 4 (.held 5 (.held 6 (.held 7 (.held 8 (.held 9 (.held 10 (.held 11 (.held 12 (.held 13 (.held 14 .nil))))))))))))))) mixed (by kernel_rfl) ?_;generalize w3.drew=D at *;refine stkz (.int .i64 0) rfl rfl rfl (fun _ _ _ h=>h) (Below.refl _ _) (fun Y hY=>by
      (try simp only[Act.put]);go_simp) ?_
    refine stkz (.bool false) rfl rfl rfl (fun _ _ _ h=>h) (Below.refl _ _) (fun Y hY=>by
      (try simp only[Act.put]);go_simp) ?_
    refine stkz (.bool false) rfl rfl rfl (fun _ _ _ h=>h) (Below.refl _ _) (fun Y hY=>by
      (try simp only[Act.put]);go_simp) ?_
    refine qad rfl (by kernel_rfl) rfl (fun _ _ _ h=>h) (Below.refl _ _) trivial ?_;refine qad rfl (by kernel_rfl) rfl (fun _ _ _ h=>h) (Below.refl _ _) trivial ?_;refine qad rfl (by kernel_rfl) rfl (fun _ _ _ h=>h) (Below.refl _ _) trivial ?_;refine qad rfl (by kernel_rfl) rfl (fun _ _ _ h=>h) (Below.refl _ _) trivial ?_;refine qad rfl (by kernel_rfl) rfl (fun _ _ _ h=>h) (Below.refl _ _) trivial ?_;refine qad rfl (by kernel_rfl) rfl (fun _ _ _ h=>h) (Below.refl _ _) trivial ?_;refine qad rfl (by kernel_rfl) rfl (fun _ _ _ h=>h) (Below.refl _ _) trivial ?_;refine qad rfl (by kernel_rfl) rfl (fun _ _ _ h=>h) (Below.refl _ _) trivial ?_;refine qad rfl (by kernel_rfl) rfl (fun _ _ _ h=>h) (Below.refl _ _) trivial ?_;refine qad rfl (by kernel_rfl) rfl (fun _ _ _ h=>h) (Below.refl _ _) trivial ?_
    refine stkz (.bool false) rfl rfl rfl (fun _ _ _ h=>h) (Below.refl _ _) (fun Y hY=>by
      (try simp only[Act.put]);go_simp) ?_
    refine stkz (.bool false) rfl rfl rfl (fun _ _ _ h=>h) (Below.refl _ _) (fun Y hY=>by
      (try simp only[Act.put]);go_simp) ?_
    refine qat ?_;simp only[Act.put,fsa,fsb,fsc,fsd,fse,fsf];clear y0 y1 y2 y3;go_wp2_with fail
    go_roundw
    case rel=>exact⟨1,by omega,by go_num,HBD.out⟩
    case measure=>simp[intOf];omega
   ·have hpl:k - 1<l.length:=by omega
    obtain⟨Ap,cp,p0,p1,p2,p3,p4,p5⟩:=HGET.out (k - 1) hpl;have hcm:=hlt2.out hkp;have hps:=(qai (HV.out.2 l[k - 1] (List.getElem_mem hpl)).1).2.1;obtain⟨j,hj⟩:∃j,j=k - 1:=⟨_,rfl⟩;have hjI:(k:Int) - 1=(j:Int):=by omega
    have hwj:IntKind.i64.wrap (j:Int)=(j:Int):=by rw[IntKind.wrap_i64];omega
    obtain⟨pt,hpt⟩:∃x,x=l[k - 1].1:=⟨_,rfl⟩;rw[←hpt]at p0 p1 p2 p3 p5 hcm hps;rw[←hj]at p0 p1 p2 p3;have hjn:(j:Int)<(nl:Int):=by omega
    have hkI:(0:Int)<(k:Int):=by omega
    have hj0:(0:Int)≤(j:Int):=by omega
    have hjk:¬(nl≤j):=by omega
    have hbR3:Below wr.heap.size wr w3:=HBX.out.trans (H3.out.mono (by omega));have z0:w3.drew.cell? ⟨b,off+j*5,none⟩=_:=(hbR3.cell (p:=⟨b,off+j*5,none⟩) (by show b<_;omega)).trans p0;have z1:w3.drew.cell? ⟨b,off+j*5+1,none⟩=_:=(hbR3.cell (p:=⟨b,off+j*5+1,none⟩) (by show b<_;omega)).trans p1;have z2:w3.drew.cell? ⟨b,off+j*5+2,none⟩=_:=(hbR3.cell (p:=⟨b,off+j*5+2,none⟩) (by show b<_;omega)).trans p2;have z3:w3.drew.cell? ⟨b,off+j*5+3,none⟩=_:=(hbR3.cell (p:=⟨b,off+j*5+3,none⟩) (by show b<_;omega)).trans p3;have hbw:b<w3.drew.heap.size:=by show _<w3.heap.size;omega
    have CM:Hid (Calls Tryz.prog 53 #[pt.val Ap cp,q.val A1 c1] w3.drew fun e w'=>e=.returned (.int .i64 (pt.cmp q))∧Lay w3.drew.heap.size w3.drew w'):=hdzz
     (qb7 1000000 pt q Ap A1 cp c1 w3.drew (by omega) (by omega) (by omega) (RepP.mono (w := wr) (w' := w3.drew) (fun b (h : b < w.heap.size) => by show _ < w3.heap.size; omega) (fun p (hp : p.block < w.heap.size) => hbR3.cell (by omega)) _ _ _ p5)
      (RepP.mono (w:=X) (w':=w3.drew) (fun b (h:b<w.heap.size)=>by show _<w3.heap.size;omega) (fun p (hp:p.block<w.heap.size)=>H3.out.cell (by omega)) _ _ _ HQX.out))
    obtain⟨r,hr⟩:∃r,r=pt.cmp q:=⟨_,rfl⟩;rw[←hr]at CM hcm;have hcr:¬(0≤r):=by omega
    clear hr hpt hj p0 p1 p2 p3 p4 p5 hbR3 hcm;simp only[Tm.val]at CM;refine qae (fun Y=>Below w3.drew.heap.size w3.drew Y) (fun _=>True) [] (.held 0 (.held 1 (.held 2 (.held 3 (.held 4 (.held 5 (.held 6 (.held 7 (.held 8 (.held 9 (.held 10 (.op 11 (.held 12 (.held 13 (.held 14 .nil))))))))))))))) mixed (by kernel_rfl) ?_;generalize w3.drew=D at *;refine stkz (.int .i64 k) rfl rfl rfl (fun _ _ _ h=>h) (Below.refl _ _) (fun Y hY=>by
      (try simp only[Act.put]);go_simp) ?_
    refine stkz (.bool true) rfl rfl rfl (fun _ _ _ h=>h) (Below.refl _ _) (fun Y hY=>by
      (try simp only[Act.put]);go_simp) ?_
    refine stkz (.bool true) rfl rfl rfl (fun _ _ _ h=>h) (Below.refl _ _) (fun Y hY=>by
      (try simp only[Act.put]);go_simp) ?_
    refine qac (v:=.slice (some ⟨b,off,none⟩) nl c) rfl (by kernel_rfl) rfl (fun _ _ _ h=>h) (Below.refl _ _) trivial (fun Y hY hY2=>by
      (try simp only[Act.put]);go_simp) ?_
    refine qac (v:=.int .i64 k) rfl (by kernel_rfl) rfl (fun _ _ _ h=>h) (Below.refl _ _) trivial (fun Y hY hY2=>by
      (try simp only[Act.put]);go_simp) ?_
    refine qac (v:=.int .i64 j) rfl (by kernel_rfl) rfl (fun _ _ _ h=>h) (Below.refl _ _) trivial (fun Y hY hY2=>by
      (try simp only[Act.put]);go_simp) ?_
    refine qac (v:=.pointer (some ⟨b,off+j*5,none⟩)) rfl (by kernel_rfl) rfl (fun _ _ _ h=>h) (Below.refl _ _) trivial (fun Y hY hY2=>by
      (try simp only[Act.put]);go_simp) ?_
    refine qac (v:=.pointer (some ⟨b,off+j*5,none⟩)) rfl (by kernel_rfl) rfl (fun _ _ _ h=>h) (Below.refl _ _) trivial (fun Y hY hY2=>by
      (try simp only[Act.put]);go_simp) ?_
    simp only[Act.put,fsa,fsb,fsc,fsd,fse,fsf];refine qac (v:=.agg #[.int .i64 pt.kind,.string pt.name,.int .i64 pt.sort,.slice Ap pt.kids.length cp]) rfl (by kernel_rfl) rfl (fun _ _ _ h=>h) (Below.refl _ _) trivial (fun Y hY hY2=>by
      have a0:=sclz hY z0 (by omega);have a1:=sclz hY z1 (by omega);have a2:=sclz hY z2 (by omega);have a3:=sclz hY z3 (by omega)
      (try simp only[Act.put]);go_simp) ?_
    refine qac (v:=.pointer (some ⟨wr.heap.size,0,none⟩)) rfl (by kernel_rfl) rfl (fun _ _ _ h=>h) (Below.refl _ _) trivial (fun Y hY hY2=>by
      (try simp only[Act.put]);go_simp) ?_
    refine qac (v:=.agg #[.int .i64 q.kind,.string q.name,.int .i64 q.sort,.slice A1 q.kids.length c1]) rfl (by kernel_rfl) rfl (fun _ _ _ h=>h) (Below.refl _ _) trivial (fun Y hY hY2=>by
      have a0:=sclz hY y0 (by omega);have a1:=sclz hY y1 (by omega);have a2:=sclz hY y2 (by omega);have a3:=sclz hY y3 (by omega)
      (try simp only[Act.put]);go_simp) ?_
    simp only[Act.put,fsa,fsb,fsc,fsd,fse,fsf];clear y0 y1 y2 y3 z0 z1 z2 z3;refine qbx rfl (by kernel_rfl) (fun K hK=>?_);go_wp2_with fail
    refine CM.out.mono ?_;clear CM;rintro e w5 ⟨rfl,hl5⟩;refine hK _ _ ⟨⟨fun _=>hl5.below,trivial⟩,?_⟩;clear hK K;refine qac (v:=.bool false) rfl (by kernel_rfl) rfl (fun _ _ _ h=>h) hl5.below trivial (fun Y hY hY2=>by
      (try simp only[Act.put]);go_simp) ?_
    refine stkz (.bool false) rfl rfl rfl (fun _ _ _ h=>h) hl5.below (fun Y hY=>by
      (try simp only[Act.put]);go_simp) ?_
    refine stkz (.bool false) rfl rfl rfl (fun _ _ _ h=>h) hl5.below (fun Y hY=>by
      (try simp only[Act.put]);go_simp) ?_
    refine qat ?_;have HB5:=hdzz (HBD.out.trans (hl5.below.mono (by omega)));clear hl5;simp only[Act.put,fsa,fsb,fsc,fsd,fse,fsf];go_wp2_with fail
    go_roundw
    case rel=>exact⟨k+1,by omega,by go_num,HB5.out⟩
    case measure=>simp[intOf];omega
  ·obtain rfl:k=nl:=by omega
   go_wp2_with fail
   go_ret
   exact⟨rfl,HB.out⟩
end Go.Proofs.YtjhjoiplpmjepaaGreat
