/- Tsum, Tprod, Trow, Tins, Umix5, Tbin, Tinsr (joined by shake.py). -/
import Derived.Test.YtjhjoiplpmjepaaGreatW0
import Derived.Test.YtjhjoiplpmjepaaGreatW5
import Derived.Test.YtjhjoiplpmjepaaGreatW6
import Derived.Test.YtjhjoiplpmjepaaGreatW7
import Derived.Test.YtjhjoiplpmjepaaGreatW8
import Derived.Laws.CopyRow
import Derived.Laws.OwnMore
import Derived.Lib.Overlaps
set_option maxRecDepth 100000
set_option linter.unusedVariables false
set_option linter.unusedSimpArgs false
set_option maxHeartbeats 4000000
namespace Go.Proofs.YtjhjoiplpmjepaaGreat
instance tmDec:DecidableEq Tm:=fun a b=>if h:a.same b=true then isTrue (Tm.same_iff.1 h)else isFalse fun e=>h (Tm.same_iff.2 e)
def togT (t:Tm) (L:List Tm):List Tm:=if L.any (fun u=>u.same t)=true then L.filter (fun u=>!u.same t)else Tm.add t L
theorem qo5 (t:Tm) (L:List Tm):(L.any (fun u=>u.same t)=true)↔t∈L:=by
 simp only[List.any_eq_true,Tm.same_iff];exact⟨fun⟨u,h,e⟩=>e ▸ h,fun h=>⟨t,h,rfl⟩⟩
theorem mem_tog (t:Tm) (L:List Tm) (x:Tm):x∈togT t L↔(x=t∧t ∉ L)∨(x≠t∧x∈L):=by
 unfold togT;by_cases h:t∈L
 ·rw[if_pos ((qo5 t L).2 h),List.mem_filter];constructor
  ·rintro⟨h1,h2⟩;refine .inr ⟨fun e=>?_,h1⟩;rw[Tm.same_iff.2 e]at h2;exact absurd h2 (by decide)
  ·rintro(⟨-,h2⟩|⟨h1,h2⟩)
   ·exact absurd h h2
   ·exact⟨h2,by rw[Tm.same_false.2 h1];rfl⟩
 ·rw[if_neg (fun e=>h ((qo5 t L).1 e)),Tm.mem_add];constructor
  ·rintro(h1|h1)
   ·exact .inl ⟨h1,h⟩
   ·exact .inr ⟨fun e=>h (e ▸ h1),h1⟩
  ·rintro(⟨h1,-⟩|⟨-,h2⟩)
   ·exact .inl h1
   ·exact .inr h2
theorem tog_asc (t:Tm) {L:List Tm} (h:Asc L):Asc (togT t L):=by
 unfold togT
 split
 ·exact List.Pairwise.filter _ h
 ·exact Tm.add_asc t L h
def qfw (a b:List Tm):List Tm:=b.foldl (fun a t=>togT t a) a
theorem qht:∀(b a:List Tm),Asc a→Asc (qfw a b)
 | [],_,h=>h
 | t::r,a,h=>qht r (togT t a) (tog_asc t h)
theorem qd7:∀(b a:List Tm) (x:Tm),b.Nodup→(x∈qfw a b↔((x∈a∧x ∉ b)∨(x ∉ a∧x∈b)))
 | [],a,x,_=>by simp[qfw]
 | t::r,a,x,h=>by
  obtain⟨h1,h2⟩:=List.nodup_cons.1 h;have ih:=qd7 r (togT t a) x h2;show x∈qfw (togT t a) r↔_;rw[ih,mem_tog,List.mem_cons];by_cases e:x=t
  ·subst e;by_cases ha:x∈a<;>simp[ha,h1]
  ·by_cases ha:x∈a<;>by_cases hr:x∈r<;>simp[ha,hr,e]
theorem qct {l:List Tm} (h:Asc l):l.Nodup:=h.imp fun {a b} hab e=>by subst e;rw[Tm.cmp_self]at hab;omega
def nXor:ByteArray:=⟨#[120,111,114]⟩
def qdv:ByteArray:=⟨#[122,101,114,111]⟩
mutual
def Tm.sumd:Tm→List Tm
 | .mk k n s l=>if k=3∧n=qdv∧l=[]then []else if k=3∧n=nXor then Tm.sumds l []else [.mk k n s l]
def Tm.sumds:List Tm→List Tm→List Tm
 | [],a=>a
 | t::r,a=>Tm.sumds r (qfw a (Tm.sumd t))
end
mutual
theorem qc7:∀t:Tm,Asc t.sumd
 | .mk k n s l=>by
  rw[Tm.sumd]
  split
  ·exact List.Pairwise.nil
  ·split
   ·exact qdb l [] List.Pairwise.nil
   ·exact List.pairwise_singleton _ _
theorem qdb:∀(l a:List Tm),Asc a→Asc (Tm.sumds l a)
 | [],_,h=>h
 | _::r,_,h=>qdb r _ (qht _ _ h)
end
def parL (L:List Tm) (x:Tm):Bool:=L.foldr (fun k b=>(decide (x∈k.sumd)) ^^ b) false
theorem qef (x:Tm):∀(L a:List Tm),(x∈Tm.sumds L a↔(decide (x∈a) ^^ parL L x)=true)
 | [],a=>by simp[Tm.sumds,parL]
 | t::r,a=>by
  rw[Tm.sumds,qef x r,Bool.eq_iff_iff.1 rfl];have h:=qd7 t.sumd a x (qct (qc7 t));have hp:parL (t::r) x=(decide (x∈t.sumd) ^^ parL r x):=rfl;rw[hp];by_cases h1:x∈a<;>by_cases h2:x∈t.sumd<;>simp[h1,h2,h]
theorem parL_perm {L M:List Tm} (h:L.Perm M) (x:Tm):parL L x=parL M x:=by
 induction h with
 | nil=>rfl
 | @cons a l l' _ ih=>show(decide (x∈a.sumd) ^^ parL l x)=(decide (x∈a.sumd) ^^ parL l' x);rw[ih]
 | swap a b l=>show(decide (x∈b.sumd) ^^ (decide (x∈a.sumd) ^^ parL l x))=(decide (x∈a.sumd) ^^ (decide (x∈b.sumd) ^^ parL l x));rw[←Bool.xor_assoc,←Bool.xor_assoc,Bool.xor_comm (decide (x∈b.sumd))]
 | trans _ _ h1 h2=>exact h1.trans h2
theorem sumds_ext {L M:List Tm} (h:∀x,parL L x=parL M x):Tm.sumds L []=Tm.sumds M []:=
 qdr (qdb L [] List.Pairwise.nil) (qdb M [] List.Pairwise.nil) fun x=>by rw[qef,qef,h x]
mutual
theorem sumd_atom:∀t:Tm,∀p∈t.sumd,p.sumd=[p]
 | .mk k n s l,p,hp=>by
  rw[Tm.sumd]at hp
  split at hp
  ·cases hp
  ·split at hp
   ·exact qe9 l [] (by simp) p hp
   ·rename_i h1 h2
    rw[List.mem_singleton.1 hp,Tm.sumd,if_neg h1,if_neg h2]
theorem qe9:∀(l a:List Tm),(∀p∈a,p.sumd=[p])→∀p∈Tm.sumds l a,p.sumd=[p]
 | [],_,h,p,hp=>h p hp
 | t::r,a,h,p,hp=>by
  refine qe9 r _ (fun q hq=>?_) p hp;rcases (qd7 t.sumd a q (qct (qc7 t))).1 hq with⟨h1,-⟩|⟨-,h2⟩
  ·exact h q h1
  ·exact sumd_atom t q h2
end
def xorT (L:List Tm):Tm:=match L with
 | []=>.mk 3 qdv 0 []
 | [p]=>p
 | L=>.mk 3 nXor 0 L
theorem qp7 {L:List Tm} (hn:L.Nodup) (ha:∀p∈L,p.sumd=[p]) (x:Tm):parL L x=decide (x∈L):=by
 induction L with
 | nil=>simp[parL]
 | cons a r ih=>
  obtain⟨h1,h2⟩:=List.nodup_cons.1 hn;show(decide (x∈a.sumd) ^^ parL r x)=_;rw[ih h2 (fun p hp=>ha p (List.mem_cons_of_mem _ hp)),ha a (List.mem_cons_self ..)];by_cases e:x=a
  ·subst e;simp[h1]
  ·by_cases h:x∈r<;>simp[e,h]
theorem qh3 {L:List Tm} (h:Asc L) (ha:∀p∈L,p.sumd=[p]):Tm.sumds L []=L:=
 qdr (qdb L [] List.Pairwise.nil) h fun x=>by rw[qef,qp7 (qct h) ha];simp
theorem sumd_xorT {L:List Tm} (h:Asc L) (ha:∀p∈L,p.sumd=[p]):(xorT L).sumd=L:=by
 match L,h,ha with
 | [],_,_=>rw[xorT,Tm.sumd,if_pos ⟨rfl,rfl,rfl⟩]
 | [p],_,ha=>exact ha p (by simp)
 | a::b::r,h,ha=>
  rw[xorT,Tm.sumd,if_neg (by simp),if_pos ⟨rfl,rfl⟩]
  ·exact qh3 h ha
  all_goals simp
theorem sumd_sum (K:List Tm):(xorT (Tm.sumds K [])).sumd=Tm.sumds K []:=
 sumd_xorT (qdb K [] List.Pairwise.nil) (qe9 K [] (by simp))
def nMul:ByteArray:=⟨#[109,117,108]⟩
def nInv:ByteArray:=⟨#[105,110,118]⟩
def nOne:ByteArray:=⟨#[111,110,101]⟩
def Tm.sym (t:Tm):Prop:=t.kind=3∧(t.name=nMul∨t.name=nInv∨t.name=nOne)
instance (t:Tm):Decidable t.sym:=by unfold Tm.sym;infer_instance
def insP (t:Tm) (n:Int):List (Tm×Int)→List (Tm×Int)
 | []=>[(t,n)]
 | (u,m)::r=>if t.cmp u<0 then (t,n)::(u,m)::r else if t.cmp u=0 then (if m+n=0 then r else (u,m+n)::r)else (u,m)::insP t n r
def qby:List (Tm×Int)→Tm→Int
 | [],_=>0
 | (u,m)::r,x=>(if u=x then m else 0)+qby r x
def qbv (l:List (Tm×Int)):Prop:=l.Pairwise (fun a b=>a.1.cmp b.1<0)∧∀p∈l,p.2≠0
theorem qbv.nil:qbv []:=⟨List.Pairwise.nil,by simp⟩
theorem qbv.tail {p:Tm×Int} {r:List (Tm×Int)} (h:qbv (p::r)):qbv r:=⟨(List.pairwise_cons.1 h.1).2,fun q hq=>h.2 q (List.mem_cons_of_mem _ hq)⟩
theorem qmb {l:List (Tm×Int)} {x:Tm} (h:∀p∈l,p.1≠x):qby l x=0:=by
 induction l with
 | nil=>rfl
 | cons p r ih=>rw[qby,if_neg (h p (List.mem_cons_self ..)),ih fun q hq=>h q (List.mem_cons_of_mem _ hq)];rfl
theorem qkq (t:Tm) (n:Int) (x:Tm):∀l:List (Tm×Int),qby (insP t n l) x=qby l x+if t=x then n else 0
 | []=>by simp only[insP,qby];omega
 | (u,m)::r=>by
  rw[insP]
  split
  ·rw[qby];omega
  ·split
   ·rename_i h1 h2
    have e:=Tm.cmp_zero.1 h2;subst e
    split
    ·rw[qby];split<;>omega
    ·rw[qby,qby];split<;>omega
   ·rw[qby,qby,qkq t n x r];omega
theorem qhw (t:Tm) (n:Int):∀(l:List (Tm×Int)),∀p∈insP t n l,p.1=t∨∃q∈l,q.1=p.1
 | [],p,hp=>by rw[insP,List.mem_singleton]at hp;subst hp;exact .inl rfl
 | (u,m)::r,p,hp=>by
  rw[insP]at hp
  split at hp
  ·rcases List.mem_cons.1 hp with h|h
   ·subst h;exact .inl rfl
   ·exact .inr ⟨p,h,rfl⟩
  ·split at hp
   ·split at hp
    ·exact .inr ⟨p,List.mem_cons_of_mem _ hp,rfl⟩
    ·rcases List.mem_cons.1 hp with h|h
     ·subst h;exact .inr ⟨(u,m),List.mem_cons_self ..,rfl⟩
     ·exact .inr ⟨p,List.mem_cons_of_mem _ h,rfl⟩
   ·rcases List.mem_cons.1 hp with h|h
    ·subst h;exact .inr ⟨(u,m),List.mem_cons_self ..,rfl⟩
    ·rcases qhw t n r p h with h|⟨q,h,e⟩
     ·exact .inl h
     ·exact .inr ⟨q,List.mem_cons_of_mem _ h,e⟩
theorem cmp_pos {a b:Tm} (h:¬a.cmp b<0) (h0:a.cmp b≠0):b.cmp a<0:=by have:=Tm.cmp_neg a b;omega
theorem cmp_tr {a b c:Tm} (h:a.cmp b<0) (k:b.cmp c<0):a.cmp c<0:=by
 have:=Tm.cmp_tri a b c;unfold Tri at this;omega
theorem qku (t:Tm) {n:Int} (hn:n≠0):∀{l:List (Tm×Int)},qbv l→qbv (insP t n l)
 | [],_=>by rw[insP];exact⟨List.pairwise_singleton _ _,fun p hp=>by rw[List.mem_singleton.1 hp];exact hn⟩
 | (u,m)::r,h=>by
  obtain⟨h1,h2⟩:=List.pairwise_cons.1 h.1;rw[insP]
  split
  ·rename_i hc
   refine⟨List.pairwise_cons.2 ⟨fun p hp=>?_,h.1⟩,fun p hp=>?_⟩
   ·rcases List.mem_cons.1 hp with e|e
    ·subst e;exact hc
    ·exact cmp_tr hc (h1 p e)
   ·rcases List.mem_cons.1 hp with e|e
    ·subst e;exact hn
    ·exact h.2 p e
  ·split
   ·split
    ·exact h.tail
    ·rename_i hm
     refine⟨List.pairwise_cons.2 ⟨fun p hp=>h1 p hp,h2⟩,fun p hp=>?_⟩;rcases List.mem_cons.1 hp with e|e
     ·subst e;exact hm
     ·exact h.2 p (List.mem_cons_of_mem _ e)
   ·rename_i hc hz
    have ih:=qku t hn h.tail;refine⟨List.pairwise_cons.2 ⟨fun p hp=>?_,ih.1⟩,fun p hp=>?_⟩
    ·rcases qhw t n r p hp with e|⟨q,hq,e⟩
     ·rw[e];exact cmp_pos hc hz
     ·rw[←e];exact h1 q hq
    ·rcases List.mem_cons.1 hp with e|e
     ·subst e;exact h.2 (u,m) (List.mem_cons_self ..)
     ·exact ih.2 p e
theorem good_look {u:Tm} {m:Int} {r:List (Tm×Int)} (h:qbv ((u,m)::r)):qby ((u,m)::r) u=m:=by
 rw[qby,if_pos rfl,qmb fun p hp e=>?_]
 ·omega
 ·have:=(List.pairwise_cons.1 h.1).1 p hp;dsimp only at this;rw[e,Tm.cmp_self]at this;omega
theorem look_less {x:Tm} {l:List (Tm×Int)} (h:∀p∈l,x.cmp p.1<0):qby l x=0:=
 qmb fun p hp e=>by have:=h p hp;rw[e,Tm.cmp_self]at this;omega
theorem qc4:∀{a b:List (Tm×Int)},qbv a→qbv b→(∀x,qby a x=qby b x)→a=b
 | [],[],_,_,_=>rfl
 | [],(v,k)::s,_,hb,h=>by have:=h v;rw[good_look hb]at this;exact absurd this.symm (hb.2 _ (List.mem_cons_self ..))
 | (u,m)::r,[],ha,_,h=>by have:=h u;rw[good_look ha]at this;exact absurd this (ha.2 _ (List.mem_cons_self ..))
 | (u,m)::r,(v,k)::s,ha,hb,h=>by
  have key:∀{u v:Tm} {m k:Int} {r s:List (Tm×Int)},qbv ((u,m)::r)→qbv ((v,k)::s)→qby ((u,m)::r) u=qby ((v,k)::s) u→¬u.cmp v<0:=by
   intro u v m k r s ha hb h hc;rw[good_look ha,look_less fun p hp=>?_]at h
   ·exact ha.2 _ (List.mem_cons_self ..) h
   ·rcases List.mem_cons.1 hp with e|e
    ·subst e;exact hc
    ·exact cmp_tr hc ((List.pairwise_cons.1 hb.1).1 p e)
  have h1:=key ha hb (h u);have h2:=key hb ha (h v).symm;have h3:=Tm.cmp_neg u v;have e:u=v:=Tm.cmp_zero.1 (by omega);subst e;have hm:=h u;rw[good_look ha,good_look hb]at hm;subst hm;rw[qc4 ha.tail hb.tail fun x=>by have:=h x;rw[qby,qby]at this;omega]
mutual
def qdz:Tm→Tm→Int
 | .mk k n s l,x=>if (Tm.mk k n s l).sym then (if n=nInv then - qb0 l x else qb0 l x)else if .mk k n s l=x then 1 else 0
def qb0:List Tm→Tm→Int
 | [],_=>0
 | t::r,x=>qdz t x+qb0 r x
end
mutual
def colP:Tm→Int→List (Tm×Int)→List (Tm×Int)
 | .mk k n s l,i,a=>if (Tm.mk k n s l).sym then qe7 l (if n=nInv then -i else i) a else insP (.mk k n s l) i a
def qe7:List Tm→Int→List (Tm×Int)→List (Tm×Int)
 | [],_,a=>a
 | t::r,i,a=>qe7 r i (colP t i a)
end
mutual
theorem qor (x:Tm):∀(t:Tm) (i:Int) (a:List (Tm×Int)),qby (colP t i a) x=qby a x+i*qdz t x
 | .mk k n s l,i,a=>by
  rw[colP,qdz]
  split
  ·rw[qmc x l]
   split
   ·rw[Int.neg_mul,Int.mul_neg]
   ·rfl
  ·rw[qkq]
   split<;>simp
theorem qmc (x:Tm):∀(l:List Tm) (i:Int) (a:List (Tm×Int)),qby (qe7 l i a) x=qby a x+i*qb0 l x
 | [],i,a=>by rw[qe7,qb0];simp
 | t::r,i,a=>by rw[qe7,qb0,qmc x r,qor x t,Int.mul_add];omega
end
mutual
theorem qk1:∀(t:Tm) {i:Int} {a:List (Tm×Int)},i≠0→qbv a→qbv (colP t i a)
 | .mk k n s l,i,a,hi,ha=>by
  rw[colP]
  split
  ·exact qmp l (by split<;>omega) ha
  ·exact qku _ hi ha
theorem qmp:∀(l:List Tm) {i:Int} {a:List (Tm×Int)},i≠0→qbv a→qbv (qe7 l i a)
 | [],_,_,_,ha=>ha
 | t::r,_,_,hi,ha=>qmp r hi (qk1 t hi ha)
end
mutual
def AllF (Q:Tm→Prop):Tm→Prop
 | .mk k n s l=>if (Tm.mk k n s l).sym then AllFs Q l else Q (.mk k n s l)
def AllFs (Q:Tm→Prop):List Tm→Prop
 | []=>True
 | t::r=>AllF Q t∧AllFs Q r
end
mutual
theorem qoz {Q:Tm→Prop}:∀(t:Tm) (i:Int) (a:List (Tm×Int)),AllF Q t→(∀p∈a,Q p.1)→∀p∈colP t i a,Q p.1
 | .mk k n s l,i,a,ht,ha,p,hp=>by
  rw[colP]at hp;rw[AllF]at ht
  split at hp
  ·rename_i hs
   rw[if_pos hs]at ht;exact qmo l _ a ht ha p hp
  ·rename_i hs
   rw[if_neg hs]at ht;rcases qhw _ _ _ p hp with e|⟨q,hq,e⟩
   ·rw[e];exact ht
   ·rw[←e];exact ha q hq
theorem qmo {Q:Tm→Prop}:∀(l:List Tm) (i:Int) (a:List (Tm×Int)),AllFs Q l→(∀p∈a,Q p.1)→∀p∈qe7 l i a,Q p.1
 | [],_,_,_,ha,p,hp=>ha p hp
 | t::r,i,a,ht,ha,p,hp=>by
  rw[AllFs]at ht;exact qmo r i _ ht.2 (qoz t i a ht.1 ha) p hp
end
mutual
theorem AllF.imp {Q R:Tm→Prop}:∀(t:Tm),(∀x,¬x.sym→Q x→R x)→AllF Q t→AllF R t
 | .mk k n s l,hi,h=>by
  rw[AllF]at h ⊢
  split
  ·rename_i hs;rw[if_pos hs]at h;exact AllFs.imp l hi h
  ·rename_i hs;rw[if_neg hs]at h;exact hi _ hs h
theorem AllFs.imp {Q R:Tm→Prop}:∀(l:List Tm),(∀x,¬x.sym→Q x→R x)→AllFs Q l→AllFs R l
 | [],_,_=>by rw[AllFs];trivial
 | t::r,hi,h=>by rw[AllFs]at h ⊢;exact⟨AllF.imp t hi h.1,AllFs.imp r hi h.2⟩
end
mutual
theorem AllF.free:∀(t:Tm),AllF (fun x=>¬x.sym) t
 | .mk k n s l=>by
  rw[AllF]
  split
  ·exact AllFs.free l
  ·assumption
theorem AllFs.free:∀(l:List Tm),AllFs (fun x=>¬x.sym) l
 | []=>by rw[AllFs];trivial
 | t::r=>by rw[AllFs];exact⟨AllF.free t,AllFs.free r⟩
end
def ofT (t:Tm):List (Tm×Int):=colP t 1 []
theorem qfe (t:Tm):qbv (ofT t):=qk1 t (by omega) qbv.nil
theorem qgi (t x:Tm):qby (ofT t) x=qdz t x:=by rw[ofT,qor,qby];omega
theorem qfd {Q:Tm→Prop} {t:Tm} (h:AllF Q t):∀p∈ofT t,Q p.1:=qoz t 1 [] h (by simp)
theorem qon (t:Tm):∀p∈ofT t,¬p.1.sym:=qfd (AllF.free t)
theorem qkk {t u:Tm} (h:∀x,qdz t x=qdz u x):ofT t=ofT u:=qc4 (qfe t) (qfe u) fun x=>by rw[qgi,qgi,h x]
def posP (l:List (Tm×Int)):List Tm:=l.flatMap fun p=>List.replicate p.2.toNat p.1
def negP (l:List (Tm×Int)):List Tm:=l.flatMap fun p=>List.replicate (-p.2).toNat (.mk 3 nInv 0 [p.1])
def mulT:List Tm→Tm
 | []=>.mk 3 nOne 0 []
 | [t]=>t
 | l=>.mk 3 nMul 0 l
def prodT (l:List (Tm×Int)):Tm:=mulT (posP l++negP l)
theorem qde (a b:List Tm) (x:Tm):qb0 (a++b) x=qb0 a x+qb0 b x:=by
 induction a with
 | nil=>rw[List.nil_append,qb0];omega
 | cons t r ih=>rw[List.cons_append,qb0,qb0,ih];omega
theorem qir (t x:Tm):∀n:Nat,qb0 (List.replicate n t) x=n*qdz t x
 | 0=>by rw[List.replicate_zero,qb0];omega
 | n+1=>by rw[List.replicate_succ,qb0,qir t x n,Int.natCast_succ,Int.add_mul];omega
theorem coef_free {t:Tm} (h:¬t.sym) (x:Tm):qdz t x=if t=x then 1 else 0:=by
 obtain⟨k,n,s,l⟩:=t;rw[qdz,if_neg h]
theorem qk2 (t x:Tm):qdz (.mk 3 nInv 0 [t]) x = - qdz t x:=by
 rw[qdz,if_pos ⟨rfl,.inr (.inl rfl)⟩,if_pos rfl,qb0,qb0];omega
theorem qmq (x:Tm):∀(l:List (Tm×Int)),(∀p∈l,¬p.1.sym)→qb0 (posP l++negP l) x=qby l x
 | [],_=>by rw[posP,negP,List.flatMap_nil,List.flatMap_nil,List.nil_append,qb0,qby]
 | (u,m)::r,h=>by
  have ih:=qmq x r fun p hp=>h p (List.mem_cons_of_mem _ hp);have hu:=h (u,m) (List.mem_cons_self ..);rw[qde]at ih;rw[posP,negP,List.flatMap_cons,List.flatMap_cons,qde,qde,qde,qir,qir,qk2,coef_free hu,qby,←ih];show _+qb0 (posP r) x+(_+qb0 (negP r) x)=_
  split
  ·rw[Int.mul_one,Int.mul_neg,Int.mul_one];simp only[Int.ofNat_toNat];omega
  ·rw[Int.mul_zero,Int.neg_zero,Int.mul_zero];omega
theorem coef_mulT (l:List Tm) (x:Tm):qdz (mulT l) x=qb0 l x:=by
 match l with
 | []=>rw[mulT,qdz,if_pos ⟨rfl,.inr (.inr rfl)⟩,if_neg (by decide)]
 | [t]=>rw[mulT,qb0,qb0];omega
 | a::b::r=>
  show qdz (.mk 3 nMul 0 (a::b::r)) x=_;rw[qdz,if_pos ⟨rfl,.inl rfl⟩,if_neg (by decide)]
theorem qqj {l:List (Tm×Int)} (h:∀p∈l,¬p.1.sym) (x:Tm):qdz (prodT l) x=qby l x:=by
 rw[prodT,coef_mulT,qmq x l h]
theorem qgg {l:List (Tm×Int)} (hg:qbv l) (h:∀p∈l,¬p.1.sym):ofT (prodT l)=l:=
 qc4 (qfe _) hg fun x=>by rw[qgi,qqj h]
theorem qnm:ofT (.mk 3 nOne 0 [])=[]:=qgg (l:=[]) qbv.nil (by simp)
theorem ofT_leaf {t:Tm} (h:¬t.sym):ofT t=[(t,1)]:=by
 obtain⟨k,n,s,l⟩:=t;rw[ofT,colP,if_neg h,insP]
theorem ofT_inv {t:Tm} (h:¬t.sym):ofT (.mk 3 nInv 0 [t])=[(t,-1)]:=by
 rw[ofT,colP,if_pos ⟨rfl,.inr (.inl rfl)⟩,if_pos rfl,qe7,qe7];obtain⟨k,n,s,l⟩:=t;rw[colP,if_neg h,insP]
theorem qp4 (t:Tm):prodT [(t,1)]=t:=rfl
theorem ql2 (t:Tm):prodT [(t,-1)]=.mk 3 nInv 0 [t]:=rfl
def mulP (a b:List (Tm×Int)):List (Tm×Int):=b.foldl (fun a p=>insP p.1 p.2 a) a
theorem qd8 (x:Tm):∀(b a:List (Tm×Int)),qby (mulP a b) x=qby a x+qby b x
 | [],a=>by rw[mulP,List.foldl_nil,qby];omega
 | (u,m)::r,a=>by
  show qby (mulP (insP u m a) r) x=_;rw[qd8 x r,qkq,qby];omega
theorem qhv:∀(b:List (Tm×Int)) {a:List (Tm×Int)},qbv a→(∀p∈b,p.2≠0)→qbv (mulP a b)
 | [],_,h,_=>h
 | p::r,_,h,hb=>qhv r (qku p.1 (hb p (List.mem_cons_self ..)) h) fun q hq=>hb q (List.mem_cons_of_mem _ hq)
theorem qhu {Q:Tm→Prop}:∀(b a:List (Tm×Int)),(∀p∈a,Q p.1)→(∀p∈b,Q p.1)→∀p∈mulP a b,Q p.1
 | [],_,h,_=>h
 | q::r,a,h,hb=>qhu r (insP q.1 q.2 a) (fun p hp=>by
   rcases qhw _ _ _ p hp with e|⟨z,hz,e⟩
   ·rw[e];exact hb q (List.mem_cons_self ..)
   ·rw[←e];exact h z hz) fun p hp=>hb p (List.mem_cons_of_mem _ hp)
theorem qkm {b:List (Tm×Int)} (h:qbv b):mulP [] b=b:=qc4 (qhv b qbv.nil h.2) h fun x=>by rw[qd8,qby];omega
end Go.Proofs.YtjhjoiplpmjepaaGreat
namespace Go.Proofs.YtjhjoiplpmjepaaGreat
open Go.RowKit Go.Sort
abbrev Pw:=Tm×Int
abbrev IW:=It×Int
def IW.pw (x:IW):Pw:=(x.1.1,x.2)
def wCells:List IW→List Value
 | []=>[]
 | x::r=>.int .i64 x.1.1.kind::.string x.1.1.name::.int .i64 x.1.1.sort::.slice x.1.2.1 x.1.1.kids.length x.1.2.2::.int .i64 x.2::wCells r
theorem qdi (a b:List IW):wCells (a++b)=wCells a++wCells b:=by
 induction a with
 | nil=>rfl
 | cons x r ih=>simp[wCells,ih]
theorem qj7 (a:List IW):(wCells a).length=a.length*5:=by
 induction a with
 | nil=>rfl
 | cons x r ih=>simp[wCells,ih];omega
theorem qe8 (a:List IW):∀u∈wCells a,u.oneCell'=true:=by
 induction a with
 | nil=>simp[wCells]
 | cons x r ih=>
  intro u hu;simp only[wCells,List.mem_cons]at hu;rcases hu with rfl|rfl|rfl|rfl|rfl|hu
  ·rfl
  ·rfl
  ·rfl
  ·rfl
  ·rfl
  ·exact ih u hu
theorem qgm {α:Type} (a b c d e:α) (r:List α) (j:Nat):(a::b::c::d::e::r)[5+j]?=r[j]?:=by
 rw[show 5+j=j+1+1+1+1+1 by omega];simp
theorem qgx:∀(a:List IW) (i:Nat) (h:i<a.length),
  (wCells a)[i*5]?=some (.int .i64 a[i].1.1.kind)∧(wCells a)[i*5+1]?=some (.string a[i].1.1.name)∧(wCells a)[i*5+2]?=some (.int .i64 a[i].1.1.sort)∧
  (wCells a)[i*5+3]?=some (.slice a[i].1.2.1 a[i].1.1.kids.length a[i].1.2.2)∧(wCells a)[i*5+4]?=some (.int .i64 a[i].2)
 | [],_,h=>by simp at h
 | x::r,0,_=>by simp[wCells]
 | x::r,i+1,h=>by
  have g:=qgx r i (by simpa using h);have e0:(i+1)*5=5+i*5:=by omega
  simp only[wCells,List.getElem_cons_succ];rw[e0,Nat.add_assoc 5 (i*5) 1,Nat.add_assoc 5 (i*5) 2,Nat.add_assoc 5 (i*5) 3,Nat.add_assoc 5 (i*5) 4,qgm,qgm,qgm,qgm,qgm];exact g
theorem qfr:∀(a:List IW) (i:Nat),(wCells a).take (i*5)=wCells (a.take i)
 | [],i=>by simp[wCells]
 | x::r,0=>by simp[wCells]
 | x::r,i+1=>by
  rw[show(i+1)*5=i*5+1+1+1+1+1 by omega];simp only[wCells,List.take_succ_cons,qfr r i]
theorem qfs:∀(a:List IW) (i:Nat),(wCells a).drop (i*5)=wCells (a.drop i)
 | [],i=>by simp[wCells]
 | x::r,0=>by simp[wCells]
 | x::r,i+1=>by
  rw[show(i+1)*5=i*5+1+1+1+1+1 by omega];simp only[wCells,List.drop_succ_cons,qfs r i]
theorem wCells_setN:∀(a:List IW) (i:Nat) (h:i<a.length) (m:Int),(wCells a).set (i*5+4) (.int .i64 m)=wCells (a.set i (a[i].1,m))
 | [],_,h,_=>by simp at h
 | x::r,0,_,m=>by simp[wCells]
 | x::r,i+1,h,m=>by
  have g:=wCells_setN r i (by simpa using h) m;rw[show(i+1)*5+4=(i*5+4)+1+1+1+1+1 by omega];simp only[wCells,List.set_cons_succ,List.getElem_cons_succ,g]
theorem powInfo:(Tryz.prog.info? 163).map (fun i=>(i.zero,i.size,i.bytes))=some (some (.agg #[.int .i64 0,.string ⟨#[]⟩,.int .i64 0,.slice none 0 0,.int .i64 0]),5,64):=by kernel_rfl
def RepW (w:World) (P:Nat→Prop) (l:List Pw) (A:Option Addr) (cap:Nat):Prop:=
 l.length≤cap∧cap≤maxLen∧(l=[]∨∃b off,A=some ⟨b,off,none⟩∧P b∧∃its:List IW,its.map IW.pw=l∧(∀j u,(wCells its)[j]?=some u→w.cell? ⟨b,off+j,none⟩=some u)∧∀x∈its,RepP w P x.1.1 x.1.2.1 x.1.2.2)
theorem RepW.mono {w w':World} {P P':Nat→Prop} (hP:∀b,P b→P' b) (hc:∀p:Addr,P p.block→w'.cell? p=w.cell? p) {l:List Pw} {A:Option Addr} {cap:Nat} (h:RepW w P l A cap):RepW w' P' l A cap:=by
 obtain⟨h1,h2,h3⟩:=h;refine⟨h1,h2,?_⟩;rcases h3 with h3|⟨b,off,hA,hb,its,he,hl,hr⟩
 ·exact .inl h3
 ·exact .inr ⟨b,off,hA,hP b hb,its,he,fun j u hj=>by rw[hc _ hb];exact hl j u hj,fun x hx=>RepP.mono hP hc _ _ _ (hr x hx)⟩
theorem RepW.go {w w':World} {B B':Nat} {l:List Pw} {A:Option Addr} {cap:Nat} (h:RepW w (fun b=>b<B) l A cap) (hb:Below B w w') (hB:B≤B'):RepW w' (fun b=>b<B') l A cap:=
 h.mono (fun _ h=>Nat.lt_of_lt_of_le h hB) (fun _ hp=>hb.cell hp)
theorem RepW.get {w:World} {P:Nat→Prop} {l:List Pw} {A:Option Addr} {cap:Nat} (h:RepW w P l A cap) (hne:l≠[]):∃b off,A=some ⟨b,off,none⟩∧P b∧∀i (hi:i<l.length),∃A' c',
  w.cell? ⟨b,off+i*5,none⟩=some (.int .i64 l[i].1.kind)∧w.cell? ⟨b,off+i*5+1,none⟩=some (.string l[i].1.name)∧w.cell? ⟨b,off+i*5+2,none⟩=some (.int .i64 l[i].1.sort)∧
  w.cell? ⟨b,off+i*5+3,none⟩=some (.slice A' l[i].1.kids.length c')∧w.cell? ⟨b,off+i*5+4,none⟩=some (.int .i64 l[i].2)∧RepP w P l[i].1 A' c':=by
 rcases h.2.2 with h|⟨b,off,hA,hb,its,rfl,hl,hr⟩
 ·exact absurd h hne
 ·refine⟨b,off,hA,hb,fun i hi=>?_⟩;have hi':i<its.length:=by simpa using hi
  obtain⟨g0,g1,g2,g3,g4⟩:=qgx its i hi';rw[List.getElem_map];refine⟨its[i].1.2.1,its[i].1.2.2,hl _ _ g0,?_,?_,?_,?_,hr _ (List.getElem_mem hi')⟩
  ·rw[Nat.add_assoc];exact hl _ _ g1
  ·rw[Nat.add_assoc];exact hl _ _ g2
  ·rw[Nat.add_assoc];exact hl _ _ g3
  ·rw[Nat.add_assoc];exact hl _ _ g4
theorem RepW.nil (w:World) (P:Nat→Prop):RepW w P [] none 0:=⟨by simp,by simp[maxLen],.inl rfl⟩
structure RowW (w:World) (base:Nat) (F:Nat→Prop) (v:Value) (its:List IW):Prop where
 own:w.ownsRow base 163 5 v its.length (wCells its)
 reps:∀x∈its,RepP w (fun b=>F b∧b<w.heap.size∧v.ownBlock≠some b) x.1.1 x.1.2.1 x.1.2.2
section
variable {w w':World} {base:Nat} {F:Nat→Prop} {v:Value} {its:List IW}
theorem RowW.nil (w:World) (base:Nat) (F:Nat→Prop):RowW w base F (.slice none 0 0) []:=⟨World.ownsRow_nil _ _ _ _,by simp⟩
theorem RowW.keep (h:RowW w base F v its) (hs:w.heap.size≤w'.heap.size) (hc:∀b,b<w.heap.size→(F b∨v.ownBlock=some b)→w'.heap[b]?=w.heap[b]?):RowW w' base F v its:=by
 refine⟨⟨h.own.1,?_⟩,fun x hx=>?_⟩
 ·rcases h.own.2 with hn|⟨g,cap,cur,rfl,hb,hg,r⟩
  ·exact .inl hn
  ·have hlt:g<w.heap.size:=(sltz hg);exact .inr ⟨g,cap,cur,rfl,hb,by rw[hc g hlt (Or.inr rfl)];exact hg,r⟩
 ·refine RepP.mono ?_ ?_ _ _ _ (h.reps x hx)
  ·rintro b ⟨h1,h2,h3⟩;exact⟨h1,by omega,h3⟩
  ·rintro p ⟨h1,h2,h3⟩;exact World.cell?_of_block (hc p.block h2 (Or.inl h1))
theorem RowW.below (h:RowW w base F v its) (hb:Below w.heap.size w w'):RowW w' base F v its:=h.keep hb.size (fun b hlt _=>hb.block b hlt)
theorem RowW.lt (h:RowW w base F v its):∀k,v.ownBlock=some k→base≤k∧k<w.heap.size:=h.own.lt
theorem RowW.loosen {base':Nat} {F':Nat→Prop} (h:RowW w base F v its) (hb:base'≤base) (hF:∀b,F b→b<w.heap.size→F' b):RowW w base' F' v its:=by
 refine⟨⟨h.own.1,?_⟩,fun x hx=>RepP.mono (fun b ⟨h1,h2,h3⟩=>⟨hF b h1 h2,h2,h3⟩) (fun _ _=>rfl) _ _ _ (h.reps x hx)⟩;rcases h.own.2 with h|⟨g,cap,cur,h1,h2,h3⟩
 ·exact .inl h
 ·exact .inr ⟨g,cap,cur,h1,by omega,h3⟩
theorem RowW.toW {P:Nat→Prop} (h:RowW w base F v its) (hF:∀b,F b→b<w.heap.size→P b) (hP:∀b,v.ownBlock=some b→P b) :
  ∃A cap,v=.slice A its.length cap∧RepW w P (its.map IW.pw) A cap:=by
 rcases h.own.2 with⟨rfl,h0⟩|⟨g,cap,cur,rfl,hb,hg,hnc,hcm,r⟩
 ·have:its=[]:=List.eq_nil_of_length_eq_zero h0;subst this;exact⟨none,0,rfl,RepW.nil _ _⟩
 ·refine⟨some ⟨g,0,none⟩,cap,rfl,by simpa using hnc,hcm,.inr ⟨g,0,rfl,hP g rfl,its,rfl,fun j u hj=>?_,fun x hx=>?_⟩⟩
  ·have:=h.own.cells (g:=g) rfl j u hj;simpa[Addr.add]using (by
    unfold Addr.add at this
    split at this<;>simp_all)
  ·exact RepP.mono (fun b ⟨h1,h2,_⟩=>hF b h1 h2) (fun _ _=>rfl) _ _ _ (h.reps x hx)
theorem RowW.push {v':Value} {news:List IW} (h:RowW w base F v its)
  (hn:∀x∈news,RepP w (fun b=>F b∧b<w.heap.size∧v.ownBlock≠some b) x.1.1 x.1.2.1 x.1.2.2)
  (ho:w'.ownsRow base 163 5 v' (its.length+news.length) (wCells its++wCells news)) (hg:w.grownBy w' v.ownBlock)
  (hat:v'.ownBlock=v.ownBlock∨v'.ownBlock=some w.heap.size):RowW w' base F v' (its++news):=by
 refine⟨by rw[qdi,List.length_append];exact ho,fun x hx=>?_⟩;have key:RepP w (fun b=>F b∧b<w.heap.size∧v.ownBlock≠some b) x.1.1 x.1.2.1 x.1.2.2:=by
  rcases List.mem_append.1 hx with hx|hx
  ·exact h.reps x hx
  ·exact hn x hx
 refine RepP.mono ?_ ?_ _ _ _ key
 ·rintro b ⟨h1,h2,h3⟩;refine⟨h1,Nat.lt_of_lt_of_le h2 hg.size,?_⟩;rcases hat with e|e<;>rw[e]
  ·exact h3
  ·intro e;injection e with e;omega
 ·rintro p ⟨h1,h2,h3⟩;exact World.cell?_of_block (hg.block p.block h2 (fun e=>h3 e.symm))
theorem RowW.more (hrow:RowW w base F v its) (hbase:base≤w.heap.size) (news:List IW) (hne:0<news.length) (B off c:Nat)
  (hcells:∀j u,(wCells news)[j]?=some u→w.cell? ⟨B,off+j,none⟩=some u)
  (hreps:∀x∈news,RepP w (fun b=>F b∧b<w.heap.size∧v.ownBlock≠some b) x.1.1 x.1.2.1 x.1.2.2) (hlen:its.length+news.length≤100000000) :
  ∃g cap w',(∀ty,(Builtin.append_ #[129,129] ty #[v,.slice (some ⟨B,off,none⟩) news.length c]).run Tryz.prog w=.ok (.slice (some ⟨g,0,none⟩) (its.length+news.length) cap) w')∧
   RowW w' base F (.slice (some ⟨g,0,none⟩) (its.length+news.length) cap) (its++news)∧w.grownBy w' v.ownBlock∧(v.ownBlock=some g∨g=w.heap.size):=by
 obtain⟨i0,hi0,hz0,hz1,hz2⟩:=info_parts powInfo;obtain⟨g,cap,w',h1,h2,h3,h4,h5⟩:=run_append_lies (P:=Tryz.prog) w 129 0 base 163 i0 _ 5 64 Tryz.underlying129 hi0 hz0 hz1 hz2 rfl (by omega) v its.length (wCells its) hrow.own ⟨B,off,none⟩ news.length c (wCells news) (qj7 _)
  (fun j u hu=>by
   have h:=hcells j u hu;unfold Addr.add
   split
   ·rename_i hj;subst hj;simpa using h
   ·exact h) (qe8 news) hne (by unfold maxLen;omega) (by omega) hbase w.heap.size rfl
 refine⟨g,cap,w',fun ty=>h1,hrow.push hreps h2 h3 ?_,h3,h4⟩;rcases h4 with h|h
 ·exact .inl h.symm
 ·right;rw[h];rfl
theorem RowW.more1 (hrow:RowW w base F v its) (hbase:base≤w.heap.size) (X:IW)
  (h1:RepP w (fun b=>F b∧b<w.heap.size∧v.ownBlock≠some b) X.1.1 X.1.2.1 X.1.2.2) (hlen:its.length+1≤100000000) :
  ∃g c' w',(∀ty,(Builtin.append_ #[129,129] ty #[v,.slice (some ⟨w.heap.size,0,none⟩) 1 1]).run Tryz.prog (w.alloc (.cells #[.int .i64 X.1.1.kind,.string X.1.1.name,.int .i64 X.1.1.sort,.slice X.1.2.1 X.1.1.kids.length X.1.2.2,.int .i64 X.2] 163))=.ok (.slice (some ⟨g,0,none⟩) (its.length+1) c') w')∧
   RowW w' base F (.slice (some ⟨g,0,none⟩) (its.length+1) c') (its++[X])∧(∀W0 B0,Below B0 W0 w→B0≤base→Below B0 W0 w')∧(∀k,k<w.heap.size→v.ownBlock≠some k→w'.heap[k]?=w.heap[k]?)∧w.heap.size≤w'.heap.size∧(v.ownBlock=some g∨w.heap.size≤g):=by
 obtain⟨W6,hW6⟩:∃W6,W6=w.alloc (.cells (wCells [X]).toArray 163):=⟨_,rfl⟩;have hb6:Below w.heap.size w W6:=by rw[hW6];exact qab (Nat.le_refl _) _
 have hs6:W6.heap.size=w.heap.size+1:=by rw[hW6];simp
 have hx6:W6.heap[w.heap.size]?=some (.cells (wCells [X]).toArray 163 (0,0)):=by rw[hW6];exact heap_alloc_new _ _
 have key:RepP W6 (fun b=>F b∧b<W6.heap.size∧v.ownBlock≠some b) X.1.1 X.1.2.1 X.1.2.2:=
  RepP.mono (fun b hb=>⟨hb.1,by have:=hb.2.1;omega,hb.2.2⟩) (fun p hp=>hb6.cell hp.2.1) _ _ _ h1
 obtain⟨g,cap,w',e1,e2,e3,e4⟩:=(hrow.below hb6).more (by omega) [X] (by simp) w.heap.size 0 1 (fun j u hu=>by
  rw[Nat.zero_add,cell_of_row W6 w.heap.size j _ _ _ hx6];simpa using hu) (fun x hx=>by
   rw[List.mem_singleton]at hx;subst hx;exact key) hlen
 simp only[wCells]at hW6;rw[hW6]at e1;have hsz:=e3.size;refine⟨g,cap,w',e1,e2,fun W0 B0 hB hB0=>?_,fun k hk hne=>?_,by omega,e4.imp id (fun h=>by omega)⟩
 ·have hbs:=hB.size;exact(hB.trans (hb6.mono (by omega))).grown e3 (by omega) (fun j e=>by have:=(hrow.lt _ e).1;omega)
 ·rw[e3.block k (by omega) (fun e=>hne e.symm)];exact hb6.block k hk
theorem RowW.slot {g cap n:Nat} (h:RowW w base F (.slice (some ⟨g,0,none⟩) n cap) its) (i:Nat) (hi:i<its.length) :
  w.cell? ⟨g,i*5,none⟩=some (.int .i64 its[i].1.1.kind)∧w.cell? ⟨g,i*5+1,none⟩=some (.string its[i].1.1.name)∧w.cell? ⟨g,i*5+2,none⟩=some (.int .i64 its[i].1.1.sort)∧
   w.cell? ⟨g,i*5+3,none⟩=some (.slice its[i].1.2.1 its[i].1.1.kids.length its[i].1.2.2)∧w.cell? ⟨g,i*5+4,none⟩=some (.int .i64 its[i].2)∧∀o,w.frozen? ⟨g,o,none⟩=false:=by
 have hc:∀j u,(wCells its)[j]?=some u→w.cell? ⟨g,j,none⟩=some u:=fun j u hj=>by
  have:=h.own.cells (g:=g) rfl j u hj;unfold Addr.add at this
  split at this<;>simp_all
 obtain⟨g0,g1,g2,g3,g4⟩:=qgx its i hi;refine⟨hc _ _ g0,hc _ _ g1,hc _ _ g2,hc _ _ g3,hc _ _ g4,fun o=>?_⟩;rcases h.own.2 with⟨hv,_⟩|⟨g',cap',cur,hv,hb,hg,_⟩
 ·cases hv
 ·injection hv with h1;injection h1 with h1;injection h1 with h1;subst h1;simp[World.frozen?,hg]
theorem RowW.setN {g cap n:Nat} (h:RowW w base F (.slice (some ⟨g,0,none⟩) n cap) its) (hn:n=its.length) (i:Nat) (hi:i<its.length) (m:Int) :
  RowW (w.setCell ⟨g,i*5+4,none⟩ (.int .i64 m)) base F (.slice (some ⟨g,0,none⟩) n cap) (its.set i (its[i].1,m)):=by
 subst hn;have hown:=own_set h.own (i*5+4) (.int .i64 m);rw[wCells_setN its i hi m]at hown;refine⟨by rw[List.length_set];exact hown,fun x hx=>?_⟩;have key:∀(t:Tm) A c,RepP w (fun b=>F b∧b<w.heap.size∧(Value.slice (some ⟨g,0,none⟩) its.length cap).ownBlock≠some b) t A c→
   RepP (w.setCell ⟨g,i*5+4,none⟩ (.int .i64 m)) (fun b=>F b∧b<(w.setCell ⟨g,i*5+4,none⟩ (.int .i64 m)).heap.size∧(Value.slice (some ⟨g,0,none⟩) its.length cap).ownBlock≠some b) t A c:=fun t A c hr=>by
  refine RepP.mono ?_ ?_ _ _ _ hr
  ·rintro b ⟨h1,h2,h3⟩;exact⟨h1,by simpa[World.setCell]using h2,h3⟩
  ·rintro p ⟨h1,h2,h3⟩;have hq:∀o,(⟨g,o,none⟩:Addr)≠p:=fun o e=>h3 (by rw[←e];rfl);rw[World.cell?_setCell_other _ _ _ _ (hq _)]
 rcases List.mem_or_eq_of_mem_set hx with hx|rfl
 ·exact key _ _ _ (h.reps x hx)
 ·exact key _ _ _ (h.reps its[i] (List.getElem_mem hi))
theorem RowW.head (h:RowW w base F v its) (hn:0<its.length):∃g cap,v=.slice (some ⟨g,0,none⟩) its.length cap∧base≤g∧g<w.heap.size∧its.length≤cap∧cap≤maxLen∧∃cur,w.heap[g]?=some (.cells cur 163 (0,0))∧cur.size=cap*5∧cur.toList.take (its.length*5)=wCells its:=by
 rcases h.own.2 with⟨-,h0⟩|⟨g,cap,cur,rfl,hb,hg,hnc,hcm,hs,ht⟩
 ·omega
 ·exact⟨g,cap,rfl,hb,(sltz hg),hnc,hcm,cur,hg,hs,ht⟩
end
end Go.Proofs.YtjhjoiplpmjepaaGreat
namespace Go.Proofs.YtjhjoiplpmjepaaGreat
def qqc (l:List (Tm×Int)) (t:Tm) (n:Int) (i:Nat):List (Tm×Int):=
 if h:i<l.length then (if (l[i]).1.cmp t=0 then (if l[i].2+n=0 then l.eraseIdx i else l.set i (l[i].1,l[i].2+n))else l.take i++(t,n)::l.drop i)else l.take i++(t,n)::l.drop i
theorem insP_at (t:Tm) (n:Int):∀(l:List (Tm×Int)) (i:Nat),i≤l.length→(∀j (h:j<l.length),j<i→l[j].1.cmp t<0)→(∀(h:i<l.length),¬l[i].1.cmp t<0)→insP t n l=qqc l t n i
 | [],i,hi,_,_=>by
  obtain rfl:i=0:=by simpa using hi
  simp[insP,qqc]
 | (u,m)::r,0,_,_,h=>by
  have h0:=h (by simp);simp only[List.getElem_cons_zero]at h0;have hn:=Tm.cmp_neg u t;rw[insP,qqc,dif_pos (by simp)];simp only[List.getElem_cons_zero];by_cases hz:u.cmp t=0
  ·rw[if_pos hz,if_neg (by omega),if_pos (by omega)];have e:=Tm.cmp_zero.1 hz;subst e;by_cases hm:m+n=0
   ·rw[if_pos hm,if_pos hm];rfl
   ·rw[if_neg hm,if_neg hm];rfl
  ·rw[if_neg hz,if_pos (by omega)];rfl
 | (u,m)::r,i+1,hi,h1,h2=>by
  have h0:=h1 0 (by simp) (by omega);simp only[List.getElem_cons_zero]at h0;have hn:=Tm.cmp_neg u t;have ih:=insP_at t n r i (by simpa using hi) (fun j hj hji=>by have:=h1 (j+1) (by simpa using hj) (by omega);simpa using this) (fun hj=>by have:=h2 (by simpa using hj);simpa using this);rw[insP,if_neg (by omega),if_neg (by omega),ih];unfold qqc;by_cases hl:i<r.length
  ·rw[dif_pos hl,dif_pos (by simpa using hl)];simp only[List.getElem_cons_succ]
   split
   ·split<;>simp
   ·simp
  ·rw[dif_neg hl,dif_neg (by simpa using hl)];simp
theorem good_lt {l:List (Tm×Int)} (h:qbv l) {i j:Nat} (hij:i<j) (hj:j<l.length):(l[i]'(by omega)).1.cmp l[j].1<0:=List.pairwise_iff_getElem.1 h.1 i j (by omega) hj hij
theorem good_low {l:List (Tm×Int)} (h:qbv l) (t:Tm) {k:Nat} (hk:k<l.length) (hc:l[k].1.cmp t<0):∀j (hj:j<l.length),j<k+1→l[j].1.cmp t<0:=by
 intro j hj hjk;by_cases e:j=k
 ·subst e;exact hc
 ·exact cmp_tr (good_lt h (by omega) hk) hc
theorem good_high {l:List (Tm×Int)} (h:qbv l) (t:Tm) {k:Nat} (hk:k<l.length) (hc:¬l[k].1.cmp t<0):∀j (hj:j<l.length),k≤j→¬l[j].1.cmp t<0:=by
 intro j hj hjk;by_cases e:j=k
 ·subst e;exact hc
 ·intro h2;exact hc (cmp_tr (good_lt h (by omega) hj) h2)
theorem ins_len (t:Tm) (n:Int):∀l:List (Tm×Int),(insP t n l).length≤l.length+1
 | []=>by simp[insP]
 | (u,m)::r=>by
  have:=ins_len t n r;rw[insP]
  split
  ·simp
  ·split
   ·split<;>simp<;>omega
   ·simp;omega
def BdP (M L:Nat) (l:List (Tm×Int)):Prop:=l.length≤L∧∀p∈l,p.1.size≤1000000∧-(M:Int)≤p.2∧p.2≤M
theorem BdP.nil:BdP 0 0 []:=⟨Nat.le_refl _,by simp⟩
theorem BdP.more {M L M' L':Nat} {l:List (Tm×Int)} (h:BdP M L l) (hM:M≤M') (hL:L≤L'):BdP M' L' l:=⟨Nat.le_trans h.1 hL,fun p hp=>by have:=h.2 p hp;omega⟩
theorem BdP.ins {M L K:Nat} {t:Tm} {n:Int} (ht:t.size≤1000000) (hn:-(K:Int)≤n∧n≤K):∀{l:List (Tm×Int)},BdP M L l→BdP (M+K) (L+1) (insP t n l):=by
 intro l h;refine⟨Nat.le_trans (ins_len t n l) (by have:=h.1;omega),?_⟩;have key:∀(l:List (Tm×Int)),(∀p∈l,p.1.size≤1000000∧-(M:Int)≤p.2∧p.2≤M)→∀p∈insP t n l,p.1.size≤1000000∧-((M+K:Nat):Int)≤p.2∧p.2≤((M+K:Nat):Int):=by
  intro l
  induction l with
  | nil=>intro _ p hp;rw[insP,List.mem_singleton]at hp;subst hp;exact⟨ht,by dsimp only;omega⟩
  | cons q r ih=>
   intro hl p hp;obtain⟨u,m⟩:=q;have h0:=hl (u,m) (List.mem_cons_self ..);dsimp only at h0;have hr:∀p∈r,p.1.size≤1000000∧-((M+K:Nat):Int)≤p.2∧p.2≤((M+K:Nat):Int):=fun p hp=>by have:=hl p (List.mem_cons_of_mem _ hp);omega
   rw[insP]at hp
   split at hp
   ·rcases List.mem_cons.1 hp with e|hp
    ·subst e;exact⟨ht,by dsimp only;omega⟩
    ·rcases List.mem_cons.1 hp with e|hp
     ·subst e;exact⟨h0.1,by dsimp only;omega⟩
     ·exact hr p hp
   ·split at hp
    ·split at hp
     ·exact hr p hp
     ·rcases List.mem_cons.1 hp with e|hp
      ·subst e;exact⟨h0.1,by dsimp only;omega⟩
      ·exact hr p hp
    ·rcases List.mem_cons.1 hp with e|hp
     ·subst e;exact⟨h0.1,by dsimp only;omega⟩
     ·exact ih (fun p hp=>hl p (List.mem_cons_of_mem _ hp)) p hp
 exact key l h.2
mutual
theorem BdP.col:∀(t:Tm) {M L:Nat} {i:Int} {a:List (Tm×Int)},t.size≤1000000→(i=1∨i = -1)→BdP M L a→BdP (M+t.size) (L+t.size) (colP t i a)
 | .mk k n s l,M,L,i,a,ht,hi,h=>by
  have e:(Tm.mk k n s l).size=1+Tm.sizes l:=by rw[Tm.size]
  rw[colP]
  split
  ·have:=BdP.cols l (i:=if n=nInv then -i else i) (a:=a) (M:=M) (L:=L) (by omega) (by split<;>omega) h;exact this.more (by omega) (by omega)
  ·exact(BdP.ins (K:=1) ht (by omega) h).more (by omega) (by omega)
theorem BdP.cols:∀(l:List Tm) {M L:Nat} {i:Int} {a:List (Tm×Int)},Tm.sizes l≤1000000→(i=1∨i = -1)→BdP M L a→BdP (M+Tm.sizes l) (L+Tm.sizes l) (qe7 l i a)
 | [],_,_,_,_,_,_,h=>by rw[qe7,Tm.sizes];exact h
 | t::r,M,L,i,a,hl,hi,h=>by
  rw[Tm.sizes]at hl ⊢;rw[qe7];have h1:=BdP.col t (by omega) hi h;have h2:=BdP.cols r (by omega) hi h1;exact h2.more (by omega) (by omega)
end
theorem cols_drop (l:List Tm) (i:Int) (a:List (Tm×Int)) {k:Nat} (hk:k<l.length):qe7 (l.drop k) i a=qe7 (l.drop (k+1)) i (colP l[k] i a):=by rw[List.drop_eq_getElem_cons hk,qe7]
theorem qac {P:Program} {ops:Array Oper} {Q:Exit→Act→World→Prop} {S S2:World→Prop} {wk:List Nat} {i:Nat} {r:Mx3} {a:Act} {w:World} {o:Oper} {v:Value} (ho:ops[i]?=some o) (hg:Region.wanted o (yielded ops a.tmps)=true) (hw:wk.contains i=false) (hQ:∀c a' w',Q (.panic c) (a'.put o.dst v) w'→Q (.panic c) a' w')
  (hS:S w) (hS2:S2 w) (hv:∀w,S w→S2 w→(execOp a.eval o).run P w=.ok (.value v) w) (h:qay P ops Q S S2 wk r (a.put o.dst v) w):qay P ops Q S S2 wk (.held i r) a w:=
 ⟨⟨fun _=>hS,hS2⟩,o,v,ho,Or.inl ⟨hg,fun w h=>hv w (h.1 hw) h.2⟩,hQ,h⟩
theorem qad {P:Program} {ops:Array Oper} {Q:Exit→Act→World→Prop} {S S2:World→Prop} {wk:List Nat} {i:Nat} {r:Mx3} {a:Act} {w:World} {o:Oper} (ho:ops[i]?=some o) (hg:Region.wanted o (yielded ops a.tmps)=false) (_hw:wk.contains i=false) (hQ:∀c a' w',Q (.panic c) (a'.put o.dst undef) w'→Q (.panic c) a' w')
  (hS:S w) (hS2:S2 w) (h:qay P ops Q S S2 wk r (a.put o.dst undef) w):qay P ops Q S S2 wk (.held i r) a w:=
 ⟨⟨fun _=>hS,hS2⟩,o,undef,ho,Or.inr ⟨hg,rfl⟩,hQ,h⟩
end Go.Proofs.YtjhjoiplpmjepaaGreat
namespace Go.Proofs.YtjhjoiplpmjepaaGreat
open Go.RowKit Go.Sort
abbrev pval (t:Tm) (A:Option Addr) (c:Nat) (n:Int):Value:=.agg #[.int .i64 t.kind,.string t.name,.int .i64 t.sort,.slice A t.kids.length c,.int .i64 n]
theorem qdg {W:World} {B:Nat} {a b c d e:Value} {T:TypeId} (h:W.heap[B]?=some (.cells #[a,b,c,d,e] T (0,0))) :
  W.cell? ⟨B,0,none⟩=some a∧W.cell? ⟨B,1,none⟩=some b∧W.cell? ⟨B,2,none⟩=some c∧W.cell? ⟨B,3,none⟩=some d∧W.cell? ⟨B,4,none⟩=some e∧∀o,W.frozen? ⟨B,o,none⟩=false:=by
 refine⟨?_,?_,?_,?_,?_,fun o=>?_⟩<;>simp[World.cell?,World.frozen?,h]
theorem ecmp_any (q t:Tm) (m:Int) (A A':Option Addr) (c c':Nat) (w:World) (hq:q.size≤1000000) (ht:t.size≤1000000) (hrep:RepT w w.heap.size q A c) (hrep':RepT w w.heap.size t A' c') :
  Calls Tryz.prog 181 #[pval q A c m,t.val A' c'] w fun e w'=>e=.returned (.int .i64 (q.cmp t))∧Lay w.heap.size w w':=by
 have hL:Lay w.heap.size w ((w.alloc (.cells #[.int .i64 q.kind,.string q.name,.int .i64 q.sort,.slice A q.kids.length c,.int .i64 m] 163)).alloc (.cells #[.int .i64 t.kind,.string t.name,.int .i64 t.sort,.slice A' t.kids.length c'] 24)):=
  ((Lay.refl _ _).alloc (Nat.le_refl _) _).alloc (by simp) _
 have hC:=qb7 1000000 q t A A' c c' _ hq (by omega) ht (hrep.go hL.below hL.size) (hrep'.go hL.below hL.size);have HC:=hdzz hC;clear hC;generalize q.cmp t=r at *;simp only[Tm.val,pval]at HC ⊢;go_enter Tryz.func181,Tryz.ntmps181
 go_wp2_with fail
 refine HC.out.mono ?_;rintro e w' ⟨rfl,hl⟩;go_wp2_with fail
 go_ret
 exact⟨rfl,hL.trans (hl.mono hL.size)⟩
def Found (l:List Pw) (t:Tm) (w:World) (e:Ending) (w':World):Prop:=
 ∃i:Nat,e=.returned (.tuple #[.int .i64 i,.bool (if h:i<l.length then l[i].1.same t else false)])∧i≤l.length∧(∀j (h:j<l.length),j<i→l[j].1.cmp t<0)∧(∀j (h:j<l.length),i≤j→0≤l[j].1.cmp t)∧Below w.heap.size w w'
attribute [local irreducible] qay
theorem qn5 (l:List Pw) (A:Option Addr) (cap:Nat) (t:Tm) (A':Option Addr) (c':Nat) (w:World) (hg:qbv l) (hlen:l.length≤1000000) (hsz:∀p∈l,p.1.size≤1000000) (ht:t.size≤1000000)
  (hrep:RepW w (fun b=>b<w.heap.size) l A cap) (hrep':RepT w w.heap.size t A' c') :
  Calls Tryz.prog 180 #[.slice A l.length cap,t.val A' c',.func (.func 181) #[] #[]] w (Found l t w):=by
 have mixed:=mixz;have eg:∀args w,(callFunc 181 args).run Tryz.prog w=.ok (.enter 181 args) w:=enters_of Tryz.func181 (by kernel_rfl) rfl;obtain⟨V,hV⟩:∃V,V=w.alloc (qal t A' c'):=⟨_,rfl⟩;have hbV:Below w.heap.size w V:=by rw[hV];exact qab (Nat.le_refl _) _
 have hsV:V.heap.size=w.heap.size+1:=by rw[hV];simp
 have hbx:V.heap[w.heap.size]?=some (qal t A' c'):=by rw[hV];exact heap_alloc_new _ _
 have hrV:RepW V (fun b=>b<w.heap.size) l A cap:=hrep.mono (fun _ h=>h) (fun _ h=>hbV.cell h);have htV:RepT V w.heap.size t A' c':=hrep'.below hbV;have CM:Hid (∀(X:World) (q:Tm) (m:Int) (B:Option Addr) (c:Nat),Below V.heap.size V X→q.size≤1000000→RepP X (fun b=>b<w.heap.size) q B c→Calls Tryz.prog 181 #[pval q B c m,t.val A' c'] X fun e w'=>e=.returned (.int .i64 (q.cmp t))∧Lay X.heap.size X w'):=
  hdzz fun X q m B c hX hq hr=>ecmp_any q t m B A' c c' X hq ht (RepP.mono (fun b h=>by have:=hX.size;omega) (fun _ _=>rfl) _ _ _ hr) (htV.go (hX.mono (by omega)) (by have:=hX.size;omega))
 simp only[qal]at hV hbx;simp only[Tm.val,pval]at CM ⊢;have HV:=hdzz hV;have HBX:=hdzz hbx;have HBV:=hdzz hbV;have HG:=hdzz hg;have HSZ:=hdzz hsz;have HRV:=hdzz hrV;clear hV hbx hbV hg hsz hrV hrep hrep' htV;obtain⟨nl,hnl⟩:∃n,n=l.length:=⟨_,rfl⟩;rw[←hnl]at hlen ⊢;have HNL:=hdzz hnl;clear hnl;have hlen':(nl:Int)≤1000000:=by omega
 go_enter Tryz.func180,Tryz.ntmps180
 go_wp2_with fail
 rw[←HV.out];clear HV;go_wp2_with fail
 go_loopw [9,10] (fun s9 s10 wr=>∃lo hi:Nat,s9=.int .i64 lo∧s10=.int .i64 hi∧lo≤hi∧hi≤nl∧Hid (Below V.heap.size V wr)∧Hid ((∀j (h:j<l.length),j<lo→l[j].1.cmp t<0)∧∀j (h:j<l.length),hi≤j→0≤l[j].1.cmp t)) (fun s9 s10 _=>(intOf s10).toNat - (intOf s9).toNat)
 case atStart=>exact⟨0,nl,rfl,rfl,Nat.zero_le _,Nat.le_refl _,Below.refl _ _,⟨fun j _ h=>absurd h (Nat.not_lt_zero _),fun j h h2=>by have:=HNL.out;omega⟩⟩
 case round=>
  obtain⟨lo,hi,rfl,rfl,hlh,hin,HB,HI⟩:=hrel;have hsr:=HB.out.size;obtain⟨r0,r1,r2,r3,-⟩:=qaa ((HB.out.block _ (by omega)).trans HBX.out);by_cases hlt:lo<hi
  ·obtain⟨h,hh⟩:∃h,h=(lo+hi) / 2:=⟨_,rfl⟩;have hlo:lo≤h:=by omega
   have hhi:h<hi:=by omega
   have hhn:h<nl:=by omega
   have hhl:h<l.length:=by have:=HNL.out;omega
   obtain⟨b,off,rfl,hbB,hget⟩:=(HRV.out.mono (w':=wr) (P':=fun b=>b<w.heap.size) (fun _ h=>h) (fun p hp=>HB.out.cell (by omega))).get (fun e=>by rw[e]at hhl;simp at hhl);obtain⟨Aq,cq,q0,q1,q2,q3,q4,qr⟩:=hget h hhl;clear hget;have hqs:=HSZ.out l[h] (List.getElem_mem hhl);have HLOW:=hdzz (good_low HG.out t hhl);have HHIGH:Hid (0≤l[h].1.cmp t→∀j (hj:j<l.length),h≤j→0≤l[j].1.cmp t):=hdzz fun e j hj hjk=>Int.not_lt.1 (good_high HG.out t hhl (by omega) j hj hjk);obtain⟨x,hx⟩:∃x,x=l[h]:=⟨_,rfl⟩;rw[←hx]at q0 q1 q2 q3 q4 qr hqs HLOW HHIGH;clear hx;obtain⟨q,m⟩:=x;dsimp only at q0 q1 q2 q3 q4 qr hqs HLOW HHIGH
   have CQ:Hid (∀X,Below wr.heap.size wr X→Calls Tryz.prog 181 #[.agg #[.int .i64 q.kind,.string q.name,.int .i64 q.sort,.slice Aq q.kids.length cq,.int .i64 m],.agg #[.int .i64 t.kind,.string t.name,.int .i64 t.sort,.slice A' t.kids.length c']] X fun e w'=>e=.returned (.int .i64 (q.cmp t))∧Lay X.heap.size X w'):=
    hdzz fun X hX=>CM.out X q m Aq cq (HB.out.trans (hX.mono (by omega))) hqs (RepP.mono (fun _ h=>h) (fun p hp=>hX.cell (by omega)) _ _ _ qr)
   clear qr hqs;have hhI:((lo:Int)+(hi:Int)) / 2=(h:Int):=by omega
   have HH:=hdzz hh;obtain⟨r,hr⟩:∃r,r=q.cmp t:=⟨_,rfl⟩;rw[←hr]at CQ HLOW HHIGH;clear hr hh;go_wp2_with fail
   refine qae (fun Y=>Below wr.drew.heap.size wr.drew Y) (fun _=>True) [] (.held 0 (.held 1 (.held 2 (.held 3 (.held 4 (.held 5 (.op 6 (.held 7 .nil)))))))) mixed (by kernel_rfl) ?_;have hbD:Below wr.heap.size wr wr.drew:=(Below.refl _ _).drew;have hsD:wr.drew.heap.size=wr.heap.size:=rfl;have p0:wr.drew.cell? ⟨b,off+h*5,none⟩=_:=q0;have p1:wr.drew.cell? ⟨b,off+h*5+1,none⟩=_:=q1;have p2:wr.drew.cell? ⟨b,off+h*5+2,none⟩=_:=q2;have p3:wr.drew.cell? ⟨b,off+h*5+3,none⟩=_:=q3;have p4:wr.drew.cell? ⟨b,off+h*5+4,none⟩=_:=q4;have t0:wr.drew.cell? ⟨w.heap.size,0,none⟩=_:=r0;have t1:wr.drew.cell? ⟨w.heap.size,1,none⟩=_:=r1;have t2:wr.drew.cell? ⟨w.heap.size,2,none⟩=_:=r2;have t3:wr.drew.cell? ⟨w.heap.size,3,none⟩=_:=r3;have CD:=hdzz (CQ.out wr.drew hbD)
   have HBD:=hdzz (HB.out.trans (hbD.mono hsr));clear q0 q1 q2 q3 q4 r0 r1 r2 r3 CQ hbD;generalize wr.drew=D at *;refine stkz (.func (.func 181) #[] #[]) rfl rfl rfl (fun _ _ _ h=>h) (Below.refl _ _) (fun Y hY=>by
     (try simp only[Act.put]);go_simp) ?_
   refine stkz (.slice (some ⟨b,off,none⟩) nl cap) rfl rfl rfl (fun _ _ _ h=>h) (Below.refl _ _) (fun Y hY=>by
     (try simp only[Act.put]);go_simp) ?_
   refine stkz (.int .i64 h) rfl rfl rfl (fun _ _ _ h=>h) (Below.refl _ _) (fun Y hY=>by
     (try simp only[Act.put]);go_simp) ?_
   refine stkz (.pointer (some ⟨b,off+h*5,none⟩)) rfl rfl rfl (fun _ _ _ h=>h) (Below.refl _ _) (fun Y hY=>by
     (try simp only[Act.put]);go_simp) ?_
   refine stkz (.agg #[.int .i64 q.kind,.string q.name,.int .i64 q.sort,.slice Aq q.kids.length cq,.int .i64 m]) rfl rfl rfl (fun _ _ _ h=>h) (Below.refl _ _) (fun Y hY=>by
     have z0:=sclz hY p0 (by omega);have z1:=sclz hY p1 (by omega);have z2:=sclz hY p2 (by omega);have z3:=sclz hY p3 (by omega);have z4:=sclz hY p4 (by omega)
     (try simp only[Act.put]);go_simp) ?_
   refine stkz (.agg #[.int .i64 t.kind,.string t.name,.int .i64 t.sort,.slice A' t.kids.length c']) rfl rfl rfl (fun _ _ _ h=>h) (Below.refl _ _) (fun Y hY=>by
     have z0:=sclz hY t0 (by omega);have z1:=sclz hY t1 (by omega);have z2:=sclz hY t2 (by omega);have z3:=sclz hY t3 (by omega)
     (try simp only[Act.put]);go_simp) ?_
   simp only[Act.put,List.setIfInBounds_toArray];refine qar rfl rfl (fun K hK=>?_);go_wp2_with fail
   refine CD.out.mono ?_;clear CD;rintro e w5 ⟨rfl,hl5⟩;refine hK _ _ ⟨⟨fun _=>hl5.below,trivial⟩,?_⟩;clear hK K p0 p1 p2 p3 p4 t0 t1 t2 t3;have HB5:=hdzz (HBD.out.trans (hl5.below.mono (by omega)));by_cases hr:r<0
   ·refine qaq (v:=.bool true) rfl rfl rfl (fun _ _ _ h=>h) hl5.below trivial (fun Y hY _=>by(try simp only[Act.put]);go_simp) ?_;refine qat ?_;clear hl5;go_wp2_with fail
    go_roundw
    case rel=>exact⟨h+1,hi,by go_num,rfl,by omega,hin,HB5.out,⟨HLOW.out hr,HI.out.2⟩⟩
    case measure=>simp[intOf];omega
   ·refine qaq (v:=.bool false) rfl rfl rfl (fun _ _ _ h=>h) hl5.below trivial (fun Y hY _=>by(try simp only[Act.put]);go_simp) ?_;refine qat ?_;clear hl5;go_wp2_with fail
    go_roundw
    case rel=>exact⟨lo,h,rfl,rfl,by omega,by omega,HB5.out,⟨HI.out.1,HHIGH.out (by omega)⟩⟩
    case measure=>simp[intOf];omega
  ·obtain rfl:lo=hi:=by omega
   go_wp2_with fail
   by_cases hln:lo<nl
   ·have hhl:lo<l.length:=by have:=HNL.out;omega
    obtain⟨b,off,rfl,hbB,hget⟩:=(HRV.out.mono (w':=wr) (P':=fun b=>b<w.heap.size) (fun _ h=>h) (fun p hp=>HB.out.cell (by omega))).get (fun e=>by rw[e]at hhl;simp at hhl);obtain⟨Aq,cq,q0,q1,q2,q3,q4,qr⟩:=hget lo hhl;clear hget;have hqs:=HSZ.out l[lo] (List.getElem_mem hhl);have HRES:Hid (∀v:Bool,l[lo].1.same t=v→∀W,Below w.heap.size w W→Found l t w (.returned (.tuple #[.int .i64 lo,.bool v])) W):=hdzz fun v hv W hW=>⟨lo,by rw[dif_pos hhl,hv],by omega,HI.out.1,HI.out.2,hW⟩;obtain⟨x,hx⟩:∃x,x=l[lo]:=⟨_,rfl⟩;rw[←hx]at q0 q1 q2 q3 q4 qr hqs HRES;clear hx;obtain⟨q,m⟩:=x;dsimp only at q0 q1 q2 q3 q4 qr hqs HRES
    have CQ:Hid (∀X,Below wr.heap.size wr X→Calls Tryz.prog 181 #[.agg #[.int .i64 q.kind,.string q.name,.int .i64 q.sort,.slice Aq q.kids.length cq,.int .i64 m],.agg #[.int .i64 t.kind,.string t.name,.int .i64 t.sort,.slice A' t.kids.length c']] X fun e w'=>e=.returned (.int .i64 (q.cmp t))∧Lay X.heap.size X w'):=
     hdzz fun X hX=>CM.out X q m Aq cq (HB.out.trans (hX.mono (by omega))) hqs (RepP.mono (fun _ h=>h) (fun p hp=>hX.cell (by omega)) _ _ _ qr)
    clear qr hqs;have hsame:q.same t=(q.cmp t==0):=by unfold Tm.same;rw[Bool.eq_iff_iff];simp
    rw[hsame]at HRES;obtain⟨r,hr⟩:∃r,r=q.cmp t:=⟨_,rfl⟩;rw[←hr]at CQ HRES;clear hr hsame;generalize hz:(r==0)=z at HRES;refine qae (fun Y=>Below wr.drew.heap.size wr.drew Y) (fun _=>True) [] (.held 0 (.held 1 (.held 2 (.held 3 (.held 4 (.held 5 (.held 6 (.held 7 (.held 8 (.held 9 (.held 10 (.op 11 (.held 12 (.held 13 (.held 14 (.held 15 .nil)))))))))))))))) mixed (by kernel_rfl) ?_;have hbD:Below wr.heap.size wr wr.drew:=(Below.refl _ _).drew;have hsD:wr.drew.heap.size=wr.heap.size:=rfl;have p0:wr.drew.cell? ⟨b,off+lo*5,none⟩=_:=q0;have p1:wr.drew.cell? ⟨b,off+lo*5+1,none⟩=_:=q1;have p2:wr.drew.cell? ⟨b,off+lo*5+2,none⟩=_:=q2;have p3:wr.drew.cell? ⟨b,off+lo*5+3,none⟩=_:=q3;have p4:wr.drew.cell? ⟨b,off+lo*5+4,none⟩=_:=q4
    have t0:wr.drew.cell? ⟨w.heap.size,0,none⟩=_:=r0;have t1:wr.drew.cell? ⟨w.heap.size,1,none⟩=_:=r1;have t2:wr.drew.cell? ⟨w.heap.size,2,none⟩=_:=r2;have t3:wr.drew.cell? ⟨w.heap.size,3,none⟩=_:=r3;have CD:=hdzz (CQ.out wr.drew hbD);have HBD:=hdzz (HBV.out.trans ((HB.out.trans (hbD.mono hsr)).mono (by omega)));clear q0 q1 q2 q3 q4 r0 r1 r2 r3 CQ hbD HB;generalize wr.drew=D at *;refine stkz (.int .i64 lo) rfl rfl rfl (fun _ _ _ h=>h) (Below.refl _ _) (fun Y hY=>by
      (try simp only[Act.put]);go_simp) ?_
    refine stkz (.int .i64 lo) rfl rfl rfl (fun _ _ _ h=>h) (Below.refl _ _) (fun Y hY=>by
      (try simp only[Act.put]);go_simp) ?_
    refine stkz (.int .i64 nl) rfl rfl rfl (fun _ _ _ h=>h) (Below.refl _ _) (fun Y hY=>by
      (try simp only[Act.put]);go_simp) ?_
    refine stkz (.bool true) rfl rfl rfl (fun _ _ _ h=>h) (Below.refl _ _) (fun Y hY=>by
      (try simp only[Act.put]);go_simp) ?_
    refine stkz (.bool true) rfl rfl rfl (fun _ _ _ h=>h) (Below.refl _ _) (fun Y hY=>by
      (try simp only[Act.put]);go_simp) ?_
    refine qac (v:=.func (.func 181) #[] #[]) rfl (by kernel_rfl) rfl (fun _ _ _ h=>h) (Below.refl _ _) trivial (fun Y hY hY2=>by
      (try simp only[Act.put]);go_simp) ?_
    refine qac (v:=.slice (some ⟨b,off,none⟩) nl cap) rfl (by kernel_rfl) rfl (fun _ _ _ h=>h) (Below.refl _ _) trivial (fun Y hY hY2=>by
      (try simp only[Act.put]);go_simp) ?_
    refine qac (v:=.int .i64 lo) rfl (by kernel_rfl) rfl (fun _ _ _ h=>h) (Below.refl _ _) trivial (fun Y hY hY2=>by
      (try simp only[Act.put]);go_simp) ?_
    refine qac (v:=.pointer (some ⟨b,off+lo*5,none⟩)) rfl (by kernel_rfl) rfl (fun _ _ _ h=>h) (Below.refl _ _) trivial (fun Y hY hY2=>by
      (try simp only[Act.put]);go_simp) ?_
    simp only[Act.put,fsa,fsb,fsc,fsd,fse,fsf];refine qac (v:=.agg #[.int .i64 q.kind,.string q.name,.int .i64 q.sort,.slice Aq q.kids.length cq,.int .i64 m]) rfl (by kernel_rfl) rfl (fun _ _ _ h=>h) (Below.refl _ _) trivial (fun Y hY hY2=>by
      have z0:=sclz hY p0 (by omega);have z1:=sclz hY p1 (by omega);have z2:=sclz hY p2 (by omega);have z3:=sclz hY p3 (by omega);have z4:=sclz hY p4 (by omega)
      (try simp only[Act.put]);go_simp) ?_
    refine qac (v:=.agg #[.int .i64 t.kind,.string t.name,.int .i64 t.sort,.slice A' t.kids.length c']) rfl (by kernel_rfl) rfl (fun _ _ _ h=>h) (Below.refl _ _) trivial (fun Y hY hY2=>by
      have z0:=sclz hY t0 (by omega);have z1:=sclz hY t1 (by omega);have z2:=sclz hY t2 (by omega);have z3:=sclz hY t3 (by omega)
      (try simp only[Act.put]);go_simp) ?_
    simp only[Act.put,fsa,fsb,fsc,fsd,fse,fsf];refine qbx rfl (by kernel_rfl) (fun K hK=>?_);go_wp2_with fail
    refine CD.out.mono ?_;clear CD;rintro e w5 ⟨rfl,hl5⟩;refine hK _ _ ⟨⟨fun _=>hl5.below,trivial⟩,?_⟩;clear hK K p0 p1 p2 p3 p4 t0 t1 t2 t3;have HB5:=hdzz (HBD.out.trans (hl5.below.mono (by omega)));refine qac (v:=.bool z) rfl (by kernel_rfl) rfl (fun _ _ _ h=>h) hl5.below trivial (fun Y hY hY2=>by
      (try simp only[Act.put]);go_simp) ?_
    refine stkz (.bool z) rfl rfl rfl (fun _ _ _ h=>h) hl5.below (fun Y hY=>by
      (try simp only[Act.put]);go_simp) ?_
    refine stkz (.int .i64 lo) rfl rfl rfl (fun _ _ _ h=>h) hl5.below (fun Y hY=>by
      (try simp only[Act.put]);go_simp) ?_
    refine stkz (.bool z) rfl rfl rfl (fun _ _ _ h=>h) hl5.below (fun Y hY=>by
      (try simp only[Act.put]);go_simp) ?_
    refine qat ?_;clear hl5;simp only[Act.put,fsa,fsb,fsc,fsd,fse,fsf];go_wp2_with fail
    go_ret2
    exact HRES.out z rfl w5 HB5.out
   ·obtain rfl:lo=nl:=by omega
    have HRES:Hid (∀W,Below w.heap.size w W→Found l t w (.returned (.tuple #[.int .i64 lo,.bool false])) W):=hdzz fun W hW=>⟨lo,by rw[dif_neg (by have:=HNL.out;omega)],by have:=HNL.out;omega,HI.out.1,HI.out.2,hW⟩;refine qae (fun Y=>Below wr.drew.heap.size wr.drew Y) (fun _=>True) [] (.held 0 (.held 1 (.held 2 (.held 3 (.held 4 (.held 5 (.held 6 (.held 7 (.held 8 (.held 9 (.held 10 (.held 11 (.held 12 (.held 13 (.held 14 (.held 15 .nil)))))))))))))))) mixed (by kernel_rfl) ?_;have HBD:=hdzz (HBV.out.trans ((HB.out.trans ((Below.refl _ _).drew.mono hsr)).mono (by omega)));clear r0 r1 r2 r3 HB;generalize wr.drew=D at *;refine stkz (.int .i64 lo) rfl rfl rfl (fun _ _ _ h=>h) (Below.refl _ _) (fun Y hY=>by
      (try simp only[Act.put]);go_simp) ?_
    refine stkz (.int .i64 lo) rfl rfl rfl (fun _ _ _ h=>h) (Below.refl _ _) (fun Y hY=>by
      (try simp only[Act.put]);go_simp) ?_
    refine stkz (.int .i64 lo) rfl rfl rfl (fun _ _ _ h=>h) (Below.refl _ _) (fun Y hY=>by
      (try simp only[Act.put]);go_simp) ?_
    refine stkz (.bool false) rfl rfl rfl (fun _ _ _ h=>h) (Below.refl _ _) (fun Y hY=>by
      (try simp only[Act.put]);go_simp) ?_
    refine stkz (.bool false) rfl rfl rfl (fun _ _ _ h=>h) (Below.refl _ _) (fun Y hY=>by
      (try simp only[Act.put]);go_simp) ?_
    refine qad rfl (by kernel_rfl) rfl (fun _ _ _ h=>h) (Below.refl _ _) trivial ?_;refine qad rfl (by kernel_rfl) rfl (fun _ _ _ h=>h) (Below.refl _ _) trivial ?_;refine qad rfl (by kernel_rfl) rfl (fun _ _ _ h=>h) (Below.refl _ _) trivial ?_;refine qad rfl (by kernel_rfl) rfl (fun _ _ _ h=>h) (Below.refl _ _) trivial ?_;refine qad rfl (by kernel_rfl) rfl (fun _ _ _ h=>h) (Below.refl _ _) trivial ?_;refine qad rfl (by kernel_rfl) rfl (fun _ _ _ h=>h) (Below.refl _ _) trivial ?_;refine qad rfl (by kernel_rfl) rfl (fun _ _ _ h=>h) (Below.refl _ _) trivial ?_;refine qad rfl (by kernel_rfl) rfl (fun _ _ _ h=>h) (Below.refl _ _) trivial ?_;refine stkz (.bool false) rfl rfl rfl (fun _ _ _ h=>h) (Below.refl _ _) (fun Y hY=>by
      (try simp only[Act.put]);go_simp) ?_
    refine stkz (.int .i64 lo) rfl rfl rfl (fun _ _ _ h=>h) (Below.refl _ _) (fun Y hY=>by
      (try simp only[Act.put]);go_simp) ?_
    refine stkz (.bool false) rfl rfl rfl (fun _ _ _ h=>h) (Below.refl _ _) (fun Y hY=>by
      (try simp only[Act.put]);go_simp) ?_
    refine qat ?_;simp only[Act.put,fsa,fsb,fsc,fsd,fse,fsf];go_wp2_with fail
    go_ret2
    exact HRES.out _ HBD.out
theorem qln:SlT 129 163 5 64 (.agg #[.int .i64 0,.string ⟨#[]⟩,.int .i64 0,.slice none 0 0,.int .i64 0]):=⟨Tryz.underlying129,by kernel_rfl,rfl,by decide,by decide⟩
theorem qeu {P:Program} (w:World) {o:Oper} {a:Act} {K:Act→World→Prop} {Q:Exit→Act→World→Prop} (d s:Operand) (t t':TypeId)
  (ho:o.op=.call { callee:=.builtin .copy,args:=#[d,s],argTypes:=#[t,t'] }) (v u:Value) (hd:a.eval d=v) (hs:a.eval s=u) {v':Value} {w':World}
  (hr:(Builtin.copy_ #[t,t'] o.type #[v,u]).run P w=.ok v' w') (h:K (a.put o.dst v') w'):o.wp P a w K Q:=by
 unfold Oper.wp execOp;simp only[ho,resolve,invoke,builtin,Sem.run_bind,Sem.run_pure,Result.andThen_ok,List.map_toArray,List.map_cons,List.map_nil,hd,hs,hr];exact h
theorem qes {P:Program} (w:World) {ops:Array Oper} {rest:List Oper} {o:Oper} {a:Act} {Q:Exit→Act→World→Prop} (hgd:o.guard=none) (d s:Operand) (t t':TypeId)
  (ho:o.op=.call { callee:=.builtin .copy,args:=#[d,s],argTypes:=#[t,t'] }) (v u:Value) (hd:a.eval d=v) (hs:a.eval s=u) {v':Value} {w':World}
  (hr:(Builtin.copy_ #[t,t'] o.type #[v,u]).run P w=.ok v' w') (h:wpList P ops Q rest (a.put o.dst v') w'):wpList P ops Q (o::rest) a w:=
 wpList_plain hgd fun _ hK=>qeu w d s t t' ho v u hd hs hr (hK _ _ h)
section
variable {ts te:TypeId} {sz by_:Nat} {z:Value}
theorem qdk (T:SlT ts te sz by_ z) (w:World) (ty:TypeId) (g o dLen dCap:Nat) (a:Addr) (sLen sCap:Nat) (cur:Array Value) (t:TypeId) (cs:List Value) (n:Nat)
  (hg:w.heap[g]?=some (.cells cur t (0,0))) (hn:n=Nat.min sLen dLen) (hl:cs.length=n*sz)
  (hsrc:∀j v,cs[j]?=some v→w.cell? (a.add j)=some v) (hfit:o+cs.length≤cur.size) (h1:∀v∈cs,v.oneCell'=true) :
  (Builtin.copy_ #[ts,ts] ty #[.slice (some ⟨g,o,none⟩) dLen dCap,.slice (some a) sLen sCap]).run Tryz.prog w =
   .ok (goInt n) (w.setRow g (cur.toList.take o++cs++cur.toList.drop (o+cs.length)).toArray):=by
 obtain⟨i0,hi0,hz0,hz1,hz2⟩:=info_parts T.info;have hld:=run_loadCells_list (P:=Tryz.prog) w a cs hsrc;have hst:=run_storeCells_at Tryz.prog g o t cs 0 cur w hg (by simpa using hfit) h1;rw[hl]at hld;simp[Builtin.copy_,run_underlying T.und,Builtin.lenOf,Builtin.firstCells,sizeOf,typeInfo,hi0,hz1,←hn,hld,hst]
theorem take_app {a b:Array Value} {n:Nat} (h:a.toList.length=n):(a++b).toList.take n=a.toList:=by rw[Array.toList_append];exact List.take_left' h
theorem qia (T:SlT ts te sz by_ z) (w:World) (tn ty:TypeId) (htn:Tryz.prog.underlying tn=some (.int .i64)) {base n cap g:Nat} {xs:List Value} (hrow:w.ownsRow base te sz (.slice (some ⟨g,0,none⟩) n cap) n xs) (i k:Nat) (hi:i≤n) (h0:0<k) (hik:cap<i+k) (hle:i+k≤1000000) :
  ∃c w' cur,(Builtin.append_ #[ts,tn] ty #[.slice (some ⟨g,0,none⟩) i cap,.int .i64 k]).run Tryz.prog w=.ok (.slice (some ⟨w.heap.size,0,none⟩) (i+k) c) w'∧i+k≤c∧c≤maxLen∧
   w'.heap[w.heap.size]?=some (.cells cur te (0,0))∧cur.size=c*sz∧cur.toList.take (i*sz)=xs.take (i*sz)∧Below w.heap.size w w':=by
 obtain⟨i0,hi0,hz0,hz1,hz2⟩:=info_parts T.info;have hcap:=grownCap_ge w (i+k) cap te;have hcap2:=grownCap_le_maxLen w (i+k) cap te (by unfold maxLen;omega);have hzs:=T.cells;have hpos:=T.pos;have hby:=T.le;rcases hrow.2 with⟨hv,_⟩|⟨g',cap',cur,hv,hb,hg,hnc,hcm,hs,ht⟩
 ·cases hv
 injection hv with e1 e2 e3;injection e1 with e1;injection e1 with e1;subst e1 e3;have hxl:=hrow.1;have hmul:i*sz≤n*sz:=Nat.mul_le_mul_right _ hi;have hold:(Builtin.firstCells i0.size i (.slice (some ⟨g,0,none⟩) i cap)).run Tryz.prog w.drew=.ok (xs.take (i*sz)).toArray w.drew:=by
  rw[hz1];refine run_firstCells_some w.drew sz i ⟨g,0,none⟩ i cap (xs.take (i*sz)) (by rw[List.length_take,hxl];exact Nat.min_eq_left hmul) (fun j u hj=>?_);have hj2:xs[j]?=some u:=by
   rw[List.getElem?_take]at hj
   split at hj
   ·exact hj
   ·cases hj
  exact hrow.cells (g:=g) rfl j u hj2
 refine⟨grownCap w (i+k) cap te,w.drew.alloc (.cells ((xs.take (i*sz)).toArray++(Builtin.zeroCells z.cells k++Builtin.zeroCells z.cells (grownCap w (i+k) cap te - (i+k)))) te),_,?_,hcap,hcap2,heap_alloc_new w.drew _,?_,?_,?_⟩
 ·have hn0:k≠0:=by omega
  have h63':¬(9223372036854775807<(i:Int)+(k:Int)):=by omega
  have hw:IntKind.i64.wrap (k:Int)=(k:Int):=by rw[IntKind.wrap_i64];omega
  have hneg:¬((k:Int)<0):=by omega
  have h48':¬(281474976710656<Builtin.nextslicecap (i+k) cap*i0.bytes):=by
   rw[hz2];have hb:(i+k)*by_≤140737488355328:=Nat.le_trans (Nat.mul_le_mul hle hby) (by decide);exact Nat.not_lt.2 (growslice_fits hik hb)
  have hbig:¬(281474976710656<(k:Int)*(i0.bytes:Int)):=by
   rw[hz2,←Int.natCast_mul];have:k*by_≤1000000*64:=Nat.mul_le_mul (by omega) hby;omega
  have hsz:¬(k*i0.size=0):=by rw[hz1];exact Nat.mul_ne_zero hn0 (by omega)
  have hik':¬(i+k≤cap):=by omega
  simp[Builtin.append_,run_underlying T.und,run_underlying htn,sizeOf,typeInfo,zeroValue,hi0,hz0,h63',h48',Question.forced,hold,newRow,grownCap,asInt,asIntOf,hw,hneg,hbig,hsz,hik']
 ·simp only[Array.size_append,size_zeroCells,hzs,List.size_toArray,List.length_take,hxl,Nat.min_eq_left hmul];rw[←Nat.add_mul,←Nat.add_mul]
  congr 1
  omega
 ·have e:(xs.take (i*sz)).length=i*sz:=by rw[List.length_take,hxl];exact Nat.min_eq_left hmul
  exact take_app (a:=(xs.take (i*sz)).toArray) e
 ·exact(Below.refl _ _).drew.alloc (Nat.le_refl _) _
end
end Go.Proofs.YtjhjoiplpmjepaaGreat
