/- Gk, Vrx (joined by shake.py). -/
import Derived.Test.YtjhjoiplpmjepaaGreatW0
import Derived.Test.YtjhjoiplpmjepaaGreatW1
import Derived.Test.YtjhjoiplpmjepaaGreatW2
import Derived.Test.YtjhjoiplpmjepaaGreatW5
import Derived.Test.YtjhjoiplpmjepaaGreatW6
import Derived.Shelf.SlSortCmp.QuietGrown
import Derived.BigQuiet
import Derived.WalkSpells
import Derived.Lib.Hide
set_option maxRecDepth 100000
set_option linter.unusedVariables false
set_option linter.unusedSimpArgs false
set_option maxHeartbeats 4000000
namespace Go.Proofs.YtjhjoiplpmjepaaGreat
open Go.RowKit Go.Sort
open Go.RowKit
open Go.RowKit
open Go.RowKit
open Go.RowKit
open Go.RowKit
theorem RepT.kids {w:World} {B:Nat} {t:Tm} {A:Option Addr} {c:Nat} (h:RepT w B t A c):t.kids.length≤c∧c≤maxLen∧(t.kids=[]∨∃b off,A=some ⟨b,off,none⟩∧b<B∧RepL w B t.kids b off):=by
 obtain⟨k,n,s,l⟩:=t;rw[qbe]at h;exact h.2
theorem Tm.kid_size {t k:Tm} (h:k∈t.kids):k.size<t.size:=by
 obtain⟨a,n,s,l⟩:=t;obtain⟨i,hi,rfl⟩:=List.getElem_of_mem h;have:=Tm.sizes_get l i hi;rw[Tm.size];show l[i].size<1+Tm.sizes l;omega
def Tm.kid (t:Tm) (i:Int):Option Tm:=if 0≤i then t.kids[i.toNat]? else none
def Tm.atP:List Int→Tm→Option Tm
 | [],t=>some t
 | i::r,t=>match t.kid i with
  | some u=>Tm.atP r u
  | none=>none
theorem Tm.kid_some {t:Tm} {i:Int} (h0:0≤i) (h1:i<(t.kids.length:Int)):t.kid i=some (t.kids[i.toNat]'(by omega)):=by
 unfold Tm.kid;rw[if_pos h0];exact List.getElem?_eq_getElem _
theorem Tm.kid_none {t:Tm} {i:Int} (h:i<0∨(t.kids.length:Int)≤i):t.kid i=none:=by
 unfold Tm.kid;split
 ·exact List.getElem?_eq_none (by omega)
 ·rfl
def RepI (w:World) (P:Nat→Prop) (p:List Int) (A:Option Addr) (cap:Nat):Prop:=
 p.length≤cap∧cap≤maxLen∧(p=[]∨∃b off,A=some ⟨b,off,none⟩∧P b∧∀j,(h:j<p.length)→w.cell? ⟨b,off+j,none⟩=some (.int .i64 p[j]))
theorem RepI.mono {w w':World} {P P':Nat→Prop} (hP:∀b,P b→P' b) (hc:∀q:Addr,P q.block→w'.cell? q=w.cell? q) {p:List Int} {A:Option Addr} {cap:Nat} (h:RepI w P p A cap):RepI w' P' p A cap:=by
 obtain⟨h1,h2,h3⟩:=h;refine⟨h1,h2,?_⟩;rcases h3 with h3|⟨b,off,hA,hb,hl⟩
 ·exact .inl h3
 ·exact .inr ⟨b,off,hA,hP b hb,fun j hj=>by rw[hc _ hb];exact hl j hj⟩
theorem RepI.go {w w':World} {B B':Nat} {p:List Int} {A:Option Addr} {cap:Nat} (h:RepI w (fun b=>b<B) p A cap) (hb:Below B w w') (hB:B≤B'):RepI w' (fun b=>b<B') p A cap:=
 h.mono (fun _ h=>Nat.lt_of_lt_of_le h hB) (fun _ hq=>hb.cell hq)
theorem IRep.toI {w:World} {P:Nat→Prop} {p:List Int} {A:Option Addr} {cap:Nat} (h:IRep w P p A cap):RepI w P p A cap:=by
 obtain⟨b,off,h1,h2,h3,h4,h5⟩:=h;exact⟨h3,h4,.inr ⟨b,off,h1,h2,fun j hj=>h5 j _ (by simp[ints,hj])⟩⟩
theorem qim {W:World} {B:Nat} {a b c d x y z u:Value} {T:TypeId} (h:W.heap[B]?=some (.cells #[a,b,c,d] T (0,0))) :
  ((((W.setCell ⟨B,0,none⟩ x).setCell ⟨B,1,none⟩ y).setCell ⟨B,2,none⟩ z).setCell ⟨B,3,none⟩ u).heap[B]?=some (.cells #[x,y,z,u] T (0,0)):=by
 simp[World.setCell,Array.getElem?_modify,h]
theorem qbk {W:World} {B b:Nat} {x y z u:Value} (hb:b≠B) :
  ((((W.setCell ⟨B,0,none⟩ x).setCell ⟨B,1,none⟩ y).setCell ⟨B,2,none⟩ z).setCell ⟨B,3,none⟩ u).heap[b]?=W.heap[b]?:=by
 have:B≠b:=fun e=>hb e.symm;simp[World.setCell,Array.getElem?_modify,this]
theorem qcc {B C:Nat} {w W:World} {x y z u:Value} (h:Below C w W) (hB:C≤B):Below C w ((((W.setCell ⟨B,0,none⟩ x).setCell ⟨B,1,none⟩ y).setCell ⟨B,2,none⟩ z).setCell ⟨B,3,none⟩ u):=
 (((h.setCell hB x).setCell hB y).setCell hB z).setCell hB u
def AtOf (w:World) (r:Option Tm) (e:Ending) (w':World):Prop:=
 Below w.heap.size w w'∧match r with
  | none=>e=.returned (.tuple #[.agg #[.int .i64 0,.string ⟨#[]⟩,.int .i64 0,.slice none 0 0],.int .i64 7])
  | some u=>∃A c,e=.returned (.tuple #[u.val A c,.int .i64 0])∧RepP w' (fun b=>w.heap.size≤b∧b<w'.heap.size) u A c
structure AtRel (w:World) (u:Tm) (A:Option Addr) (c:Nat) (wr:World):Prop where
 box:wr.heap[w.heap.size]?=some (qal u A c)
 out:wr.heap[w.heap.size+1]?=some (qal (.mk 0 ⟨#[]⟩ 0 []) none 0)
 rep:RepT wr w.heap.size u A c
 below:Below w.heap.size w wr
theorem AtRel.set {w wr:World} {u v:Tm} {A A':Option Addr} {c c':Nat} (h:AtRel w u A c wr) (hr:RepT wr w.heap.size v A' c') :
  AtRel w v A' c' ((((wr.setCell ⟨w.heap.size,0,none⟩ (.int .i64 v.kind)).setCell ⟨w.heap.size,1,none⟩ (.string v.name)).setCell ⟨w.heap.size,2,none⟩ (.int .i64 v.sort)).setCell ⟨w.heap.size,3,none⟩ (.slice A' v.kids.length c')):=by
 have hb:Below w.heap.size wr ((((wr.setCell ⟨w.heap.size,0,none⟩ (.int .i64 v.kind)).setCell ⟨w.heap.size,1,none⟩ (.string v.name)).setCell ⟨w.heap.size,2,none⟩ (.int .i64 v.sort)).setCell ⟨w.heap.size,3,none⟩ (.slice A' v.kids.length c')):=qcc (Below.refl _ _) (Nat.le_refl _);exact⟨qim h.box,by rw[qbk (by omega)];exact h.out,RepP.mono (fun _ h=>h) (fun q hq=>hb.cell hq) _ _ _ hr,h.below.trans hb⟩
theorem AtRel.start {w:World} {t:Tm} {A:Option Addr} {c:Nat} (h:RepT w w.heap.size t A c):AtRel w t A c ((w.alloc (qal t A c)).alloc (qal (.mk 0 ⟨#[]⟩ 0 []) none 0)):=by
 have hb1:Below w.heap.size w (w.alloc (qal t A c)):=qab (Nat.le_refl _) _;have hb2:Below w.heap.size w ((w.alloc (qal t A c)).alloc (qal (.mk 0 ⟨#[]⟩ 0 []) none 0)):=hb1.alloc (by simp) _;refine⟨?_,?_,RepP.mono (fun _ h=>h) (fun q hq=>hb2.cell hq) _ _ _ h,hb2⟩
 ·rw[Below.heap_alloc _ _ _ (by simp)];exact heap_alloc_new _ _
 ·have:=heap_alloc_new (w.alloc (qal t A c)) (qal (.mk 0 ⟨#[]⟩ 0 []) none 0)
  rwa[World.size_alloc]at this
theorem Tm.at_drop {p:List Int} {k:Nat} (h:k<p.length) (u:Tm):Tm.atP (p.drop k) u=match u.kid p[k]with
  | some v=>Tm.atP (p.drop (k+1)) v
  | none=>none:=by
 rw[List.drop_eq_getElem_cons h,Tm.atP]
theorem at_any (t:Tm) (A:Option Addr) (cap:Nat) (p:List Int) (Ap:Option Addr) (cp:Nat) (w:World) (ht:t.size≤1000000) (hp:p.length≤1000000) (hrep:RepT w w.heap.size t A cap) (hrp:RepI w (fun b=>b<w.heap.size) p Ap cp) :
  Calls Tryz.prog 65 #[t.val A cap,.slice Ap p.length cp] w (AtOf w (Tm.atP p t)):=by
 have hst:=AtRel.start hrep;simp only[qal,Tm.kind,Tm.name,Tm.sort,Tm.kids,List.length_nil]at hst;have HST:=hdzz hst;clear hst hrep;have HRP:=hdzz hrp;clear hrp;have HT:=hdzz ht;clear ht;simp only[Tm.val];go_enter Tryz.func65,Tryz.ntmps65
 go_wp2_with fail
 go_loopw [10] (fun i wr=>∃(k:Nat) (u:Tm) (A':Option Addr) (c':Nat),k≤p.length∧i=.int .i64 k∧Hid (AtRel w u A' c' wr)∧Hid (Tm.atP p t=Tm.atP (p.drop k) u)∧Hid (u.size≤1000000)) (fun i _=>p.length - (intOf i).toNat)
 case atStart=>exact⟨0,t,A,cap,Nat.zero_le _,rfl,HST.out,rfl,HT⟩
 case round=>
  obtain⟨k,u,A',c',hk,rfl,HR,HE,HU⟩:=hrel;clear HST HT;obtain⟨a0,a1,a2,a3,a4⟩:=qaa HR.out.box;obtain⟨r0,r1,r2,r3,r4⟩:=qaa HR.out.out;simp only[Tm.kind,Tm.name,Tm.sort,Tm.kids,List.length_nil]at r0 r1 r2 r3;have i1:(0:Int)≤(k:Int):=Int.natCast_nonneg _;by_cases hlt:k<p.length
  ·have i2:(k:Int)<(p.length:Int):=by omega
   obtain⟨-,-,hpc⟩:=HRP.out.go HR.out.below (Nat.le_refl _);rcases hpc with rfl|⟨bp,offp,rfl,hbp,hpl⟩
   ·simp at hlt
   have hx:=hpl k hlt;have he:=Tm.at_drop hlt u;obtain⟨x,hxe⟩:∃x,x=p[k]:=⟨_,rfl⟩;rw[←hxe]at hx he;clear hxe hpl;have hl1:w.heap.size+1<wr.heap.size:=(sltz HR.out.out);by_cases hx0:x<0
   ·have hn:=Tm.kid_none (t:=u) (.inl hx0);have hres:Tm.atP p t=none:=by rw[HE.out,he,hn]
    have HRES:=hdzz hres;clear hres hn he;have d1:decide (x<0)=true:=decide_eq_true hx0;go_wp2_with fail
    refine bodyPost_ret (v:=.tuple #[.agg #[.int .i64 0,.string ⟨#[]⟩,.int .i64 0,.slice none 0 0],.int .i64 7]) ?_ rfl ?_
    ·simp[results,Tryz.results65,go_sem,r0,r1,r2,r3]
    unfold AtOf;rw[HRES.out];exact⟨qcc HR.out.below (by omega),rfl⟩
   ·have d1:decide (x<0)=false:=decide_eq_false hx0;by_cases hx1:(u.kids.length:Int)≤x
    ·have hn:=Tm.kid_none (t:=u) (.inr hx1);have hres:Tm.atP p t=none:=by rw[HE.out,he,hn]
     have HRES:=hdzz hres;clear hres hn he;have d2:decide ((u.kids.length:Int)≤x)=true:=decide_eq_true hx1;go_wp2_with fail
     refine bodyPost_ret (v:=.tuple #[.agg #[.int .i64 0,.string ⟨#[]⟩,.int .i64 0,.slice none 0 0],.int .i64 7]) ?_ rfl ?_
     ·simp[results,Tryz.results65,go_sem,r0,r1,r2,r3]
     unfold AtOf;rw[HRES.out];exact⟨qcc HR.out.below (by omega),rfl⟩
    ·have d2:decide ((u.kids.length:Int)≤x)=false:=decide_eq_false hx1;have hxl:x.toNat<u.kids.length:=by omega
     have hn:=Tm.kid_some (t:=u) (i:=x) (by omega) (by omega);obtain⟨-,-,hkids⟩:=HR.out.rep.kids;rcases hkids with h0|⟨bk,off,rfl,hbk,hl⟩
     ·rw[h0]at hxl;simp at hxl
     obtain⟨C,ck,e0,e1,e2,e3,e5⟩:=hl.get x.toNat hxl;have hvs:u.kids[x.toNat].size≤1000000:=by have:=Tm.kid_size (List.getElem_mem hxl);have:=HU.out;omega
     rw[hn]at he;obtain⟨v,hv⟩:∃v,v=u.kids[x.toNat]:=⟨_,rfl⟩;rw[←hv]at e0 e1 e2 e3 e5 hvs he;have hres:Tm.atP p t=Tm.atP (p.drop (k+1)) v:=by rw[HE.out,he]
     have HRES:=hdzz hres;clear hres hn he hv hl;have x0:0≤x:=by omega
     have x1:x<(u.kids.length:Int):=by omega
     have HVS:=hdzz hvs;clear hvs;have HNEW:=hdzz (HR.out.set e5);clear e5;have hl2:bk<wr.heap.size:=by have:=HR.out.below.size;omega
     go_wp2_with fail
     go_roundw
     case rel=>exact⟨k+1,v,C,ck,by omega,by go_num,HNEW.out,HRES.out,HVS⟩
     case measure=>simp[intOf];omega
  ·obtain rfl:k=p.length:=by omega
   have hres:Tm.atP p t=some u:=by rw[HE.out,List.drop_length,Tm.atP]
   have HRES:=hdzz hres;clear hres;have CL:=hdzz (qmt 1000000 u A' c' wr HU.out (by decide) (HR.out.rep.go (Below.refl _ _) HR.out.below.size));simp only[Tm.val]at CL;go_wp2_with fail
   refine CL.out.mono ?_;rintro e w1 ⟨A1,c1,rfl,hr1,hb1⟩;have hl1:w.heap.size+1<wr.heap.size:=(sltz HR.out.out);have hl2:w.heap.size+1<w1.heap.size:=by have:=hb1.size;omega
   have hout:w1.heap[w.heap.size+1]?=some (qal (.mk 0 ⟨#[]⟩ 0 []) none 0):=(hb1.block _ hl1).trans HR.out.out;have hbw:=HR.out.below.trans (hb1.mono HR.out.below.size);clear r0 r1 r2 r3 r4 a0 a1 a2 a3 a4;obtain⟨r0,r1,r2,r3,r4⟩:=qaa hout;simp only[Tm.kind,Tm.name,Tm.sort,Tm.kids,List.length_nil]at r0 r1 r2 r3;have HOUT:=hdzz hout;clear hout;have HR1:=hdzz hr1;clear hr1;have HBW:=hdzz hbw;clear hbw;have HB1:=hdzz hb1;clear hb1;clear CL;go_wp2_with fail
   refine bodyPost_ret (v:=.tuple #[.agg #[.int .i64 u.kind,.string u.name,.int .i64 u.sort,.slice A1 u.kids.length c1],.int .i64 0]) ?_ rfl ?_
   ·simp[results,Tryz.results65,go_sem,r0,r1,r2,r3]
   unfold AtOf;rw[HRES.out];refine⟨qcc HBW.out (by omega),A1,c1,rfl,?_⟩;have hws:=HR.out.below.size;exact RepP.mono (fun b ⟨h1,h2⟩=>⟨by omega,by simpa[World.setCell]using h2⟩) (fun q ⟨h1,_⟩=>World.cell?_of_block (qbk (by omega))) _ _ _ HR1.out
theorem RepT.drewN {w:World} {B:Nat} {u:Tm} {A:Option Addr} {c:Nat} (h:RepT w B u A c) (n:Nat):RepT (w.drewN n) B u A c:=
 RepP.mono (w:=w) (w':=w.drewN n) (P:=fun b=>b<B) (fun _ h=>h) (fun _ _=>rfl) _ _ _ h
theorem AtRel.drewN {w wr:World} {u:Tm} {A:Option Addr} {c:Nat} (h:AtRel w u A c wr) (n:Nat):AtRel w u A c (wr.drewN n):=
 ⟨h.box,h.out,h.rep.drewN n,h.below.trans ((Lay.refl _ _).drewN n).below⟩
mutual
def RepF (w:World):Tm→Option Addr→Nat→List Nat→Prop
 | .mk _ n _ l,A,cap,fp=>n.size≤maxLen∧l.length≤cap∧cap≤maxLen∧((l=[]∧fp=[])∨∃b fs,A=some ⟨b,0,none⟩∧fp=b::fs∧(∀o,w.frozen? ⟨b,o,none⟩=false)∧qci w l b 0 fs)
def qci (w:World):List Tm→Nat→Nat→List Nat→Prop
 | [],_,_,fs=>fs=[]
 | t::r,b,off,fs=>(∃A cap f1 f2,w.cell? ⟨b,off,none⟩=some (.int .i64 t.kind)∧w.cell? ⟨b,off+1,none⟩=some (.string t.name)∧
   w.cell? ⟨b,off+2,none⟩=some (.int .i64 t.sort)∧w.cell? ⟨b,off+3,none⟩=some (.slice A t.kids.length cap)∧RepF w t A cap f1∧fs=f1++f2∧qci w r b (off+4) f2)
end
theorem qoa {w:World} {k s:Int} {n:ByteArray} {l:List Tm} {A:Option Addr} {cap:Nat} {fp:List Nat}:RepF w (.mk k n s l) A cap fp =
  (n.size≤maxLen∧l.length≤cap∧cap≤maxLen∧((l=[]∧fp=[])∨∃b fs,A=some ⟨b,0,none⟩∧fp=b::fs∧(∀o,w.frozen? ⟨b,o,none⟩=false)∧qci w l b 0 fs)):=by rw[RepF]
mutual
theorem RepF.mono {w w':World}:∀(t:Tm) (A:Option Addr) (cap:Nat) (fp:List Nat),RepF w t A cap fp→(∀q:Addr,q.block∈fp→w'.cell? q=w.cell? q∧w'.frozen? q=w.frozen? q)→RepF w' t A cap fp
 | .mk _ n _ l,A,cap,fp,h,hc=>by
  rw[RepF]at h ⊢;obtain⟨h1,h2,h3,h4⟩:=h;refine⟨h1,h2,h3,?_⟩;rcases h4 with h4|⟨b,fs,hA,hf,hz,hl⟩
  ·exact .inl h4
  ·subst hf;refine .inr ⟨b,fs,hA,rfl,fun o=>?_,qci.mono l b 0 fs hl (fun q hq=>?_) (fun q hq=>hc q (List.mem_cons_of_mem _ hq))⟩
   ·rw[(hc ⟨b,o,none⟩ (List.mem_cons_self ..)).2];exact hz o
   ·exact(hc q (by rw[hq];exact List.mem_cons_self ..)).1
theorem qci.mono {w w':World}:∀(l:List Tm) (b off:Nat) (fs:List Nat),qci w l b off fs→(∀q:Addr,q.block=b→w'.cell? q=w.cell? q)→
  (∀q:Addr,q.block∈fs→w'.cell? q=w.cell? q∧w'.frozen? q=w.frozen? q)→qci w' l b off fs
 | [],_,_,_,h,_,_=>by rw[qci]at h ⊢;exact h
 | t::r,b,off,fs,h,hb,hc=>by
  rw[qci]at h ⊢;obtain⟨A,cap,f1,f2,h0,h1,h2,h3,h4,hf,hr⟩:=h;subst hf;exact⟨A,cap,f1,f2,by rw[hb _ rfl];exact h0,by rw[hb _ rfl];exact h1,by rw[hb _ rfl];exact h2,by rw[hb _ rfl];exact h3,RepF.mono t A cap f1 h4 (fun q hq=>hc q (List.mem_append_left _ hq)),rfl,
   qci.mono r b (off+4) f2 hr hb (fun q hq=>hc q (List.mem_append_right _ hq))⟩
end
mutual
theorem RepF.toP {w:World} {P:Nat→Prop}:∀(t:Tm) (A:Option Addr) (cap:Nat) (fp:List Nat),RepF w t A cap fp→(∀b∈fp,P b)→RepP w P t A cap
 | .mk _ n _ l,A,cap,fp,h,hP=>by
  rw[RepF]at h;rw[RepP];obtain⟨h1,h2,h3,h4⟩:=h;refine⟨h1,h2,h3,?_⟩;rcases h4 with h4|⟨b,fs,hA,hf,_,hl⟩
  ·exact .inl h4.1
  ·subst hf;exact .inr ⟨b,0,hA,hP b (List.mem_cons_self ..),qci.toP l b 0 fs hl (fun q hq=>hP q (List.mem_cons_of_mem _ hq))⟩
theorem qci.toP {w:World} {P:Nat→Prop}:∀(l:List Tm) (b off:Nat) (fs:List Nat),qci w l b off fs→(∀b∈fs,P b)→RepLP w P l b off
 | [],_,_,_,_,_=>by rw[RepLP];trivial
 | t::r,b,off,fs,h,hP=>by
  rw[qci]at h;rw[RepLP];obtain⟨A,cap,f1,f2,h0,h1,h2,h3,h4,hf,hr⟩:=h;subst hf;exact⟨⟨A,cap,h0,h1,h2,h3,RepF.toP t A cap f1 h4 (fun q hq=>hP q (List.mem_append_left _ hq))⟩,qci.toP r b (off+4) f2 hr (fun q hq=>hP q (List.mem_append_right _ hq))⟩
end
mutual
def Sk (w:World) (B:Nat):Tm→Option Addr→Prop
 | .mk _ _ _ l,A=>l=[]∨∃b,A=some ⟨b,0,none⟩∧B≤b∧b<w.heap.size∧(∀o,w.frozen? ⟨b,o,none⟩=false)∧SkL w B l b 0
def SkL (w:World) (B:Nat):List Tm→Nat→Nat→Prop
 | [],_,_=>True
 | t::r,b,off=>(∃A cap x y z,w.cell? ⟨b,off,none⟩=some (.int .i64 x)∧w.cell? ⟨b,off+1,none⟩=some (.string y)∧
   w.cell? ⟨b,off+2,none⟩=some (.int .i64 z)∧w.cell? ⟨b,off+3,none⟩=some (.slice A t.kids.length cap)∧Sk w B t A)∧SkL w B r b (off+4)
end
theorem Sk_mk {w:World} {B:Nat} {k s:Int} {n:ByteArray} {l:List Tm} {A:Option Addr}:Sk w B (.mk k n s l) A =
  (l=[]∨∃b,A=some ⟨b,0,none⟩∧B≤b∧b<w.heap.size∧(∀o,w.frozen? ⟨b,o,none⟩=false)∧SkL w B l b 0):=by rw[Sk]
structure Spl (B:Nat) (w w':World):Prop where
 below:Below B w w'
 size:w.heap.size≤w'.heap.size
 cold:∀b,B≤b→b<w.heap.size→∀o,w'.frozen? ⟨b,o,none⟩=w.frozen? ⟨b,o,none⟩
 rest:∀b o,B≤b→b<w.heap.size→2≤o % 4→w'.cell? ⟨b,o,none⟩=w.cell? ⟨b,o,none⟩
 kind:∀b o x,B≤b→b<w.heap.size→o % 4=0→w.cell? ⟨b,o,none⟩=some (.int .i64 x)→∃x',w'.cell? ⟨b,o,none⟩=some (.int .i64 x')
 name:∀b o y,B≤b→b<w.heap.size→o % 4=1→w.cell? ⟨b,o,none⟩=some (.string y)→∃y',w'.cell? ⟨b,o,none⟩=some (.string y')
theorem Spl.of_below {B:Nat} {w w':World} (h:Below w.heap.size w w') (hB:B≤w.heap.size):Spl B w w':=
 ⟨h.mono hB,h.size,fun _ _ hb o=>h.frozen (p:=⟨_,o,none⟩) hb,fun _ o _ hb _=>h.cell (p:=⟨_,o,none⟩) hb,fun _ o x _ hb _ hc=>⟨x,by rw[h.cell (p:=⟨_,o,none⟩) hb];exact hc⟩,fun _ o y _ hb _ hc=>⟨y,by rw[h.cell (p:=⟨_,o,none⟩) hb];exact hc⟩⟩
theorem Spl.refl (B:Nat) (w:World):Spl B w w:=⟨Below.refl _ _,Nat.le_refl _,fun _ _ _ _=>rfl,fun _ _ _ _ _=>rfl,fun _ _ x _ _ _ h=>⟨x,h⟩,fun _ _ y _ _ _ h=>⟨y,h⟩⟩
theorem Spl.trans {B:Nat} {a b c:World} (h:Spl B a b) (k:Spl B b c):Spl B a c:=by
 have hs:=h.size;refine⟨h.below.trans k.below,Nat.le_trans h.size k.size,fun x h1 h2 o=>(k.cold x h1 (by omega) o).trans (h.cold x h1 h2 o),fun x o h1 h2 h3=>(k.rest x o h1 (by omega) h3).trans (h.rest x o h1 h2 h3),fun x o v h1 h2 h3 h4=>?_,fun x o v h1 h2 h3 h4=>?_⟩
 ·obtain⟨v',h5⟩:=h.kind x o v h1 h2 h3 h4;exact k.kind x o v' h1 (by omega) h3 h5
 ·obtain⟨v',h5⟩:=h.name x o v h1 h2 h3 h4;exact k.name x o v' h1 (by omega) h3 h5
mutual
theorem RepF.toS {w:World} {B:Nat}:∀(t:Tm) (A:Option Addr) (cap:Nat) (fp:List Nat),RepF w t A cap fp→(∀b∈fp,B≤b∧b<w.heap.size)→Sk w B t A
 | .mk _ n _ l,A,cap,fp,h,hP=>by
  rw[RepF]at h;rw[Sk];obtain⟨-,-,-,h4⟩:=h;rcases h4 with h4|⟨b,fs,hA,hf,hz,hl⟩
  ·exact .inl h4.1
  ·subst hf;have:=hP b (List.mem_cons_self ..);exact .inr ⟨b,hA,this.1,this.2,hz,qci.toS l b 0 fs hl (fun q hq=>hP q (List.mem_cons_of_mem _ hq))⟩
theorem qci.toS {w:World} {B:Nat}:∀(l:List Tm) (b off:Nat) (fs:List Nat),qci w l b off fs→(∀b∈fs,B≤b∧b<w.heap.size)→SkL w B l b off
 | [],_,_,_,_,_=>by rw[SkL];trivial
 | t::r,b,off,fs,h,hP=>by
  rw[qci]at h;rw[SkL];obtain⟨A,cap,f1,f2,h0,h1,h2,h3,h4,hf,hr⟩:=h;subst hf;exact⟨⟨A,cap,_,_,_,h0,h1,h2,h3,RepF.toS t A cap f1 h4 (fun q hq=>hP q (List.mem_append_left _ hq))⟩,qci.toS r b (off+4) f2 hr (fun q hq=>hP q (List.mem_append_right _ hq))⟩
end
mutual
theorem Sk.keep {w w':World} {B B':Nat} (hs:w.heap.size≤w'.heap.size) (hB:B'≤B) (hc:∀b,B≤b→b<w.heap.size→w'.heap[b]?=w.heap[b]?):∀(t:Tm) (A:Option Addr),Sk w B t A→Sk w' B' t A
 | .mk _ _ _ l,A,h=>by
  rw[Sk]at h ⊢;rcases h with h|⟨b,hA,h1,h2,hz,hl⟩
  ·exact .inl h
  ·exact .inr ⟨b,hA,Nat.le_trans hB h1,Nat.lt_of_lt_of_le h2 hs,fun o=>by rw[World.frozen?_of_block (a:=⟨b,o,none⟩) (hc b h1 h2)];exact hz o,SkL.keep hs hB hc l b 0 h1 h2 hl⟩
theorem SkL.keep {w w':World} {B B':Nat} (hs:w.heap.size≤w'.heap.size) (hB:B'≤B) (hc:∀b,B≤b→b<w.heap.size→w'.heap[b]?=w.heap[b]?):∀(l:List Tm) (b off:Nat),B≤b→b<w.heap.size→SkL w B l b off→SkL w' B' l b off
 | [],_,_,_,_,_=>by rw[SkL];trivial
 | t::r,b,off,h1,h2,h=>by
  rw[SkL]at h ⊢;obtain⟨⟨A,cap,x,y,z,c0,c1,c2,c3,hk⟩,hr⟩:=h;have e:∀o,w'.cell? ⟨b,o,none⟩=w.cell? ⟨b,o,none⟩:=fun o=>World.cell?_of_block (a:=⟨b,o,none⟩) (hc b h1 h2);exact⟨⟨A,cap,x,y,z,by rw[e];exact c0,by rw[e];exact c1,by rw[e];exact c2,by rw[e];exact c3,Sk.keep hs hB hc t A hk⟩,SkL.keep hs hB hc r b (off+4) h1 h2 hr⟩
end
def LocF (w:World) (t:Tm) (b off:Nat) (fp:List Nat):Prop:=∃A cap,w.cell? ⟨b,off,none⟩=some (.int .i64 t.kind)∧w.cell? ⟨b,off+1,none⟩=some (.string t.name)∧
 w.cell? ⟨b,off+2,none⟩=some (.int .i64 t.sort)∧w.cell? ⟨b,off+3,none⟩=some (.slice A t.kids.length cap)∧RepF w t A cap fp
def LocP (w:World) (P:Nat→Prop) (t:Tm) (b off:Nat):Prop:=∃A cap,w.cell? ⟨b,off,none⟩=some (.int .i64 t.kind)∧w.cell? ⟨b,off+1,none⟩=some (.string t.name)∧
 w.cell? ⟨b,off+2,none⟩=some (.int .i64 t.sort)∧w.cell? ⟨b,off+3,none⟩=some (.slice A t.kids.length cap)∧RepP w P t A cap
def LocS (w:World) (B:Nat) (t:Tm) (b off:Nat):Prop:=∃A cap x y z,w.cell? ⟨b,off,none⟩=some (.int .i64 x)∧w.cell? ⟨b,off+1,none⟩=some (.string y)∧
 w.cell? ⟨b,off+2,none⟩=some (.int .i64 z)∧w.cell? ⟨b,off+3,none⟩=some (.slice A t.kids.length cap)∧Sk w B t A
theorem SkL_cons {w:World} {B:Nat} {t:Tm} {r:List Tm} {b off:Nat}:SkL w B (t::r) b off↔LocS w B t b off∧SkL w B r b (off+4):=by
 rw[SkL];rfl
theorem RepLF_cons {w:World} {t:Tm} {r:List Tm} {b off:Nat} {fs:List Nat}:qci w (t::r) b off fs↔∃f1 f2,LocF w t b off f1∧fs=f1++f2∧qci w r b (off+4) f2:=by
 rw[qci];constructor
 ·rintro⟨A,cap,f1,f2,h0,h1,h2,h3,h4,h5,h6⟩;exact⟨f1,f2,⟨A,cap,h0,h1,h2,h3,h4⟩,h5,h6⟩
 ·rintro⟨f1,f2,⟨A,cap,h0,h1,h2,h3,h4⟩,h5,h6⟩;exact⟨A,cap,f1,f2,h0,h1,h2,h3,h4,h5,h6⟩
theorem RepLP_cons {w:World} {P:Nat→Prop} {t:Tm} {r:List Tm} {b off:Nat}:RepLP w P (t::r) b off↔LocP w P t b off∧RepLP w P r b (off+4):=by
 rw[RepLP];rfl
def Agree (w w':World) (b:Nat) (fp:List Nat) (b' off':Nat) (f':List Nat):Prop:=
 ∀q:Addr,(q.block=b∨q.block∈fp)→¬(q.block=b'∧off'≤q.off∧q.off<off'+4)→q.block ∉ f'→w'.cell? q=w.cell? q
theorem qci.split {w:World}:∀(l:List Tm) (b off:Nat) (fs:List Nat) (j:Nat) (hj:j<l.length),qci w l b off fs→fs.Nodup→b ∉ fs→
  ∃f',LocF w l[j] b (off+j*4) f'∧(∀x∈f',x∈fs)∧f'.Nodup∧
   (∀(P:Nat→Prop) (w':World) (u:Tm) (b' off':Nat) (f'':List Nat),(∀x∈fs,P x)→(b'=b∧off'=off+j*4∨b'∈f')→(∀x∈f'',x∈f')→Agree w w' b fs b' off' f''→LocP w' P u b (off+j*4)→RepLP w' P (l.set j u) b off)∧
   ∀(B:Nat) (w':World) (u:Tm) (b' off':Nat) (f'':List Nat),(∀x∈fs,B≤x∧x<w'.heap.size)→(∀q:Addr,q.block∈fs→w'.frozen? q=w.frozen? q)→(b'=b∧off'=off+j*4∨b'∈f')→(∀x∈f'',x∈f')→Agree w w' b fs b' off' f''→LocS w' B u b (off+j*4)→SkL w' B (l.set j u) b off
 | [],_,_,_,_,hj,_,_,_=>by simp at hj
 | t::r,b,off,fs,j,hj,h,hn,hb=>by
  rw[RepLF_cons]at h;obtain⟨f1,f2,hl,rfl,hr⟩:=h;rw[List.nodup_append]at hn;obtain⟨hn1,hn2,hdis⟩:=hn;have hb1:b ∉ f1:=fun h=>hb (List.mem_append_left _ h);have hb2:b ∉ f2:=fun h=>hb (List.mem_append_right _ h)
  cases j with
  | zero=>
   refine⟨f1,by simpa using hl,fun x hx=>List.mem_append_left _ hx,hn1,?_,?_⟩
   ·intro P w' u b' off' f'' hP hbo hf hag hu;rw[List.set_cons_zero,RepLP_cons];refine⟨by simpa using hu,?_⟩;have hcell:∀q:Addr,(q.block=b∧off+4≤q.off∨q.block∈f2)→w'.cell? q=w.cell? q:=fun q hq=>by
     refine hag q ?_ ?_ ?_
     ·rcases hq with⟨h,_⟩|h
      ·exact .inl h
      ·exact .inr (List.mem_append_right _ h)
     ·rintro⟨h1,h2,h3⟩;rcases hq with⟨h,h4⟩|h
      ·rcases hbo with⟨h5,h6⟩|h5
       ·omega
       ·rw[←h1,h]at h5;exact hb1 h5
      ·rcases hbo with⟨h5,h6⟩|h5
       ·rw[h1,h5]at h;exact hb2 h
       ·rw[h1]at h;exact hdis _ h5 _ h rfl
     ·intro h1;have h1':=hf _ h1;rcases hq with⟨h,_⟩|h
      ·rw[h]at h1';exact hb1 h1'
      ·exact hdis _ h1' _ h rfl
    have key:∀(l:List Tm) (o:Nat) (g:List Nat),off+4≤o→(∀x∈g,x∈f2)→qci w l b o g→RepLP w' P l b o:=by
     intro l
     induction l with
     | nil=>intro o g _ _ _;rw[RepLP];trivial
     | cons t r ih=>
      intro o g ho hg h;rw[RepLF_cons]at h;obtain⟨g1,g2,⟨A,cap,h0,h1,h2,h3,h4⟩,rfl,h5⟩:=h;rw[RepLP_cons];refine⟨⟨A,cap,?_,?_,?_,?_,?_⟩,ih (o+4) g2 (by omega) (fun x hx=>hg x (List.mem_append_right _ hx)) h5⟩
      ·rw[hcell _ (.inl ⟨rfl,ho⟩)];exact h0
      ·rw[hcell _ (.inl ⟨rfl,by show off+4≤o+1;omega⟩)];exact h1
      ·rw[hcell _ (.inl ⟨rfl,by show off+4≤o+2;omega⟩)];exact h2
      ·rw[hcell _ (.inl ⟨rfl,by show off+4≤o+3;omega⟩)];exact h3
      ·refine RepP.mono (P:=fun x=>x∈f2) (fun x hx=>hP x (List.mem_append_right _ hx)) (fun q hq=>hcell q (.inr hq)) _ _ _ (RepF.toP _ _ _ _ h4 (fun x hx=>hg x (List.mem_append_left _ hx)))
    exact key r (off+4) f2 (Nat.le_refl _) (fun _ h=>h) hr
   ·intro B w' u b' off' f'' hP hfz hbo hf hag hu;rw[List.set_cons_zero,SkL_cons];refine⟨by simpa using hu,?_⟩;have hcell:∀q:Addr,(q.block=b∧off+4≤q.off∨q.block∈f2)→w'.cell? q=w.cell? q:=fun q hq=>by
     refine hag q ?_ ?_ ?_
     ·rcases hq with⟨h,_⟩|h
      ·exact .inl h
      ·exact .inr (List.mem_append_right _ h)
     ·rintro⟨h1,h2,h3⟩;rcases hq with⟨h,h4⟩|h
      ·rcases hbo with⟨h5,h6⟩|h5
       ·omega
       ·rw[←h1,h]at h5;exact hb1 h5
      ·rcases hbo with⟨h5,h6⟩|h5
       ·rw[h1,h5]at h;exact hb2 h
       ·rw[h1]at h;exact hdis _ h5 _ h rfl
     ·intro h1;have h1':=hf _ h1;rcases hq with⟨h,_⟩|h
      ·rw[h]at h1';exact hb1 h1'
      ·exact hdis _ h1' _ h rfl
    have key:∀(l:List Tm) (o:Nat) (g:List Nat),off+4≤o→(∀x∈g,x∈f2)→qci w l b o g→SkL w' B l b o:=by
     intro l
     induction l with
     | nil=>intro o g _ _ _;rw[SkL];trivial
     | cons t r ih=>
      intro o g ho hg h;rw[RepLF_cons]at h;obtain⟨g1,g2,⟨A,cap,h0,h1,h2,h3,h4⟩,rfl,h5⟩:=h;rw[SkL_cons];refine⟨⟨A,cap,t.kind,t.name,t.sort,?_,?_,?_,?_,?_⟩,ih (o+4) g2 (by omega) (fun x hx=>hg x (List.mem_append_right _ hx)) h5⟩
      ·rw[hcell _ (.inl ⟨rfl,ho⟩)];exact h0
      ·rw[hcell _ (.inl ⟨rfl,by show off+4≤o+1;omega⟩)];exact h1
      ·rw[hcell _ (.inl ⟨rfl,by show off+4≤o+2;omega⟩)];exact h2
      ·rw[hcell _ (.inl ⟨rfl,by show off+4≤o+3;omega⟩)];exact h3
      ·exact RepF.toS _ _ _ _ (RepF.mono _ _ _ _ h4 (fun q hq=>⟨hcell q (.inr (hg _ (List.mem_append_left _ hq))),hfz q (List.mem_append_right _ (hg _ (List.mem_append_left _ hq)))⟩)) (fun x hx=>hP x (List.mem_append_right _ (hg x (List.mem_append_left _ hx))))
    exact key r (off+4) f2 (Nat.le_refl _) (fun _ h=>h) hr
  | succ j=>
   obtain⟨f',hlj,hsub,hnd,hfill,hfillS⟩:=qci.split r b (off+4) f2 j (by simpa using hj) hr hn2 hb2;have e:off+(j+1)*4=off+4+j*4:=by omega
   refine⟨f',by simpa[e]using hlj,fun x hx=>List.mem_append_right _ (hsub x hx),hnd,?_,?_⟩
   ·intro P w' u b' off' f'' hP hbo hf hag hu;rw[List.set_cons_succ,RepLP_cons];rw[e]at hbo hu;refine⟨?_,hfill P w' u b' off' f'' (fun x hx=>hP x (List.mem_append_right _ hx)) hbo hf (fun q hq h1 h2=>hag q (hq.imp id (List.mem_append_right _)) h1 h2) hu⟩;have hcell:∀q:Addr,(q.block=b∧q.off<off+4∨q.block∈f1)→w'.cell? q=w.cell? q:=fun q hq=>by
     refine hag q ?_ ?_ ?_
     ·rcases hq with⟨h,_⟩|h
      ·exact .inl h
      ·exact .inr (List.mem_append_left _ h)
     ·rintro⟨h1,h2,h3⟩;rcases hq with⟨h,h4⟩|h
      ·rcases hbo with⟨h5,h6⟩|h5
       ·omega
       ·rw[←h1,h]at h5;exact hb2 (hsub _ h5)
      ·rcases hbo with⟨h5,h6⟩|h5
       ·rw[h1,h5]at h;exact hb1 h
       ·rw[h1]at h;exact hdis _ h _ (hsub _ h5) rfl
     ·intro h1;have h1':=hsub _ (hf _ h1);rcases hq with⟨h,_⟩|h
      ·rw[h]at h1';exact hb2 h1'
      ·exact hdis _ h _ h1' rfl
    obtain⟨A,cap,h0,h1,h2,h3,h4⟩:=hl;refine⟨A,cap,?_,?_,?_,?_,?_⟩
    ·rw[hcell _ (.inl ⟨rfl,by show off<off+4;omega⟩)];exact h0
    ·rw[hcell _ (.inl ⟨rfl,by show off+1<off+4;omega⟩)];exact h1
    ·rw[hcell _ (.inl ⟨rfl,by show off+2<off+4;omega⟩)];exact h2
    ·rw[hcell _ (.inl ⟨rfl,by show off+3<off+4;omega⟩)];exact h3
    ·exact RepP.mono (P:=fun x=>x∈f1) (fun x hx=>hP x (List.mem_append_left _ hx)) (fun q hq=>hcell q (.inr hq)) _ _ _ (RepF.toP _ _ _ _ h4 (fun _ h=>h))
   ·intro B w' u b' off' f'' hP hfz hbo hf hag hu;rw[List.set_cons_succ,SkL_cons];rw[e]at hbo hu;refine⟨?_,hfillS B w' u b' off' f'' (fun x hx=>hP x (List.mem_append_right _ hx)) (fun q hq=>hfz q (List.mem_append_right _ hq)) hbo hf (fun q hq h1 h2=>hag q (hq.imp id (List.mem_append_right _)) h1 h2) hu⟩;have hcell:∀q:Addr,(q.block=b∧q.off<off+4∨q.block∈f1)→w'.cell? q=w.cell? q:=fun q hq=>by
     refine hag q ?_ ?_ ?_
     ·rcases hq with⟨h,_⟩|h
      ·exact .inl h
      ·exact .inr (List.mem_append_left _ h)
     ·rintro⟨h1,h2,h3⟩;rcases hq with⟨h,h4⟩|h
      ·rcases hbo with⟨h5,h6⟩|h5
       ·omega
       ·rw[←h1,h]at h5;exact hb2 (hsub _ h5)
      ·rcases hbo with⟨h5,h6⟩|h5
       ·rw[h1,h5]at h;exact hb1 h
       ·rw[h1]at h;exact hdis _ h _ (hsub _ h5) rfl
     ·intro h1;have h1':=hsub _ (hf _ h1);rcases hq with⟨h,_⟩|h
      ·rw[h]at h1';exact hb2 h1'
      ·exact hdis _ h _ h1' rfl
    obtain⟨A,cap,h0,h1,h2,h3,h4⟩:=hl;refine⟨A,cap,t.kind,t.name,t.sort,?_,?_,?_,?_,?_⟩
    ·rw[hcell _ (.inl ⟨rfl,by show off<off+4;omega⟩)];exact h0
    ·rw[hcell _ (.inl ⟨rfl,by show off+1<off+4;omega⟩)];exact h1
    ·rw[hcell _ (.inl ⟨rfl,by show off+2<off+4;omega⟩)];exact h2
    ·rw[hcell _ (.inl ⟨rfl,by show off+3<off+4;omega⟩)];exact h3
    ·exact RepF.toS _ _ _ _ (RepF.mono _ _ _ _ h4 (fun q hq=>⟨hcell q (.inr hq),hfz q (List.mem_append_left _ hq)⟩)) (fun x hx=>hP x (List.mem_append_left _ hx))
def Tm.putP:List Int→Tm→Tm→Tm
 | [],_,u=>u
 | i::r,t,u=>match t.kid i with
  | some k=>.mk t.kind t.name t.sort (t.kids.set i.toNat (Tm.putP r k u))
  | none=>t
theorem Tm.atP_append:∀(p q:List Int) (t:Tm),Tm.atP (p++q) t=match Tm.atP p t with
  | some v=>Tm.atP q v
  | none=>none
 | [],q,t=>rfl
 | i::p,q,t=>by
  rw[List.cons_append,Tm.atP,Tm.atP]
  cases t.kid i with
  | none=>rfl
  | some k=>exact Tm.atP_append p q k
theorem Tm.putP_snoc:∀(p:List Int) (i:Int) (t v k u:Tm),Tm.atP p t=some v→v.kid i=some k→Tm.putP (p++[i]) t u=Tm.putP p t (.mk v.kind v.name v.sort (v.kids.set i.toNat u))
 | [],i,t,v,k,u,h,hk=>by
  rw[Tm.atP,Option.some.injEq]at h;subst h;simp only[List.nil_append,Tm.putP,hk]
 | j::p,i,t,v,k,u,h,hk=>by
  rw[List.cons_append,Tm.putP,Tm.putP];rw[Tm.atP]at h
  cases hj:t.kid j with
  | none=>simp[hj]at h
  | some k'=>
   rw[hj]at h;simp only;rw[Tm.putP_snoc p i k' v k u h hk]
theorem Tm.kid_lt {t k:Tm} {i:Int} (h:t.kid i=some k):0≤i∧∃hl:i.toNat<t.kids.length,t.kids[i.toNat]=k:=by
 unfold Tm.kid at h
 split at h
 ·rename_i h0
  obtain⟨hl,he⟩:=List.getElem?_eq_some_iff.1 h;exact⟨h0,hl,he⟩
 ·cases h
structure Desc (w:World) (t:Tm) (b off:Nat) (fp:List Nat) (p:List Int) (v:Tm) (b' off':Nat) (f':List Nat):Prop where
 at_:Tm.atP p t=some v
 loc:LocF w v b' off' f'
 nin:b' ∉ f'
 nod:f'.Nodup
 own:b'=b∨b'∈fp
 sub:∀x∈f',x∈fp
 cold:∀o,w.frozen? ⟨b',o,none⟩=false
 fill:∀(P:Nat→Prop) (w':World) (u:Tm),(∀x∈fp,P x)→Agree w w' b fp b' off' f'→LocP w' P u b' off'→LocP w' P (Tm.putP p t u) b off
 fillS:∀(B:Nat) (w':World) (u:Tm),(∀x∈fp,B≤x∧x<w'.heap.size)→(∀q:Addr,q.block∈fp→w'.frozen? q=w.frozen? q)→Agree w w' b fp b' off' f'→LocS w' B u b' off'→LocS w' B (Tm.putP p t u) b off
theorem Desc.start {w:World} {t:Tm} {b off:Nat} {fp:List Nat} (h:LocF w t b off fp) (hb:b ∉ fp) (hn:fp.Nodup) (hz:∀o,w.frozen? ⟨b,o,none⟩=false):Desc w t b off fp [] t b off fp:=
 ⟨rfl,h,hb,hn,.inl rfl,fun _ h=>h,hz,fun _ _ _ _ _ h=>h,fun _ _ _ _ _ _ h=>h⟩
theorem Desc.step {w:World} {t:Tm} {b off:Nat} {fp:List Nat} {p:List Int} {v:Tm} {b' off':Nat} {f':List Nat} (h:Desc w t b off fp p v b' off' f') {i:Int} {k:Tm} (hk:v.kid i=some k) :
  ∃bk ok c f'',w.cell? ⟨b',off'+3,none⟩=some (.slice (some ⟨bk,ok,none⟩) v.kids.length c)∧Desc w t b off fp (p++[i]) k bk (ok+i.toNat*4) f'':=by
 obtain⟨hat,⟨A,cap,l0,l1,l2,l3,lr⟩,hnin,hnod,hown,hsub,-,hfill,hfillS⟩:=h;obtain⟨hi0,hil,hik⟩:=Tm.kid_lt hk;have hput:=fun u=>Tm.putP_snoc p i t v k u hat hk;obtain⟨vk,vn,vs,l⟩:=v;simp only[Tm.kind,Tm.name,Tm.sort,Tm.kids]at l0 l1 l2 l3 hil hik hput;rw[qoa]at lr;obtain⟨r1,r2,r3,r4⟩:=lr;rcases r4 with⟨rfl,-⟩|⟨bk,fs,rfl,rfl,hz,hl⟩
 ·simp at hil
 obtain⟨ok,hok⟩:∃ok:Nat,ok=0:=⟨_,rfl⟩;rw[←hok]at l3 hl;rw[List.nodup_cons]at hnod;obtain⟨hbk,hnfs⟩:=hnod;obtain⟨f'',hlk,hs,hnd,hf,hfS⟩:=qci.split l bk ok fs i.toNat hil hl hnfs hbk;rw[hik]at hlk;have hbb:b'≠bk:=fun e=>hnin (by rw[e];exact List.mem_cons_self ..);refine⟨bk,ok,cap,f'',l3,?_,hlk,fun hx=>hbk (hs _ hx),hnd,.inr (hsub _ (List.mem_cons_self ..)),fun x hx=>hsub x (List.mem_cons_of_mem _ (hs x hx)),hz,fun P w' u hall hag hu=>?_,fun B w' u hall hfz hag hu=>?_⟩
 ·rw[Tm.atP_append,hat];simp only[Tm.atP,hk]
 ·rw[hput u];have hc:∀o,w'.cell? ⟨b',o,none⟩=w.cell? ⟨b',o,none⟩:=fun o=>hag _ hown (fun⟨e,_⟩=>hbb e) (fun hx=>hnin (List.mem_cons_of_mem _ (hs _ hx)));refine hfill P w' _ hall (fun q hq hne hnf=>hag q hq (fun⟨e,_⟩=>hnf (by rw[e];exact List.mem_cons_self ..)) (fun hx=>hnf (List.mem_cons_of_mem _ (hs _ hx)))) ?_;refine⟨some ⟨bk,ok,none⟩,cap,by rw[hc];exact l0,by rw[hc];exact l1,by rw[hc];exact l2,by rw[hc,l3];simp[Tm.kids],?_⟩;rw[qa3];refine⟨r1,by simpa using r2,r3,.inr ⟨bk,ok,rfl,hall _ (hsub _ (List.mem_cons_self ..)),?_⟩⟩;refine hf P w' u bk (ok+i.toNat*4) f'' (fun x hx=>hall _ (hsub _ (List.mem_cons_of_mem _ hx))) (.inl ⟨rfl,rfl⟩) (fun _ h=>h) (fun q hq h1 h2=>hag q ?_ h1 h2) hu;rcases hq with hq|hq
  ·exact .inr (by rw[hq];exact hsub _ (List.mem_cons_self ..))
  ·exact .inr (hsub _ (List.mem_cons_of_mem _ hq))
 ·rw[hput u];have hc:∀o,w'.cell? ⟨b',o,none⟩=w.cell? ⟨b',o,none⟩:=fun o=>hag _ hown (fun⟨e,_⟩=>hbb e) (fun hx=>hnin (List.mem_cons_of_mem _ (hs _ hx)));refine hfillS B w' _ hall hfz (fun q hq hne hnf=>hag q hq (fun⟨e,_⟩=>hnf (by rw[e];exact List.mem_cons_self ..)) (fun hx=>hnf (List.mem_cons_of_mem _ (hs _ hx)))) ?_;have hbkf:=hsub _ (List.mem_cons_self (a:=bk) (l:=fs));refine⟨some ⟨bk,ok,none⟩,cap,_,_,_,by rw[hc];exact l0,by rw[hc];exact l1,by rw[hc];exact l2,by rw[hc,l3];simp[Tm.kids],?_⟩;rw[Sk_mk];refine .inr ⟨bk,by rw[hok],(hall _ hbkf).1,(hall _ hbkf).2,fun o=>by rw[hfz ⟨bk,o,none⟩ hbkf];exact hz o,?_⟩;rw[←hok]
  refine hfS B w' u bk (ok+i.toNat*4) f'' (fun x hx=>hall _ (hsub _ (List.mem_cons_of_mem _ hx))) (fun q hq=>hfz q (hsub _ (List.mem_cons_of_mem _ hq))) (.inl ⟨rfl,rfl⟩) (fun _ h=>h) (fun q hq h1 h2=>hag q ?_ h1 h2) hu;rcases hq with hq|hq
  ·exact .inr (by rw[hq];exact hbkf)
  ·exact .inr (hsub _ (List.mem_cons_of_mem _ hq))
def qgv (w:World):List It→List Nat→Prop
 | [],fs=>fs=[]
 | x::r,fs=>∃f1 f2,RepF w x.1 x.2.1 x.2.2 f1∧fs=f1++f2∧qgv w r f2
theorem qgv.mono {w w':World}:∀{its:List It} {fs:List Nat},qgv w its fs→(∀q:Addr,q.block∈fs→w'.cell? q=w.cell? q∧w'.frozen? q=w.frozen? q)→qgv w' its fs
 | [],_,h,_=>h
 | x::r,_,⟨f1,f2,h1,h2,h3⟩,hc=>by
  subst h2;exact⟨f1,f2,RepF.mono _ _ _ _ h1 (fun q hq=>hc q (List.mem_append_left _ hq)),rfl,h3.mono (fun q hq=>hc q (List.mem_append_right _ hq))⟩
theorem qgv.snoc {w:World}:∀{its:List It} {fs:List Nat} {X:It} {f:List Nat},qgv w its fs→RepF w X.1 X.2.1 X.2.2 f→qgv w (its++[X]) (fs++f)
 | [],_,X,f,h,hX=>by
  rw[qgv]at h;subst h;exact⟨f,[],hX,by simp,rfl⟩
 | x::r,_,X,f,⟨f1,f2,h1,h2,h3⟩,hX=>by
  subst h2;exact⟨f1,f2++f,h1,by simp,h3.snoc hX⟩
theorem qgv.toLF {w:World}:∀{its:List It} {fs:List Nat} {b off:Nat},qgv w its fs→(∀j u,(itCells its)[j]?=some u→w.cell? ⟨b,off+j,none⟩=some u)→qci w (its.map (·.1)) b off fs
 | [],_,_,_,h,_=>by rw[List.map_nil,qci];exact h
 | x::r,_,b,off,⟨f1,f2,h1,h2,h3⟩,hc=>by
  rw[List.map_cons,qci];refine⟨x.2.1,x.2.2,f1,f2,hc 0 _ (by simp[itCells,Tm.cells]),hc 1 _ (by simp[itCells,Tm.cells]),hc 2 _ (by simp[itCells,Tm.cells]),hc 3 _ (by simp[itCells,Tm.cells]),h1,h2,?_⟩;refine qgv.toLF h3 (fun j u hj=>?_);have:=hc (4+j) u (by simp only[itCells,Tm.cells,List.cons_append,List.nil_append];rw[qc0];exact hj);rw[show off+4+j=off+(4+j)by omega];exact this
def FreshF (t:Tm) (w:World) (e:Ending) (w':World):Prop:=
 ∃A cap fp,e=.returned (.agg #[.int .i64 t.kind,.string t.name,.int .i64 t.sort,.slice A t.kids.length cap])∧RepF w' t A cap fp∧fp.Nodup∧(∀b∈fp,w.heap.size≤b∧b<w'.heap.size)∧Below w.heap.size w w'
def qm1 (w:World) (v:Value) (its:List It) (wr:World):Prop:=
 ∃fs,qgv wr its fs∧fs.Nodup∧∀b∈fs,w.heap.size+2≤b∧b<wr.heap.size∧v.ownBlock≠some b
theorem sep_next {w wr w1 w2:World} {v:Value} {its:List It} {t:Tm} {A1:Option Addr} {c1 g n c:Nat} {f1:List Nat} (hs:qm1 w v its wr)
  (h2:∀b,b<wr.heap.size→v.ownBlock≠some b→w2.heap[b]?=wr.heap[b]?) (h3:∀b,wr.heap.size≤b→b<w1.heap.size→w2.heap[b]?=w1.heap[b]?)
  (hz1:wr.heap.size≤w1.heap.size) (hz2:w1.heap.size≤w2.heap.size) (hf:RepF w1 t A1 c1 f1) (hnd:f1.Nodup) (hin:∀b∈f1,wr.heap.size≤b∧b<w1.heap.size)
  (hat:v.ownBlock=some g∨w1.heap.size≤g) (hown:∀g',v.ownBlock=some g'→g'<wr.heap.size) (hb:w.heap.size+2≤wr.heap.size) (u:Value) :
  qm1 w (.slice (some ⟨g,0,none⟩) n c) (its++[(t,A1,c1)]) (w2.setCell ⟨w.heap.size,3,none⟩ u):=by
 obtain⟨fs,hfs,hn,hall⟩:=hs;have hset:∀b,b≠w.heap.size→(w2.setCell ⟨w.heap.size,3,none⟩ u).heap[b]?=w2.heap[b]?:=fun b hb=>by
  have:w.heap.size≠b:=fun e=>hb e.symm;simp[World.setCell,Array.getElem?_modify,this]
 have hsz:(w2.setCell ⟨w.heap.size,3,none⟩ u).heap.size=w2.heap.size:=by simp[World.setCell]
 refine⟨fs++f1,qgv.snoc (hfs.mono fun q hq=>?_) (RepF.mono _ _ _ _ hf fun q hq=>?_),?_,fun b hbm=>?_⟩
 ·obtain⟨m1,m2,m3⟩:=hall _ hq;have e:=(hset q.block (by omega)).trans (h2 _ m2 m3);exact⟨World.cell?_of_block e,World.frozen?_of_block e⟩
 ·obtain⟨m1,m2⟩:=hin _ hq;have e:=(hset q.block (by omega)).trans (h3 _ m1 m2);exact⟨World.cell?_of_block e,World.frozen?_of_block e⟩
 ·rw[List.nodup_append];refine⟨hn,hnd,fun a ha b hb e=>?_⟩;subst e;have:=(hall _ ha).2.1;have:=(hin _ hb).1;omega
 ·have hg:∀b,(Value.slice (some ⟨g,0,none⟩) n c).ownBlock=some b→g=b:=fun b e=>by injection e
  rw[hsz];rcases List.mem_append.1 hbm with hm|hm
  ·obtain⟨m1,m2,m3⟩:=hall _ hm;refine⟨m1,by omega,fun e=>?_⟩;have e':=hg _ e;subst e';rcases hat with h|h
   ·exact m3 h
   ·omega
  ·obtain⟨m1,m2⟩:=hin _ hm;refine⟨by omega,by omega,fun e=>?_⟩;have e':=hg _ e;subst e';rcases hat with h|h
   ·have:=hown _ h;omega
   ·omega
theorem qqe {w wr wE:World} {k s:Int} {n:ByteArray} {l:List Tm} {its:List It} {A:Option Addr} {c:Nat} (hn:n.size≤maxLen) (hm:its.map (·.1)=l)
  (hrow:RowT wr (w.heap.size+2) (fun b=>w.heap.size+2≤b) (.slice A its.length c) its) (hsep:qm1 w (.slice A its.length c) its wr)
  (hc:∀b,w.heap.size+2≤b→wE.heap[b]?=wr.heap[b]?) (hs:wE.heap.size=wr.heap.size) (hb:Below w.heap.size w wE) :
  FreshF (.mk k n s l) w (.returned (.agg #[.int .i64 k,.string n,.int .i64 s,.slice A its.length c])) wE:=by
 subst hm;obtain⟨fs,hfs,hnd,hall⟩:=hsep;obtain⟨A',c',he,hS1,hS2,-⟩:=hrow.toS (P:=fun _=>True) (fun _ _ _=>trivial) (fun _ _ _=>trivial);injection he with e1 e2 e3;subst e1 e3;have hln:its.length=(its.map (·.1)).length:=by simp
 rcases hrow.own.2 with⟨hv,h0⟩|⟨g,cap,cur,hv,hg1,hg2,-,-,-⟩
 ·have:its=[]:=List.eq_nil_of_length_eq_zero h0;subst this;refine⟨A,c,[],rfl,?_,List.nodup_nil,by simp,hb⟩;rw[qoa];exact⟨hn,hS1,hS2,.inl ⟨rfl,rfl⟩⟩
 ·injection hv with hv1 _ _;subst hv1;have hcell:∀q:Addr,w.heap.size+2≤q.block→wE.cell? q=wr.cell? q∧wE.frozen? q=wr.frozen? q:=fun q hq=>⟨World.cell?_of_block (hc _ hq),World.frozen?_of_block (hc _ hq)⟩;refine⟨some ⟨g,0,none⟩,c,g::fs,by rw[hln];rfl,?_,?_,?_,hb⟩
  ·rw[qoa];refine⟨hn,hS1,hS2,.inr ⟨g,fs,rfl,rfl,fun o=>?_,?_⟩⟩
   ·rw[(hcell _ hg1).2];simp[World.frozen?,hg2]
   ·refine qgv.toLF (hfs.mono fun q hq=>hcell _ (hall _ hq).1) (fun j u hj=>?_);rw[(hcell _ hg1).1];exact hrow.cells j u hj
  ·rw[List.nodup_cons];exact⟨fun hg=>(hall _ hg).2.2 rfl,hnd⟩
  ·intro b hbm;rcases List.mem_cons.1 hbm with rfl|hbm
   ·have:=(sltz hg2);omega
   ·have:=hall _ hbm;omega
theorem qmr (n:Nat):∀(t:Tm) (A:Option Addr) (cap:Nat) (w:World),t.size≤n→n≤1000000→RepT w w.heap.size t A cap→
  Calls Tryz.prog 101 #[t.val A cap] w (FreshF t w):=by
 induction n with
 | zero=>intro t _ _ _ h;have:=t.size_pos;omega
 | succ n ih=>
  intro t A cap w hn hb hrep;obtain⟨tk,tn,ts,l⟩:=t;rw[Tm.size]at hn;rw[qbe]at hrep;obtain⟨hr1,hr2,hr3,hr4⟩:=hrep;obtain⟨i0,hi0,hz0,hz1,hz2⟩:=info_parts qcj;simp only[Tm.val,Tm.kind,Tm.name,Tm.sort,Tm.kids];unfold maxLen at hr1 hr3;go_enter Tryz.func101,Tryz.ntmps101
  go_wp2_with fail
  go_loopw [11] (fun i wr=>∃(k:Nat) (v:Value) (its:List It),k≤l.length∧i=.int .i64 k∧qo9 w tk tn ts l k v its wr∧Hid (qm1 w v its wr))
   (fun i _=>l.length - (intOf i).toNat)
  case atStart=>
   refine⟨0,.slice none 0 0,[],Nat.zero_le _,rfl,⟨rfl,?_,?_,RowT.nil _ _ _,((Below.refl _ _).alloc (Nat.le_refl _) _).alloc (by simp) _,by simp⟩,hdzz ⟨[],rfl,List.nodup_nil,by simp⟩⟩
   ·rw[Below.heap_alloc _ _ _ (by simp)];exact heap_alloc_new _ _
   ·have h:=heap_alloc_new (w.alloc (.cells #[.int .i64 tk,.string tn,.int .i64 ts,.slice none 0 0] 24)) (.cells #[.int .i64 0,.string ⟨#[]⟩,.int .i64 0,.slice none 0 0] 24);rw[World.size_alloc]at h;exact h
  case round=>
   obtain⟨k,v,its,hk,rfl,hrel,HSEP⟩:=hrel;obtain⟨hits,hB1,hB2,hrow,hbel,hsz⟩:=hrel;obtain⟨a0,a1,a2,a3,af⟩:=qaa hB1;obtain⟨b0,b1,b2,b3,bf⟩:=qaa hB2;have HB1:=hdzz hB1;clear hB1;have HB2:=hdzz hB2;clear hB2;have HITS:=hdzz hits;clear hits;by_cases hlt:k<l.length
   ·rcases hr4 with rfl|⟨b,off,rfl,hbB,hl⟩
    ·simp at hlt
    obtain⟨A',cap',h0,h1,h2,h3,h5⟩:=(hl.below hbel hbB).get k hlt;have hsg:=Tm.sizes_get l k hlt;have HC:Hid (∀X,Below wr.heap.size wr X→wr.heap.size<X.heap.size→Calls Tryz.prog 101 #[l[k].val A' cap'] X (FreshF l[k] X)):=fun X hX hX'=>ih l[k] A' cap' X (by omega) (by omega) (h5.go (hX.mono (by omega)) (by omega));clear h5 bf b0 b1 b2 b3;have hne1:v.ownBlock≠some w.heap.size:=fun e=>by have:=(hrow.lt _ e).1;omega
    have hne2:v.ownBlock≠some wr.heap.size:=fun e=>by have:=(hrow.lt _ e).2;omega
    have hva:∀o,(wr.alloc o).cell? ⟨w.heap.size,3,none⟩=some v:=fun o=>((qab (Nat.le_refl _) o).cell (by show w.heap.size<_;omega)).trans a3;have hlen:its.length+1≤100000000:=by
     have h:=congrArg List.length HITS.out;have:=Tm.length_le_sizes l;simp at h;omega
    go_wp2_with fail
    simp only[Tm.val]at HC;refine qbr (fun w'=>w'.cell? ⟨w.heap.size,3,none⟩=some v∧w'.cell? ⟨wr.heap.size,0,none⟩=some (.int .i64 l[k].kind)∧w'.cell? ⟨wr.heap.size,1,none⟩=some (.string l[k].name)∧w'.cell? ⟨wr.heap.size,2,none⟩=some (.int .i64 l[k].sort)∧w'.cell? ⟨wr.heap.size,3,none⟩=some (.slice A' l[k].kids.length cap'))
     6 (.held 0 (.held 1 (.held 2 (.op 3 (.op 4 (.op 5 (.op 6 (.op 7 .nil)))))))) (by kernel_rfl) (by kernel_rfl) ?_
    refine qav (v:=.pointer (some ⟨w.heap.size,3,none⟩)) rfl rfl (fun _ _ _ h=>h) (by simp[hva]) (fun w' hS=>by go_simp) ?_;refine qav (v:=v) rfl rfl (fun _ _ _ h=>h) (by simp[hva]) (fun w' hS=>by obtain⟨g0,g1,g2,g3,g4⟩:=hS;simp only[Act.put];go_simp) ?_;refine qav (v:=.agg #[.int .i64 l[k].kind,.string l[k].name,.int .i64 l[k].sort,.slice A' l[k].kids.length cap']) rfl rfl (fun _ _ _ h=>h) (by simp[hva]) (fun w' hS=>by obtain⟨g0,g1,g2,g3,g4⟩:=hS;simp only[Act.put];go_simp) ?_;simp only[Act.put,List.setIfInBounds_toArray];refine mix_op rfl rfl (fun K hK=>?_);go_wp2_with fail
    refine(HC.out _ ((Below.refl _ _).alloc (Nat.le_refl _) _).drew (by simp)).mono ?_;rintro e w1 ⟨A1,cap1,f1,rfl,hreF,hnd1,hin1,hb1⟩;have hre:=RepF.toP (P:=fun b=>((wr.alloc (.cells #[.int .i64 l[k].kind,.string l[k].name,.int .i64 l[k].sort,.slice A' l[k].kids.length cap'] 24)).drew).heap.size≤b∧b<w1.heap.size) _ _ _ _ hreF hin1;have HF1:=hdzz hreF;clear hreF;have HIN1:=hdzz hin1;clear hin1;have hwb1:=((Below.refl _ _).alloc (Nat.le_refl _) _).drew.trans (hb1.mono (by simp));have hs1:wr.heap.size+1≤w1.heap.size:=by have:=hb1.size;simpa using this
    have hv1:w1.cell? ⟨w.heap.size,3,none⟩=some v:=(hwb1.cell (by show w.heap.size<_;omega)).trans a3;refine hK _ _ ⟨fun _=>?_,?_⟩
    ·refine⟨hv1,?_,?_,?_,?_⟩<;>(rw[hb1.cell (by simp)];simp)
    clear hK K;refine mix_op rfl rfl (fun K hK=>?_);go_wp2_with fail
    refine⟨fun _=>?_,?_⟩
    ·refine⟨?_,?_,?_,?_,?_⟩<;>rw[(qab (Nat.le_refl _) _).cell (by simp;omega)]
     ·exact hv1
     all_goals (rw[hb1.cell (by simp)];simp)
    refine mix_op rfl rfl (fun K hK=>?_);refine qm4 (by rfl) (.tmp 16) (.tmp 19) (by rfl) (w.heap.size+2) (fun b=>w.heap.size+2≤b) v its (by rfl) ((hrow.below hwb1).alloc _) (l[k],A1,cap1) _ _ (0,0) (by rfl) (by exact heap_alloc_new _ _) (by exact qjw hrow hre (by simp) (by omega)) hlen (by simp;omega) ?_;intro g cap2 w2 hrow2 hgr hat hbg;have hw2s:w1.heap.size+1≤w2.heap.size:=by have:=hgr.size;simpa using this
    have hw2:∀o,w2.cell? ⟨w.heap.size,o,none⟩=wr.cell? ⟨w.heap.size,o,none⟩:=fun o=>by
     rw[hgr.cell_far _ (by simp;omega) hne1.symm,(qab (Nat.le_refl _) _).cell (by show w.heap.size<_;omega),hwb1.cell (by show w.heap.size<_;omega)]
    have hw2f:w2.frozen? ⟨w.heap.size,3,none⟩=false:=by
     rw[hgr.frozen_far _ (by simp;omega) hne1.symm,(qab (Nat.le_refl _) _).frozen (by show w.heap.size<_;omega),hwb1.frozen (by show w.heap.size<_;omega)];exact af 3
    have hv2:w2.cell? ⟨w.heap.size,3,none⟩=some v:=(hw2 3).trans a3;refine hK _ _ ⟨fun _=>⟨hv2,?_,?_,?_,?_⟩,?_⟩
    iterate 4(rw[hgr.cell_far _ (by simp;omega) hne2.symm,(qab (Nat.le_refl _) _).cell (by show wr.heap.size<_;omega),hb1.cell (by simp)];simp)
    clear hK K;simp only[Act.put,List.setIfInBounds_toArray];refine mix_op rfl rfl (fun K hK=>?_);go_wp2_with fail
    refine⟨fun h=>absurd h (by decide),?_⟩;refine mix_op rfl rfl (fun K hK=>?_);go_wp2_with fail
    refine⟨fun h=>absurd h (by decide),?_⟩;refine qel ?_;have hblk:∀b,b<w.heap.size+2→w2.heap[b]?=wr.heap[b]?:=fun b hb=>by
     rw[hgr.block b (by simp;omega) (fun e=>by have:=(hrow.lt _ e.symm).1;omega),Below.heap_alloc _ _ _ (by omega),hwb1.block b (by omega)]
    have HBLK:=hdzz hblk;clear hblk;have hsn:qm1 w (.slice (some ⟨g,0,none⟩) (its.length+1) cap2) (its++[(l[k],A1,cap1)]) (w2.setCell ⟨w.heap.size,3,none⟩ (.slice (some ⟨g,0,none⟩) (its.length+1) cap2)):=by
     refine sep_next HSEP.out (fun b h1 h2=>?_) (fun b h1 h2=>?_) (by omega) (by omega) HF1.out hnd1 (fun b hb=>by have:=HIN1.out b hb;simp at this;omega) (hat.imp id (fun h=>by simp at h;omega)) (fun g' e=>(hrow.lt g' e).2) hsz _
     ·rw[hgr.block b (by simp;omega) (fun e=>h2 e.symm),Below.heap_alloc _ _ _ (by omega),hwb1.block b h1]
     ·rw[hgr.block b (by simp;omega) (fun e=>by have:=(hrow.lt _ e.symm).2;omega),Below.heap_alloc _ _ _ h2]
    have HSN:=hdzz hsn;clear hsn;go_wp2_with fail
    go_roundw
    case rel=>
     refine⟨k+1,.slice (some ⟨g,0,none⟩) (its.length+1) cap2,its++[(l[k],A1,cap1)],by omega,by go_num,⟨?_,?_,?_,?_,?_,?_⟩,HSN⟩
     ·rw[List.map_append,HITS.out,List.take_succ_eq_append_getElem hlt];rfl
     ·exact qe3 ((HBLK.out _ (by omega)).trans HB1.out)
     ·rw[Below.heap_setCell _ _ _ _ (by simp)];exact(HBLK.out _ (by omega)).trans HB2.out
     ·exact hrow2.setCell (by simp) (by simp) _
     ·refine Below.setCell ?_ (by simp) _;exact((hbel.trans (hwb1.mono (by omega))).alloc (by omega) _).grown hgr (by simp;omega) (fun j e=>by have:=(hrow.lt _ e).1;omega)
     ·simp[World.setCell];omega
    case measure=>simp[intOf];omega
   ·obtain rfl:k=l.length:=by omega
    have hmap:=HITS.out;simp only[List.take_length]at hmap;obtain⟨Av,cv,rfl,hS⟩:=hrow.toS (P:=fun b=>w.heap.size+2≤b∧b<wr.heap.size) (fun b h h'=>⟨h,h'⟩) (fun b h h'=>⟨h,h'⟩);have HS:=hdzz hS;clear hS;have HMAP:=hdzz hmap;clear hmap;have HROW:=hdzz hrow;clear hrow;go_wp2_with fail
    refine bodyPost_ret (v:=.agg #[.int .i64 tk,.string tn,.int .i64 ts,.slice Av its.length cv]) ?_ rfl ?_
    ·simp[results,Tryz.results101,go_sem,b0,b1,b2,b3]
    refine qqe (by unfold maxLen;omega) HMAP.out HROW.out HSEP.out (fun b hb=>qbk (by omega)) (by simp[World.setCell]) ?_
    iterate 4 refine Below.setCell ?_ (by simp) _
    exact hbel
theorem set4_at {W:World} {b o:Nat} {c0 c1 c2 c3:Value} (x y z u:Value) (h0:W.cell? ⟨b,o,none⟩=some c0) (h1:W.cell? ⟨b,o+1,none⟩=some c1) (h2:W.cell? ⟨b,o+2,none⟩=some c2) (h3:W.cell? ⟨b,o+3,none⟩=some c3) :
  ∃W',W'=((((W.setCell ⟨b,o,none⟩ x).setCell ⟨b,o+1,none⟩ y).setCell ⟨b,o+2,none⟩ z).setCell ⟨b,o+3,none⟩ u)∧W'.cell? ⟨b,o,none⟩=some x∧W'.cell? ⟨b,o+1,none⟩=some y∧W'.cell? ⟨b,o+2,none⟩=some z∧W'.cell? ⟨b,o+3,none⟩=some u∧
   (∀q:Addr,¬(q.block=b∧o≤q.off∧q.off<o+4)→W'.cell? q=W.cell? q)∧W'.heap.size=W.heap.size∧(∀k,k≠b→W'.heap[k]?=W.heap[k]?)∧(∀C,C≤b→∀w,Below C w W→Below C w W')∧∀q:Addr,W'.frozen? q=W.frozen? q:=by
 refine⟨_,rfl,?_,?_,?_,?_,fun q hq=>?_,by simp[World.setCell],fun k hk=>?_,fun C hC w hb=>(((hb.setCell hC x).setCell hC y).setCell hC z).setCell hC u,fun q=>?_⟩
 ·rw[World.cell?_setCell_other _ _ _ _ (by simp),World.cell?_setCell_other _ _ _ _ (by simp),World.cell?_setCell_other _ _ _ _ (by simp)];exact World.cell?_setCell_same _ _ _ h0
 ·rw[World.cell?_setCell_other _ _ _ _ (by simp),World.cell?_setCell_other _ _ _ _ (by simp)];exact World.cell?_setCell_same (u:=c1) _ _ _ (by rw[World.cell?_setCell_other _ _ _ _ (by simp)];exact h1)
 ·rw[World.cell?_setCell_other _ _ _ _ (by simp)];exact World.cell?_setCell_same (u:=c2) _ _ _ (by rw[World.cell?_setCell_other _ _ _ _ (by simp),World.cell?_setCell_other _ _ _ _ (by simp)];exact h2)
 ·exact World.cell?_setCell_same (u:=c3) _ _ _ (by rw[World.cell?_setCell_other _ _ _ _ (by simp),World.cell?_setCell_other _ _ _ _ (by simp),World.cell?_setCell_other _ _ _ _ (by simp)];exact h3)
 ·have hne:∀j,j<4→(⟨b,o+j,none⟩:Addr)≠q:=fun j hj e=>hq (by rw[←e];exact⟨rfl,by show o≤o+j;omega,by show o+j<o+4;omega⟩);rw[World.cell?_setCell_other _ _ _ _ (hne 3 (by omega)),World.cell?_setCell_other _ _ _ _ (hne 2 (by omega)),World.cell?_setCell_other _ _ _ _ (hne 1 (by omega)),World.cell?_setCell_other _ _ _ _ (show(⟨b,o,none⟩:Addr)≠q from hne 0 (by omega))]
 ·have:b≠k:=fun e=>hk e.symm;simp[World.setCell,Array.getElem?_modify,this]
 ·rw[World.frozen?_setCell,World.frozen?_setCell,World.frozen?_setCell,World.frozen?_setCell]
def qqp (w:World) (r:Option Tm) (e:Ending) (w':World):Prop:=
 Below w.heap.size w w'∧match r with
  | none=>e=.returned (.tuple #[.agg #[.int .i64 0,.string ⟨#[]⟩,.int .i64 0,.slice none 0 0],.int .i64 7])
  | some u=>∃A c,e=.returned (.tuple #[u.val A c,.int .i64 0])∧RepP w' (fun b=>w.heap.size≤b∧b<w'.heap.size) u A c∧Sk w' w.heap.size u A
theorem qqp.toAt {w:World} {r:Option Tm} {e:Ending} {w':World} (h:qqp w r e w'):AtOf w r e w':=by
 obtain⟨hb,h⟩:=h;refine⟨hb,?_⟩
 cases r with
 | none=>exact h
 | some u=>obtain⟨A,c,h1,h2,-⟩:=h;exact⟨A,c,h1,h2⟩
def Tm.repl (p:List Int) (t u:Tm):Option Tm:=match Tm.atP p t with
 | some _=>some (Tm.putP p t u)
 | none=>none
theorem Tm.repl_none {p:List Int} {t u:Tm} (h:Tm.atP p t=none):Tm.repl p t u=none:=by unfold Tm.repl;rw[h]
theorem Tm.repl_some {p:List Int} {t u v:Tm} (h:Tm.atP p t=some v):Tm.repl p t u=some (Tm.putP p t u):=by unfold Tm.repl;rw[h]
theorem qp0 (t u:Tm) (A Au:Option Addr) (cap cu:Nat) (p:List Int) (Ap:Option Addr) (cp:Nat) (w:World) (ht:t.size≤1000000) (hu:u.size≤1000000) (hp:p.length≤1000000)
  (hrep:RepT w w.heap.size t A cap) (hrepu:RepT w w.heap.size u Au cu) (hrp:RepI w (fun b=>b<w.heap.size) p Ap cp) :
  Calls Tryz.prog 90 #[t.val A cap,.slice Ap p.length cp,u.val Au cu] w (qqp w (Tm.repl p t u)):=by
 obtain⟨V1,hV1⟩:∃V,V=w.alloc (qal t A cap):=⟨_,rfl⟩;obtain⟨V2,hV2⟩:∃V,V=V1.alloc (qal u Au cu):=⟨_,rfl⟩;obtain⟨V,hV⟩:∃V,V=V2.alloc (qal (.mk 0 ⟨#[]⟩ 0 []) none 0):=⟨_,rfl⟩;have hs1:V1.heap.size=w.heap.size+1:=by rw[hV1];simp
 have hs2:V2.heap.size=w.heap.size+1+1:=by rw[hV2];simp[hs1]
 have hs3:V.heap.size=w.heap.size+3:=by rw[hV];simp[hs2]
 have k1:Below w.heap.size w V1:=by rw[hV1];exact qab (Nat.le_refl _) _
 have k2:Below V1.heap.size V1 V2:=by rw[hV2];exact qab (Nat.le_refl _) _
 have k3:Below V2.heap.size V2 V:=by rw[hV];exact qab (Nat.le_refl _) _
 have k12:=qdq k1 k2 k1.size;have hbV:Below w.heap.size w V:=qdq k12 k3 k12.size;have hxt:BoxT V w.heap.size t A cap:=(show BoxT V1 w.heap.size t A cap by rw[hV1];exact BoxT.new hrep).below (qdq k2 k3 k2.size);have hxu:BoxT V (w.heap.size+1) u Au cu:=(show BoxT V2 (w.heap.size+1) u Au cu by rw[hV2,←hs1];exact BoxT.new (hrepu.go k1 k1.size)).below k3;have hxz:V.heap[w.heap.size+1+1]?=some (qal (.mk 0 ⟨#[]⟩ 0 []) none 0):=by rw[hV,←hs2];exact heap_alloc_new _ _
 rw[hV2,hV1]at hV;have HRP:=hdzz (hrp.go hbV hbV.size);clear hrp hrep hrepu k1 k2 k3 k12 hs1 hs2 hV1 hV2;have HBV:=hdzz hbV;clear hbV;have HXT:=hdzz hxt;clear hxt;have HXU:=hdzz hxu;clear hxu;have HXZ:=hdzz hxz;clear hxz;have HS3:=hdzz hs3;clear hs3;have HT:=hdzz ht;clear ht;have HU:=hdzz hu;clear hu;rw[show qal (.mk 0 ⟨#[]⟩ 0 []) none 0=.cells #[.int .i64 0,.string ⟨#[]⟩,.int .i64 0,.slice none 0 0] 24 from rfl]at hV;simp only[qal]at hV;have HV:=hdzz hV;clear hV;simp only[Tm.val];go_enter Tryz.func90,Tryz.ntmps90
 go_wp2_with fail
 rw[←HV.out];refine(qmr 1000000 t A cap V HT.out (by decide) HXT.out.2).mono ?_;clear HV;rintro e w1 ⟨A1,c1,fp,rfl,hF,hnd,hin,hb1⟩;obtain⟨Bc,hBc⟩:∃b,b=w1.heap.size:=⟨_,rfl⟩;obtain⟨W,hW⟩:∃W,W=w1.alloc (qal t A1 c1):=⟨_,rfl⟩;have hbW:Below w1.heap.size w1 W:=by rw[hW];exact qab (Nat.le_refl _) _
 have hWs:W.heap.size=Bc+1:=by rw[hW,hBc];simp
 have hFW:RepF W t A1 c1 fp:=RepF.mono _ _ _ _ hF (fun q hq=>⟨hbW.cell (hin _ hq).2,hbW.frozen (hin _ hq).2⟩);have hWn:W.heap[Bc]?=some (qal t A1 c1):=by rw[hW,hBc];exact heap_alloc_new _ _
 obtain⟨n0,n1,n2,n3,n4⟩:=qaa hWn;have hD0:Desc W t Bc 0 fp [] t Bc 0 fp:=Desc.start ⟨A1,c1,n0,n1,n2,n3,hFW⟩ (fun h=>by have:=(hin _ h).2;omega) hnd n4;have hVW:=qdq hb1 hbW hb1.size;have hBW:=qdq HBV.out hVW HBV.out.size;have hxu:=HXU.out.below hVW;have hxz:=(hVW.block _ (sltz HXZ.out)).trans HXZ.out;have hrpW:=HRP.out.go hVW hVW.size;have hsV:=hb1.size;have hin':∀x∈fp,w.heap.size+3≤x∧x<Bc:=fun x hx=>by have:=hin x hx;have:=HS3.out;omega
 have hBc2:w.heap.size+3≤Bc:=by have:=HS3.out;omega
 simp only[qal]at hW;clear hF hFW hWn n0 n1 n2 n3 n4 hin hnd hbW hb1 hVW HBV HXT HXU HXZ HRP HS3 hsV HT;have HWW:=hdzz hW;clear hW;have HD0:=hdzz hD0;clear hD0;have HBW:=hdzz hBW;clear hBW;have HXU:=hdzz hxu;clear hxu;have HXZ:=hdzz hxz;clear hxz;have HRP:=hdzz hrpW;clear hrpW;have HIN:=hdzz hin';clear hin';have HBC:=hdzz hBc;clear hBc;have HWS:=hdzz hWs;clear hWs;go_wp2_with fail
 rw[←HBC.out];go_loopw [9,16] (fun pv i wr=>∃(k:Nat) (v:Tm) (b' off':Nat) (f':List Nat),k≤p.length∧i=.int .i64 k∧pv=.pointer (some ⟨b',off',none⟩)∧Hid (Desc W t Bc 0 fp (p.take k) v b' off' f')∧wr=W) (fun _ i _=>p.length - (intOf i).toNat)
 case atStart=>exact⟨0,t,Bc,0,fp,Nat.zero_le _,rfl,rfl,HD0.out,HWW.out.symm⟩
 case round=>
  obtain⟨k,v,b',off',f',hk,rfl,rfl,HD,rfl⟩:=hrel;obtain⟨A',c',l0,l1,l2,l3,lr⟩:=HD.out.loc;have i1:(0:Int)≤(k:Int):=Int.natCast_nonneg _;clear HD0 HWW;by_cases hlt:k<p.length
  ·have i2:(k:Int)<(p.length:Int):=by omega
   obtain⟨-,-,hpc⟩:=HRP.out;rcases hpc with rfl|⟨bp,offp,rfl,hbp,hpl⟩
   ·simp at hlt
   have hx:=hpl k hlt;have hsplit:p.take k++p.drop k=p:=List.take_append_drop k p;have he:Tm.atP p t=Tm.atP (p.drop k) v:=by
    have:=Tm.atP_append (p.take k) (p.drop k) t;rw[hsplit,HD.out.at_]at this;exact this
   rw[Tm.at_drop hlt v]at he;have htk:p.take (k+1)=p.take k++[p[k]]:=List.take_succ_eq_append_getElem hlt;obtain⟨x,hxe⟩:∃x,x=p[k]:=⟨_,rfl⟩;rw[←hxe]at hx he htk;clear hxe hpl hsplit;by_cases hx0:x<0
   ·have hn:=Tm.kid_none (t:=v) (.inl hx0);have hres:Tm.repl p t u=none:=Tm.repl_none (by rw[he,hn]);have HRES:=hdzz hres;clear hres hn he htk;have d1:decide (x<0)=true:=decide_eq_true hx0;obtain⟨r0,r1,r2,r3,r4⟩:=qaa HXZ.out;simp only[Tm.kind,Tm.name,Tm.sort,Tm.kids,List.length_nil]at r0 r1 r2 r3;go_wp2_with fail
    refine bodyPost_ret (v:=.tuple #[.agg #[.int .i64 0,.string ⟨#[]⟩,.int .i64 0,.slice none 0 0],.int .i64 7]) ?_ rfl ?_
    ·simp[results,Tryz.results90,go_sem,r0,r1,r2,r3]
    unfold qqp;rw[HRES.out];exact⟨qcc HBW.out (by omega),rfl⟩
   ·have d1:decide (x<0)=false:=decide_eq_false hx0;by_cases hx1:(v.kids.length:Int)≤x
    ·have hn:=Tm.kid_none (t:=v) (.inr hx1);have hres:Tm.repl p t u=none:=Tm.repl_none (by rw[he,hn]);have HRES:=hdzz hres;clear hres hn he htk;have d2:decide ((v.kids.length:Int)≤x)=true:=decide_eq_true hx1;obtain⟨r0,r1,r2,r3,r4⟩:=qaa HXZ.out;simp only[Tm.kind,Tm.name,Tm.sort,Tm.kids,List.length_nil]at r0 r1 r2 r3;go_wp2_with fail
     refine bodyPost_ret (v:=.tuple #[.agg #[.int .i64 0,.string ⟨#[]⟩,.int .i64 0,.slice none 0 0],.int .i64 7]) ?_ rfl ?_
     ·simp[results,Tryz.results90,go_sem,r0,r1,r2,r3]
     unfold qqp;rw[HRES.out];exact⟨qcc HBW.out (by omega),rfl⟩
    ·have d2:decide ((v.kids.length:Int)≤x)=false:=decide_eq_false hx1;have hn:=Tm.kid_some (t:=v) (i:=x) (by omega) (by omega);obtain⟨bk,ok,c,f'',l3',hD⟩:=HD.out.step hn;rw[←htk]at hD;have HD2:=hdzz hD;clear hD hn he htk l3 lr;have x0:0≤x:=by omega
     have x1:x<(v.kids.length:Int):=by omega
     go_wp2_with fail
     go_roundw
     case rel=>exact⟨k+1,_,bk,ok+x.toNat*4,f'',by omega,by go_num,rfl,HD2.out,by first|rfl|trivial⟩
     case measure=>simp[intOf];omega
  ·obtain rfl:k=p.length:=by omega
   have hD:=HD.out;rw[List.take_length]at hD;have HRES:=hdzz (Tm.repl_some (u:=u) hD.at_);have HD:=hdzz hD;clear hD;have CL:=hdzz (qmr 1000000 u Au cu wr HU.out (by decide) HXU.out.2);obtain⟨u0,u1,u2,u3,-⟩:=HXU.out.cells;simp only[Tm.val]at CL;go_wp2_with fail
   refine CL.out.mono ?_;rintro e w2 ⟨A2,c2,fu,rfl,hF2,-,hin2,hb2⟩;have hr2:=RepF.toP (P:=fun b=>wr.heap.size≤b∧b<w2.heap.size) _ _ _ _ hF2 hin2;clear CL u0 u1 u2 u3;have hown:b'<wr.heap.size:=by
    rcases HD.out.own with h|h
    ·have:=HWS.out;omega
    ·have:=(HIN.out _ h).2;have:=HWS.out;omega
   have hownw:w.heap.size≤b':=by
    rcases HD.out.own with h|h
    ·omega
    ·have:=(HIN.out _ h).1;omega
   have m0:=(hb2.cell (p:=⟨b',off',none⟩) hown).trans l0;have m1:=(hb2.cell (p:=⟨b',off'+1,none⟩) hown).trans l1;have m2:=(hb2.cell (p:=⟨b',off'+2,none⟩) hown).trans l2;have m3:=(hb2.cell (p:=⟨b',off'+3,none⟩) hown).trans l3;have m4:∀o,w2.frozen? ⟨b',o,none⟩=false:=fun o=>(hb2.frozen (p:=⟨b',o,none⟩) hown).trans (HD.out.cold o);clear l0 l1 l2 l3 lr;obtain⟨W3,hW3,s0,s1,s2,s3,hoth,hsz,hblk,hbel,hfz3⟩:=set4_at (.int .i64 u.kind) (.string u.name) (.int .i64 u.sort) (.slice A2 u.kids.length c2) m0 m1 m2 m3;have hb23:Below w.heap.size w W3:=hbel _ hownw _ (HBW.out.trans (hb2.mono HBW.out.size));have hlp:LocP W3 (fun x=>w.heap.size+3≤x∧x<W3.heap.size) u b' off':=⟨A2,c2,s0,s1,s2,s3,RepP.mono (fun x ⟨h1,h2⟩=>⟨by have:=HWS.out;omega,by omega⟩) (fun q ⟨h1,_⟩=>hoth q (fun⟨h,_⟩=>by omega)) _ _ _ hr2⟩
   have hW23:=hb2.size;have hfill:=HD.out.fill (fun x=>w.heap.size+3≤x∧x<W3.heap.size) W3 u (fun x hx=>by have h1:=HIN.out x hx;have h2:=HWS.out;exact⟨by omega,by omega⟩) (fun q hq h1 h2=>by
    rw[hoth q h1];refine hb2.cell ?_;rcases hq with h|h
    ·have:=HWS.out;omega
    ·have:=(HIN.out _ h).2;have:=HWS.out;omega) hlp
   obtain⟨A3,c3,f0,f1,f2,f3,fr⟩:=hfill;have hls:LocS W3 (w.heap.size+3) u b' off':=⟨A2,c2,_,_,_,s0,s1,s2,s3,RepF.toS _ _ _ _ (RepF.mono _ _ _ _ hF2 (fun q hq=>⟨hoth q (fun⟨h,_⟩=>by have:=(hin2 _ hq).1;omega),hfz3 q⟩)) (fun x hx=>by have:=hin2 x hx;have:=HWS.out;omega)⟩;have hfillS:=HD.out.fillS (w.heap.size+3) W3 u (fun x hx=>by have h1:=HIN.out x hx;have h2:=HWS.out;exact⟨by omega,by omega⟩) (fun q hq=>by
    rw[hfz3 q];exact hb2.frozen (by have h1:=(HIN.out _ hq).2;have h2:=HWS.out;omega)) (fun q hq h1 h2=>by
    rw[hoth q h1];refine hb2.cell ?_;rcases hq with h|h
    ·have:=HWS.out;omega
    ·have:=(HIN.out _ h).2;have:=HWS.out;omega) hls
   have hsk:Sk W3 (w.heap.size+3) (Tm.putP p t u) A3:=by
    obtain⟨A4,c4,x4,y4,z4,-,-,-,g3,gs⟩:=hfillS;rw[f3]at g3;injection g3 with g3;injection g3 with g3;rw[g3];exact gs
   have HSK:=hdzz hsk;clear hsk hfillS hls hF2 hin2 hfz3;have hz3:w.heap.size+1+1≠b':=fun e=>by
    rcases HD.out.own with h|h
    ·omega
    ·have:=(HIN.out _ h).1;omega
   have hzl:=(sltz HXZ.out);have hz:=(hblk _ hz3).trans ((hb2.block _ hzl).trans HXZ.out);obtain⟨r0,r1,r2,r3,r4⟩:=qaa hz;simp only[Tm.kind,Tm.name,Tm.sort,Tm.kids,List.length_nil]at r0 r1 r2 r3;clear hlp hoth hblk hbel s0 s1 s2 s3 hr2 hz hzl hz3 hown hownw;have HB23:=hdzz hb23;clear hb23;have HFR:=hdzz fr;clear fr;have HSZ:=hdzz hsz;clear hsz;have hbc3:Bc<W3.heap.size:=by have:=HSZ.out;have:=HWS.out;omega
   have HBC3:=hdzz hbc3;clear hbc3;have HB2:=hdzz hb2;clear hb2;rw[hW3]at f0 f1 f2 f3 r0 r1 r2 r3 r4;have HW3:=hdzz hW3;clear hW3 hW23;go_wp2_with fail
   refine bodyPost_ret (v:=.tuple #[.agg #[.int .i64 (Tm.putP p t u).kind,.string (Tm.putP p t u).name,.int .i64 (Tm.putP p t u).sort,.slice A3 (Tm.putP p t u).kids.length c3],.int .i64 0]) ?_ rfl ?_
   ·simp[results,Tryz.results90,go_sem,r0,r1,r2,r3]
   rw[←HW3.out];unfold qqp;rw[HRES.out];refine⟨qcc HB23.out (by omega),A3,c3,rfl,?_,Sk.keep (by simp[World.setCell]) (by omega) (fun b hb _=>qbk (by omega)) _ _ HSK.out⟩;exact RepP.mono (fun b ⟨h1,h2⟩=>⟨by omega,by simpa[World.setCell]using h2⟩) (fun q ⟨h1,_⟩=>World.cell?_of_block (qbk (by omega))) _ _ _ HFR.out
theorem qek (t u:Tm) (A Au:Option Addr) (cap cu:Nat) (p:List Int) (Ap:Option Addr) (cp:Nat) (w:World) (ht:t.size≤1000000) (hu:u.size≤1000000) (hp:p.length≤1000000)
  (hrep:RepT w w.heap.size t A cap) (hrepu:RepT w w.heap.size u Au cu) (hrp:RepI w (fun b=>b<w.heap.size) p Ap cp) :
  Calls Tryz.prog 90 #[t.val A cap,.slice Ap p.length cp,u.val Au cu] w (AtOf w (Tm.repl p t u)):=
 (qp0 t u A Au cap cu p Ap cp w ht hu hp hrep hrepu hrp).mono fun _ _ h=>h.toAt
theorem RepI.tail {w:World} {P:Nat→Prop} {i:Int} {r:List Int} {b off c:Nat} (h:RepI w P (i::r) (some ⟨b,off,none⟩) c) (hc:r.length+1≤c):RepI w P r (if c=1 then some ⟨b,off,none⟩else some ⟨b,off+1,none⟩) (c - 1):=by
 obtain⟨h1,h2,h3⟩:=h;refine⟨by omega,by omega,?_⟩;by_cases hc1:c=1
 ·left;exact List.eq_nil_of_length_eq_zero (by omega)
 rw[if_neg hc1];rcases h3 with h3|⟨b',off',he,hb,hl⟩
 ·cases h3
 ·injection he with he;injection he with e1 e2;subst e1 e2;refine .inr ⟨b,off+1,rfl,hb,fun j hj=>?_⟩;have:=hl (j+1) (by simpa using hj);rw[show off+1+j=off+(j+1)by omega];simpa using this
theorem RepT.name {w:World} {B:Nat} {t:Tm} {A:Option Addr} {c:Nat} (h:RepT w B t A c):t.name.size≤maxLen:=by
 obtain⟨k,n,s,l⟩:=t;rw[qbe]at h;exact h.1
theorem Tm.put_size:∀(p:List Int) (t u:Tm),(Tm.putP p t u).size≤t.size+u.size
 | [],t,u=>by rw[Tm.putP];omega
 | i::r,t,u=>by
  rw[Tm.putP]
  cases hk:t.kid i with
  | none=>simp only;omega
  | some k=>
   simp only;obtain⟨-,hl,he⟩:=Tm.kid_lt hk;have h1:=Tm.put_size r k u;obtain⟨tk,tn,ts,l⟩:=t;simp only[Tm.kids,Tm.kind,Tm.name,Tm.sort]at hl he ⊢;rw[Tm.size,Tm.size];have key:∀(l:List Tm) (j:Nat) (hj:j<l.length) (y:Tm),Tm.sizes (l.set j y)+l[j].size=Tm.sizes l+y.size:=by
    intro l
    induction l with
    | nil=>intro j hj;simp at hj
    | cons a l ih=>
     intro j hj y
     cases j with
     | zero=>simp only[List.set_cons_zero,Tm.sizes,List.getElem_cons_zero];omega
     | succ j=>
      have:=ih j (by simpa using hj) y;simp only[List.set_cons_succ,Tm.sizes,List.getElem_cons_succ];omega
   have h2:=key l i.toNat hl (Tm.putP r k u);rw[he]at h2;omega
theorem RepI.below {w w':World} {B:Nat} {p:List Int} {A:Option Addr} {cap:Nat} (h:RepI w (fun b=>b<B) p A cap) (hb:Below B w w'):RepI w' (fun b=>b<B) p A cap:=
 h.mono (fun _ h=>h) (fun _ hq=>hb.cell hq)
end Go.Proofs.YtjhjoiplpmjepaaGreat
namespace Go.Proofs.YtjhjoiplpmjepaaGreat
open Go.RowKit Go.Sort
theorem slInt:SlT 36 3 1 8 (.int .i64 0):=⟨Tryz.underlying36,by kernel_rfl,rfl,by decide,by decide⟩
theorem slRx:SlT 61 66 2 32 (.agg #[.int .i64 0,.slice none 0 0]):=⟨Tryz.underlying61,by kernel_rfl,rfl,by decide,by decide⟩
abbrev Rx:=Nat×List Int×Option Addr×Nat
def rxCell (x:Rx):List Value:=[.int .i64 x.1,.slice x.2.2.1 x.2.1.length x.2.2.2]
def qea:List Rx→List Value
 | []=>[]
 | x::r=>rxCell x++qea r
theorem qfp:∀a b:List Rx,qea (a++b)=qea a++qea b
 | [],_=>rfl
 | x::r,b=>by rw[List.cons_append,qea,qfp r b,qea,List.append_assoc]
theorem qh9:∀(l:List Rx) (i:Nat) (h:i<l.length),(qea l)[i*2]?=some (.int .i64 l[i].1)∧(qea l)[i*2+1]?=some (.slice l[i].2.2.1 l[i].2.1.length l[i].2.2.2)
 | x::r,0,_=>⟨rfl,rfl⟩
 | x::r,i+1,h=>by
  obtain⟨h1,h2⟩:=qh9 r i (by simpa using h);rw[show(i+1)*2=i*2+2 by omega,qea,rxCell];exact⟨h1,h2⟩
structure RxRow (w:World) (base:Nat) (v:Value) (its:List Rx):Prop where
 own:w.ownsRow base 66 2 v its.length (qea its)
 reps:∀x∈its,RepI w (fun b=>base≤b∧b<w.heap.size∧v.ownBlock≠some b) x.2.1 x.2.2.1 x.2.2.2
theorem RxRow.nil (w:World) (base:Nat):RxRow w base (.slice none 0 0) []:=⟨World.ownsRow_nil _ _ _ _,by simp⟩
theorem RxRow.below {w w':World} {base:Nat} {v:Value} {its:List Rx} (h:RxRow w base v its) (hb:Below w.heap.size w w'):RxRow w' base v its:=
 ⟨qie h.own hb,fun x hx=>RepI.mono (fun b ⟨h1,h2,h3⟩=>⟨h1,Nat.lt_of_lt_of_le h2 hb.size,h3⟩) (fun q ⟨_,h2,_⟩=>hb.cell h2) (h.reps x hx)⟩
theorem RxRow.lt {w:World} {base:Nat} {v:Value} {its:List Rx} (h:RxRow w base v its):∀k,v.ownBlock=some k→base≤k∧k<w.heap.size:=h.own.lt
theorem RxRow.form {w:World} {base:Nat} {v:Value} {its:List Rx} (h:RxRow w base v its):∃A cap,v=.slice A its.length cap:=by
 rcases h.own.2 with⟨rfl,h0⟩|⟨g,cap,cur,rfl,_⟩
 ·exact⟨none,0,by rw[h0]⟩
 ·exact⟨_,cap,rfl⟩
theorem RxRow.slot {w:World} {base:Nat} {A:Option Addr} {cap n:Nat} {its:List Rx} (h:RxRow w base (.slice A n cap) its) (i:Nat) (hi:i<its.length) :
  ∃g,A=some ⟨g,0,none⟩∧w.cell? ⟨g,i*2,none⟩=some (.int .i64 its[i].1)∧w.cell? ⟨g,i*2+1,none⟩=some (.slice its[i].2.2.1 its[i].2.1.length its[i].2.2.2):=by
 rcases h.own.2 with⟨hv,h0⟩|⟨g,cap',cur,hv,hb,hg,r⟩
 ·omega
 ·injection hv with h1;subst h1;obtain⟨e1,e2⟩:=qh9 its i hi;have c1:=h.own.cells (g:=g) rfl _ _ e1;have c2:=h.own.cells (g:=g) rfl _ _ e2;refine⟨g,rfl,?_,?_⟩
  ·unfold Addr.add at c1;split at c1<;>simp_all
  ·unfold Addr.add at c2;split at c2<;>simp_all
theorem repV_ints {w:World} {P:Nat→Prop} {p:List Int} {A:Option Addr} {c:Nat} (h:RepI w P p A c):RepV w P 1 (p.map (Value.int .i64)) A p.length c:=by
 obtain⟨h1,h2,h3⟩:=h;refine⟨by simp,h1,h2,?_⟩;rcases h3 with rfl|⟨b,off,hA,hb,hc⟩
 ·exact .inl rfl
 ·refine .inr ⟨b,off,hA,hb,fun j u hj=>?_⟩;obtain⟨hl,e⟩:=List.getElem?_eq_some_iff.1 hj;rw[hc j (by simpa using hl),←e];simp
theorem ints_repI {w:World} {P:Nat→Prop} {p:List Int} {A:Option Addr} {c:Nat} (h:RepV w P 1 (p.map (Value.int .i64)) A p.length c):RepI w P p A c:=by
 obtain⟨-,h1,h2,h3⟩:=h;refine⟨h1,h2,?_⟩;rcases h3 with h3|⟨b,off,hA,hb,hc⟩
 ·exact .inl (List.eq_nil_of_length_eq_zero h3)
 ·exact .inr ⟨b,off,hA,hb,fun j hj=>hc j _ (by simp[hj])⟩
theorem RxRow.more {W:World} {base:Nat} {v:Value} {its:List Rx} (h:RxRow W base v its) (hb:base≤W.heap.size) (i:Nat) (p:List Int) (A:Option Addr) (c:Nat) (hp:RepI W (fun b=>b<W.heap.size) p A c) (hpl:p.length≤1000000) (hil:its.length+1≤1000000) :
  ∃A1 c1 w1 g c2 w2,(∀ty,(Builtin.append_ #[36,36] ty #[.slice (some ⟨W.heap.size,0,none⟩) 0 0,.slice A p.length c]).run Tryz.prog (W.alloc (.cells #[] 3))=.ok (.slice A1 p.length c1) w1)∧
   (∀ty,(Builtin.append_ #[61,61] ty #[v,.slice (some ⟨w1.heap.size,0,none⟩) 1 1]).run Tryz.prog (w1.alloc (.cells #[.int .i64 i,.slice A1 p.length c1] 66))=.ok (.slice (some ⟨g,0,none⟩) (its.length+1) c2) w2)∧
   RxRow w2 base (.slice (some ⟨g,0,none⟩) (its.length+1) c2) (its++[(i,p,A1,c1)])∧GrewV base W w2 v (.slice (some ⟨g,0,none⟩) (its.length+1) c2):=by
 have hb0:Below W.heap.size W (W.alloc (.cells #[] 3)):=qab (Nat.le_refl _) _;have o0:(W.alloc (.cells #[] 3)).ownsRow W.heap.size 3 1 (.slice (some ⟨W.heap.size,0,none⟩) 0 0) 0 []:=World.ownsRow_lit (size:=1) W #[] 0 (Nat.le_refl _) (by simp[maxLen]) rfl;obtain⟨v1,w1,hap1,ho1,hg1⟩:=qoj slInt o0 (by simp) (repV_ints (RepI.mono (P':=fun b=>b<W.heap.size) (fun _ h=>h) (fun q hq=>hb0.cell hq) hp)) (fun u hu=>by obtain⟨z,-,rfl⟩:=List.mem_map.1 hu;rfl) (by unfold maxLen;omega) (by omega);rw[Nat.zero_add,List.nil_append]at ho1;obtain⟨A1,c1,rfl,hV1⟩:=qok ho1;have hs1:=hg1.size;have hsz0:(W.alloc (.cells #[] 3)).heap.size=W.heap.size+1:=by simp
 have hbw:Below W.heap.size W w1:=hb0.trans hg1.below;have h1:=h.below hbw;obtain⟨g,c2,w2,hap2,ho2,hg2⟩:=row_add slRx h1.own (by omega) [.int .i64 i,.slice A1 p.length c1] rfl (by simp[Value.oneCell']) hil;refine⟨A1,c1,w1,g,c2,w2,fun ty=>by have:=hap1 ty;exact this,fun ty=>hap2 ty,⟨?_,fun x hx=>?_⟩,?_⟩
 ·rw[List.length_append,qfp];exact ho2
 ·-- the positions
  have key:RepI w1 (fun b=>base≤b∧b<w1.heap.size∧v.ownBlock≠some b) x.2.1 x.2.2.1 x.2.2.2:=by
   rcases List.mem_append.1 hx with hx|hx
   ·exact h1.reps x hx
   ·rw[List.mem_singleton.1 hx];refine ints_repI (hV1 _ fun b h2 h3 _=>⟨by omega,h3,fun e=>?_⟩);have:=(h.lt b e).2;omega
  refine RepI.mono (fun b ⟨h2,h3,h4⟩=>⟨h2,Nat.lt_of_lt_of_le h3 hg2.size,fun e=>?_⟩) (fun q ⟨_,h3,h4⟩=>World.cell?_of_block (hg2.old _ h3 (fun e=>h4 e))) key;rcases hg2.own with h5|h5
  ·exact h4 (by rw[←h5];exact e)
  ·have:=h5 b e;omega
 ·refine⟨(hbw.mono hb).trans hg2.below,fun k hk hne=>(hg2.old k (by omega) hne).trans (hbw.block k hk),?_,by have:=hg2.size;omega⟩;rcases hg2.own with h5|h5
  ·exact .inl h5
  ·exact .inr fun k hk=>by have:=h5 k hk;omega
end Go.Proofs.YtjhjoiplpmjepaaGreat
