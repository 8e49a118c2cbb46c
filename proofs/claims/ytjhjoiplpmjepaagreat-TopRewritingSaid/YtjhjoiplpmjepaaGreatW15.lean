/- Tplus, Town2, Tsums, Tsumw, Tbent0, Tput (joined by shake.py). -/
import Derived.Test.YtjhjoiplpmjepaaGreatW0
import Derived.Test.YtjhjoiplpmjepaaGreatW5
import Derived.Test.YtjhjoiplpmjepaaGreatW6
import Derived.Test.YtjhjoiplpmjepaaGreatW7
import Derived.Test.YtjhjoiplpmjepaaGreatW8
import Derived.Test.YtjhjoiplpmjepaaGreatW9
import Derived.Test.YtjhjoiplpmjepaaGreatW11
import Derived.Test.YtjhjoiplpmjepaaGreatW12
import Derived.Test.YtjhjoiplpmjepaaGreatW13
import Derived.Test.YtjhjoiplpmjepaaGreatW14
import Derived.OwnWalk
import Derived.Deep.Cut
set_option maxRecDepth 100000
set_option linter.unusedVariables false
set_option linter.unusedSimpArgs false
set_option maxHeartbeats 16000000
namespace Go.Proofs.YtjhjoiplpmjepaaGreat
open Go.RowKit Go.Sort
def slLen:Value→Nat
 | .slice _ n _=>n
 | _=>0
def OkL (l:List Tm) (w:World) (e:Ending) (w':World):Prop:=
 ∃A c,e=.returned (.slice A l.length c)∧RepS w' (fun b=>b<w'.heap.size) l A c∧Below w.heap.size w w'
theorem qlw {w:World} {P:Nat→Prop} {x:Tm} {r:List Tm} {b off c:Nat} (h:RepS w P (x::r) (some ⟨b,off,none⟩) c):RepS w P r (if c=1 then some ⟨b,off,none⟩else some ⟨b,off+4,none⟩) (c - 1):=by
 obtain⟨h1,h2,h3⟩:=h;simp only[List.length_cons]at h1;refine⟨by omega,by omega,?_⟩;by_cases hr:r=[]
 ·exact .inl hr
 ·have:0<r.length:=List.length_pos_iff.2 hr;rw[if_neg (by omega)];rcases h3 with h|⟨b',off',e,hb,hl⟩
  ·cases h
  ·injection e with e;injection e with e1 e2;subst e1 e2;rw[RepLP]at hl;exact .inr ⟨b,off+4,rfl,hb,hl.2⟩
theorem qlx {w:World} {P:Nat→Prop} {x:Tm} {r:List Tm} {A:Option Addr} {c:Nat} (h:RepS w P (x::r) A c):∃b off,A=some ⟨b,off,none⟩∧P b∧∃A' c',w.cell? ⟨b,off,none⟩=some (.int .i64 x.kind)∧w.cell? ⟨b,off+1,none⟩=some (.string x.name)∧w.cell? ⟨b,off+2,none⟩=some (.int .i64 x.sort)∧w.cell? ⟨b,off+3,none⟩=some (.slice A' x.kids.length c')∧RepP w P x A' c':=by
 rcases h.2.2 with h|⟨b,off,rfl,hb,hl⟩
 ·cases h
 ·rw[RepLP]at hl;obtain⟨⟨A',c',h0,h1,h2,h3,h4⟩,-⟩:=hl;exact⟨b,off,rfl,hb,A',c',h0,h1,h2,h3,h4⟩
attribute [local irreducible] qay
theorem xplus_any (a b:List Tm) (A B:Option Addr) (c d:Nat) (w:World) (ha:a.length≤40000) (hb:b.length≤40000) (hsa:∀t∈a,t.size≤1000000) (hsb:∀t∈b,t.size≤1000000) (hra:RepS w (fun b=>b<w.heap.size) a A c) (hrb:RepS w (fun b=>b<w.heap.size) b B d) :
  Calls Tryz.prog 94 #[.slice A a.length c,.slice B b.length d] w (OkL (mrgT a b) w):=by
 have mixed:=mixz;obtain⟨na,hna⟩:∃n,n=a.length:=⟨_,rfl⟩;obtain⟨nb,hnb⟩:∃n,n=b.length:=⟨_,rfl⟩;obtain⟨res,hres⟩:∃r,r=mrgT a b:=⟨_,rfl⟩;have hrl:res.length≤na+nb:=by rw[hres,hna,hnb];exact mrg_len _ a b (Nat.le_refl _)
 rw[←hna]at ha;rw[←hnb]at hb;rw[←hna,←hnb,←hres];have HNA:=hdzz hna;have HNB:=hdzz hnb;have HRA:=hdzz hra;have HRB:=hdzz hrb;have HSA:=hdzz hsa;have HSB:=hdzz hsb;have HRES:=hdzz hres;have HRL:=hdzz hrl;clear hna hnb hra hrb hsa hsb hres hrl;go_enter Tryz.func94,Tryz.ntmps94
 go_wp2_with fail
 go_loopw [0,1,5] (fun u0 u1 u5 wr=>∃(a' b':List Tm) (its:List It) (A1 B1:Option Addr) (c1 d1 n1 m1:Nat),u0=.slice A1 n1 c1∧u1=.slice B1 m1 d1∧Hid (n1=a'.length∧(∀t∈a',t.size≤1000000))∧Hid (m1=b'.length∧(∀t∈b',t.size≤1000000))∧
   Hid (RepS wr (fun b=>b<w.heap.size) a' A1 c1)∧Hid (RepS wr (fun b=>b<w.heap.size) b' B1 d1)∧Hid (RowT wr w.heap.size (fun b=>b<w.heap.size) u5 its)∧Hid (its.map (·.1)++mrgT a' b'=res)∧Hid (Below w.heap.size w wr)) (fun u0 u1 _ _=>slLen u0+slLen u1)
 case atStart=>exact⟨a,b,[],A,B,c,d,na,nb,rfl,rfl,⟨HNA.out,HSA.out⟩,⟨HNB.out,HSB.out⟩,HRA.out,HRB.out,RowT.nil _ _ _,HRES.out.symm,Below.refl _ _⟩
 case round=>
  obtain⟨a',b',its,A1,B1,c1,d1,n1,m1,rfl,rfl,HLA,HLB,HA,HB',HR,HE,HBW⟩:=hrel;have hsr:=HBW.out.size;have HFIN:Hid (mrgT a' b'=a'++b'→a'.length≤na+nb→b'.length≤na+nb→Hid (n1=a'.length)→Hid (m1=b'.length)→its.length+a'.length+b'.length=res.length):=hdzz fun h _ _ _ _=>by
   have:=congrArg List.length HE.out;rw[h]at this;simp only[List.length_append,List.length_map]at this;omega
  have HIL:Hid (its.length+1≤100000000):=hdzz (by
   have:=congrArg List.length HE.out;simp only[List.length_append,List.length_map]at this;have:=HRL.out;omega)
  by_cases hmain:a'≠[]∧b'≠[]
  case neg=>
   have hmr:mrgT a' b'=a'++b':=by
    rcases a' with _|⟨x,ra⟩
    ·rw[qgh];rfl
    ·rcases b' with _|⟨y,rb⟩
     ·rw[qif,List.append_nil]
     ·exact absurd ⟨by simp,by simp⟩ hmain
   have he:=HE.out;rw[hmr]at he;have hlen:its.length+a'.length+b'.length≤80000:=by
    have h:=congrArg List.length he;simp only[List.length_append,List.length_map]at h;have:=HRL.out;omega
   obtain⟨A2,c2,w2,it2,hm2,hap2,hr2,hg2⟩:=qfb HR.out (Nat.le_refl _) hsr HA.out (by omega);have hb2:=hg2 w w.heap.size HBW.out (Nat.le_refl _);have hl2:it2.length=a'.length:=by rw[←hm2,List.length_map]
   have hlen2:(its++it2).length=its.length+a'.length:=by rw[List.length_append,hl2]
   rw[←hlen2]at hr2;obtain⟨A3,c3,w3,it3,hm3,hap3,hr3,hg3⟩:=qfb hr2 (Nat.le_refl _) hb2.size (RepS.mono (w:=wr) (fun _ h=>h) (fun p (hp:p.block<w.heap.size)=>(hb2.cell hp).trans (HBW.out.cell hp).symm) HB'.out) (by rw[hlen2];omega);have hb3:=hg3 w w.heap.size hb2 (Nat.le_refl _);rw[hlen2]at hap3;have HOK:Hid (OkL res w (.returned (.slice A3 (its.length+a'.length+b'.length) c3)) w3):=hdzz (by
    rw[hlen2]at hr3;obtain⟨A4,c4,hv,hS⟩:=hr3.toS (P:=fun b=>b<w3.heap.size) (fun b h _=>by have:=hb3.size;omega) (fun b _ h=>h);injection hv with e1 e2 e3;subst e1 e3;have hmm:(its++it2++it3).map (·.1)=res:=by rw[List.map_append,List.map_append,hm2,hm3,List.append_assoc];exact he
    rw[hmm]at hS;have hll:its.length+a'.length+b'.length=res.length:=by rw[←he];simp only[List.length_append,List.length_map];omega
    exact⟨A3,c3,by rw[hll],hS,hb3⟩)
   rw[←HLA.out.1]at hap2 hap3 HOK;rw[←HLB.out.1]at hap3 HOK;have hex:(n1=0)∨(0<n1∧m1=0):=by
    rcases Nat.eq_zero_or_pos n1 with h|h
    ·exact .inl h
    ·refine .inr ⟨h,?_⟩;have h1:a'≠[]:=fun e=>by have:=HLA.out.1;rw[e]at this;simp at this;omega
     have h2:b'=[]:=Classical.byContradiction fun e=>hmain ⟨h1,e⟩;have:=HLB.out.1;rw[h2]at this;simpa using this
   clear hr2 hr3 hg2 hg3 hb2 hb3 hm2 hm3 he hmr hmain hlen hlen2 hl2 HFIN;rcases hex with hn|⟨hn,hm⟩
   ·have q1:¬((0:Int)<(n1:Int)):=by omega
    clear hn;go_wp2_with (at_builtin;first|refine qag rfl _ _ rfl rfl rfl hap2 ?_|refine qag rfl _ _ rfl rfl rfl hap3 ?_)
    go_ret
    exact HOK.out
   ·have q1:(0:Int)<(n1:Int):=by omega
    have q2:¬((0:Int)<(m1:Int)):=by omega
    clear hn hm;go_wp2_with (at_builtin;first|refine qag rfl _ _ rfl rfl rfl hap2 ?_|refine qag rfl _ _ rfl rfl rfl hap3 ?_)
    go_ret
    exact HOK.out
  clear HFIN;obtain⟨x,ra,rfl⟩:∃x r,a'=x::r:=by rcases a' with _|⟨x,r⟩;exact absurd rfl hmain.1;exact⟨x,r,rfl⟩
  obtain⟨y,rb,rfl⟩:∃x r,b'=x::r:=by rcases b' with _|⟨x,r⟩;exact absurd rfl hmain.2;exact⟨x,r,rfl⟩
  clear hmain;obtain⟨ab,ao,rfl,hab,Ax,cx,p0,p1,p2,p3,px⟩:=qlx HA.out;obtain⟨bb,bo,rfl,hbb,Ay,cy,q0,q1,q2,q3,qy⟩:=qlx HB'.out;have hTA:=qlw HA.out;have hTB:=qlw HB'.out;obtain⟨At,hAt⟩:∃A:Option Addr,A=if c1=1 then some ⟨ab,ao,none⟩else some ⟨ab,ao+4,none⟩:=⟨_,rfl⟩
  obtain⟨Bt,hBt⟩:∃A:Option Addr,A=if d1=1 then some ⟨bb,bo,none⟩else some ⟨bb,bo+4,none⟩:=⟨_,rfl⟩
  rw[←hAt]at hTA;rw[←hBt]at hTB;have hAts:=hAt.symm;have hBts:=hBt.symm;clear hAt hBt;obtain⟨n2,rfl⟩:∃n2,n1=n2+1:=⟨ra.length,HLA.out.1⟩;obtain⟨m2,rfl⟩:∃m2,m1=m2+1:=⟨rb.length,HLB.out.1⟩;have HLAt:Hid (n2=ra.length∧∀t∈ra,t.size≤1000000):=hdzz ⟨by have:=HLA.out.1;simp only[List.length_cons]at this;omega,fun t ht=>HLA.out.2 t (List.mem_cons_of_mem _ ht)⟩;have HLBt:Hid (m2=rb.length∧∀t∈rb,t.size≤1000000):=hdzz ⟨by have:=HLB.out.1;simp only[List.length_cons]at this;omega,fun t ht=>HLB.out.2 t (List.mem_cons_of_mem _ ht)⟩;have HLAw:=HLA;have HLBw:=HLB;clear HLA HLB;have hca:n2+1≤c1:=by have:=HA.out.1;have:=HLAw.out.1;omega
  have hcb:m2+1≤d1:=by have:=HB'.out.1;have:=HLBw.out.1;omega
  have hca2:c1≤9223372036854775807:=by have:=HA.out.2.1;unfold maxLen at this;omega
  have hcb2:d1≤9223372036854775807:=by have:=HB'.out.2.1;unfold maxLen at this;omega
  have hcaI:(n2:Int)+1≤(c1:Int):=by omega
  have hcbI:(m2:Int)+1≤(d1:Int):=by omega
  have k1:(0:Int)<(n2:Int)+1:=by omega
  have k2:(0:Int)<(m2:Int)+1:=by omega
  have k3:(1:Int)≤(n2:Int)+1:=by omega
  have k4:(1:Int)≤(m2:Int)+1:=by omega
  have CM:Hid (Calls Tryz.prog 53 #[x.val Ax cx,y.val Ay cy] wr.drew fun e w'=>e=.returned (.int .i64 (x.cmp y))∧Lay wr.drew.heap.size wr.drew w'):=hdzz
   (qb7 1000000 x y Ax Ay cx cy wr.drew (HLAw.out.2 x (List.mem_cons_self ..)) (Nat.le_refl _) (HLBw.out.2 y (List.mem_cons_self ..)) (RepP.mono (w:=wr) (w':=wr.drew) (fun b (h:b<w.heap.size)=>by show _<wr.heap.size;omega) (fun _ _=>rfl) _ _ _ px) (RepP.mono (w:=wr) (w':=wr.drew) (fun b (h:b<w.heap.size)=>by show _<wr.heap.size;omega) (fun _ _=>rfl) _ _ _ qy))
  have HMLT:Hid (x.cmp y<0→(its++[((x,Ax,cx):It)]).map (·.1)++mrgT ra (y::rb)=res):=hdzz fun h=>by have:=HE.out;rw[qnp h]at this;rw[List.map_append,List.append_assoc];exact this
  have HMGT:Hid (0<x.cmp y→(its++[((y,Ay,cy):It)]).map (·.1)++mrgT (x::ra) rb=res):=hdzz fun h=>by have:=HE.out;rw[qnq h]at this;rw[List.map_append,List.append_assoc];exact this
  have HMEQ:Hid (x.cmp y=0→its.map (·.1)++mrgT ra rb=res):=hdzz fun h=>by have:=HE.out;rw[qnr h]at this;exact this
  obtain⟨r,hr⟩:∃r,r=x.cmp y:=⟨_,rfl⟩;rw[←hr]at CM HMLT HMGT HMEQ;clear hr HE;simp only[Tm.val]at CM;have HTA:=hdzz hTA;have HTB:=hdzz hTB;have HPX:=hdzz px;have HPY:=hdzz qy;clear hTA hTB px qy;go_wp2_with fail
  have a0:wr.drew.cell? ⟨ab,ao,none⟩=_:=p0;have a1:wr.drew.cell? ⟨ab,ao+1,none⟩=_:=p1;have a2:wr.drew.cell? ⟨ab,ao+2,none⟩=_:=p2;have a3:wr.drew.cell? ⟨ab,ao+3,none⟩=_:=p3;have b0:wr.drew.cell? ⟨bb,bo,none⟩=_:=q0;have b1:wr.drew.cell? ⟨bb,bo+1,none⟩=_:=q1;have b2:wr.drew.cell? ⟨bb,bo+2,none⟩=_:=q2;have b3:wr.drew.cell? ⟨bb,bo+3,none⟩=_:=q3;have hsD:w.heap.size≤wr.drew.heap.size:=hsr;have hbD:Below wr.heap.size wr wr.drew:=(Below.refl _ _).drew;clear p0 p1 p2 p3 q0 q1 q2 q3;refine qae (fun Y=>Below wr.drew.heap.size wr.drew Y) (fun _=>True) [] (.held 0 (.held 1 (.held 2 (.held 3 (.held 4 (.held 5 (.op 6 (.held 7 .nil)))))))) mixed (by kernel_rfl) ?_;have hsE:wr.drew.heap.size=wr.heap.size:=rfl;generalize wr.drew=E at *
  refine stkz (.slice (some ⟨ab,ao,none⟩) (n2+1) c1) rfl rfl rfl (fun _ _ _ h=>h) (Below.refl _ _) (fun Y hY=>by
    (try simp only[Act.put]);go_simp) ?_
  refine stkz (.pointer (some ⟨ab,ao,none⟩)) rfl rfl rfl (fun _ _ _ h=>h) (Below.refl _ _) (fun Y hY=>by
    (try simp only[Act.put]);go_simp) ?_
  refine stkz (.agg #[.int .i64 x.kind,.string x.name,.int .i64 x.sort,.slice Ax x.kids.length cx]) rfl rfl rfl (fun _ _ _ h=>h) (Below.refl _ _) (fun Y hY=>by
    have z0:=sclz hY a0 (by omega);have z1:=sclz hY a1 (by omega);have z2:=sclz hY a2 (by omega);have z3:=sclz hY a3 (by omega)
    (try simp only[Act.put]);go_simp) ?_
  refine stkz (.slice (some ⟨bb,bo,none⟩) (m2+1) d1) rfl rfl rfl (fun _ _ _ h=>h) (Below.refl _ _) (fun Y hY=>by
    (try simp only[Act.put]);go_simp) ?_
  refine stkz (.pointer (some ⟨bb,bo,none⟩)) rfl rfl rfl (fun _ _ _ h=>h) (Below.refl _ _) (fun Y hY=>by
    (try simp only[Act.put]);go_simp) ?_
  refine stkz (.agg #[.int .i64 y.kind,.string y.name,.int .i64 y.sort,.slice Ay y.kids.length cy]) rfl rfl rfl (fun _ _ _ h=>h) (Below.refl _ _) (fun Y hY=>by
    have z0:=sclz hY b0 (by omega);have z1:=sclz hY b1 (by omega);have z2:=sclz hY b2 (by omega);have z3:=sclz hY b3 (by omega)
    (try simp only[Act.put]);go_simp) ?_
  simp only[Act.put,fsa,fsb,fsc,fsd,fse,fsf];refine qar rfl rfl (fun K hK=>?_);go_wp2_with fail
  refine CM.out.mono ?_;clear CM;rintro e w3 ⟨rfl,hl3⟩;refine hK _ _ ⟨⟨fun _=>hl3.below.mono (by omega),trivial⟩,?_⟩;clear hK K;refine stkz (.int .i64 r) rfl rfl rfl (fun _ _ _ h=>h) (hl3.below.mono (by omega)) (fun Y hY=>by
    (try simp only[Act.put]);go_simp) ?_
  refine qat ?_;have hb3:Below wr.heap.size wr w3:=hbD.trans (hl3.below.mono (by omega));have HB3:=hdzz (HBW.out.trans (hb3.mono hsr));have HR3:=hdzz (HR.out.below hb3);have hs3:=hb3.size;have HCL:Hid (∀p:Addr,p.block<w.heap.size→w3.cell? p=wr.cell? p):=hdzz fun p hp=>hb3.cell (by omega);have HRX0:Hid (∀Z,(∀p:Addr,p.block<w.heap.size→Z.cell? p=w3.cell? p)→RepP Z (fun b=>b<w.heap.size) x Ax cx∧RepP Z (fun b=>b<w.heap.size) y Ay cy):=hdzz fun Z hZ=>⟨RepP.mono (fun _ h=>h) (fun p h=>(hZ p h).trans (HCL.out p h)) _ _ _ HPX.out,RepP.mono (fun _ h=>h) (fun p h=>(hZ p h).trans (HCL.out p h)) _ _ _ HPY.out⟩;have RX:=hdzz (HRX0.out w3 fun _ _=>rfl).1;have RY:=hdzz (HRX0.out w3 fun _ _=>rfl).2
  have HXS:Hid (∀Z,(∀p:Addr,p.block<w.heap.size→Z.cell? p=w3.drew.cell? p)→RepS Z (fun b=>b<w.heap.size) (x::ra) (some ⟨ab,ao,none⟩) c1):=hdzz fun Z hZ=>RepS.mono (w:=wr) (fun _ h=>h) (fun p h=>(hZ p h).trans (HCL.out p h)) HA.out;have HYS:Hid (∀Z,(∀p:Addr,p.block<w.heap.size→Z.cell? p=w3.drew.cell? p)→RepS Z (fun b=>b<w.heap.size) (y::rb) (some ⟨bb,bo,none⟩) d1):=hdzz fun Z hZ=>RepS.mono (w:=wr) (fun _ h=>h) (fun p h=>(hZ p h).trans (HCL.out p h)) HB'.out;have HTA:Hid (∀Z,(∀p:Addr,p.block<w.heap.size→Z.cell? p=w3.drew.cell? p)→RepS Z (fun b=>b<w.heap.size) ra At (c1 - 1)):=hdzz fun Z hZ=>RepS.mono (w:=wr) (fun _ h=>h) (fun p h=>(hZ p h).trans (HCL.out p h)) HTA.out
  have HTB:Hid (∀Z,(∀p:Addr,p.block<w.heap.size→Z.cell? p=w3.drew.cell? p)→RepS Z (fun b=>b<w.heap.size) rb Bt (d1 - 1)):=hdzz fun Z hZ=>RepS.mono (w:=wr) (fun _ h=>h) (fun p h=>(hZ p h).trans (HCL.out p h)) HTB.out;have p0:=(hb3.cell (p:=⟨ab,ao,none⟩) (by show ab<_;omega)).trans ((hbD.cell (p:=⟨ab,ao,none⟩) (by show ab<_;omega)).symm.trans a0);have p1:=(hb3.cell (p:=⟨ab,ao+1,none⟩) (by show ab<_;omega)).trans ((hbD.cell (p:=⟨ab,ao+1,none⟩) (by show ab<_;omega)).symm.trans a1);have p2:=(hb3.cell (p:=⟨ab,ao+2,none⟩) (by show ab<_;omega)).trans ((hbD.cell (p:=⟨ab,ao+2,none⟩) (by show ab<_;omega)).symm.trans a2);have p3:=(hb3.cell (p:=⟨ab,ao+3,none⟩) (by show ab<_;omega)).trans ((hbD.cell (p:=⟨ab,ao+3,none⟩) (by show ab<_;omega)).symm.trans a3)
  have q0:=(hb3.cell (p:=⟨bb,bo,none⟩) (by show bb<_;omega)).trans ((hbD.cell (p:=⟨bb,bo,none⟩) (by show bb<_;omega)).symm.trans b0);have q1:=(hb3.cell (p:=⟨bb,bo+1,none⟩) (by show bb<_;omega)).trans ((hbD.cell (p:=⟨bb,bo+1,none⟩) (by show bb<_;omega)).symm.trans b1);have q2:=(hb3.cell (p:=⟨bb,bo+2,none⟩) (by show bb<_;omega)).trans ((hbD.cell (p:=⟨bb,bo+2,none⟩) (by show bb<_;omega)).symm.trans b2);have q3:=(hb3.cell (p:=⟨bb,bo+3,none⟩) (by show bb<_;omega)).trans ((hbD.cell (p:=⟨bb,bo+3,none⟩) (by show bb<_;omega)).symm.trans b3);clear hb3 hbD hl3 a0 a1 a2 a3 b0 b1 b2 b3 HA HB' HBW HR hsE HCL HPX HPY HRX0 hsD;simp only[Act.put,fsa,fsb,fsc,fsd,fse,fsf];by_cases hr1:r<0
  ·have HEA:=hdzz (HMLT.out hr1);clear q0 q1 q2 q3;go_wp2_with fail
   have hD:∀p:Addr,w3.drew.cell? p=w3.cell? p:=fun _=>rfl;have e0:=(hD _).trans p0;have e1:=(hD _).trans p1;have e2:=(hD _).trans p2;have e3:=(hD _).trans p3;have HRD:=hdzz (HR3.out.below (Below.refl _ _).drew);have HBD:=hdzz HB3.out.drew;have hsD:w3.heap.size≤w3.drew.heap.size:=Nat.le_refl _;have HRX:=hdzz (RepP.mono (w:=w3) (w':=w3.drew) (fun _ h=>h) (fun _ _=>rfl) _ _ _ RX.out);clear p0 p1 p2 p3 hD;refine qae (fun Y=>∀p:Addr,p.block<w.heap.size→Y.cell? p=w3.drew.cell? p) (fun _=>True) [] (.held 0 (.held 1 (.held 2 (.held 3 (.held 6 (.held 7 (.op 4 (.op 5 (.held 8 (.held 9 .nil)))))))))) mixed (by kernel_rfl) ?_;generalize w3.drew=D at *;refine stkz (u5) rfl rfl rfl (fun _ _ _ h=>h) (fun _ _=>rfl) (fun Y hY=>by
     (try simp only[Act.put]);go_simp) ?_
   refine stkz (.slice (some ⟨ab,ao,none⟩) (n2+1) c1) rfl rfl rfl (fun _ _ _ h=>h) (fun _ _=>rfl) (fun Y hY=>by
     (try simp only[Act.put]);go_simp) ?_
   refine stkz (.pointer (some ⟨ab,ao,none⟩)) rfl rfl rfl (fun _ _ _ h=>h) (fun _ _=>rfl) (fun Y hY=>by
     (try simp only[Act.put]);go_simp) ?_
   refine stkz (.agg #[.int .i64 x.kind,.string x.name,.int .i64 x.sort,.slice Ax x.kids.length cx]) rfl rfl rfl (fun _ _ _ h=>h) (fun _ _=>rfl) (fun Y hY=>by
     have z0:=(hY ⟨ab,ao,none⟩ (by show ab<_;omega)).trans e0;have z1:=(hY ⟨ab,ao+1,none⟩ (by show ab<_;omega)).trans e1;have z2:=(hY ⟨ab,ao+2,none⟩ (by show ab<_;omega)).trans e2;have z3:=(hY ⟨ab,ao+3,none⟩ (by show ab<_;omega)).trans e3
     (try simp only[Act.put]);go_simp) ?_
   refine stkz (.slice (some ⟨ab,ao,none⟩) (n2+1) c1) rfl rfl rfl (fun _ _ _ h=>h) (fun _ _=>rfl) (fun Y hY=>by
     (try simp only[Act.put]);go_simp) ?_
   refine stkz (.slice At n2 (c1 - 1)) rfl rfl rfl (fun _ _ _ h=>h) (fun _ _=>rfl) (fun Y hY=>by
     (try simp only[Act.put]);go_simp) ?_
   simp only[Act.put,fsa,fsb,fsc,fsd,fse,fsf];obtain⟨W6,hW6⟩:∃W6,W6=D.alloc (.cells #[.int .i64 x.kind,.string x.name,.int .i64 x.sort,.slice Ax x.kids.length cx] 24):=⟨_,rfl⟩;obtain⟨A7,c7,w7,hap,hr7,hg7⟩:=HRD.out.more1 (fun b h=>by omega) HBD.out.size (x,Ax,cx) HRX.out (by have:=HIL.out;omega);dsimp only at hap hg7;rw[←hW6]at hap hg7;have hb6:Below D.heap.size D W6:=by rw[hW6];exact qab (Nat.le_refl _) _
   have hdb:=HBD.out.size;have HB7:=hdzz ((HBD.out.trans (hb6.mono hdb)).grown hg7 (by have:=hb6.size;omega) (fun j e=>by have:=(HRD.out.lt _ e).1;omega));have HS6:Hid (∀p:Addr,p.block<w.heap.size→W6.cell? p=D.cell? p):=hdzz fun p hp=>hb6.cell (by omega);have HS7:Hid (∀p:Addr,p.block<w.heap.size→w7.cell? p=D.cell? p):=hdzz fun p hp=>(World.cell?_of_block (hg7.block p.block (by have:=hb6.size;omega) (fun e=>by have:=(HRD.out.lt _ e.symm).1;omega))).trans (hb6.cell (by omega));have HR7:=hdzz hr7;clear hr7 hg7 hb6 e0 e1 e2 e3;refine qar rfl rfl (fun K hK=>?_);go_wp2_with fail
   rw[←hW6];refine⟨⟨fun _=>HS6.out,trivial⟩,?_⟩;clear hW6;refine qar rfl rfl (fun K hK=>?_);refine qdh _ _ rfl rfl rfl (fun ty=>hap ty) ?_;refine hK _ _ ⟨⟨fun _=>HS7.out,trivial⟩,?_⟩;clear hK K hap;refine stkz (.slice A7 (its.length+1) c7) rfl rfl rfl (fun _ _ _ h=>h) HS7.out (fun Y hY=>by
     (try simp only[Act.put]);go_simp) ?_
   refine stkz (.slice At n2 (c1 - 1)) rfl rfl rfl (fun _ _ _ h=>h) HS7.out (fun Y hY=>by
     (try simp only[Act.put]);go_simp) ?_
   refine qat ?_;simp only[Act.put,fsa,fsb,fsc,fsd,fse,fsf];go_wp2_with fail
   go_roundw
   case rel=>exact⟨ra,y::rb,its++[(x,Ax,cx)],At,some ⟨bb,bo,none⟩,c1 - 1,d1,n2,m2+1,rfl,rfl,HLAt.out,HLBw.out,HTA.out w7 HS7.out,HYS.out w7 HS7.out,HR7.out,HEA.out,HB7.out⟩
   case measure=>simp[slLen]
  ·by_cases hr2:0<r
   ·have HEB:=hdzz (HMGT.out hr2);clear p0 p1 p2 p3;go_wp2_with fail
    have hD:∀p:Addr,w3.drew.cell? p=w3.cell? p:=fun _=>rfl;have e0:=(hD _).trans q0;have e1:=(hD _).trans q1;have e2:=(hD _).trans q2;have e3:=(hD _).trans q3;have HRD:=hdzz (HR3.out.below (Below.refl _ _).drew);have HBD:=hdzz HB3.out.drew;have hsD:w3.heap.size≤w3.drew.heap.size:=Nat.le_refl _;have HRX:=hdzz (RepP.mono (w:=w3) (w':=w3.drew) (fun _ h=>h) (fun _ _=>rfl) _ _ _ RY.out);clear q0 q1 q2 q3 hD;refine qae (fun Y=>∀p:Addr,p.block<w.heap.size→Y.cell? p=w3.drew.cell? p) (fun _=>True) [] (.held 0 (.held 1 (.held 2 (.held 3 (.held 6 (.held 7 (.op 4 (.op 5 (.held 8 (.held 9 .nil)))))))))) mixed (by kernel_rfl) ?_;generalize w3.drew=D at *;refine stkz (u5) rfl rfl rfl (fun _ _ _ h=>h) (fun _ _=>rfl) (fun Y hY=>by
      (try simp only[Act.put]);go_simp) ?_
    refine stkz (.slice (some ⟨bb,bo,none⟩) (m2+1) d1) rfl rfl rfl (fun _ _ _ h=>h) (fun _ _=>rfl) (fun Y hY=>by
      (try simp only[Act.put]);go_simp) ?_
    refine stkz (.pointer (some ⟨bb,bo,none⟩)) rfl rfl rfl (fun _ _ _ h=>h) (fun _ _=>rfl) (fun Y hY=>by
      (try simp only[Act.put]);go_simp) ?_
    refine stkz (.agg #[.int .i64 y.kind,.string y.name,.int .i64 y.sort,.slice Ay y.kids.length cy]) rfl rfl rfl (fun _ _ _ h=>h) (fun _ _=>rfl) (fun Y hY=>by
      have z0:=(hY ⟨bb,bo,none⟩ (by show bb<_;omega)).trans e0;have z1:=(hY ⟨bb,bo+1,none⟩ (by show bb<_;omega)).trans e1;have z2:=(hY ⟨bb,bo+2,none⟩ (by show bb<_;omega)).trans e2;have z3:=(hY ⟨bb,bo+3,none⟩ (by show bb<_;omega)).trans e3
      (try simp only[Act.put]);go_simp) ?_
    refine stkz (.slice (some ⟨bb,bo,none⟩) (m2+1) d1) rfl rfl rfl (fun _ _ _ h=>h) (fun _ _=>rfl) (fun Y hY=>by
      (try simp only[Act.put]);go_simp) ?_
    refine stkz (.slice Bt m2 (d1 - 1)) rfl rfl rfl (fun _ _ _ h=>h) (fun _ _=>rfl) (fun Y hY=>by
      (try simp only[Act.put]);go_simp) ?_
    simp only[Act.put,fsa,fsb,fsc,fsd,fse,fsf];obtain⟨W6,hW6⟩:∃W6,W6=D.alloc (.cells #[.int .i64 y.kind,.string y.name,.int .i64 y.sort,.slice Ay y.kids.length cy] 24):=⟨_,rfl⟩;obtain⟨A7,c7,w7,hap,hr7,hg7⟩:=HRD.out.more1 (fun b h=>by omega) HBD.out.size (y,Ay,cy) HRX.out (by have:=HIL.out;omega);dsimp only at hap hg7;rw[←hW6]at hap hg7;have hb6:Below D.heap.size D W6:=by rw[hW6];exact qab (Nat.le_refl _) _
    have hdb:=HBD.out.size;have HB7:=hdzz ((HBD.out.trans (hb6.mono hdb)).grown hg7 (by have:=hb6.size;omega) (fun j e=>by have:=(HRD.out.lt _ e).1;omega));have HS6:Hid (∀p:Addr,p.block<w.heap.size→W6.cell? p=D.cell? p):=hdzz fun p hp=>hb6.cell (by omega);have HS7:Hid (∀p:Addr,p.block<w.heap.size→w7.cell? p=D.cell? p):=hdzz fun p hp=>(World.cell?_of_block (hg7.block p.block (by have:=hb6.size;omega) (fun e=>by have:=(HRD.out.lt _ e.symm).1;omega))).trans (hb6.cell (by omega));have HR7:=hdzz hr7;clear hr7 hg7 hb6 e0 e1 e2 e3;refine qar rfl rfl (fun K hK=>?_);go_wp2_with fail
    rw[←hW6];refine⟨⟨fun _=>HS6.out,trivial⟩,?_⟩;clear hW6;refine qar rfl rfl (fun K hK=>?_);refine qdh _ _ rfl rfl rfl (fun ty=>hap ty) ?_;refine hK _ _ ⟨⟨fun _=>HS7.out,trivial⟩,?_⟩;clear hK K hap;refine stkz (.slice A7 (its.length+1) c7) rfl rfl rfl (fun _ _ _ h=>h) HS7.out (fun Y hY=>by
      (try simp only[Act.put]);go_simp) ?_
    refine stkz (.slice Bt m2 (d1 - 1)) rfl rfl rfl (fun _ _ _ h=>h) HS7.out (fun Y hY=>by
      (try simp only[Act.put]);go_simp) ?_
    refine qat ?_;simp only[Act.put,fsa,fsb,fsc,fsd,fse,fsf];go_wp2_with fail
    go_roundw
    case rel=>exact⟨x::ra,rb,its++[(y,Ay,cy)],some ⟨ab,ao,none⟩,Bt,c1,d1 - 1,n2+1,m2,rfl,rfl,HLAw.out,HLBt.out,HXS.out w7 HS7.out,HTB.out w7 HS7.out,HR7.out,HEB.out,HB7.out⟩
    case measure=>simp[slLen]
   ·have HEQ:=hdzz (HMEQ.out (by omega));clear p0 p1 p2 p3 q0 q1 q2 q3;go_wp2_with fail
    refine qae (fun _=>True) (fun _=>True) [] (.held 0 (.held 1 (.held 2 (.held 3 (.held 4 (.held 5 .nil)))))) mixed (by kernel_rfl) ?_;refine stkz (.slice (some ⟨ab,ao,none⟩) (n2+1) c1) rfl rfl rfl (fun _ _ _ h=>h) trivial (fun Y hY=>by
      (try simp only[Act.put]);go_simp) ?_
    refine stkz (.slice At n2 (c1 - 1)) rfl rfl rfl (fun _ _ _ h=>h) trivial (fun Y hY=>by
      (try simp only[Act.put]);go_simp) ?_
    refine stkz (.slice (some ⟨bb,bo,none⟩) (m2+1) d1) rfl rfl rfl (fun _ _ _ h=>h) trivial (fun Y hY=>by
      (try simp only[Act.put]);go_simp) ?_
    refine stkz (.slice Bt m2 (d1 - 1)) rfl rfl rfl (fun _ _ _ h=>h) trivial (fun Y hY=>by
      (try simp only[Act.put]);go_simp) ?_
    refine stkz (.slice At n2 (c1 - 1)) rfl rfl rfl (fun _ _ _ h=>h) trivial (fun Y hY=>by
      (try simp only[Act.put]);go_simp) ?_
    refine stkz (.slice Bt m2 (d1 - 1)) rfl rfl rfl (fun _ _ _ h=>h) trivial (fun Y hY=>by
      (try simp only[Act.put]);go_simp) ?_
    refine qat ?_;simp only[Act.put,fsa,fsb,fsc,fsd,fse,fsf];go_wp2_with fail
    go_roundw
    case rel=>exact⟨ra,rb,its,At,Bt,c1 - 1,d1 - 1,n2,m2,rfl,rfl,HLAt.out,HLBt.out,HTA.out _ (fun _ _=>rfl),HTB.out _ (fun _ _=>rfl),HR3.out.below (Below.refl _ _).drew,HEQ.out,HB3.out.drew⟩
    case measure=>simp[slLen];omega
theorem qm2 (n:Nat):(madeCells (Value.agg #[.int .i64 0,.string ⟨#[]⟩,.int .i64 0,.slice none 0 0]).cells (n*4)).toList=itCells (List.replicate n ((Tm.mk 0 ⟨#[]⟩ 0 [],none,0):It)):=by
 have hz:(Value.agg #[.int .i64 0,.string ⟨#[]⟩,.int .i64 0,.slice none 0 0]).cells=#[.int .i64 0,.string ⟨#[]⟩,.int .i64 0,.slice none 0 0]:=rfl;rw[hz];refine List.ext_getElem? fun j=>?_;by_cases hj:j<n*4
 ·obtain⟨i,r,hr,rfl⟩:∃i r,r<4∧j=i*4+r:=⟨j / 4,j % 4,Nat.mod_lt _ (by decide),by omega⟩;have g:=qc3 (List.replicate n ((Tm.mk 0 ⟨#[]⟩ 0 [],none,0):It)) i (by rw[List.length_replicate];omega);simp only[List.getElem_replicate]at g;obtain⟨g0,g1,g2,g3⟩:=g;have e:∀z:Array Value,z.size=4→(madeCells z (n*4)).toList[i*4+r]?=some (z[r]!):=fun z hz=>by
   have:(i*4+r) % 4=r:=by omega
   simp[madeCells,hz,hj,this]
  rw[e _ rfl]
  match r,hr with
  | 0,_=>exact g0.symm
  | 1,_=>exact g1.symm
  | 2,_=>exact g2.symm
  | 3,_=>exact g3.symm
 ·rw[List.getElem?_eq_none (by simp[madeCells];omega),List.getElem?_eq_none (by rw[qa8,List.length_replicate];omega)]
theorem qp9 (w:World) (n:Nat) (hn:n≤1000000):∃w',(∀(ops:Array Oper) (rest:List Oper) (o:Oper) (a:Act) (Q:Exit→Act→World→Prop) (l c:Operand),o.guard=none→o.op=Op.makeSlice 22 l c→a.eval l=.int .i64 n→a.eval c=.int .i64 n→wpList Tryz.prog ops Q rest (a.put o.dst (.slice (some ⟨w.heap.size,0,none⟩) n n)) w'→wpList Tryz.prog ops Q (o::rest) a w)∧
  RowT w' w.heap.size (fun b=>w.heap.size<b) (.slice (some ⟨w.heap.size,0,none⟩) n n) (List.replicate n ((Tm.mk 0 ⟨#[]⟩ 0 [],none,0):It))∧Below w.heap.size w w'∧w.heap.size<w'.heap.size:=by
 obtain⟨i0,hi0,hz0,hz1,hz2⟩:=info_parts qcj;obtain⟨w',hrun,r1,r2⟩:=run_make_full (P:=Tryz.prog) w w.heap.size 22 24 i0 _ 4 Tryz.underlying22 hi0 hz0 hz1 .i64 .i64 n (by rw[hz2];omega) (by unfold maxLen;omega) (Nat.le_refl _);refine⟨w',fun ops rest o a Q l c hg hop hl hc h=>?_,⟨by rw[List.length_replicate,←qm2];exact r1,fun x hx=>?_⟩,(Below.refl w.heap.size w).grown r2 (Nat.le_refl _) (fun j e=>by cases e),(r1.lt _ rfl).2⟩
 ·refine wpList_plain hg fun K hK=>?_;unfold Oper.wp;simp[execOp,hop,hl,hc,hrun,Result.andThen];exact hK _ _ h
 ·obtain rfl:=List.eq_of_mem_replicate hx;rw[qa3];exact⟨by decide,Nat.le_refl _,Nat.zero_le _,.inl rfl⟩
theorem itCells_setK:∀(its:List It) (i:Nat) (h:i<its.length) (A:Option Addr) (c:Nat),(itCells its).set (i*4+3) (.slice A its[i].1.kids.length c)=itCells (its.set i (its[i].1,A,c))
 | [],_,h,_,_=>by simp at h
 | x::r,0,_,A,c=>by simp[itCells,Tm.cells]
 | x::r,i+1,h,A,c=>by
  have g:=itCells_setK r i (by simpa using h) A c;rw[show(i+1)*4+3=(i*4+3)+1+1+1+1 by omega];simp only[itCells,Tm.cells,List.cons_append,List.nil_append,List.set_cons_succ,List.getElem_cons_succ,g]
theorem qlt {w:World} {base:Nat} {F:Nat→Prop} {g cap n:Nat} {its:List It} (h:RowT w base F (.slice (some ⟨g,0,none⟩) n cap) its) (hn:n=its.length) (i:Nat) (hi:i<its.length) (A:Option Addr) (c:Nat)
  (hX:RepP w (fun b=>F b∧b<w.heap.size∧g≠b) its[i].1 A c):RowT (w.setCell ⟨g,i*4+3,none⟩ (.slice A its[i].1.kids.length c)) base F (.slice (some ⟨g,0,none⟩) n cap) (its.set i (its[i].1,A,c)):=by
 subst hn;have hown:=own_set h.own (i*4+3) (.slice A its[i].1.kids.length c);rw[itCells_setK its i hi A c]at hown;refine⟨by rw[List.length_set];exact hown,fun x hx=>?_⟩;have key:RepP w (fun b=>F b∧b<w.heap.size∧g≠b) x.1 x.2.1 x.2.2:=by
  rcases List.mem_or_eq_of_mem_set hx with hx|rfl
  ·exact RepP.mono (fun b ⟨h1,h2,h3⟩=>⟨h1,h2,fun e=>h3 (by rw[e];rfl)⟩) (fun _ _=>rfl) _ _ _ (h.reps x hx)
  ·exact hX
 refine RepP.mono ?_ ?_ _ _ _ key
 ·rintro b ⟨h1,h2,h3⟩;exact⟨h1,by simpa[World.setCell]using h2,fun e=>h3 (by injection e)⟩
 ·rintro p ⟨h1,h2,h3⟩;have hne:∀o,(⟨g,o,none⟩:Addr)≠p:=fun o e=>h3 (by rw[←e]);rw[World.cell?_setCell_other _ _ _ _ (hne _)]
def OwnL (l:List Tm) (w:World) (e:Ending) (w':World):Prop:=
 ∃A c,e=.returned (.slice A l.length c)∧RepS w' (fun b=>w.heap.size≤b∧b<w'.heap.size) l A c∧Below w.heap.size w w'
theorem set_take {α:Type}:∀(a:List α) (k:Nat) (x:α),k<a.length→(a.set k x).take (k+1)=a.take k++[x]
 | [],_,_,h=>by simp at h
 | _::_,0,_,_=>rfl
 | y::a,k+1,x,h=>by simp[set_take a k x (by simpa using h)]
structure OwnR (w:World) (l:List Tm) (k:Nat) (jts:List It) (wr:World):Prop where
 row:RowT wr w.heap.size (fun b=>w.heap.size<b) (.slice (some ⟨w.heap.size,0,none⟩) l.length l.length) jts
 len:jts.length=l.length
 eq:(jts.map (·.1)).take k=l.take k
 bel:Below w.heap.size w wr
theorem OwnR.lt {w:World} {l:List Tm} {k:Nat} {jts:List It} {wr:World} (h:OwnR w l k jts wr):w.heap.size<wr.heap.size:=(h.row.lt _ rfl).2
theorem xown_any (n:Nat):∀(l:List Tm) (A:Option Addr) (c:Nat) (w:World),Tm.sizes l<n→n≤1000000→RepS w (fun b=>b<w.heap.size) l A c→
  Calls Tryz.prog 52 #[.slice A l.length c] w (OwnL l w):=by
 induction n with
 | zero=>intro l _ _ _ h;omega
 | succ n ih=>
  intro l A c w hn hb hrep;have hll:=Tm.length_le_sizes l;obtain⟨w1,hmk,hrow1,hb1,hs1⟩:=qp9 w l.length (by omega);have HR1:Hid (OwnR w l 0 (List.replicate l.length ((Tm.mk 0 ⟨#[]⟩ 0 [],none,0):It)) w1):=hdzz ⟨hrow1,List.length_replicate,by rw[List.take_zero,List.take_zero],hb1⟩;have HRW:=hdzz hrep;have IH:=hdzz ih;obtain⟨nl,hnl⟩:∃n,n=l.length:=⟨_,rfl⟩;rw[←hnl]at hmk hll ⊢;have HNL:=hdzz hnl;clear hrow1 hb1 hrep ih hnl;have hlI:(nl:Int)≤1000000:=by omega
  go_enter Tryz.func52,Tryz.ntmps52
  go_wp2_with (at_make;refine hmk _ _ _ _ _ _ _ rfl rfl rfl rfl ?_)
  clear hmk;go_loopw [11] (fun i wr=>∃(k:Nat) (jts:List It),k≤nl∧i=.int .i64 k∧Hid (OwnR w l k jts wr)) (fun i _=>nl - (intOf i).toNat)
  case atStart=>exact⟨0,_,Nat.zero_le _,rfl,HR1.out⟩
  case round=>
   clear HR1;obtain⟨k,jts,hk,rfl,HR⟩:=hrel;have i1:(0:Int)≤(k:Int):=Int.natCast_nonneg _;have hsr:=HR.out.lt;by_cases hlt:k<nl
   ·have i2:(k:Int)<(nl:Int):=by omega
    have hkl:k<l.length:=by have:=HNL.out;omega
    obtain⟨bb,off,rfl,hbb,hl⟩:∃bb off,A=some ⟨bb,off,none⟩∧bb<w.heap.size∧RepLP w (fun b=>b<w.heap.size) l bb off:=by
     rcases HRW.out.2.2 with h|h
     ·rw[h]at hkl;simp at hkl
     ·exact h
    obtain⟨A1,c1,p0,p1,p2,p3,p5⟩:=RepLP.get (RepLP.mono (w':=wr) (P:=fun b=>b<w.heap.size) (P':=fun b=>b<w.heap.size) (fun _ h=>h) (fun p (hp:p.block<w.heap.size)=>HR.out.bel.cell hp) _ _ _ hbb hl) k hkl;have hsg:=Tm.sizes_get l k hkl;have HTK:=hdzz (List.take_succ_eq_append_getElem hkl);obtain⟨x,hx⟩:∃x,x=l[k]:=⟨_,rfl⟩;rw[←hx]at p0 p1 p2 p3 p5 hsg HTK;clear hx hl;obtain⟨X,hX⟩:∃X,X=wr.alloc (.cells #[.int .i64 x.kind,.string x.name,.int .i64 x.sort,.slice A1 x.kids.length c1] 24):=⟨_,rfl⟩;have hbX:Below wr.heap.size wr X:=by rw[hX];exact qab (Nat.le_refl _) _
    have hsX:X.heap.size=wr.heap.size+1:=by rw[hX];simp
    have hxX:X.heap[wr.heap.size]?=some (.cells #[.int .i64 x.kind,.string x.name,.int .i64 x.sort,.slice A1 x.kids.length c1] 24 (0,0)):=by rw[hX];exact heap_alloc_new wr _
    obtain⟨x0,x1,x2,x3,xf⟩:=qaa hxX;have hrX:RepT X X.heap.size x A1 c1:=RepP.mono (w:=wr) (fun b (h:b<w.heap.size)=>by omega) (fun p (h:p.block<w.heap.size)=>hbX.cell (by omega)) _ _ _ p5;have RP:=qek x x A1 A1 c1 c1 [] none 0 X (by omega) (by omega) (by simp) hrX hrX (by unfold RepI;simp[maxLen]);have hrp:Tm.repl [] x x=some x:=rfl;rw[hrp]at RP;simp only[Tm.val,List.length_nil]at RP;have RP:=hdzz RP;have HX:=hdzz hX;have HXX:=hdzz hxX;have HBX:=hdzz hbX;have HP5:=hdzz p5;obtain⟨B,hB⟩:∃B,B=wr.heap.size:=⟨_,rfl⟩;rw[←hB]at x0 x1 x2 x3 HXX;have HBE:=hdzz hB;clear hX hbX hxX hrX p5 hB;go_wp2_with fail
    rw[←HX.out,←HBE.out];clear HX p0 p1 p2 p3;go_wp2_with fail
    refine RP.out.mono ?_;clear RP x0 x1 x2 x3 xf;rintro e w5 ⟨hb5,A5,c5,rfl,hrep5⟩;have hs5:=hb5.size;have hrow5:=HR.out.row.below (HBX.out.trans (hb5.mono (by omega)));have hjl:=HR.out.len;have hkn:=HNL.out;have hjk:k<jts.length:=by omega
    obtain⟨g0,g1,g2,g3,gz⟩:=hrow5.slot hjl.symm k hjk;have hrow6:=hrow5.set hjl.symm k hkl (x,A5,c5) (RepP.mono (fun b h=>⟨by omega,h.2,by omega⟩) (fun _ _=>rfl) _ _ _ hrep5);obtain⟨W6,hW6⟩:∃W6,W6=((((w5.setCell ⟨w.heap.size,k*4,none⟩ (.int .i64 x.kind)).setCell ⟨w.heap.size,k*4+1,none⟩ (.string x.name)).setCell ⟨w.heap.size,k*4+2,none⟩ (.int .i64 x.sort)).setCell ⟨w.heap.size,k*4+3,none⟩ (.slice A5 x.kids.length c5)):=⟨_,rfl⟩;rw[←hW6]at hrow6;have hs6:W6.heap.size=w5.heap.size:=by rw[hW6];simp[World.setCell]
    have hblk6:∀q,q≠w.heap.size→W6.heap[q]?=w5.heap[q]?:=fun q hq=>by
     rw[hW6];iterate 4 rw[Below.heap_setCell _ _ _ _ (by show _≠w.heap.size;exact hq)]
    have hbel6:Below w.heap.size w W6:=by
     rw[hW6];iterate 4 refine Below.setCell ?_ (by exact Nat.le_refl _) _
     exact HR.out.bel.trans ((HBX.out.trans (hb5.mono (by omega))).mono (by omega))
    have hBw:B<w5.heap.size∧B≠w.heap.size:=by have:=HBE.out;omega
    have hxx6:=(hblk6 B hBw.2).trans ((hb5.block B (by have:=HBE.out;omega)).trans HXX.out);obtain⟨xk,xn,xs,xl⟩:=x;have hkr:RepS W6 (fun b=>b<W6.heap.size) xl A1 c1:=by
     have h:=HP5.out;rw[qa3]at h;exact RepS.mono (w:=wr) (P:=fun b=>b<w.heap.size) (fun b h=>by omega) (fun p h=>World.cell?_of_block ((hblk6 p.block (by omega)).trans ((hb5.block _ (by omega)).trans (HBX.out.block _ (by omega))))) h.2
    have OW:=hdzz (IH.out xl A1 c1 W6 (by rw[Tm.size]at hsg;omega) (by omega) hkr);have HNM:Hid (xn.size≤maxLen):=hdzz (by have h:=HP5.out;rw[qa3]at h;exact h.1);obtain⟨y0,y1,y2,y3,yf⟩:=qaa hxx6;have HR6:=hdzz hrow6;have HXX6:=hdzz hxx6;have HW6:=hdzz hW6;have HB6:=hdzz hbel6;have HJT:Hid (∀A c,((jts.set k (Tm.mk xk xn xs xl,A,c)).map (·.1)).take (k+1)=l.take (k+1)):=hdzz fun A c=>by
     rw[List.map_set,set_take _ _ _ (by simpa using hjk),HR.out.eq,HTK.out]
    obtain⟨x0,x1,x2,x3,xf⟩:=qaa ((hb5.block B (by have:=HBE.out;omega)).trans HXX.out);clear hW6 hrow6 hbel6 hkr hrep5 hb5 hrow5 hblk6 hxx6 HP5;simp only[Tm.val,Tm.kind,Tm.name,Tm.sort,Tm.kids]at HW6 HXX6 x0 x1 x2 x3 y0 y1 y2 y3 ⊢;have hkI:¬(nl≤k):=by omega
    clear hkn;go_wp2_with fail
    rw[←HW6.out];clear HW6 g0 g1 g2 g3 gz x0 x1 x2 x3 xf;go_wp2_with fail
    refine OW.out.mono ?_;clear OW;rintro e w8 ⟨A8,c8,rfl,hrep8,hb8⟩;have hs8:=hb8.size;have hrow8:=HR6.out.below hb8;have hjl2:(jts.set k (Tm.mk xk xn xs xl,A5,c5)).length=l.length:=by rw[List.length_set];omega
    obtain⟨g0,g1,g2,g3,gz⟩:=hrow8.slot hjl2.symm k (by omega);have hgk:(jts.set k (Tm.mk xk xn xs xl,A5,c5))[k]'(by omega)=(Tm.mk xk xn xs xl,A5,c5):=by simp
    rw[hgk]at g0 g1 g2 g3;have hSK:∀(A9:Option Addr) (c9:Nat) (Z:World),RowT Z w.heap.size (fun b=>w.heap.size<b) (.slice (some ⟨w.heap.size,0,none⟩) l.length l.length) (jts.set k (Tm.mk xk xn xs xl,A5,c5))→RepP Z (fun b=>w.heap.size<b∧b<Z.heap.size∧w.heap.size≠b) (Tm.mk xk xn xs xl) A9 c9→
      RowT (Z.setCell ⟨w.heap.size,k*4+3,none⟩ (.slice A9 xl.length c9)) w.heap.size (fun b=>w.heap.size<b) (.slice (some ⟨w.heap.size,0,none⟩) l.length l.length) (jts.set k (Tm.mk xk xn xs xl,A9,c9)):=fun A9 c9 Z hZ hp=>by
     have h:=qlt hZ hjl2.symm k (by omega) A9 c9 (by rw[hgk];exact hp);rw[hgk]at h;rw[List.set_set]at h;exact h
    have hp8:RepP w8 (fun b=>w.heap.size<b∧b<w8.heap.size∧w.heap.size≠b) (Tm.mk xk xn xs xl) A8 c8:=by
     rw[qa3];exact⟨HNM.out,RepS.mono (fun b h=>by omega) (fun _ _=>rfl) hrep8⟩
    obtain⟨W9,hW9⟩:∃W9,W9=w8.setCell ⟨w.heap.size,k*4+3,none⟩ (.slice A8 xl.length c8):=⟨_,rfl⟩;have hrow9:RowT W9 w.heap.size (fun b=>w.heap.size<b) (.slice (some ⟨w.heap.size,0,none⟩) l.length l.length) (jts.set k (Tm.mk xk xn xs xl,A8,c8)):=by rw[hW9];exact hSK A8 c8 w8 hrow8 hp8
    have HB9:Hid (Below w.heap.size w W9):=hdzz (by rw[hW9];exact(HB6.out.trans (hb8.mono (by omega))).setCell (Nat.le_refl _) _);have hbx9:W9.heap[B]?=some (.cells #[.int .i64 xk,.string xn,.int .i64 xs,.slice A1 xl.length c1] 24 (0,0)):=by rw[hW9,Below.heap_setCell _ _ _ _ (by show _≠w.heap.size;exact hBw.2)];exact(hb8.block B (by omega)).trans HXX6.out
    have hjl9:(jts.set k (Tm.mk xk xn xs xl,A8,c8)).length=l.length:=by rw[List.length_set];omega
    have HW9:=hdzz hW9;have HR9:=hdzz hrow9;obtain⟨y0,y1,y2,y3,yf⟩:=qaa ((hb8.block B (by omega)).trans HXX6.out);obtain⟨v0,v1,v2,v3,vf⟩:=qaa hbx9;obtain⟨e0,e1,e2,e3,ez⟩:=hrow9.slot hjl9.symm k (by omega);have hge:(jts.set k (Tm.mk xk xn xs xl,A8,c8))[k]'(by omega)=(Tm.mk xk xn xs xl,A8,c8):=by simp
    rw[hge]at e0 e1 e2 e3;have HLR:Hid (xl.length=0→RowT (W9.setCell ⟨w.heap.size,k*4+3,none⟩ (.slice none 0 0)) w.heap.size (fun b=>w.heap.size<b) (.slice (some ⟨w.heap.size,0,none⟩) l.length l.length) (jts.set k (Tm.mk xk xn xs xl,none,0))):=hdzz fun h0=>by
     have h:=qlt hrow9 hjl9.symm k (by omega) none 0 (by
      rw[hge,qa3];exact⟨HNM.out,by omega,Nat.zero_le _,.inl (List.eq_nil_of_length_eq_zero h0)⟩)
     rw[hge,List.set_set]at h;have e:(Tm.mk xk xn xs xl).kids.length=0:=h0;rw[e]at h;exact h
    clear hW9 hrow9 hrow8 hp8 hSK hrep8 hb8 hbx9 hge hgk hjl2;simp only[Tm.kind,Tm.name,Tm.sort,Tm.kids]at g0 g1 g2 g3 e0 e1 e2 e3;by_cases hz:xl.length=0
    ·have hzI:((xl.length:Int)==0)=true:=by rw[hz];rfl
     have hrz:=HLR.out hz;have HRZ:=hdzz hrz;clear hz hrz;go_wp2_with fail
     rw[←HW9.out];go_roundw
     case rel=>exact⟨k+1,jts.set k (Tm.mk xk xn xs xl,none,0),by omega,by go_num,⟨HRZ.out,by rw[List.length_set];omega,HJT.out none 0,HB9.out.setCell (Nat.le_refl _) _⟩⟩
     case measure=>simp[intOf];omega
    ·have hzI:((xl.length:Int)==0)=false:=by rw[beq_eq_false_iff_ne];omega
     go_wp2_with fail
     rw[←HW9.out];go_roundw
     case rel=>exact⟨k+1,jts.set k (Tm.mk xk xn xs xl,A8,c8),by omega,by go_num,⟨HR9.out,hjl9,HJT.out A8 c8,HB9.out⟩⟩
     case measure=>simp[intOf];omega
   ·obtain rfl:k=nl:=by omega
    have hm:=HR.out.eq;have hkn:=HNL.out;rw[List.take_of_length_le (l:=l) (by rw[hkn];exact Nat.le_refl _),List.take_of_length_le (by rw[List.length_map,HR.out.len,hkn];exact Nat.le_refl _)]at hm;obtain⟨Av,cv,hv,hS⟩:=HR.out.row.toS (P:=fun b=>w.heap.size≤b∧b<wr.heap.size) (fun b h h'=>⟨by omega,h'⟩) (fun b h h'=>⟨h,h'⟩);rw[hm]at hS;injection hv with e1 e2 e3;subst e1 e3;have HOK:Hid (OwnL l w (.returned (.slice (some ⟨w.heap.size,0,none⟩) l.length l.length)) wr):=hdzz ⟨_,_,rfl,hS,HR.out.bel⟩;rw[←hkn]at HOK;clear hS e2 hm hkn;go_wp2_with fail
    go_ret
    exact HOK.out
mutual
theorem qh4:∀(t:Tm),∀p∈t.sumd,p.size≤t.size
 | .mk k n s l,p,hp=>by
  rw[Tm.sumd]at hp
  split at hp
  ·cases hp
  ·split at hp
   ·rw[Tm.size];have:=qi8 l [] (Tm.sizes l) (by simp) (Nat.le_refl _) p hp;omega
   ·rw[List.mem_singleton.1 hp];exact Nat.le_refl _
theorem qi8:∀(l a:List Tm) (M:Nat),(∀p∈a,p.size≤M)→Tm.sizes l≤M→∀p∈Tm.sumds l a,p.size≤M
 | [],_,_,ha,_,p,hp=>ha p hp
 | t::r,a,M,ha,hM,p,hp=>by
  rw[Tm.sizes]at hM;refine qi8 r _ M (fun q hq=>?_) (by omega) p hp;rcases (qd7 t.sumd a q (qct (qc7 t))).1 hq with⟨h1,-⟩|⟨-,h2⟩
  ·exact ha q h1
  ·have:=qh4 t q h2;omega
end
theorem qi9 (l a:List Tm) {k:Nat} (hk:k<l.length):Tm.sumds (l.drop k) a=Tm.sumds (l.drop (k+1)) (qfw a l[k].sumd):=by rw[List.drop_eq_getElem_cons hk,Tm.sumds]
def SumB (M:Nat) (a:List Tm):Prop:=Asc a∧a.length≤M∧∀p∈a,p.size≤40000
theorem SumB.nil:SumB 0 []:=⟨List.Pairwise.nil,Nat.le_refl _,by simp⟩
theorem SumB.plus {M:Nat} {a:List Tm} (h:SumB M a) {t:Tm} (ht:t.size≤40000):SumB (M+t.size) (qfw a t.sumd):=by
 refine⟨qht _ _ h.1,?_,fun p hp=>?_⟩
 ·have h1:=qki t.sumd a;have h2:=qkd t;have:=h.2.1;omega
 ·rcases (qd7 t.sumd a p (qct (qc7 t))).1 hp with⟨h1,-⟩|⟨-,h2⟩
  ·exact h.2.2 p h1
  ·have:=qh4 t p h2;omega
theorem SumB.sumd {t:Tm} (ht:t.size≤40000):SumB t.size t.sumd:=⟨qc7 t,qkd t,fun p hp=>by have:=qh4 t p hp;omega⟩
theorem qjl {a:List Tm} {t:Tm} {M:Nat} (ha:SumB M a) (hM:M≤40000) (ht:t.size≤40000) (A B:Option Addr) (c d:Nat) (w:World) (hra:RepS w (fun b=>b<w.heap.size) a A c) (hrb:RepS w (fun b=>b<w.heap.size) t.sumd B d) :
  Calls Tryz.prog 94 #[.slice A a.length c,.slice B t.sumd.length d] w (OkL (qfw a t.sumd) w):=by
 have hs:=SumB.sumd ht;have h:=xplus_any a t.sumd A B c d w (by have:=ha.2.1;omega) (by have:=hs.2.1;omega) (fun p hp=>by have:=ha.2.2 p hp;omega) (fun p hp=>by have:=hs.2.2 p hp;omega) hra hrb;rw[mrg_plus ha.1 hs.1]at h;exact h
theorem qj5 (n:Nat):∀(t:Tm) (A:Option Addr) (c:Nat) (w:World),t.size≤n→n≤40000→RepT w w.heap.size t A c→Calls Tryz.prog 55 #[t.val A c] w (OkL t.sumd w):=by
 induction n with
 | zero=>intro t _ _ _ h;have:=t.size_pos;omega
 | succ n ih=>
  intro t A c w hn hb hrep;obtain⟨V,hV⟩:∃V,V=w.alloc (qal t A c):=⟨_,rfl⟩;have hbV:Below w.heap.size w V:=by rw[hV];exact qab (Nat.le_refl _) _
  have hsV:V.heap.size=w.heap.size+1:=by rw[hV];simp
  have hbx:V.heap[w.heap.size]?=some (qal t A c):=by rw[hV];exact heap_alloc_new _ _
  have hrV:=hrep.go hbV (show w.heap.size≤V.heap.size by omega);obtain⟨tk,tn,ts,l⟩:=t;obtain⟨res,hres⟩:∃r,r=(Tm.mk tk tn ts l).sumd:=⟨_,rfl⟩;rw[←hres];rw[Tm.sumd]at hres;have N1:=qaz (n:=tn) (c:=qdv) (L:=[122,101,114,111]) rfl;have N2:=qaz (n:=tn) (c:=nXor) (L:=[120,111,114]) rfl;simp only[qal,Tm.kind,Tm.name,Tm.sort,Tm.kids]at hV hbx;simp only[Tm.val,Tm.kind,Tm.name,Tm.sort,Tm.kids];obtain⟨r0,r1,r2,r3,rf⟩:=qaa hbx;have hcase:(((tk==3)=false∨((tk==3)=true∧(tn.toList==[122,101,114,111])=true∧((l.length:Int)==0)=false∧(tn.toList==[120,111,114])=false)∨((tk==3)=true∧(tn.toList==[122,101,114,111])=false∧(tn.toList==[120,111,114])=false))∧res=[.mk tk tn ts l])∨
    ((tk==3)=true∧(tn.toList==[122,101,114,111])=true∧((l.length:Int)==0)=true∧res=[])∨((tk==3)=true∧(tn.toList==[122,101,114,111])=false∧(tn.toList==[120,111,114])=true∧res=Tm.sumds l []):=by
   by_cases hk:tk=3
   ·have hk':(tk==3)=true:=by rw[hk];rfl
    by_cases hz:tn=qdv
    ·have h1:=N1.1 hz;have h2:(tn.toList==[120,111,114])=false:=by
      rw[beq_eq_false_iff_ne];rw[beq_iff_eq]at h1;rw[h1];decide
     have hx:tn≠nXor:=fun e=>by rw[e]at hz;exact absurd hz (by decide)
     by_cases hl:l=[]
     ·exact .inr (.inl ⟨hk',h1,by rw[hl];rfl,by rw[hres,if_pos ⟨hk,hz,hl⟩]⟩)
     ·refine .inl ⟨.inr (.inl ⟨hk',h1,?_,h2⟩),by rw[hres,if_neg (fun e=>hl e.2.2),if_neg (fun e=>hx e.2)]⟩;rw[beq_eq_false_iff_ne];have:=List.length_pos_iff.2 hl;omega
    ·have h1:(tn.toList==[122,101,114,111])=false:=by rw[←Bool.not_eq_true];exact fun e=>hz (N1.2 e)
     by_cases hx:tn=nXor
     ·exact .inr (.inr ⟨hk',h1,N2.1 hx,by rw[hres,if_neg (fun e=>hz e.2.1),if_pos ⟨hk,hx⟩]⟩)
     ·have h2:(tn.toList==[120,111,114])=false:=by rw[←Bool.not_eq_true];exact fun e=>hx (N2.2 e)
      exact .inl ⟨.inr (.inr ⟨hk',h1,h2⟩),by rw[hres,if_neg (fun e=>hz e.2.1),if_neg (fun e=>hx e.2)]⟩
   ·exact .inl ⟨.inl (by rw[beq_eq_false_iff_ne];exact hk),by rw[hres,if_neg (fun e=>hk e.1),if_neg (fun e=>hk e.1)]⟩
  clear hres N1 N2;have HRV:=hdzz hrV;have HBX:=hdzz hbx;have HBV:=hdzz hbV;have hlen:(l.length:Int)≤1000000:=by have:=Tm.length_le_sizes l;rw[Tm.size]at hn;omega
  rcases hcase with⟨hc,hr⟩|⟨q1,q2,q3,hr⟩|⟨q1,q2,q3,hr⟩
  ·subst hr;obtain⟨W2,hW2⟩:∃W,W=V.alloc (.cells #[.int .i64 tk,.string tn,.int .i64 ts,.slice A l.length c] 24):=⟨_,rfl⟩;have HOK:Hid (OkL [.mk tk tn ts l] w (.returned (.slice (some ⟨V.heap.size,0,none⟩) 1 1)) W2):=hdzz (by
    have hb2:Below V.heap.size V W2:=by rw[hW2];exact qab (Nat.le_refl _) _
    have hs2:W2.heap.size=V.heap.size+1:=by rw[hW2];simp
    have hx2:W2.heap[V.heap.size]?=some (.cells (itCells [((Tm.mk tk tn ts l,A,c):It)]).toArray 24 (0,0)):=by rw[hW2];exact heap_alloc_new _ _
    refine⟨_,1,rfl,⟨Nat.le_refl _,by unfold maxLen;omega,.inr ⟨V.heap.size,0,rfl,by omega,?_⟩⟩,HBV.out.trans (hb2.mono (by omega))⟩;refine RepLP.of_its [(Tm.mk tk tn ts l,A,c)] _ 0 (fun j u hj=>?_) (fun x hx=>?_)
    ·rw[Nat.zero_add];unfold World.cell?;rw[hx2];simpa using hj
    ·rw[List.mem_singleton]at hx;subst hx;exact RepP.mono (fun b h=>by have:b<V.heap.size:=h;omega) (fun p h=>hb2.cell h) _ _ _ HRV.out)
   have HV:=hdzz hV;have HW2:=hdzz hW2;clear hV hW2 hbx hbV hrV hrep ih;rcases hc with q1|⟨q1,q2,q3,q4⟩|⟨q1,q2,q3⟩
   all_goals
    go_enter Tryz.func55,Tryz.ntmps55
    go_wp2_with fail
    rw[←HV.out];go_wp2_with fail
    go_ret
    rw[←HW2.out];have h:=HOK.out;rw[hsV]at h;exact h
  ·subst hr;have HV:=hdzz hV;clear hV hbx hbV hrV hrep ih;go_enter Tryz.func55,Tryz.ntmps55
   go_wp2_with fail
   rw[←HV.out];go_wp2_with fail
   go_ret
   exact⟨none,0,rfl,⟨Nat.le_refl _,Nat.zero_le _,.inl rfl⟩,HBV.out⟩
  ·have HRES:=hdzz hr;have HV:=hdzz hV;have IH:=hdzz ih;rw[Tm.size]at hn;clear hr hV hbx hbV hrV hrep ih;go_enter Tryz.func55,Tryz.ntmps55
   go_wp2_with fail
   rw[←HV.out];go_wp2_with fail
   clear r0 r1 r2 r3 rf;go_loopw [3,33] (fun u3 i wr=>∃(k:Nat) (a:List Tm) (Aa:Option Addr) (ca na:Nat),k≤l.length∧i=.int .i64 k∧u3=.slice Aa na ca∧Hid (na=a.length)∧Hid (SumB (Tm.sizes (l.take k)) a)∧Hid (RepS wr (fun b=>b<wr.heap.size) a Aa ca)∧Hid (Tm.sumds (l.drop k) a=res)∧Hid (Below V.heap.size V wr)) (fun _ i _=>l.length - (intOf i).toNat)
   case atStart=>exact⟨0,[],none,0,0,Nat.zero_le _,rfl,rfl,rfl,SumB.nil,⟨Nat.le_refl _,Nat.zero_le _,.inl rfl⟩,HRES.out.symm,Below.refl _ _⟩
   case round=>
    obtain⟨k,a,Aa,ca,na,hk,rfl,rfl,HNA,HSB,HRA,HCO,HB⟩:=hrel;have i1:(0:Int)≤(k:Int):=Int.natCast_nonneg _;have hsr:=HB.out.size;by_cases hlt:k<l.length
    ·have i2:(k:Int)<(l.length:Int):=by omega
     obtain⟨b,off,rfl,hbB,hl⟩:∃b off,A=some ⟨b,off,none⟩∧b<V.heap.size∧RepLP V (fun b=>b<V.heap.size) l b off:=by
      have h:=HRV.out;rw[qbe]at h;rcases h.2.2.2 with h|h
      ·rw[h]at hlt;simp at hlt
      ·exact h
     obtain⟨A',cap',h0,h1,h2,h3,h5⟩:=RepLP.get (RepLP.mono (w':=wr) (P:=fun b=>b<V.heap.size) (P':=fun b=>b<V.heap.size) (fun _ h=>h) (fun p (hp:p.block<V.heap.size)=>HB.out.cell hp) _ _ _ hbB hl) k hlt;have hsg:=Tm.sizes_get l k hlt;have hst:=Tm.sizes_take_succ l k hlt;have hstl:=Tm.sizes_take_le l (k+1);have hco:=HCO.out;rw[qi9 l a hlt]at hco;have hnx:=HSB.out.plus (t:=l[k]) (by omega);rw[←hst]at hnx;obtain⟨x,hx⟩:∃x,x=l[k]:=⟨_,rfl⟩;rw[←hx]at h0 h1 h2 h3 h5 hco hnx hsg hst;clear hx hl;have HCN:=hdzz hco;have HNX:=hdzz hnx;obtain⟨X,hX⟩:∃X,X=wr.alloc (.cells #[.int .i64 x.kind,.string x.name,.int .i64 x.sort,.slice A' x.kids.length cap'] 24):=⟨_,rfl⟩;have hbX:Below wr.heap.size wr X:=by rw[hX];exact qab (Nat.le_refl _) _
     have hxX:X.heap[wr.heap.size]?=some (.cells #[.int .i64 x.kind,.string x.name,.int .i64 x.sort,.slice A' x.kids.length cap'] 24 (0,0)):=by rw[hX];exact heap_alloc_new wr _
     obtain⟨x0,x1,x2,x3,xf⟩:=qaa hxX;have hszX:=hbX.size;have CON:=IH.out x A' cap' X (by omega) (by omega) (RepP.mono (w:=wr) (fun b (h:b<V.heap.size)=>by omega) (fun p (h:p.block<V.heap.size)=>hbX.cell (by omega)) _ _ _ h5);have PL:Hid (∀(Z:World) (B:Option Addr) (d:Nat),Below X.heap.size X Z→RepS Z (fun b=>b<Z.heap.size) x.sumd B d→Calls Tryz.prog 94 #[.slice Aa a.length ca,.slice B x.sumd.length d] Z (OkL (qfw a x.sumd) Z)):=hdzz fun Z B d hZ hr=>
      qjl HSB.out (by omega) (by omega) Aa B ca d Z (RepS.mono (w:=wr) (P:=fun b=>b<wr.heap.size) (fun b h=>by have:=hZ.size;omega) (fun p h=>(hZ.cell (by omega)).trans (hbX.cell h)) HRA.out) hr
     rw[←HNA.out]at PL;simp only[Tm.val]at CON;have CON:=hdzz CON;have HX:=hdzz hX;have HBX2:=hdzz (HB.out.trans (hbX.mono hsr));obtain⟨sl,hsl⟩:∃s,s=x.sumd:=⟨_,rfl⟩;rw[←hsl]at CON PL HCN HNX;clear hX hbX hxX hco hnx hsg hst hstl h5 hsl HRA HSB HNA;go_wp2_with fail
     rw[←HX.out];clear HX h0 h1 h2 h3;go_wp2_with fail
     refine CON.out.mono ?_;clear CON x0 x1 x2 x3 xf;rintro e w2 ⟨A2,c2,rfl,hr2,hb2⟩;have PL:=hdzz (PL.out w2 A2 c2 hb2 hr2);have HB2:=hdzz (HBX2.out.trans (hb2.mono (by omega)));have HS2:=hdzz hb2.size;clear hr2 hb2;go_wp2_with fail
     refine PL.out.mono ?_;clear PL;rintro e w3 ⟨A3,c3,rfl,hr3,hb3⟩;have HR3:=hdzz hr3;have HB3:=hdzz (HB2.out.trans (hb3.mono (by have:=HS2.out;omega)));clear hr3 hb3;go_wp2_with fail
     go_roundw
     case rel=>exact⟨k+1,_,A3,c3,_,by omega,by go_num,rfl,rfl,HNX.out,HR3.out,HCN.out,HB3.out⟩
     case measure=>simp[intOf];omega
    ·obtain rfl:k=l.length:=by omega
     have hco:=HCO.out;rw[List.drop_length,Tm.sumds]at hco;have HFIN:Hid (OkL res w (.returned (.slice Aa na ca)) wr):=hdzz ⟨Aa,ca,by rw[HNA.out,hco],by rw[←hco];exact HRA.out,HBV.out.trans (HB.out.mono (by omega))⟩;clear hco HCO HRA;go_wp2_with fail
     go_ret
     exact HFIN.out
theorem qpa (l:List Tm) (A:Option Addr) (c:Nat) (w:World) (hlen:l.length≤200) (hv:∀t∈l,t.valid=0) (hrep:RepS w (fun b=>b<w.heap.size) l A c) :
  Calls Tryz.prog 44 #[.slice A l.length c,.slice none 0 0] w fun e w'=>e=.returned (.int .i64 0)∧Below w.heap.size w w':=by
 obtain⟨X,hX⟩:∃X,X=w.alloc (.cells #[.slice A l.length c,.slice none 0 0] 22):=⟨_,rfl⟩;have hbX:Below w.heap.size w X:=by rw[hX];exact qab (Nat.le_refl _) _
 have hsX:X.heap.size=w.heap.size+1:=by rw[hX];simp
 have hxX:X.heap[w.heap.size]?=some (.cells #[.slice A l.length c,.slice none 0 0] 22 (0,0)):=by rw[hX];exact heap_alloc_new w _
 have CN:=qqi l [] A none c 0 w.heap.size X (by omega) (by simp) hxX (RepS.mono (fun b (h:b<w.heap.size)=>by omega) (fun p hp=>hbX.cell hp) hrep) ⟨Nat.le_refl _,Nat.zero_le _,.inl rfl⟩;rw[List.append_nil]at CN;obtain⟨nl,hnl⟩:∃n,n=l.length:=⟨_,rfl⟩;rw[←hnl]at hlen ⊢;rw[←hnl]at hX;have HNL:=hdzz hnl;have CN:=hdzz CN;have HX:=hdzz hX;have HBX:=hdzz hbX;have HV:=hdzz hv;clear hX hbX hxX hrep hv hnl;have hlI:¬((200:Int)<(nl:Int)):=by omega
 have hlJ:(nl:Int)≤200:=by omega
 go_enter Tryz.func44,Tryz.ntmps44
 go_wp2_with fail
 rw[←HX.out];clear HX;refine CN.out.mono ?_;clear CN;rintro e w2 ⟨A2,c2,its,rfl,hrow,hm,hb2⟩;have hs2:=hb2.size;obtain⟨A2',c2',hv2,hS2⟩:=hrow.toS (P:=fun b=>b<w2.heap.size) (fun b h _=>by omega) (fun b _ h=>h);injection hv2 with e1 e2 e3;subst e1 e3;rw[hm]at hS2;rw[←HNL.out];have HB2:=hdzz (HBX.out.trans (hb2.mono (by omega)));have HS2:=hdzz hS2;clear hrow hm hb2 hS2 e2 its;go_wp2_with fail
 go_loopw [16] (fun i wr=>∃k:Nat,k≤nl∧i=.int .i64 k∧Hid (Below w2.heap.size w2 wr)) (fun i _=>nl - (intOf i).toNat)
 case atStart=>exact⟨0,Nat.zero_le _,rfl,Below.refl _ _⟩
 case round=>
  obtain⟨k,hk,rfl,HB⟩:=hrel;have i1:(0:Int)≤(k:Int):=Int.natCast_nonneg _;have hsr:=HB.out.size;by_cases hlt:k<nl
  ·have i2:(k:Int)<(nl:Int):=by omega
   have hkl:k<l.length:=by have:=HNL.out;omega
   obtain⟨b,off,rfl,hbB,hl⟩:∃b off,A2=some ⟨b,off,none⟩∧b<w2.heap.size∧RepLP w2 (fun b=>b<w2.heap.size) l b off:=by
    rcases HS2.out.2.2 with h|h
    ·rw[h]at hkl;simp at hkl
    ·exact h
   obtain⟨A',cap',h0,h1,h2,h3,h5⟩:=RepLP.get (RepLP.mono (w':=wr) (P:=fun b=>b<w2.heap.size) (P':=fun b=>b<w2.heap.size) (fun _ h=>h) (fun p (hp:p.block<w2.heap.size)=>HB.out.cell hp) _ _ _ hbB hl) k hkl;have hv0:=HV.out l[k] (List.getElem_mem hkl);obtain⟨x,hx⟩:∃x,x=l[k]:=⟨_,rfl⟩;rw[←hx]at h0 h1 h2 h3 h5 hv0;clear hx hl;have hqs:=(qai hv0).2.1;obtain⟨Y,hY⟩:∃X,X=wr.alloc (.cells #[.int .i64 x.kind,.string x.name,.int .i64 x.sort,.slice A' x.kids.length cap'] 24):=⟨_,rfl⟩;have hbY:Below wr.heap.size wr Y:=by rw[hY];exact qab (Nat.le_refl _) _
   have hxY:Y.heap[wr.heap.size]?=some (.cells #[.int .i64 x.kind,.string x.name,.int .i64 x.sort,.slice A' x.kids.length cap'] 24 (0,0)):=by rw[hY];exact heap_alloc_new wr _
   obtain⟨x0,x1,x2,x3,xf⟩:=qaa hxY;have hsY:=hbY.size;have VA:=qax x A' cap' Y (by omega) (RepP.mono (w:=wr) (fun b (h:b<w2.heap.size)=>by omega) (fun p (h:p.block<w2.heap.size)=>hbY.cell (by omega)) _ _ _ h5);rw[hv0]at VA;simp only[Tm.val]at VA;have VA:=hdzz VA;have HY:=hdzz hY;have HBY:=hdzz (HB.out.trans (hbY.mono hsr));clear hY hbY hxY h5 hv0;go_wp2_with fail
   rw[←HY.out];clear HY h0 h1 h2 h3;go_wp2_with fail
   refine VA.out.mono ?_;clear VA x0 x1 x2 x3 xf;rintro e w3 ⟨rfl,hl3⟩;have HB3:=hdzz (HBY.out.trans (hl3.below.mono (by omega)));clear hl3;go_wp2_with fail
   go_roundw
   case rel=>exact⟨k+1,by omega,by go_num,HB3.out⟩
   case measure=>simp[intOf];omega
  ·obtain rfl:k=nl:=by omega
   go_wp2_with fail
   go_ret
   exact⟨rfl,HB2.out.trans (HB.out.mono (by have:=HB2.out.size;omega))⟩
theorem xorT_two (p q:Tm) (r:List Tm):xorT (p::q::r)=.mk 3 nXor 0 (p::q::r):=rfl
theorem qpb {a:List Tm} (h:(xorT a).size≤400):Tm.sizes a≤400:=by
 rcases a with _|⟨p,_|⟨q,r⟩⟩
 ·rw[Tm.sizes];omega
 ·rw[Tm.sizes,Tm.sizes];exact h
 ·rw[xorT_two,Tm.size]at h;omega
theorem xsum_any (l:List Tm) (A:Option Addr) (c:Nat) (w:World) (hlen:l.length≤200) (hv:∀t∈l,t.valid=0) (hpv:(xorT (Tm.sumds l [])).valid=0) (hsz:Tm.sizes l≤39000) (hrep:RepS w (fun b=>b<w.heap.size) l A c) :
  Calls Tryz.prog 105 #[.slice A l.length c] w (OkT (xorT (Tm.sumds l [])) w):=by
 obtain⟨V,hV⟩:∃V,V=w.alloc (.cells #[.int .i64 0,.string ⟨#[]⟩,.int .i64 0,.slice none 0 0] 24):=⟨_,rfl⟩;have hbV:Below w.heap.size w V:=by rw[hV];exact qab (Nat.le_refl _) _
 have hsV:V.heap.size=w.heap.size+1:=by rw[hV];simp
 have hbx:V.heap[w.heap.size]?=some (.cells #[.int .i64 0,.string ⟨#[]⟩,.int .i64 0,.slice none 0 0] 24 (0,0)):=by rw[hV];exact heap_alloc_new _ _
 have hrV:RepS V (fun b=>b<V.heap.size) l A c:=RepS.mono (fun b (h:b<w.heap.size)=>by omega) (fun p h=>hbV.cell h) hrep;have RI:=hdzz (qpa l A c V hlen hv hrV);obtain⟨nl,hnl⟩:∃n,n=l.length:=⟨_,rfl⟩;rw[←hnl]at hlen RI ⊢;obtain⟨L,hL⟩:∃L,L=Tm.sumds l []:=⟨_,rfl⟩;rw[←hL]at hpv ⊢;have HNL:=hdzz hnl;have HL:=hdzz hL;have HPV:=hdzz hpv;have HRV:=hdzz hrV;have HV:=hdzz hV;have HBX:=hdzz hbx;have HBV:=hdzz hbV;clear hV hbx hbV hrep hrV hv hpv hnl hL;have hlJ:(nl:Int)≤200:=by omega
 go_enter Tryz.func105,Tryz.ntmps105
 go_wp2_with fail
 rw[←HV.out];clear HV;go_wp2_with fail
 refine RI.out.mono ?_;clear RI;rintro e w1 ⟨rfl,hb1⟩;have hs1:=hb1.size;have HB1:=hdzz (HBV.out.trans (hb1.mono (by omega)));have HZ1:=hdzz ((hb1.block _ (by omega)).trans HBX.out);have HR1:=hdzz (RepS.mono (w':=w1) (P':=fun b=>b<V.heap.size) (fun _ h=>h) (fun p h=>hb1.cell h) HRV.out);clear hb1 HBV HBX HRV;go_wp2_with fail
 go_loopw [5,17] (fun u5 i wr=>∃(k:Nat) (a:List Tm) (Aa:Option Addr) (ca na:Nat),k≤nl∧i=.int .i64 k∧u5=.slice Aa na ca∧Hid (na=a.length)∧Hid (SumB (Tm.sizes (l.take k)) a)∧Hid (RepS wr (fun b=>b<wr.heap.size) a Aa ca)∧Hid (Tm.sumds (l.drop k) a=L)∧Hid (Below w1.heap.size w1 wr)) (fun _ i _=>nl - (intOf i).toNat)
 case atStart=>exact⟨0,[],none,0,0,Nat.zero_le _,rfl,rfl,rfl,SumB.nil,⟨Nat.le_refl _,Nat.zero_le _,.inl rfl⟩,HL.out.symm,Below.refl _ _⟩
 case round=>
  obtain⟨k,a,Aa,ca,na,hk,rfl,rfl,HNA,HSB,HRA,HCO,HB⟩:=hrel;have i1:(0:Int)≤(k:Int):=Int.natCast_nonneg _;have hsr:=HB.out.size;by_cases hlt:k<nl
  ·have i2:(k:Int)<(nl:Int):=by omega
   have hkl:k<l.length:=by have:=HNL.out;omega
   obtain⟨b,off,rfl,hbB,hl⟩:∃b off,A=some ⟨b,off,none⟩∧b<V.heap.size∧RepLP w1 (fun b=>b<V.heap.size) l b off:=by
    rcases HR1.out.2.2 with h|h
    ·rw[h]at hkl;simp at hkl
    ·exact h
   obtain⟨A',cap',h0,h1,h2,h3,h5⟩:=RepLP.get (RepLP.mono (w':=wr) (P:=fun b=>b<V.heap.size) (P':=fun b=>b<V.heap.size) (fun _ h=>h) (fun p (hp:p.block<V.heap.size)=>HB.out.cell (by omega)) _ _ _ hbB hl) k hkl;have hsg:=Tm.sizes_get l k hkl;have hst:=Tm.sizes_take_succ l k hkl;have hstl:=Tm.sizes_take_le l (k+1);have hco:=HCO.out;rw[qi9 l a hkl]at hco;have hnx:=HSB.out.plus (t:=l[k]) (by omega);rw[←hst]at hnx;obtain⟨x,hx⟩:∃x,x=l[k]:=⟨_,rfl⟩;rw[←hx]at h0 h1 h2 h3 h5 hco hnx hsg hst;clear hx hl;have HCN:=hdzz hco;have HNX:=hdzz hnx;obtain⟨X,hX⟩:∃X,X=wr.alloc (.cells #[.int .i64 x.kind,.string x.name,.int .i64 x.sort,.slice A' x.kids.length cap'] 24):=⟨_,rfl⟩;have hbX:Below wr.heap.size wr X:=by rw[hX];exact qab (Nat.le_refl _) _
   have hxX:X.heap[wr.heap.size]?=some (.cells #[.int .i64 x.kind,.string x.name,.int .i64 x.sort,.slice A' x.kids.length cap'] 24 (0,0)):=by rw[hX];exact heap_alloc_new wr _
   obtain⟨x0,x1,x2,x3,xf⟩:=qaa hxX;have hszX:=hbX.size;have CON:=qj5 40000 x A' cap' X (by omega) (Nat.le_refl _) (RepP.mono (w:=wr) (fun b (h:b<V.heap.size)=>by omega) (fun p (h:p.block<V.heap.size)=>hbX.cell (by omega)) _ _ _ h5);have PL:Hid (∀(Z:World) (B:Option Addr) (d:Nat),Below X.heap.size X Z→RepS Z (fun b=>b<Z.heap.size) x.sumd B d→Calls Tryz.prog 94 #[.slice Aa a.length ca,.slice B x.sumd.length d] Z (OkL (qfw a x.sumd) Z)):=hdzz fun Z B d hZ hr=>
    qjl HSB.out (by omega) (by omega) Aa B ca d Z (RepS.mono (w:=wr) (P:=fun b=>b<wr.heap.size) (fun b h=>by have:=hZ.size;omega) (fun p h=>(hZ.cell (by omega)).trans (hbX.cell h)) HRA.out) hr
   rw[←HNA.out]at PL;simp only[Tm.val]at CON;have CON:=hdzz CON;have HX:=hdzz hX;have HBX2:=hdzz (HB.out.trans (hbX.mono hsr));obtain⟨sl,hsl⟩:∃s,s=x.sumd:=⟨_,rfl⟩;rw[←hsl]at CON PL HCN HNX;clear hX hbX hxX hco hnx hsg hst hstl h5 hsl HRA HSB HNA;go_wp2_with fail
   rw[←HX.out];clear HX h0 h1 h2 h3;go_wp2_with fail
   refine CON.out.mono ?_;clear CON x0 x1 x2 x3 xf;rintro e w2 ⟨A2,c2,rfl,hr2,hb2⟩;have PL:=hdzz (PL.out w2 A2 c2 hb2 hr2);have HB2:=hdzz (HBX2.out.trans (hb2.mono (by omega)));have HS2:=hdzz hb2.size;clear hr2 hb2;go_wp2_with fail
   refine PL.out.mono ?_;clear PL;rintro e w3 ⟨A3,c3,rfl,hr3,hb3⟩;have HR3:=hdzz hr3;have HB3:=hdzz (HB2.out.trans (hb3.mono (by have:=HS2.out;omega)));clear hr3 hb3;go_wp2_with fail
   go_roundw
   case rel=>exact⟨k+1,_,A3,c3,_,by omega,by go_num,rfl,rfl,HNX.out,HR3.out,HCN.out,HB3.out⟩
   case measure=>simp[intOf];omega
  ·obtain rfl:k=nl:=by omega
   have hco:=HCO.out;rw[HNL.out,List.drop_length,Tm.sumds]at hco;subst hco;have hsb:=HSB.out;have hL8:=qpb (qai HPV.out).2.1;have OW:=xown_any 1000 a Aa ca wr (by omega) (by omega) HRA.out;rw[←HNA.out]at OW;have OW:=hdzz OW;have HBW:=hdzz (HB1.out.trans (HB.out.mono (by have:=HB1.out.size;omega)));have HZW:=hdzz ((HB.out.block _ (by omega)).trans HZ1.out);have HSZ:=hdzz (qai HPV.out);have hres:Hid (∀e w',OkT (xorT a) w e w'→OkT (xorT a) w e w'):=hdzz fun e w' h=>h;have hws:w.heap.size<wr.heap.size:=by omega
   clear hsb hL8 HRA HCO HSB HB HB1 HZ1 HL;go_wp2_with fail
   refine OW.out.mono ?_;clear OW;rintro e w4 ⟨A4,c4,rfl,hr4,hb4⟩;have hs4:=hb4.size;have HR4:=hdzz hr4;have HB4:=hdzz (HBW.out.trans (hb4.mono (by omega)));have HZ4:=hdzz ((hb4.block _ hws).trans HZW.out);obtain⟨Bx,hBx⟩:∃B,B=w4.heap.size:=⟨_,rfl⟩;have HBE:=hdzz hBx;have hBxw:w.heap.size<Bx:=by omega
   have HMK:Hid (∀(r:Tm) (A:Option Addr) (c:Nat),RepP w4 (fun b=>wr.heap.size≤b∧b<w4.heap.size) r A c→∃Wt,Wt=w4.alloc (qal r A c)∧Hid (Wt.heap[Bx]?=some (qal r A c))∧Hid (RepP Wt (fun b=>w.heap.size<b∧b<Wt.heap.size) r A c)∧Hid (Below w.heap.size w Wt)∧Hid (Wt.heap[w.heap.size]?=some (.cells #[.int .i64 0,.string ⟨#[]⟩,.int .i64 0,.slice none 0 0] 24 (0,0)))):=hdzz fun r A c h=>by
    have hb:Below w4.heap.size w4 (w4.alloc (qal r A c)):=qab (Nat.le_refl _) _;exact⟨_,rfl,by rw[HBE.out];exact heap_alloc_new _ _,RepP.mono (fun b h=>⟨by omega,by simp;omega⟩) (fun p h=>hb.cell h.2) _ _ _ h,HB4.out.trans (hb.mono (by omega)),(hb.block _ (by omega)).trans HZ4.out⟩
   clear hr4 hb4 HBW HZW hBx;rcases a with _|⟨a,_|⟨a2,r⟩⟩
   ·have HPV:Hid ((Tm.mk 3 qdv 0 []).valid=0):=hdzz HPV.out;have HSZ:=hdzz (qai HPV.out);have hres:Hid (∀e w',OkT (.mk 3 qdv 0 []) w e w'→OkT (xorT []) w e w'):=hdzz hres.out;obtain⟨Wt,hWt,HTB,HTR,HTW,HTZ⟩:=HMK.out (.mk 3 qdv 0 []) none 0 (by rw[qa3];exact⟨by decide,Nat.le_refl _,Nat.zero_le _,.inl rfl⟩);simp only[qal,Tm.kind,Tm.name,Tm.sort,Tm.kids,List.length_nil,qdv]at hWt;have HWt:=hdzz hWt;clear hWt HMK;simp only[List.length_nil];go_wp2_with fail
    rw[←HWt.out,←HBE.out];have VA:=qax (Tm.mk 3 qdv 0 []) none 0 Wt (by have:=HSZ.out.2.1;omega) (RepP.mono (fun b h=>h.2) (fun _ _=>rfl) _ _ _ HTR.out);rw[HPV.out]at VA;simp only[Tm.val]at VA;have VA:=hdzz VA;have hsW:w.heap.size<Wt.heap.size:=by have:=(sltz HTZ.out);omega
    have hsB:Bx<Wt.heap.size:=by have:=(sltz HTB.out);omega
    refine VA.out.mono ?_;clear VA;rintro e w5 ⟨rfl,hl5⟩;obtain⟨x0,x1,x2,x3,xf⟩:=qaa ((hl5.below.block Bx hsB).trans HTB.out);obtain⟨z0,z1,z2,z3,zf⟩:=qaa ((hl5.below.block _ hsW).trans HTZ.out);simp only[Tm.kind,Tm.name,Tm.sort,Tm.kids]at x0 x1 x2 x3;have HT5:=hdzz (RepP.mono (w':=w5) (P':=fun b=>w.heap.size<b∧b<w5.heap.size) (fun b h=>⟨h.1,by have:=hl5.size;omega⟩) (fun p h=>hl5.below.cell h.2) _ _ _ HTR.out);have HB5:=hdzz (HTW.out.trans (hl5.below.mono (by omega)));clear hl5;go_wp2_with fail
    refine bodyPost_ret (v:=.tuple #[Tm.val (Tm.mk 3 qdv 0 []) none 0,.int .i64 0]) ?_ rfl ?_
    ·simp[results,Tryz.results105,go_sem,z0,z1,z2,z3,Tm.val,Tm.kind,Tm.name,Tm.sort,Tm.kids]
    refine hres.out _ _ ⟨none,0,rfl,?_,?_⟩
    ·refine RepP.mono (fun b h=>?_) (fun p hp=>qao (by omega)) _ _ _ HT5.out;exact⟨by omega,by simpa[World.setCell]using h.2⟩
    ·iterate 4 refine Below.setCell ?_ (by exact Nat.le_refl _) _
     exact HB5.out
   ·have HPV:Hid (a.valid=0):=hdzz HPV.out;have HSZ:=hdzz (qai HPV.out);have hres:Hid (∀e w',OkT a w e w'→OkT (xorT [a]) w e w'):=hdzz hres.out;obtain⟨bb,off,rfl,hbb,hcl⟩:∃bb off,A4=some ⟨bb,off,none⟩∧(wr.heap.size≤bb∧bb<w4.heap.size)∧RepLP w4 (fun b=>wr.heap.size≤b∧b<w4.heap.size) [a] bb off:=by
     rcases HR4.out.2.2 with h|h
     ·cases h
     ·exact h
    rw[RepLP]at hcl;obtain⟨⟨Ar,cr,c0,c1,c2',c3,cR⟩,-⟩:=hcl;obtain⟨Wt,hWt,HTB,HTR,HTW,HTZ⟩:=HMK.out a Ar cr cR;simp only[qal]at hWt;have HWt:=hdzz hWt;have d0:=((qab (Nat.le_refl w4.heap.size) (.cells #[.int .i64 0,.string ⟨#[]⟩,.int .i64 0,.slice none 0 0] 24)).cell (p:=⟨bb,off,none⟩) hbb.2).trans c0;have d1:=((qab (Nat.le_refl w4.heap.size) (.cells #[.int .i64 0,.string ⟨#[]⟩,.int .i64 0,.slice none 0 0] 24)).cell (p:=⟨bb,off+1,none⟩) hbb.2).trans c1;have d2:=((qab (Nat.le_refl w4.heap.size) (.cells #[.int .i64 0,.string ⟨#[]⟩,.int .i64 0,.slice none 0 0] 24)).cell (p:=⟨bb,off+2,none⟩) hbb.2).trans c2'
    have d3:=((qab (Nat.le_refl w4.heap.size) (.cells #[.int .i64 0,.string ⟨#[]⟩,.int .i64 0,.slice none 0 0] 24)).cell (p:=⟨bb,off+3,none⟩) hbb.2).trans c3;clear hWt HMK cR c0 c1 c2' c3;simp only[List.length_cons,List.length_nil,Nat.zero_add];go_wp2_with fail
    rw[←HWt.out,←HBE.out];clear d0 d1 d2 d3;have VA:=qax a Ar cr Wt (by have:=HSZ.out.2.1;omega) (RepP.mono (fun b h=>h.2) (fun _ _=>rfl) _ _ _ HTR.out);rw[HPV.out]at VA;simp only[Tm.val]at VA;have VA:=hdzz VA;have hsW:w.heap.size<Wt.heap.size:=by have:=(sltz HTZ.out);omega
    have hsB:Bx<Wt.heap.size:=by have:=(sltz HTB.out);omega
    refine VA.out.mono ?_;clear VA;rintro e w5 ⟨rfl,hl5⟩;obtain⟨x0,x1,x2,x3,xf⟩:=qaa ((hl5.below.block Bx hsB).trans HTB.out);obtain⟨z0,z1,z2,z3,zf⟩:=qaa ((hl5.below.block _ hsW).trans HTZ.out)
    skip
    have HT5:=hdzz (RepP.mono (w':=w5) (P':=fun b=>w.heap.size<b∧b<w5.heap.size) (fun b h=>⟨h.1,by have:=hl5.size;omega⟩) (fun p h=>hl5.below.cell h.2) _ _ _ HTR.out);have HB5:=hdzz (HTW.out.trans (hl5.below.mono (by omega)));clear hl5;go_wp2_with fail
    refine bodyPost_ret (v:=.tuple #[Tm.val a Ar cr,.int .i64 0]) ?_ rfl ?_
    ·simp[results,Tryz.results105,go_sem,z0,z1,z2,z3,Tm.val]
    refine hres.out _ _ ⟨Ar,cr,rfl,?_,?_⟩
    ·refine RepP.mono (fun b h=>?_) (fun p hp=>qao (by omega)) _ _ _ HT5.out;exact⟨by omega,by simpa[World.setCell]using h.2⟩
    ·iterate 4 refine Below.setCell ?_ (by exact Nat.le_refl _) _
     exact HB5.out
   ·have HPV:Hid ((Tm.mk 3 nXor 0 (a::a2::r)).valid=0):=hdzz HPV.out;have HSZ:=hdzz (qai HPV.out);have hres:Hid (∀e w',OkT (.mk 3 nXor 0 (a::a2::r)) w e w'→OkT (xorT (a::a2::r)) w e w'):=hdzz hres.out;obtain⟨Wt,hWt,HTB,HTR,HTW,HTZ⟩:=HMK.out (.mk 3 nXor 0 (a::a2::r)) A4 c4 (by rw[qa3];exact⟨by decide,HR4.out.1,HR4.out.2.1,HR4.out.2.2⟩);obtain⟨n2,hn2⟩:∃n,n=(a::a2::r).length:=⟨_,rfl⟩;have hn2I:¬((n2:Int)=0):=by rw[hn2];simp;omega
    have hn2J:¬((n2:Int)=1):=by rw[hn2];simp;omega
    have hn0:((n2:Int)==0)=false:=by rw[beq_eq_false_iff_ne];exact hn2I
    have hn1:((n2:Int)==1)=false:=by rw[beq_eq_false_iff_ne];exact hn2J
    simp only[qal,Tm.kind,Tm.name,Tm.sort,Tm.kids,nXor]at hWt;rw[←hn2]at hWt ⊢;have HWt:=hdzz hWt;have HN2:=hdzz hn2;clear hWt HMK hn2;go_wp2_with fail
    rw[←HWt.out,←HBE.out,HN2.out];have VA:=qax (Tm.mk 3 nXor 0 (a::a2::r)) A4 c4 Wt (by have:=HSZ.out.2.1;omega) (RepP.mono (fun b h=>h.2) (fun _ _=>rfl) _ _ _ HTR.out);rw[HPV.out]at VA;simp only[Tm.val]at VA;have VA:=hdzz VA;have hsW:w.heap.size<Wt.heap.size:=by have:=(sltz HTZ.out);omega
    have hsB:Bx<Wt.heap.size:=by have:=(sltz HTB.out);omega
    refine VA.out.mono ?_;clear VA;rintro e w5 ⟨rfl,hl5⟩;obtain⟨x0,x1,x2,x3,xf⟩:=qaa ((hl5.below.block Bx hsB).trans HTB.out);obtain⟨z0,z1,z2,z3,zf⟩:=qaa ((hl5.below.block _ hsW).trans HTZ.out);simp only[Tm.kind,Tm.name,Tm.sort,Tm.kids]at x0 x1 x2 x3;have HT5:=hdzz (RepP.mono (w':=w5) (P':=fun b=>w.heap.size<b∧b<w5.heap.size) (fun b h=>⟨h.1,by have:=hl5.size;omega⟩) (fun p h=>hl5.below.cell h.2) _ _ _ HTR.out);have HB5:=hdzz (HTW.out.trans (hl5.below.mono (by omega)));clear hl5;go_wp2_with fail
    refine bodyPost_ret (v:=.tuple #[Tm.val (Tm.mk 3 nXor 0 (a::a2::r)) A4 c4,.int .i64 0]) ?_ rfl ?_
    ·simp[results,Tryz.results105,go_sem,z0,z1,z2,z3,Tm.val,Tm.kind,Tm.name,Tm.sort,Tm.kids]
    refine hres.out _ _ ⟨A4,c4,rfl,?_,?_⟩
    ·refine RepP.mono (fun b h=>?_) (fun p hp=>qao (by omega)) _ _ _ HT5.out;exact⟨by omega,by simpa[World.setCell]using h.2⟩
    ·iterate 4 refine Below.setCell ?_ (by exact Nat.le_refl _) _
     exact HB5.out
def Qb (Pb:Nat→Prop) (B:Nat) (W:World) (b:Nat):Prop:=Pb b∨B≤b∧b<W.heap.size
theorem Qb.go {Pb:Nat→Prop} {B:Nat} {W Z:World} {t:Tm} {A:Option Addr} {c:Nat} (h:RepP W (Qb Pb B W) t A c) (hb:Below W.heap.size W Z) (hP:∀b,Pb b→b<B) (hB:B≤W.heap.size):RepP Z (Qb Pb B Z) t A c:=
 RepP.mono (fun b h=>h.imp id fun h=>⟨h.1,by have:=hb.size;omega⟩) (fun p hp=>hb.cell (hp.elim (fun h=>by have:=hP _ h;omega) (fun h=>h.2))) _ _ _ h
def nOf (j:Nat):Tm:=match j with
 | 0=>.mk 2 ⟨#[110]⟩ 2 []
 | 1=>.mk 2 ⟨#[107]⟩ 3 []
 | _=>.mk 2 ⟨#[97]⟩ 1 []
theorem nOf_kind (j:Nat):(nOf j).kind=2:=by unfold nOf;split<;>rfl
structure BtN (Pb:Nat→Prop) (w:World) (u:Tm) (Au:Option Addr) (cu:Nat) (nn:Tm) (g:Nat) (W:World):Prop where
 b1:W.heap[w.heap.size]?=some (qal u Au cu)
 b3:W.heap[w.heap.size+1+1]?=some (.cells #[.int .i64 0,.string ⟨#[]⟩,.int .i64 0,.slice none 0 0] 24 (0,0))
 bn:W.heap[g]?=some (qal nn none 0)
 hg:w.heap.size+1+1<g
 lt:g<W.heap.size
 bel:Below w.heap.size w W
 ru:RepP W Pb u Au cu
 le:∀b,Pb b→b<w.heap.size
theorem BtN.go {Pb:Nat→Prop} {w W Z:World} {u:Tm} {Au:Option Addr} {cu:Nat} {nn:Tm} {g:Nat} (h:BtN Pb w u Au cu nn g W) (hb:Below W.heap.size W Z):BtN Pb w u Au cu nn g Z:=by
 have h1:=h.hg;have h2:=h.lt;have h3:=h.le;have h4:=hb.size;exact⟨(hb.block _ (by omega)).trans h.b1,(hb.block _ (by omega)).trans h.b3,(hb.block _ h2).trans h.bn,h1,by omega,h.bel.trans (hb.mono (by omega)),RepP.mono (fun _ h=>h) (fun p hp=>hb.cell (by have:=h3 _ hp;omega)) _ _ _ h.ru,h3⟩
end Go.Proofs.YtjhjoiplpmjepaaGreat
namespace Go.Proofs.YtjhjoiplpmjepaaGreat
def qf2:Tm→Prop
 | .mk k _ _ l=>(k≠3→l=[])∧∀t∈l,qf2 t
theorem nf_put:∀(p:List Int) (t x y:Tm),qf2 t→Tm.atP p t=some x→y.nf=x.nf→(Tm.putP p t y).nf=t.nf
 | [],t,x,y,_,h,he=>by
  rw[Tm.atP,Option.some.injEq]at h;subst h;exact he
 | i::p,t,x,y,hf,h,he=>by
  rw[Tm.atP]at h
  cases hk:t.kid i with
  | none=>rw[hk]at h;cases h
  | some z=>
   rw[hk]at h;obtain⟨-,hl0,hz0⟩:=Tm.kid_lt hk;obtain⟨k,n,s,l⟩:=t;have hl:i.toNat<l.length:=hl0;have hz:l[i.toNat]=z:=hz0;clear hl0 hz0;rw[qf2]at hf;have ih:=nf_put p z x y (hf.2 z (hz ▸ List.getElem_mem hl)) h he;rw[Tm.putP,hk];show(Tm.mk k n s (l.set i.toNat (Tm.putP p z y))).nf=_;have h3:k=3:=Classical.byContradiction fun hne=>by rw[hf.1 hne]at hl;exact absurd hl (by simp)
   subst h3;rw[Tm.nf,Tm.nf,if_pos rfl,if_pos rfl,qco,qco,List.map_set,ih,←hz]
   congr 1
   have:(l.map Tm.nf)[i.toNat]'(by simpa using hl)=l[i.toNat].nf:=by simp
   rw[←this];exact List.set_getElem_self _
end Go.Proofs.YtjhjoiplpmjepaaGreat
