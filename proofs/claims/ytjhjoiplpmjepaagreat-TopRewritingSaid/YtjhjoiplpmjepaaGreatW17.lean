/- Vredex, Vmap, Vput, Vappl, Vstep, Vapply, Vkeep (joined by shake.py). -/
import Derived.Test.YtjhjoiplpmjepaaGreatW0
import Derived.Test.YtjhjoiplpmjepaaGreatW7
import Derived.Test.YtjhjoiplpmjepaaGreatW8
import Derived.Test.YtjhjoiplpmjepaaGreatW10
import Derived.Test.YtjhjoiplpmjepaaGreatW16
set_option maxRecDepth 100000
set_option linter.unusedVariables false
set_option linter.unusedSimpArgs false
set_option maxHeartbeats 16000000
namespace Go.Proofs.YtjhjoiplpmjepaaGreat
open Go.RowKit Go.Sort
def RxOk (rs:List Bd) (t:Tm) (x:Rx):Prop:=∃h:x.1<rs.length,x.2.1∈t.poss∧∃u,Tm.atP x.2.1 t=some u∧(qb5 rs[x.1].1 u).2=0
def RedexOf (rs:List Bd) (t:Tm) (w:World) (e:Ending) (w':World):Prop:=
 ∃v its,e=.returned v∧RxRow w' w.heap.size v its∧Below w.heap.size w w'∧(∀x∈its,RxOk rs t x)∧(its=[]→qix rs t)∧its.length≤1000000
mutual
theorem qo6:∀(t:Tm),∀u∈t.all,∃p∈t.poss,Tm.atP p t=some u
 | .mk k n s l,u,h=>by
  rw[Tm.all,List.mem_cons]at h;rcases h with rfl|h
  ·exact⟨[],by rw[Tm.poss];exact List.mem_cons_self ..,rfl⟩
  ·obtain⟨j,r,y,hj,hp,hu⟩:=alls_at l 0 u h;refine⟨((j:Nat):Int)::r,by rw[Tm.poss];exact List.mem_cons_of_mem _ (by simpa using hp),?_⟩;have hk:(Tm.mk k n s l).kid ((j:Nat):Int)=some y:=by
    unfold Tm.kid;rw[if_pos (Int.natCast_nonneg _),Int.toNat_natCast];exact hj
   rw[Tm.atP,hk];exact hu
theorem alls_at:∀(l:List Tm) (i:Nat),∀u∈Tm.alls l,∃(j:Nat) (r:List Int) (y:Tm),l[j]?=some y∧(((i+j:Nat):Int)::r)∈Tm.posss l i∧Tm.atP r y=some u
 | [],_,u,h=>by simp[Tm.alls]at h
 | t::l,i,u,h=>by
  rw[Tm.alls,List.mem_append]at h;rcases h with h|h
  ·obtain⟨p,hp,hu⟩:=qo6 t u h;exact⟨0,p,t,rfl,by rw[Tm.posss,List.mem_append,List.mem_map];exact .inl ⟨p,hp,by simp⟩,hu⟩
  ·obtain⟨j,r,y,hj,hp,hu⟩:=alls_at l (i+1) u h;exact⟨j+1,r,y,hj,by rw[Tm.posss,List.mem_append];right;rw[show i+(j+1)=i+1+j by omega];exact hp,hu⟩
end
theorem qk9:∀(p:List Int) (t u:Tm),Tm.atP p t=some u→u.size≤t.size
 | [],t,u,h=>by rw[Tm.atP,Option.some.injEq]at h;subst h;exact Nat.le_refl _
 | i::r,t,u,h=>by
  rw[Tm.atP]at h
  cases hk:t.kid i with
  | none=>simp[hk]at h
  | some k=>rw[hk]at h;have h1:=qk9 r k u h;have h2:=qdm (qgj hk);omega
theorem qgs:∀(p:List Int) (t u:Tm),t.valid=0→Tm.atP p t=some u→u.valid=0
 | [],t,u,ht,h=>by rw[Tm.atP,Option.some.injEq]at h;subst h;exact ht
 | i::r,t,u,ht,h=>by
  rw[Tm.atP]at h
  cases hk:t.kid i with
  | none=>simp[hk]at h
  | some k=>rw[hk]at h;exact qgs r k u (qb1 ht (qgj hk)) h
structure RdAt (w:World) (t:Tm) (A:Option Addr) (c:Nat) (W0 W:World):Prop where
 b3:W.heap[w.heap.size]?=some (qal t A c)
 lt:w.heap.size<W0.heap.size
 bel:Below w.heap.size w W
 old:Below W0.heap.size W0 W
theorem RdAt.go {w W0 W Z:World} {t:Tm} {A:Option Addr} {c:Nat} (h:RdAt w t A c W0 W) (hb:Below W0.heap.size W Z):RdAt w t A c W0 Z:=by
 have h1:=h.lt;exact⟨(hb.block _ h1).trans h.b3,h1,h.bel.trans (hb.mono (by omega)),h.old.trans hb⟩
theorem RdAt.lay {w W0 W Z:World} {t:Tm} {A:Option Addr} {c:Nat} (h:RdAt w t A c W0 W) (hb:Below W.heap.size W Z):RdAt w t A c W0 Z:=h.go (hb.mono h.old.size)
theorem qpe (rs:List Bd) (RA:Option Addr) (rc:Nat) (t:Tm) (A:Option Addr) (c:Nat) (w:World) (h40:rs.length≤40) (hg:∀r∈rs,GoodR r) (hv:t.valid=0) (hrs:RepB w (fun b=>b<w.heap.size) rs RA rc) (hrep:RepT w w.heap.size t A c) :
  Calls Tryz.prog 29 #[.slice RA rs.length rc,t.val A c] w (RedexOf rs t w):=by
 have hts:=qai hv;have hsz:SizeB rs:=fun r hr=>by
  have h1:=qai (hg r hr).l;have h2:=qai (hg r hr).r;exact⟨by omega,by omega⟩
 obtain⟨V,hV⟩:∃V,V=w.alloc (qal t A c):=⟨_,rfl⟩;have h2:OneT w t A c V:=by rw[hV];exact OneT.new w t A c
 have VV:=hdzz (qgy rs RA rc V h40 hg (RepB.mono (fun b (h:b<w.heap.size)=>Nat.lt_of_lt_of_le h h2.lay.size) (fun p hp=>h2.lay.below.cell hp) hrs));obtain⟨p0,p1,p3⟩:=id hrs;unfold maxLen at p1;have HRS:=hdzz hrs;have HREP:=hdzz hrep;have H2:=hdzz h2;have HV:=hdzz hV;have HVT:=hdzz hv;have HSZ:=hdzz hsz;clear hV h2 hrs hrep hg hv hsz;simp only[qal]at HV;simp only[Tm.val];go_enter Tryz.func29,Tryz.ntmps29
 go_wp2_with fail
 rw[←HV.out];clear HV;refine VV.out.mono ?_;clear VV;rintro e w1 ⟨rfl,hb1⟩;have hlt:=H2.out.lt;have hB1:=H2.out.lay.below.trans (hb1.mono H2.out.lay.size);have hx1:=(hb1.block _ hlt).trans H2.out.one;have HB1:=hdzz hB1;have HX1:=hdzz hx1;have hs1:=hb1.size;have VL:=qax t A c w1 (by omega) (HREP.out.go hB1 hB1.size);rw[HVT.out]at VL;simp only[Tm.val]at VL;have VL:=hdzz VL;obtain⟨x0,x1,x2,x3,xf⟩:=qaa hx1;clear hb1 hB1 hx1 H2;go_wp2_with fail
 refine VL.out.mono ?_;clear VL x0 x1 x2 x3 xf;rintro e w2 ⟨rfl,hl2⟩;have hB2:=HB1.out.trans (hl2.below.mono HB1.out.size);have hx2:=(hl2.below.block _ (by omega)).trans HX1.out;have PO:=qkh t A c w2 (by omega) (HREP.out.go hB2 hB2.size);simp only[Tm.val]at PO;have PO:=hdzz PO;have HB2:=hdzz hB2;have HX2:=hdzz hx2;have hlt2:w.heap.size<w2.heap.size:=(sltz hx2);obtain⟨x0,x1,x2,x3,xf⟩:=qaa hx2;clear hl2 hB2 hx2 HB1 HX1;go_wp2_with fail
 refine PO.out.mono ?_;clear PO x0 x1 x2 x3 xf;rintro e W0 ⟨vp,ps,rfl,hrow,hb0,hps⟩;obtain⟨Ap,cp,rfl,-⟩:=hrow.form;have hpl:ps.length=t.size:=by rw[←Tm.poss_length,←hps,List.length_map]
 have hRd:RdAt w t A c W0 W0:=⟨(hb0.block _ hlt2).trans HX2.out,Nat.lt_of_lt_of_le hlt2 hb0.size,HB2.out.trans (hb0.mono HB2.out.size),Below.refl _ _⟩;have HRD:=hdzz hRd;have HROW:=hdzz hrow;have HPS:=hdzz hps;obtain⟨n,hn⟩:∃n,n=ps.length:=⟨_,rfl⟩;rw[←hn];have hn400:n≤400:=by omega
 have HN:=hdzz hn;clear hb0 hrow hRd hps hn hpl;go_wp2_with fail
 go_loopw [5,23] (fun out iv wr=>∃(k:Nat) (its:List Rx),k≤n∧iv=.int .i64 k∧Hid (RxRow wr W0.heap.size out its)∧Hid (RdAt w t A c W0 wr)∧Hid (∀x∈its,RxOk rs t x)∧Hid (its=[]→∀j (h:j<ps.length),j<k→∀u,Tm.atP ps[j].1 t=some u→∀r∈rs,decide ((qb5 r.1 u).2=0)=false)∧its.length≤40*k) (fun _ iv _=>n - (intOf iv).toNat)
 case atStart=>exact⟨0,[],Nat.zero_le _,rfl,RxRow.nil _ _,HRD,fun x hx=>by simp at hx,fun _ j _ hj=>absurd hj (by omega),Nat.le_refl _⟩
 case round=>
  obtain⟨k,its,hk,rfl,HR,HD,HO,HE,hil⟩:=hrel;have i1:(0:Int)≤(k:Int):=Int.natCast_nonneg _;by_cases hlt3:k<n
  ·have i2:(k:Int)<(n:Int):=by omega
   have hkp:k<ps.length:=by rw[←HN.out];exact hlt3
   obtain⟨gp,hAp,hsl⟩:=(HROW.out.below HD.out.old).slot k hkp;subst hAp;have hrp:=(HROW.out.reps ps[k] (List.getElem_mem hkp)).toI;have hpm:ps[k].1∈t.poss:=by rw[←HPS.out];exact List.mem_map_of_mem (List.getElem_mem hkp)
   obtain⟨u,hu⟩:=Tm.poss_at t ps[k].1 hpm;have hplen:=Tm.poss_len t ps[k].1 hpm;have HE2:Hid (∀u',Tm.atP ps[k].1 t=some u'→u'=u):=hdzz fun u' h=>by rw[hu]at h;exact(Option.some.inj h).symm
   obtain⟨⟨p,Aq,cq⟩,hq⟩:∃x,x=ps[k]:=⟨_,rfl⟩;rw[←hq]at hsl hrp hpm hu hplen;simp only at hsl hrp hpm hu hplen;have hpk:p=ps[k].1:=by rw[←hq]
   have HPK:=hdzz hpk;have hw0:=HD.out.old.size;have HRP:Hid (RepI W0 (fun b=>b<W0.heap.size) p Aq cq):=hdzz (RepI.mono (fun b h=>h.2.1) (fun _ _=>rfl) hrp);have AT:=at_any t A c p Aq cq wr (by omega) (by omega) (HREP.out.go HD.out.bel HD.out.bel.size) (RepI.mono (fun b (h:b<W0.heap.size)=>by omega) (fun q hq=>HD.out.old.cell hq) HRP.out);rw[hu]at AT;simp only[Tm.val]at AT;have AT:=hdzz AT;have HU:=hdzz hu;have HPM:=hdzz hpm;have hsu:=(qk9 p t u hu);have hvu:=qgs p t u HVT.out hu;have HVU:=hdzz hvu;obtain⟨x0,x1,x2,x3,xf⟩:=qaa HD.out.b3;clear hrp hpm hu hq hpk hvu;go_wp2_with fail
   refine AT.out.mono ?_;clear AT x0 x1 x2 x3 xf hsl;rintro e w3 ⟨hb3,Au,cu,rfl,hru⟩;simp only[Tm.val];obtain⟨X,hX⟩:∃X,X=w3.alloc (.cells #[.int .i64 u.kind,.string u.name,.int .i64 u.sort,.slice Au u.kids.length cu] 24):=⟨_,rfl⟩;have hbX:Below w3.heap.size w3 X:=by rw[hX];exact qab (Nat.le_refl _) _
   have hxX:=heap_alloc_new w3 (.cells #[.int .i64 u.kind,.string u.name,.int .i64 u.sort,.slice Au u.kids.length cu] 24);rw[←hX]at hxX;obtain⟨b8,hb8⟩:∃b,b=w3.heap.size:=⟨_,rfl⟩;obtain⟨lo,hlo⟩:∃b,b=wr.heap.size:=⟨_,rfl⟩;have hs3:=hb3.size;have hX8:b8<X.heap.size:=by rw[hb8];exact(sltz hxX)
   have HRX:Hid (RxRow X W0.heap.size u5 its):=hdzz ((HR.out.below hb3).below hbX);have HDX:Hid (RdAt w t A c W0 X):=hdzz ((HD.out.lay hb3).lay hbX);have HUX:Hid (RepP X (fun b=>lo≤b∧b<b8) u Au cu):=hdzz (RepP.mono (fun b h=>by rw[hlo,hb8];exact h) (fun q hq=>hbX.cell hq.2) _ _ _ hru);have HOW:Hid (∀q,u5.ownBlock=some q→q<lo∨b8<q):=hdzz fun q hq=>.inl (by rw[hlo];exact(HR.out.lt q hq).2);have hlb:lo≤b8:=by omega
   have hwlo:W0.heap.size≤lo:=by omega
   rw[←hb8]at hxX;have HXB:=hdzz hxX;have HX:=hdzz hX;clear hX hbX hxX hb3 hru HR HD hs3 hlo;go_upto_region 8 with fail
   rw[←HX.out,←hb8];clear HX hb8 hw0;generalize wr=wo at *;go_wp2_with fail
   go_loopw [5,35] (fun out iv wr=>∃(q:Nat) (its:List Rx),q≤rs.length∧iv=.int .i64 q∧Hid (RxRow wr W0.heap.size out its)∧Hid (RdAt w t A c W0 wr)∧Hid (wr.heap[b8]?=some (qal u Au cu))∧Hid (RepP wr (fun b=>lo≤b∧b<b8) u Au cu)∧Hid (∀q,out.ownBlock=some q→q<lo∨b8<q)∧b8<wr.heap.size∧Hid (∀x∈its,RxOk rs t x)∧Hid (its=[]→(∀j (h:j<ps.length),j<k→∀u,Tm.atP ps[j].1 t=some u→∀r∈rs,decide ((qb5 r.1 u).2=0)=false)∧∀j (h:j<rs.length),j<q→decide ((qb5 rs[j].1 u).2=0)=false)∧its.length≤40*k+q) (fun _ iv _=>rs.length - (intOf iv).toNat)
   case atStart=>exact⟨0,its,Nat.zero_le _,rfl,HRX,HDX,HXB,HUX,HOW,hX8,HO,fun h=>⟨HE.out h,fun j _ hj=>absurd hj (by omega)⟩,by omega⟩
   case round=>
    clear HRX HDX HXB HUX HOW hX8 HO HE hil its;obtain⟨q,its,hq,rfl,HR,HD,HX8,HUR,HOW,hb8,HO,HE,hil⟩:=hrel;have j1:(0:Int)≤(q:Int):=Int.natCast_nonneg _;by_cases hqt:q<rs.length
    ·have j2:(q:Int)<(rs.length:Int):=by omega
     rcases p3 with hnil|⟨rb,ro,rfl,hrb,hrl⟩
     ·rw[hnil]at hqt;simp at hqt
     have hss:=HD.out.bel.size;obtain⟨P,cP,R,cR,t8⟩:=(RepLP.mono (P':=fun b=>b<w.heap.size) (fun _ h=>h) (fun p hp=>HD.out.bel.cell hp) _ _ _ hrb hrl:RepLP wr (fun b=>b<w.heap.size) (flat rs) rb ro).get8 q hqt;have hsr:=HSZ.out rs[q] (List.getElem_mem hqt);obtain⟨r,hr⟩:∃r,r=rs[q]:=⟨_,rfl⟩;rw[←hr]at t8 hsr;have HRQ:=hdzz hr;obtain⟨t0,t1,t2,t3,t4,t5,t6,t7,rp,rr⟩:=t8;obtain⟨X,hX⟩:∃X,X=wr.alloc (qed r.1 r.2 P R cP cR):=⟨_,rfl⟩;obtain⟨hbx,hbX,hsX⟩:=qkg hX;have hux:RepP X (fun b=>lo≤b∧b<b8) u Au cu:=RepP.mono (fun _ h=>h) (fun p hp=>hbX.cell (by have:=hp.2;omega)) _ _ _ HUR.out;have hb8X:X.heap[b8]?=some (qal u Au cu):=(hbX.block _ hb8).trans HX8.out
     have FT:=qlg r.1 r.2 u P R Au cP cR cu X hsr.1 (by omega) (RepP.mono (fun b (h:b<w.heap.size)=>by omega) (fun p (hp:p.block<w.heap.size)=>hbX.cell (by omega)) _ _ _ rp) (RepP.mono (fun b (h:lo≤b∧b<b8)=>by have:=h.2;omega) (fun _ _=>rfl) _ _ _ hux);obtain⟨z,hz⟩:∃z,z=decide ((qb5 r.1 u).2=0):=⟨_,rfl⟩;rw[←hz]at FT;have HZ:=hdzz hz;simp only[Tm.val,ruleV]at FT;have FT:=hdzz FT;have HX:=hdzz hX;simp only[qed]at HX;obtain⟨r0,r1,r2,r3,r4,r5,r6,r7,rf⟩:=qen (by unfold qed at hbx;exact hbx);obtain⟨x0,x1,x2,x3,xf⟩:=qaa hb8X;have HRX:=hdzz (HR.out.below hbX);have HDX:=hdzz (HD.out.lay hbX);have HUX:=hdzz hux;have HX8X:=hdzz hb8X;clear hX hbX hbx rp rr hrl hz hr hux hb8X HR HD HUR HX8;go_upto_region 11 with fail
     rw[←HX.out];clear HX t0 t1 t2 t3 t4 t5 t6 t7;go_wp2_with fail
     refine FT.out.mono ?_;clear FT r0 r1 r2 r3 r4 r5 r6 r7 rf x0 x1 x2 x3 xf;rintro e w5 ⟨rfl,hb5⟩;have hs5:=hb5.size;have HR5:=hdzz (HRX.out.below hb5);have HD5:=hdzz (HDX.out.lay hb5);have HU5:Hid (RepP w5 (fun b=>lo≤b∧b<b8) u Au cu):=hdzz (RepP.mono (fun _ h=>h) (fun p hp=>hb5.cell (by have:=hp.2;omega)) _ _ _ HUX.out);have HX5:=hdzz ((hb5.block _ (by omega)).trans HX8X.out);have hb85:b8<w5.heap.size:=by omega
     clear hb5 HRX HDX HUX HX8X
     cases z with
     | false=>
      have HE3:Hid (its=[]→(∀j (h:j<ps.length),j<k→∀u,Tm.atP ps[j].1 t=some u→∀r∈rs,decide ((qb5 r.1 u).2=0)=false)∧∀j (h:j<rs.length),j<q+1→decide ((qb5 rs[j].1 u).2=0)=false):=hdzz fun h0=>⟨(HE.out h0).1,fun j hj hjq=>by
       rcases Nat.lt_succ_iff_lt_or_eq.1 hjq with h|h
       ·exact(HE.out h0).2 j hj h
       ·subst h;rw[←HRQ.out];exact HZ.out.symm⟩
      go_wp2_with fail
      go_roundw
      case rel=>exact⟨q+1,its,by omega,by go_num,HR5,HD5,HX5,HU5,HOW,hb85,HO,HE3,by omega⟩
      case measure=>simp[intOf];omega
     | true=>
      have hpw:RepI w5 (fun b=>b<w5.heap.size) p Aq cq:=RepI.mono (fun b (h:b<W0.heap.size)=>by have:=HD5.out.old.size;omega) (fun q hq=>HD5.out.old.cell hq) HRP.out;obtain⟨A1,c1,w6,g6,c6,w7,hap1,hap2,hR7,hG7⟩:=HR5.out.more HD5.out.old.size q p Aq cq hpw (by omega) (by omega);have HR7:=hdzz hR7;have HD7:Hid (RdAt w t A c W0 w7):=hdzz (HD5.out.go hG7.below);have hne:∀b,lo≤b→b≤b8→u5.ownBlock≠some b:=fun b h1 h2 e=>by have:=HOW.out b e;omega
      have HX7:Hid (w7.heap[b8]?=some (qal u Au cu)):=hdzz ((hG7.old b8 hb85 (hne _ hlb (Nat.le_refl _))).trans HX5.out);have HU7:Hid (RepP w7 (fun b=>lo≤b∧b<b8) u Au cu):=hdzz (RepP.mono (fun _ h=>h) (fun p hp=>World.cell?_of_block (hG7.old _ (by have:=hp.2;omega) (hne _ hp.1 (Nat.le_of_lt hp.2)))) _ _ _ HU5.out);have hb87:b8<w7.heap.size:=by have:=hG7.size;omega
      have HOW7:Hid (∀k,(Value.slice (some ⟨g6,0,none⟩) (its.length+1) c6).ownBlock=some k→k<lo∨b8<k):=hdzz fun k hk=>by
       rcases hG7.own with h|h
       ·exact HOW.out k (by rw[←h];exact hk)
       ·have:=h k hk;omega
      have HO7:Hid (∀x∈its++[(q,p,A1,c1)],RxOk rs t x):=hdzz fun x hx=>by
       rcases List.mem_append.1 hx with hx|hx
       ·exact HO.out x hx
       ·rw[List.mem_singleton.1 hx];exact⟨hqt,HPM.out,u,HU.out,by show(qb5 rs[q].1 u).2=0;rw[←HRQ.out];exact of_decide_eq_true HZ.out.symm⟩
      clear hR7 hG7 hne hpw HR5 HD5 HX5 HU5 HOW HO HE;go_wp2_with (at_builtin; first
       | (refine qag rfl _ _ rfl rfl rfl hap1 ?_)
       | (refine qag rfl _ _ rfl rfl rfl hap2 ?_))
      go_roundw
      case rel=>exact⟨q+1,_,by omega,by go_num,HR7,HD7,HX7,HU7,HOW7,hb87,HO7,hdzz (fun e=>by simp at e),by rw[List.length_append];simp;omega⟩
      case measure=>simp[intOf];omega
    ·have hqe:q=rs.length:=by omega
     have HE3:Hid (its=[]→∀j (h:j<ps.length),j<k+1→∀u,Tm.atP ps[j].1 t=some u→∀r∈rs,decide ((qb5 r.1 u).2=0)=false):=hdzz fun h0 j hj hjk u' hu' r hr=>by
      rcases Nat.lt_succ_iff_lt_or_eq.1 hjk with h|h
      ·exact(HE.out h0).1 j hj h u' hu' r hr
      ·subst h;rw[HE2.out u' hu'];obtain⟨i,hi,rfl⟩:=List.getElem_of_mem hr;exact(HE.out h0).2 i hi (by omega)
     clear HE;subst hqe;go_wp2_with fail
     go_roundw
     case rel=>exact⟨k+1,its,by omega,by go_num,HR,HD,HO,HE3,by omega⟩
     case measure=>simp[intOf];omega
  ·have hke:k=n:=by omega
   subst hke;go_wp2_with fail
   go_ret
   refine⟨u5,its,rfl,?_,HD.out.bel,HO.out,fun h0 u hu r hr=>?_,by omega⟩
   ·have h1:=HR.out;refine⟨qp8 h1.own (Nat.le_of_lt HD.out.lt),fun x hx=>RepI.mono (fun b ⟨h2,h3,h4⟩=>⟨Nat.le_trans (Nat.le_of_lt HD.out.lt) h2,h3,h4⟩) (fun _ _=>rfl) (h1.reps x hx)⟩
   ·obtain⟨p,hp,hpu⟩:=qo6 t u hu;rw[←HPS.out]at hp;obtain⟨x,hx,rfl⟩:=List.mem_map.1 hp;obtain⟨j,hj,rfl⟩:=List.getElem_of_mem hx;exact HE.out h0 j hj (by rw[HN.out];exact hj) u hpu r hr
end Go.Proofs.YtjhjoiplpmjepaaGreat
namespace Go.Proofs.YtjhjoiplpmjepaaGreat
open Go.RowKit Go.Maps Go.Sort
theorem qkt:Keyed Tryz.prog 166:=Keyed.of_law (deep_law_laid qnu (m:=5) (by decide) (of_decide_eq_true (by kernel_rfl)) (by kernel_rfl) (by kernel_rfl))
theorem fieldsIN : ∃ f0 f1 : Field, Tryz.prog.underlying 166 = some (.struct #[f0, f1]) ∧ (f0.type = 9 ∧ f0.offset = 0 ∧ (f0.name != "_") = true) ∧ (f1.type = 3 ∧ f1.offset = 1 ∧ (f1.name != "_") = true) :=
 ⟨_,_,Tryz.underlying166,⟨rfl,rfl,by decide⟩,⟨rfl,rfl,by decide⟩⟩
theorem qe1 {x:Tm} (h:qaw x):keyOf Tryz.prog 166 (keyV x)=some (keyL x):=by
 obtain⟨f0,f1,hu,⟨t0,o0,n0⟩,⟨t1,o1,n1⟩⟩:=fieldsIN;have hc:Tryz.prog.cellsOf 166=2:=by kernel_rfl
 have hc0:Tryz.prog.cellsOf 9=1:=by kernel_rfl
 have hc1:Tryz.prog.cellsOf 3=1:=by kernel_rfl
 have hk:Tryz.prog.keyType 166=true:=by kernel_rfl
 obtain⟨d,hd⟩:∃d,Tryz.prog.types.size=d+1:=⟨Tryz.prog.types.size - 1,by have:0 < Tryz.prog.types.size:=of_decide_eq_true (by kernel_rfl);omega⟩;have hf:(keyV x).formed Tryz.prog 166=true:=by
  unfold keyV Value.formed;rw[hu,hc];rfl
 have hl:Tryz.prog.keyLits (Tryz.prog.types.size+1) 166 (keyV x).cells.toList=some [.string x.name.data.toList,.int .i64 x.sort]:=by
  unfold Program.keyLits;rw[hu];obtain⟨a,b⟩:=qos (d:=d) h;have e:(keyV x).cells.toList=[.string x.name,.int .i64 x.sort]:=rfl;rw[e,hc,hd];simp[n0,n1,t0,t1,o0,o1,hc0,hc1,a,b]
 unfold keyOf;rw[hu];dsimp only;rw[hk,hf,hl];rfl
theorem key_injN {x y:Tm} (hx:qaw x) (hy:qaw y) (h:keyL x=keyL y):x.name=y.name∧x.sort=y.sort:=by
 have:=qkt.inj (qe1 hx) (by rw[h];exact qe1 hy);unfold keyV at this;simpa using this
def qbo (w:World) (b n:Nat) (F:Tm→Option Value):Prop:=
 ∃D,w.ownsMap Tryz.prog 166 RV b n D∧∀x,qaw x→Maps.has D (keyL x)=(F x).isSome∧∀v zd,F x=some v→D.atKey (keyL x) zd=.held v
theorem qbo.below {w w':World} {b n:Nat} {F:Tm→Option Value} (h:qbo w b n F) (hb:∀k,k<w.heap.size→w'.heap[k]?=w.heap[k]?):qbo w' b n F:=by
 obtain⟨D,⟨es,clock,h1,h2⟩,h3⟩:=h;exact⟨D,⟨es,clock,by rw[hb b (sltz h1)];exact h1,h2⟩,h3⟩
theorem qbo.keep {w w':World} {b n:Nat} {F:Tm→Option Value} (h:qbo w b n F) (hb:w'.heap[b]?=w.heap[b]?):qbo w' b n F:=by
 obtain⟨D,⟨es,clock,h1,h2⟩,h3⟩:=h;exact⟨D,⟨es,clock,by rw[hb];exact h1,h2⟩,h3⟩
theorem qbo.lt {w:World} {b n:Nat} {F:Tm→Option Value} (h:qbo w b n F):b<w.heap.size:=by
 obtain⟨D,⟨es,clock,h1,h2⟩,h3⟩:=h;exact(sltz h1)
theorem qbo.congr {w:World} {b n:Nat} {F G:Tm→Option Value} (h:qbo w b n F) (he:∀x,qaw x→F x=G x):qbo w b n G:=by
 obtain⟨D,h1,h2⟩:=h;exact⟨D,h1,fun x hx=>by rw[←he x hx];exact h2 x hx⟩
theorem qbo.made (w:World):qbo (w.alloc (.map #[] 0)) w.heap.size 0 (fun _=>none):=
 ⟨.map [],World.ownsMap_made w _ _ _,fun x _=>⟨rfl,fun v zd h=>by cases h⟩⟩
theorem qbo.look {w:World} {b n:Nat} {F:Tm→Option Value} (h:qbo w b n F) {x:Tm} (hx:qaw x) :
  (Instr.lookup 164 (.map (some b)) (keyV x) true).run Tryz.prog w=.ok (.tuple #[(F x).getD qi0,.bool (F x).isSome]) w:=by
 obtain⟨D,h1,h2⟩:=h;obtain⟨v,ps,hr,hv⟩:=h1.look_ok qkt Tryz.underlying164 (qj4 w) (zd:=.held qi0) (zp:=[]) rfl (qe1 hx);obtain⟨h3,h4⟩:=h2 x hx;rw[hr,h3];simp only[RV,Option.some.injEq,Prod.mk.injEq]at hv
 cases hF:F x with
 | none=>
  rw[hF]at h3;rw[atKey_of_not_has h3]at hv;have e:=DataW.held.inj hv.1;subst e;rfl
 | some u=>
  rw[h4 u _ hF]at hv;have e:=DataW.held.inj hv.1;subst e;rfl
theorem qbo.store {w:World} {b n:Nat} {F:Tm→Option Value} (h:qbo w b n F) (hn:n<maxLen) {x:Tm} (hx:qaw x) (v:Value) :
  ∃w',(Instr.mapUpdate 164 (.map (some b)) (keyV x) v).run Tryz.prog w=.ok () w'∧qbo w' b (n+1) (fun y=>if y.name=x.name∧y.sort=x.sort then some v else F y)∧w.mapTurned w' b:=by
 obtain⟨D,h1,h2⟩:=h;obtain⟨w',hr,ho,ht⟩:=h1.store qkt Tryz.underlying164 hn (qe1 hx) (val:=v) (d:=.held v) (ps:=[]) rfl;refine⟨w',hr,⟨_,ho,fun y hy=>?_⟩,ht⟩;dsimp only;by_cases e:y.name=x.name∧y.sort=x.sort
 ·have ek:keyL y=keyL x:=by unfold keyL;rw[e.1,e.2]
  have hk:=qkt.key (qe1 hx);rw[if_pos e,ek];exact⟨has_put_same h1.isMap hk _,fun u zd hu=>by have e:=Option.some.inj hu;subst e;exact atKey_put_same h1.isMap hk _ _⟩
 ·rw[if_neg e];have hne:keyL y≠keyL x:=fun h=>e (key_injN hy hx h);rw[has_put_other hne];exact⟨(h2 y hy).1,fun u zd hu=>by rw[atKey_put_other hne];exact(h2 y hy).2 u zd hu⟩
def qeb (w:World) (b n:Nat) (G:Nat→Prop) (s:List Bd):Prop:=
 ∃F,qbo w b n F∧∀x:Tm,x.kind=1→x.kids=[]→qaw x→(hasS s x=false∧F x=none)∨(hasS s x=true∧∃A c,F x=some ((getS s x).val A c)∧RepP w G (getS s x) A c)
theorem qeb.keep {w w':World} {b n:Nat} {G:Nat→Prop} {s:List Bd} (h:qeb w b n G s) (hm:w'.heap[b]?=w.heap[b]?) (hG:∀p:Addr,G p.block→w'.cell? p=w.cell? p):qeb w' b n G s:=by
 obtain⟨F,h1,h2⟩:=h;exact⟨F,h1.keep hm,fun x k1 k2 k3=>(h2 x k1 k2 k3).imp id fun⟨a,A,c,e,r⟩=>⟨a,A,c,e,RepP.mono (fun _ h=>h) (fun _ hp=>hG _ hp) _ _ _ r⟩⟩
theorem qeb.lt {w:World} {b n:Nat} {G:Nat→Prop} {s:List Bd} (h:qeb w b n G s):b<w.heap.size:=h.choose_spec.1.lt
theorem qeb.below {w w':World} {b n B:Nat} {G:Nat→Prop} {s:List Bd} (h:qeb w b n G s) (hb:Below B w w') (hB:b<B) (hG:∀k,G k→k<B):qeb w' b n G s:=
 h.keep (hb.block _ hB) (fun _ hp=>hb.cell (hG _ hp))
theorem qeb.look {w:World} {b n:Nat} {G:Nat→Prop} {s:List Bd} (h:qeb w b n G s) {x:Tm} (k1:x.kind=1) (k2:x.kids=[]) (k3:qaw x) :
  (hasS s x=false∧(Instr.lookup 164 (.map (some b)) (keyV x) true).run Tryz.prog w=.ok (.tuple #[qi0,.bool false]) w)∨
  (∃A c,hasS s x=true∧RepP w G (getS s x) A c∧(Instr.lookup 164 (.map (some b)) (keyV x) true).run Tryz.prog w=.ok (.tuple #[(getS s x).val A c,.bool true]) w):=by
 obtain⟨F,h1,h2⟩:=h;have hl:=h1.look k3;rcases h2 x k1 k2 k3 with⟨e1,e2⟩|⟨e1,A,c,e2,r⟩
 ·left;rw[e2]at hl;exact⟨e1,hl⟩
 ·right;rw[e2]at hl;exact⟨A,c,e1,r,hl⟩
theorem qeb.store {w:World} {b n:Nat} {G:Nat→Prop} {s:List Bd} (h:qeb w b n G s) (hn:n<maxLen) {x:Tm} (k1:x.kind=1) (k2:x.kids=[]) (k3:qaw x) (hno:hasS s x=false) {t:Tm} {A:Option Addr} {c:Nat} (hr:RepP w G t A c) (hG:∀k,G k→k<w.heap.size∧k≠b) :
  ∃w',(Instr.mapUpdate 164 (.map (some b)) (keyV x) (t.val A c)).run Tryz.prog w=.ok () w'∧qeb w' b (n+1) G (s++[(x,t)])∧w.mapTurned w' b:=by
 obtain⟨F,h1,h2⟩:=h;obtain⟨w',hrun,hI,ht⟩:=h1.store hn k3 (t.val A c);have keep:∀(u:Tm) (U:Option Addr) (cu:Nat),RepP w G u U cu→RepP w' G u U cu:=fun u U cu hu=>RepP.mono (fun _ h=>h) (fun p hp=>World.cell?_of_block (ht.grown.block p.block (hG _ hp).1 (fun e=>by injection e with e;exact(hG _ hp).2 e))) _ _ _ hu;refine⟨w',hrun,⟨_,hI,fun y q1 q2 q3=>?_⟩,ht⟩;have he:(x=y)↔(y.name=x.name∧y.sort=x.sort):=⟨fun e=>by rw[e];exact⟨rfl,rfl⟩,fun e=>qoe ⟨k1,k2⟩ ⟨q1,q2⟩ e.1.symm e.2.symm⟩;rw[qmg];by_cases e:x=y
 ·right;rw[if_pos (he.1 e)];refine⟨by simp[e],A,c,?_,?_⟩
  ·rw[←e,qeg (by rw[hno];simp)]
  ·rw[←e,qeg (by rw[hno];simp)];exact keep _ _ _ hr
 ·rw[if_neg (fun g=>e (he.2 g)),qhi e];rcases h2 y q1 q2 q3 with⟨g1,g2⟩|⟨g1,A',c',g2,g3⟩
  ·exact .inl ⟨by rw[g1];simp[e],g2⟩
  ·exact .inr ⟨by rw[g1];rfl,A',c',g2,keep _ _ _ g3⟩
def CopyT (r:Tm) (w:World) (e:Ending) (w':World):Prop:=
 ∃A c,e=.returned (r.val A c)∧RepP w' (fun b=>w.heap.size≤b∧b<w'.heap.size) r A c∧Below w.heap.size w w'
theorem getS_none:∀{s:List Bd} {x:Tm},hasS s x=false→getS s x=x
 | [],_,_=>rfl
 | b::r,x,h=>by
  rw[hasS]at h
  split at h
  ·cases h
  ·rename_i hn;rw[getS,if_neg hn];exact getS_none h
theorem vput_any (mb nn yb:Nat) (pv:Value) (s:List Bd) (x:Tm) (A:Option Addr) (c:Nat) (w:World) (k1:x.kind=1) (k2:x.kids=[]) (k3:qaw x) (hsx:x.size≤1000000) (hsg:(getS s x).size≤1000000)
  (hy:w.heap[yb]?=some (.cells #[.map (some mb)] 164 (0,0))) (hm:qeb w mb nn (fun b=>b<w.heap.size) s) (hrep:RepT w w.heap.size x A c) :
  Calls Tryz.prog 139 #[x.val A c,.pointer (some ⟨yb,0,none⟩),pv] w (CopyT (getS s x) w):=by
 have hyl:=(sltz hy);obtain⟨V,hV⟩:∃V,V=(w.alloc (.cells #[.int .i64 x.kind,.string x.name,.int .i64 x.sort,.slice A x.kids.length c] 24)).alloc (.cells #[.int .i64 0,.string ⟨#[]⟩,.int .i64 0,.slice none 0 0] 24):=⟨_,rfl⟩;have hs1:(w.alloc (.cells #[.int .i64 x.kind,.string x.name,.int .i64 x.sort,.slice A x.kids.length c] 24)).heap.size=w.heap.size+1:=by simp
 have hbV:Below w.heap.size w V:=by rw[hV];exact((Below.refl _ _).alloc (Nat.le_refl _) _).alloc (by simp) _
 have hx1:V.heap[w.heap.size]?=some (.cells #[.int .i64 x.kind,.string x.name,.int .i64 x.sort,.slice A x.kids.length c] 24 (0,0)):=by rw[hV,Below.heap_alloc _ _ _ (by simp)];exact heap_alloc_new w _
 have hx2:V.heap[w.heap.size+1]?=some (.cells #[.int .i64 0,.string ⟨#[]⟩,.int .i64 0,.slice none 0 0] 24 (0,0)):=by
  rw[hV];have h:=heap_alloc_new (w.alloc (.cells #[.int .i64 x.kind,.string x.name,.int .i64 x.sort,.slice A x.kids.length c] 24)) (.cells #[.int .i64 0,.string ⟨#[]⟩,.int .i64 0,.slice none 0 0] 24);rw[hs1]at h;exact h
 have hsV:V.heap.size=w.heap.size+1+1:=by rw[hV];simp
 have hmV:qeb V mb nn (fun b=>b<w.heap.size) s:=hm.below hbV hm.lt (fun _ h=>h);have hyV:=(hbV.block yb hyl).trans hy;have hlt1:w.heap.size<V.heap.size:=by omega
 have hlt2:w.heap.size+1<V.heap.size:=by omega
 have hylV:yb<V.heap.size:=by omega
 have hy0:V.cell? ⟨yb,0,none⟩=some (.map (some mb)):=by simp[World.cell?,hyV]
 have hkx:(x.kind==1)=true:=by rw[k1];rfl
 obtain⟨x0,x1,x2,x3,xf⟩:=qaa hx1;obtain⟨z0,z1,z2,z3,zf⟩:=qaa hx2;have HV:=hdzz hV;have HB:=hdzz hbV;have HX1:=hdzz hx1;have HX2:=hdzz hx2;have HS:=hdzz hsV;have HREP:=hdzz (hrep.go hbV (Nat.le_refl _));have K1:=hdzz k1;have K2:=hdzz k2;clear hV hbV hx1 hx2 hs1 hsV hyV hrep k1 k2;simp only[Tm.val];go_enter Tryz.func139,Tryz.ntmps139
 go_upto_region 1 with fail
 rw[←HV.out];rcases hmV.look K1.out K2.out k3 with⟨hh,hrun⟩|⟨A1,c1,hh,hr1,hrun⟩
 ·unfold keyV qi0 at hrun;have hyx:getS s x=x:=getS_none hh;have HYX:=hdzz hyx;clear hyx hsg;go_wp2_with (at_lookup;refine qb9 rfl _ _ rfl rfl rfl hrun ?_)
  obtain⟨W,hW⟩:∃W,W=V.alloc (.cells #[.int .i64 0,.string ⟨#[]⟩,.int .i64 0,.slice none 0 0] 24):=⟨_,rfl⟩;rw[←hW];have hbV2:Below V.heap.size V W:=by rw[hW];exact qab (Nat.le_refl _) _
  have hbW:Below w.heap.size w W:=HB.out.trans (hbV2.mono (by omega));have hzW:=(hbV2.block _ hlt2).trans HX2.out;have hrW:RepT W W.heap.size x A c:=HREP.out.go (hbV2.mono (by omega)) (by have:=hbV2.size;omega);have hlz:w.heap.size+1<W.heap.size:=by have:=hbV2.size;omega
  clear hbV2;have HBW:=hdzz hbW;have HZW:=hdzz hzW;clear hbW hzW hW hrun;have hszW:=HBW.out.size;have RP:=qek x x A A c c [] none 0 W hsx hsx (by decide) hrW hrW ⟨Nat.le_refl _,Nat.zero_le _,.inl rfl⟩;rw[show Tm.repl [] x x=some x from rfl]at RP;simp only[Tm.val,List.length_nil]at RP;have RP:=hdzz RP;clear hrW;refine RP.out.mono ?_;clear RP;rintro e w2 ⟨hb2,A2,c2,rfl,hr2⟩;have hzz:=(hb2.block _ hlz).trans HZW.out;obtain⟨z0,z1,z2,z3,zf⟩:=qaa hzz;have hs2:=hb2.size;have hlz2:w.heap.size+1<w2.heap.size:=by omega
  have HB2:=sbtz HBW hb2;have HR2:=hdzz hr2;have HZ2:=hdzz hzz;clear hr2 hzz hb2;simp only[Tm.val];go_wp2_with fail
  clear z0 z1 z2 z3 zf;obtain⟨U2,hU2,hxU2,hbU2,hsU2,hcU2,-⟩:=qcw (W:=w2) (B:=w.heap.size+1) (a:=.int .i64 x.kind) (b:=.string x.name) (c:=.int .i64 x.sort) (d:=.slice A2 x.kids.length c2) HZ2.out;rw[←hU2];obtain⟨Z,hZ⟩:∃Z,Z=U2.alloc (.cells #[.int .i64 x.kind,.string x.name,.int .i64 x.sort,.slice A2 x.kids.length c2] 24):=⟨_,rfl⟩;rw[←hZ];have hbZ:Below U2.heap.size U2 Z:=by rw[hZ];exact qab (Nat.le_refl _) _
  obtain⟨z0,z1,z2,z3,zf⟩:=qaa ((hbZ.block _ (by omega)).trans hxU2);have hsZ:=hbZ.size;refine bodyPost_ret (v:=(x).val A2 c2) ?_ rfl ?_
  ·simp[results,Tryz.results139,go_sem,z0,z1,z2,z3,Tm.val]
  rw[HYX.out];exact⟨A2,c2,rfl,RepP.mono (w:=w2) (P:=fun b=>W.heap.size≤b∧b<w2.heap.size) (fun b h=>⟨by have:=h.1;omega,by have:=h.2;omega⟩) (fun q hq=>(hbZ.cell (by have:=hq.2;omega)).trans (hcU2 q (by have:=hq.1;omega))) _ _ _ HR2.out,(HB2.out.trans (hbU2.mono (by omega))).trans (hbZ.mono (by omega))⟩
 ·obtain⟨y,hy'⟩:∃y,y=getS s x:=⟨_,rfl⟩;rw[←hy']at hrun hr1 hsg;have HYX:=hdzz hy'.symm;unfold keyV Tm.val at hrun;clear hy';go_wp2_with (at_lookup;refine qb9 rfl _ _ rfl rfl rfl hrun ?_)
  obtain⟨U,hU,hxU,hbU,hsU,hcU,hoU⟩:=qcw (W:=V) (B:=w.heap.size) (a:=.int .i64 y.kind) (b:=.string y.name) (c:=.int .i64 y.sort) (d:=.slice A1 y.kids.length c1) HX1.out;rw[←hU];obtain⟨W,hW⟩:∃W,W=U.alloc (.cells #[.int .i64 y.kind,.string y.name,.int .i64 y.sort,.slice A1 y.kids.length c1] 24):=⟨_,rfl⟩;rw[←hW];have hbV2:Below U.heap.size U W:=by rw[hW];exact qab (Nat.le_refl _) _
  have hbW:Below w.heap.size w W:=(HB.out.trans hbU).trans (hbV2.mono (by omega));have hzW:W.heap[w.heap.size+1]?=some (.cells #[.int .i64 0,.string ⟨#[]⟩,.int .i64 0,.slice none 0 0] 24 (0,0)):=(hbV2.block _ (by omega)).trans ((hoU _ (by omega)).trans HX2.out);have hrW:RepT W W.heap.size y A1 c1:=RepP.mono (fun b (h:b<w.heap.size)=>by have:=hbV2.size;omega) (fun q (hq:q.block<w.heap.size)=>(hbV2.cell (by omega)).trans (hcU q (by omega))) _ _ _ hr1;have hlz:w.heap.size+1<W.heap.size:=by have:=hbV2.size;omega
  clear hbV2 hU hxU hbU hsU hcU hoU hr1;have HBW:=hdzz hbW;have HZW:=hdzz hzW;clear hbW hzW hW hrun;have hszW:=HBW.out.size;have RP:=qek y y A1 A1 c1 c1 [] none 0 W hsg hsg (by decide) hrW hrW ⟨Nat.le_refl _,Nat.zero_le _,.inl rfl⟩;rw[show Tm.repl [] y y=some y from rfl]at RP;simp only[Tm.val,List.length_nil]at RP;have RP:=hdzz RP;clear hrW;refine RP.out.mono ?_;clear RP;rintro e w2 ⟨hb2,A2,c2,rfl,hr2⟩;have hzz:=(hb2.block _ hlz).trans HZW.out;obtain⟨z0,z1,z2,z3,zf⟩:=qaa hzz;have hs2:=hb2.size;have hlz2:w.heap.size+1<w2.heap.size:=by omega
  have HB2:=sbtz HBW hb2;have HR2:=hdzz hr2;have HZ2:=hdzz hzz;clear hr2 hzz hb2;simp only[Tm.val];go_wp2_with fail
  clear z0 z1 z2 z3 zf;obtain⟨U2,hU2,hxU2,hbU2,hsU2,hcU2,-⟩:=qcw (W:=w2) (B:=w.heap.size+1) (a:=.int .i64 y.kind) (b:=.string y.name) (c:=.int .i64 y.sort) (d:=.slice A2 y.kids.length c2) HZ2.out;rw[←hU2];obtain⟨Z,hZ⟩:∃Z,Z=U2.alloc (.cells #[.int .i64 y.kind,.string y.name,.int .i64 y.sort,.slice A2 y.kids.length c2] 24):=⟨_,rfl⟩;rw[←hZ];have hbZ:Below U2.heap.size U2 Z:=by rw[hZ];exact qab (Nat.le_refl _) _
  obtain⟨z0,z1,z2,z3,zf⟩:=qaa ((hbZ.block _ (by omega)).trans hxU2);have hsZ:=hbZ.size;refine bodyPost_ret (v:=(y).val A2 c2) ?_ rfl ?_
  ·simp[results,Tryz.results139,go_sem,z0,z1,z2,z3,Tm.val]
  rw[HYX.out];exact⟨A2,c2,rfl,RepP.mono (w:=w2) (P:=fun b=>W.heap.size≤b∧b<w2.heap.size) (fun b h=>⟨by have:=h.1;omega,by have:=h.2;omega⟩) (fun q hq=>(hbZ.cell (by have:=hq.2;omega)).trans (hcU2 q (by have:=hq.1;omega))) _ _ _ HR2.out,(HB2.out.trans (hbU2.mono (by omega))).trans (hbZ.mono (by omega))⟩
theorem qfm {w w':World} {ops:Array Oper} {rest:List Oper} {o:Oper} {a:Act} {Q:Exit→Act→World→Prop} {m k x:Value} {t:TypeId} (hgd:o.guard=none) (om ok ox:Operand)
  (ho:o.op=.mapUpdate t om ok ox) (hm:a.eval om=m) (hk:a.eval ok=k) (hx:a.eval ox=x) (hrun:(Instr.mapUpdate t m k x).run Tryz.prog w=.ok () w') (h:wpList Tryz.prog ops Q rest (a.put o.dst undef) w'):wpList Tryz.prog ops Q (o::rest) a w:=by
 refine wpList_plain hgd fun K hK=>?_;unfold Oper.wp;simp[execOp,ho,hm,hk,hx,hrun,Result.andThen];exact hK _ _ h
structure ApAt (w:World) (s:List Bd) (x:Tm) (A:Option Addr) (c:Nat) (k:Nat) (W:World):Prop where
 map:qeb W (w.heap.size+1+1) k (fun b=>b<w.heap.size) (s.take k)
 b3:W.heap[w.heap.size]?=some (qal x A c)
 b4:W.heap[w.heap.size+1]?=some (.cells #[.int .i64 0,.string ⟨#[]⟩,.int .i64 0,.slice none 0 0] 24 (0,0))
 b6:W.heap[w.heap.size+1+1+1]?=some (.cells #[.map (some (w.heap.size+1+1))] 164 (0,0))
 lt:w.heap.size+1+1+1<W.heap.size
 bel:Below w.heap.size w W
theorem ApAt.go {w W Z:World} {s:List Bd} {x:Tm} {A:Option Addr} {c k:Nat} (h:ApAt w s x A c k W) (hb:Below W.heap.size W Z):ApAt w s x A c k Z:=by
 have h1:=h.lt;have h2:=hb.size;exact⟨h.map.below hb (by omega) (fun _ hk=>by omega),(hb.block _ (by omega)).trans h.b3,(hb.block _ (by omega)).trans h.b4,(hb.block _ (by omega)).trans h.b6,by omega,h.bel.trans (hb.mono (by omega))⟩
theorem ApAt.turn {w W Z:World} {s:List Bd} {x:Tm} {A:Option Addr} {c k:Nat} (h:ApAt w s x A c k W) (hm:qeb Z (w.heap.size+1+1) (k+1) (fun b=>b<w.heap.size) (s.take (k+1))) (ht:W.mapTurned Z (w.heap.size+1+1)):ApAt w s x A c (k+1) Z:=by
 have h1:=h.lt;have hg:=ht.grown;have hs:=hg.size;have hbk:∀q,q<W.heap.size→q≠w.heap.size+1+1→Z.heap[q]?=W.heap[q]?:=fun q hq hne=>hg.block q hq (fun e=>hne (Option.some.inj e));exact⟨hm,(hbk _ (by omega) (by omega)).trans h.b3,(hbk _ (by omega) (by omega)).trans h.b4,(hbk _ (by omega) (by omega)).trans h.b6,by omega,⟨hg.os.trans h.bel.os,hg.tape.trans h.bel.tape,hg.output.trans h.bel.output,Nat.le_trans h.bel.size hs,fun q hq=>(hbk q (by omega) (by omega)).trans (h.bel.block q hq)⟩⟩
theorem qeb.wide {w:World} {b n:Nat} {G G':Nat→Prop} {s:List Bd} (h:qeb w b n G s) (hG:∀k,G k→G' k):qeb w b n G' s:=by
 obtain⟨F,h1,h2⟩:=h;exact⟨F,h1,fun x k1 k2 k3=>(h2 x k1 k2 k3).imp id fun⟨a,A,c,e,r⟩=>⟨a,A,c,e,RepP.mono hG (fun _ _=>rfl) _ _ _ r⟩⟩
structure BindsOk (s:List Bd):Prop where
 v:∀b∈s,b.1.kind=1∧b.1.kids=[]∧qaw b.1
 n:∀k (h:k<s.length),hasS (s.take k) s[k].1=false
theorem vappl_any (s:List Bd) (S:Option Addr) (cs:Nat) (x:Tm) (A:Option Addr) (c:Nat) (w:World) (hs:BindsOk s) (hsl:s.length≤1000) (k1:x.kind=1) (k2:x.kids=[]) (k3:qaw x) (hsx:x.size≤1000000) (hsg:(getS s x).valid=0)
  (hrs:RepB w (fun b=>b<w.heap.size) s S cs) (hrep:RepT w w.heap.size x A c) :
  Calls Tryz.prog 110 #[.slice S s.length cs,x.val A c] w fun e w'=>∃A' c',e=.returned (.tuple #[(getS s x).val A' c',.int .i64 0])∧RepP w' (fun b=>w.heap.size≤b∧b<w'.heap.size) (getS s x) A' c'∧Below w.heap.size w w':=by
 have hgs:=qai hsg;have hmm:=@run_makeMap Tryz.prog;have hsf:=fun(a:Addr) (fn:Fn) (f c:Array Value) (m:Mode) (W:World)=>run_store Tryz.prog W a (.func fn f c) m rfl;obtain⟨V1,hV1⟩:∃V,V=(w.alloc (qal x A c)).alloc (.cells #[.int .i64 0,.string ⟨#[]⟩,.int .i64 0,.slice none 0 0] 24):=⟨_,rfl⟩;have s1:(w.alloc (qal x A c)).heap.size=w.heap.size+1:=by simp
 have s2:V1.heap.size=w.heap.size+1+1:=by rw[hV1];simp
 obtain⟨V,hV⟩:∃V,V=(V1.alloc (.map #[] 0)).alloc (.cells #[.map (some V1.heap.size)] 164):=⟨_,rfl⟩;have hb1:Below w.heap.size w V1:=by rw[hV1];exact((Below.refl _ _).alloc (Nat.le_refl _) _).alloc (by simp) _
 have hb2:Below V1.heap.size V1 V:=by rw[hV];exact((Below.refl _ _).alloc (Nat.le_refl _) _).alloc (by simp) _
 have s3:(V1.alloc (.map #[] 0)).heap.size=w.heap.size+1+1+1:=by simp[s2]
 have s4:V.heap.size=w.heap.size+1+1+1+1:=by rw[hV];simp[s2]
 have hAt:ApAt w s x A c 0 V:=by
  refine⟨?_,?_,?_,?_,by omega,hb1.trans (hb2.mono (by omega))⟩
  ·rw[←s2,hV];exact qeb.below (B:=V1.heap.size+1) (w:=V1.alloc (.map #[] 0)) ⟨fun _=>none,qbo.made V1,fun x _ _ _=>.inl ⟨rfl,rfl⟩⟩ ((Below.refl _ _).alloc (by simp) _) (by omega) (fun _ hk=>by omega)
  ·exact(hb2.block _ (by omega)).trans (by rw[hV1,Below.heap_alloc _ _ _ (by omega)];exact heap_alloc_new w _)
  ·exact(hb2.block _ (by omega)).trans (by rw[hV1,←s1];exact heap_alloc_new _ _)
  ·rw[hV,←s3,←s2];exact heap_alloc_new _ _
 have HAT:=hdzz hAt;have HV1:=hdzz hV1;have HV:=hdzz hV;have HREP:=hdzz hrep;have HRS:=hdzz hrs;have HS:=hdzz hs;have K1:=hdzz k1;have K2:=hdzz k2;have K3:=hdzz k3;have HSG:=hdzz hsg;have S2:=hdzz s2;obtain⟨s0,s1',sx⟩:=HRS.out;clear hAt hV1 hV hb1 hb2 s1 s2 s3 s4 hrep hrs hs k1 k2 k3 hsg;simp only[qal]at HV1;simp only[Tm.val];go_enter Tryz.func110,Tryz.ntmps110
 go_upto_region 1 with fail
 rw[←HV1.out];go_upto_region 2 with fail
 rw[←HV.out,S2.out];clear HV HV1;go_wp2_with fail
 go_loopw [15] (fun i wr=>∃k:Nat,k≤s.length∧i=.int .i64 k∧Hid (ApAt w s x A c k wr)) (fun i _=>s.length - (intOf i).toNat)
 case atStart=>exact⟨0,Nat.zero_le _,rfl,HAT⟩
 case round=>
  obtain⟨k,hk,rfl,HM⟩:=hrel;have i1:(0:Int)≤(k:Int):=Int.natCast_nonneg _;by_cases hlt:k<s.length
  ·have i2:(k:Int)<(s.length:Int):=by omega
   rcases sx with hnil|⟨b,off,rfl,hbB,hl⟩
   ·rw[hnil]at hlt;simp at hlt
   have hss:=HM.out.bel.size;obtain⟨P,cp,R,cr,t8⟩:=(RepLP.mono (P':=fun b=>b<w.heap.size) (fun _ h=>h) (fun p hp=>HM.out.bel.cell hp) _ _ _ hbB hl:RepLP wr (fun b=>b<w.heap.size) (flat s) b off).get8 k hlt;have hv:=HS.out.v s[k] (List.getElem_mem hlt);have hn:=HS.out.n k hlt;have htk:s.take (k+1)=s.take k++[(s[k].1,s[k].2)]:=List.take_succ_eq_append_getElem hlt;obtain⟨r,hr⟩:∃r,r=s[k]:=⟨_,rfl⟩;rw[←hr]at t8 hv hn htk;obtain⟨t0,t1,t2,t3,t4,t5,t6,t7,rp,rr⟩:=t8;clear hr;obtain⟨X,hX⟩:∃X,X=wr.alloc (.cells #[.int .i64 r.1.kind,.string r.1.name,.int .i64 r.1.sort,.slice P r.1.kids.length cp,.int .i64 r.2.kind,.string r.2.name,.int .i64 r.2.sort,.slice R r.2.kids.length cr] 157):=⟨_,rfl⟩;have hbX:Below wr.heap.size wr X:=by rw[hX];exact qab (Nat.le_refl _) _
   have hbx:=heap_alloc_new wr (.cells #[.int .i64 r.1.kind,.string r.1.name,.int .i64 r.1.sort,.slice P r.1.kids.length cp,.int .i64 r.2.kind,.string r.2.name,.int .i64 r.2.sort,.slice R r.2.kids.length cr] 157);rw[←hX]at hbx;have HMX:=hdzz (HM.out.go hbX);have hltm:=HMX.out.lt;obtain⟨N4,hrun4,hm4,ht4⟩:=HMX.out.map.store (by unfold maxLen;omega) hv.1 hv.2.1 hv.2.2 hn (RepP.mono (w:=wr) (P:=fun b=>b<w.heap.size) (fun _ h=>h) (fun p hp=>hbX.cell (by omega)) _ _ _ rr) (fun q (hq:q<w.heap.size)=>⟨by omega,by omega⟩);rw[←htk]at hm4;have HM4:=hdzz (HMX.out.turn hm4 ht4);unfold keyV Tm.val at hrun4;have HX:=hdzz hX;have HBX:=hdzz hbx;clear hX hbX hbx hv hn htk rp rr hm4 ht4;go_upto_region 5 with fail
   rw[←HX.out];clear HX t0 t1 t2 t3 t4 t5 t6 t7;obtain⟨r0,r1,r2,r3,r4,r5,r6,r7,rf⟩:=qen HBX.out;have m0:X.cell? ⟨w.heap.size+1+1+1,0,none⟩=some (.map (some (w.heap.size+1+1))):=by simp[World.cell?,HMX.out.b6]
   go_wp2_with (at_mapUpdate;refine qfm rfl _ _ _ rfl rfl rfl rfl hrun4 ?_)
   go_roundw
   case rel=>exact⟨k+1,by omega,by go_num,HM4.out⟩
   case measure=>simp[intOf];omega
  ·have hke:k=s.length:=by omega
   subst hke;have hm:=HM.out.map;rw[List.take_length]at hm;obtain⟨a0,a1,a2,a3,af⟩:=qaa HM.out.b3;have hltm:=HM.out.lt;go_upto_region 9 with fail
   obtain⟨X,hX⟩:∃X,X=wr.alloc (.cells #[.func (.func 139) #[] #[.pointer (some ⟨w.heap.size+1+1+1,0,none⟩),.pointer (some ⟨wr.heap.size,0,none⟩)]] 125):=⟨_,rfl⟩;have hbX:Below wr.heap.size wr X:=by rw[hX];exact qab (Nat.le_refl _) _
   have hbx:=heap_alloc_new wr (.cells #[.func (.func 139) #[] #[.pointer (some ⟨w.heap.size+1+1+1,0,none⟩),.pointer (some ⟨wr.heap.size,0,none⟩)]] 125);rw[←hX]at hbx ⊢;have f0:X.cell? ⟨wr.heap.size,0,none⟩=some (.func (.func 139) #[] #[.pointer (some ⟨w.heap.size+1+1+1,0,none⟩),.pointer (some ⟨wr.heap.size,0,none⟩)]):=by simp[World.cell?,hbx]
   have HMX:=hdzz (HM.out.go hbX);clear a0 a1 a2 a3 af hbx hX;obtain⟨a0,a1,a2,a3,af⟩:=qaa HMX.out.b3;have hltx:=HMX.out.lt;have hmx:=HMX.out.map;rw[List.take_length]at hmx;have PU:=vput_any (w.heap.size+1+1) s.length (w.heap.size+1+1+1) (.pointer (some ⟨wr.heap.size,0,none⟩)) s x A c X K1.out K2.out K3.out hsx (by omega) HMX.out.b6 (hmx.wide fun q (hq:q<w.heap.size)=>by omega) (HREP.out.go HMX.out.bel HMX.out.bel.size);obtain⟨y,hy⟩:∃y,y=getS s x:=⟨_,rfl⟩;rw[←hy]at PU hgs;simp only[Tm.val]at PU;have PU:=hdzz PU;have HY:=hdzz hy;clear hmx hm hbX hy;go_wp2_with fail
   refine PU.out.mono ?_;clear PU a0 a1 a2 a3 af f0;rintro e w2 ⟨A2,c2,rfl,hr2,hb2⟩;simp only[Tm.val];obtain⟨Y,hY⟩:∃Y,Y=w2.alloc (.cells #[.int .i64 y.kind,.string y.name,.int .i64 y.sort,.slice A2 y.kids.length c2] 24):=⟨_,rfl⟩;have hbY:Below w2.heap.size w2 Y:=by rw[hY];exact qab (Nat.le_refl _) _
   have hxY:=heap_alloc_new w2 (.cells #[.int .i64 y.kind,.string y.name,.int .i64 y.sort,.slice A2 y.kids.length c2] 24);rw[←hY]at hxY;have HM2:=hdzz ((HMX.out.go hb2).go hbY);have hrY:RepP Y (fun b=>X.heap.size≤b∧b<w2.heap.size) y A2 c2:=RepP.mono (fun _ h=>h) (fun q hq=>hbY.cell hq.2) _ _ _ hr2;have hs2:=hb2.size;have hsY:=hbY.size;have VL:=qax y A2 c2 Y (by omega) (RepP.mono (fun b (h:X.heap.size≤b∧b<w2.heap.size)=>by have:=h.2;omega) (fun _ _=>rfl) _ _ _ hrY);have hvy:y.valid=0:=by rw[HY.out];exact HSG.out
   rw[hvy]at VL;simp only[Tm.val]at VL;have VL:=hdzz VL;have HRY:=hdzz hrY;have HY2:=hdzz hY;have HXY:=hdzz hxY;obtain⟨bb,hbb⟩:∃b,b=w2.heap.size:=⟨_,rfl⟩;have hbbY:bb<Y.heap.size:=by rw[hbb];exact(sltz hxY)
   have hbbX:X.heap.size≤bb:=by omega
   rw[←hbb]at HXY HRY;clear hb2 hr2 hbY hrY hY hxY hvy HMX;go_upto_region 10 with fail
   rw[←HY2.out,←hbb];clear HY2 hbb hs2 hsY;obtain⟨x0,x1,x2,x3,xf⟩:=qaa HXY.out;go_wp2_with fail
   refine VL.out.mono ?_;clear VL x0 x1 x2 x3 xf;rintro e w3 ⟨rfl,hl3⟩;have HM3:=hdzz (HM2.out.go hl3.below);have hxx:=(hl3.below.block _ hbbY).trans HXY.out;obtain⟨x0,x1,x2,x3,xf⟩:=qaa hxx;obtain⟨z0,z1,z2,z3,zf⟩:=qaa HM3.out.b4;have hs3:=hl3.size;have hlt3:=HM3.out.lt;have HR3:Hid (RepP w3 (fun b=>X.heap.size≤b∧b<bb) y A2 c2):=hdzz (RepP.mono (fun _ h=>h) (fun q hq=>hl3.below.cell (by have:=hq.2;omega)) _ _ _ HRY.out);clear hl3 hxx HM2 HRY HXY;go_wp2_with fail
   obtain⟨U2,hU2,hxU2,hbU2,hsU2,hcU2,-⟩:=qcw (W:=w3) (B:=w.heap.size+1) (a:=.int .i64 y.kind) (b:=.string y.name) (c:=.int .i64 y.sort) (d:=.slice A2 y.kids.length c2) HM3.out.b4;rw[←hU2];clear z0 z1 z2 z3 zf;obtain⟨z0,z1,z2,z3,zf⟩:=qaa hxU2;refine bodyPost_ret (v:=.tuple #[y.val A2 c2,.int .i64 0]) ?_ rfl ?_
   ·simp[results,Tryz.results110,go_sem,z0,z1,z2,z3,Tm.val]
   rw[←HY.out];exact⟨A2,c2,rfl,RepP.mono (w:=w3) (P:=fun b=>X.heap.size≤b∧b<bb) (fun b h=>⟨by have:=h.1;omega,by have:=h.2;omega⟩) (fun q hq=>hcU2 q (by have:=hq.1;omega)) _ _ _ HR3.out,HM3.out.bel.trans (hbU2.mono (by omega))⟩
end Go.Proofs.YtjhjoiplpmjepaaGreat
namespace Go.Proofs.YtjhjoiplpmjepaaGreat
open Go.RowKit Go.Sort
structure SsAt (w:World) (t:Tm) (A:Option Addr) (c:Nat) (i:Nat) (p:List Int) (Ap:Option Addr) (cp:Nat) (W:World):Prop where
 b4:W.heap[w.heap.size]?=some (qal t A c)
 b5:W.heap[w.heap.size+1]?=some (.cells #[.int .i64 i,.slice Ap p.length cp] 66 (0,0))
 b6:W.heap[w.heap.size+1+1]?=some (.cells #[.int .i64 0,.string ⟨#[]⟩,.int .i64 0,.slice none 0 0] 24 (0,0))
 lt:w.heap.size+1+1<W.heap.size
 bel:Below w.heap.size w W
theorem SsAt.go {w W Z:World} {t:Tm} {A:Option Addr} {c i:Nat} {p:List Int} {Ap:Option Addr} {cp:Nat} (h:SsAt w t A c i p Ap cp W) (hb:Below W.heap.size W Z):SsAt w t A c i p Ap cp Z:=by
 have h1:=h.lt;have h2:=hb.size;exact⟨(hb.block _ (by omega)).trans h.b4,(hb.block _ (by omega)).trans h.b5,(hb.block _ (by omega)).trans h.b6,by omega,h.bel.trans (hb.mono (by omega))⟩
theorem SsAt.new {w V:World} {t:Tm} {A:Option Addr} {c i:Nat} {p:List Int} {Ap:Option Addr} {cp:Nat}
  (hV:V=((w.alloc (qal t A c)).alloc (.cells #[.int .i64 i,.slice Ap p.length cp] 66)).alloc (.cells #[.int .i64 0,.string ⟨#[]⟩,.int .i64 0,.slice none 0 0] 24)):SsAt w t A c i p Ap cp V:=by
 have s1:(w.alloc (qal t A c)).heap.size=w.heap.size+1:=by simp
 have s2:((w.alloc (qal t A c)).alloc (.cells #[.int .i64 i,.slice Ap p.length cp] 66)).heap.size=w.heap.size+1+1:=by simp
 have s3:V.heap.size=w.heap.size+1+1+1:=by rw[hV];simp
 refine⟨?_,?_,?_,by omega,?_⟩
 ·rw[hV,Below.heap_alloc _ _ _ (by omega),Below.heap_alloc _ _ _ (by omega)];exact heap_alloc_new w _
 ·rw[hV,Below.heap_alloc _ _ _ (by omega),←s1];exact heap_alloc_new _ _
 ·rw[hV,←s2];exact heap_alloc_new _ _
 ·rw[hV];exact(((Below.refl _ _).alloc (Nat.le_refl _) _).alloc (by simp) _).alloc (by simp;omega) _
structure StepOk (rs:List Bd) (t:Tm) (i:Nat) (p:List Int) (y:Tm):Prop where
 hi:i<rs.length
 pt:∃u,Tm.atP p t=some u∧(qb5 (rs[i]'hi).1 u).2=0∧BindsOk (qb5 (rs[i]'hi).1 u).1∧(qb5 (rs[i]'hi).1 u).1.length≤1000∧getS (qb5 (rs[i]'hi).1 u).1 (rs[i]'hi).2=y
 sz:(rs[i]'hi).1.size≤1000000
 k1:(rs[i]'hi).2.kind=1
 k2:(rs[i]'hi).2.kids=[]
 k3:qaw (rs[i]'hi).2
 yv:y.valid=0
 zv:(Tm.putP p t y).valid=0
def StepOf (z:Tm) (w:World) (e:Ending) (w':World):Prop:=
 ∃A c,e=.returned (.tuple #[z.val A c,.int .i64 0])∧RepP w' (fun b=>w.heap.size≤b∧b<w'.heap.size) z A c∧Below w.heap.size w w'
attribute [local irreducible] qay
theorem vstep_any (rs:List Bd) (RA:Option Addr) (rc:Nat) (t:Tm) (A:Option Addr) (c:Nat) (i:Nat) (p:List Int) (Ap:Option Addr) (cp:Nat) (y:Tm) (w:World) (h40:rs.length≤40) (ht:t.size≤1000000) (hp:p.length≤1000000) (hs:StepOk rs t i p y)
  (hrs:RepB w (fun b=>b<w.heap.size) rs RA rc) (hrep:RepT w w.heap.size t A c) (hrp:RepI w (fun b=>b<w.heap.size) p Ap cp) :
  Calls Tryz.prog 71 #[.slice RA rs.length rc,t.val A c,.agg #[.int .i64 i,.slice Ap p.length cp]] w (StepOf (Tm.putP p t y) w):=by
 have mixed:=mixz;obtain⟨hi,⟨u,hu,hm0,hbo,hbl,hgy⟩,hsl,k1,k2,k3,hyv,hzv⟩:=hs;obtain⟨V,hV⟩:∃V,V=((w.alloc (qal t A c)).alloc (.cells #[.int .i64 i,.slice Ap p.length cp] 66)).alloc (.cells #[.int .i64 0,.string ⟨#[]⟩,.int .i64 0,.slice none 0 0] 24):=⟨_,rfl⟩;have hAt:=SsAt.new hV;obtain⟨p0,p1,p3⟩:=id hrs;unfold maxLen at p1;rcases p3 with hnil|⟨rb,ro,rfl,hrb,hrl⟩
 ·rw[hnil]at hi;simp at hi
 obtain⟨P,cP,R,cR,t8⟩:=hrl.get8 i hi;obtain⟨r,hr⟩:∃r,r=rs[i]:=⟨_,rfl⟩;rw[←hr]at t8 hm0 hbo hbl hgy hsl k1 k2 k3;obtain⟨q0,q1,q2,q3,q4,q5,q6,q7,rp,rr⟩:=t8;have hrsz:r.2.size≤1000000:=by rw[size3,k2,Tm.sizes];decide
 have hsu:=qk9 p t u hu;have hbelV:=hAt.bel;have AT:=at_any t A c p Ap cp V ht hp (hrep.go hbelV hbelV.size) (RepI.mono (fun b (h:b<w.heap.size)=>Nat.lt_of_lt_of_le h hbelV.size) (fun q hq=>hbelV.cell hq) hrp);rw[hu]at AT;simp only[Tm.val]at AT;have AT:=hdzz AT;have HV:=hdzz hV;have HAT:=hdzz hAt;have HREP:=hdzz hrep;have HRP:=hdzz hrp;have HU:=hdzz hu;have HM0:=hdzz hm0;have HBO:=hdzz hbo;have HGY:=hdzz hgy;have K1:=hdzz k1;have K2:=hdzz k2;have K3:=hdzz k3;have HYV:=hdzz hyv;have HZV:=hdzz hzv;have HP:=hdzz rp;have HR:=hdzz rr;have hiI:(i:Int)<(rs.length:Int):=by omega
 have hi0:(0:Int)≤(i:Int):=Int.natCast_nonneg _;have hi1:decide ((i:Int)<0)=false:=decide_eq_false (by omega);have hi2:decide ((rs.length:Int)≤(i:Int))=false:=decide_eq_false (by omega);obtain⟨x0,x1,x2,x3,xf⟩:=qaa HAT.out.b4;obtain⟨y0,y1,yf⟩:=qf1 HAT.out.b5;clear hV hAt hrep hrp hu hm0 hbo hgy k1 k2 k3 hyv hzv rp rr hrl hbelV hr hrs;simp only[qal]at HV;simp only[Tm.val];go_enter Tryz.func71,Tryz.ntmps71
 go_upto_region 1 with fail
 rw[←HV.out];clear HV;go_wp2_with fail
 refine AT.out.mono ?_;clear AT x0 x1 x2 x3 xf y0 y1 yf;rintro e w1 ⟨hb1,Au,cu,rfl,hru⟩;simp only[Tm.val];obtain⟨X,hX⟩:∃X,X=w1.alloc (.cells #[.int .i64 u.kind,.string u.name,.int .i64 u.sort,.slice Au u.kids.length cu] 24):=⟨_,rfl⟩;have hbX:Below w1.heap.size w1 X:=by rw[hX];exact qab (Nat.le_refl _) _
 have hxX:=heap_alloc_new w1 (.cells #[.int .i64 u.kind,.string u.name,.int .i64 u.sort,.slice Au u.kids.length cu] 24);rw[←hX]at hxX;obtain⟨b8,hb8⟩:∃b,b=w1.heap.size:=⟨_,rfl⟩;have hX8:b8<X.heap.size:=by rw[hb8];exact(sltz hxX)
 have HA2:=hdzz ((HAT.out.go hb1).go hbX);have HUX:Hid (RepT X X.heap.size u Au cu):=hdzz (RepP.mono (fun b h=>by have:=h.2;have:=hbX.size;omega) (fun q hq=>hbX.cell hq.2) _ _ _ hru);rw[←hb8]at hxX;have HXB:=hdzz hxX;have HX:=hdzz hX;clear hX hbX hxX hb1 hru HAT;go_upto_region 6 with fail
 rw[←HX.out,←hb8];clear HX hb8;refine qae (fun Y=>Below X.drew.heap.size X.drew Y) (fun _=>True) [] (.held 0 (.held 1 (.held 2 (.held 3 (.held 4 (.held 5 (.held 6 (.op 7 (.held 8 (.held 9 (.held 10 (.held 11 (.op 12 .nil))))))))))))) mixed (by kernel_rfl) ?_;have HA3:Hid (SsAt w t (A) c i p Ap cp X.drew):=hdzz (HA2.out.go (Below.refl _ _).drew);have HU3:Hid (RepT X.drew X.drew.heap.size u Au cu):=hdzz (HUX.out.go (Below.refl _ _).drew (Nat.le_refl _));have HB3:Hid (X.drew.heap[b8]?=some (.cells #[.int .i64 u.kind,.string u.name,.int .i64 u.sort,.slice Au u.kids.length cu] 24 (0,0))):=HXB;have hX8:b8<X.drew.heap.size:=hX8;clear HA2 HUX HXB;generalize X.drew=D at *;have hlt:=HA3.out.lt;have hbD:=HA3.out.bel;have hsD:=hbD.size;have c0:=(hbD.cell (p:=⟨rb,ro+i*8,none⟩) hrb).trans q0
 have c1:=(hbD.cell (p:=⟨rb,ro+i*8+1,none⟩) hrb).trans q1;have c2:=(hbD.cell (p:=⟨rb,ro+i*8+2,none⟩) hrb).trans q2;have c3:=(hbD.cell (p:=⟨rb,ro+i*8+3,none⟩) hrb).trans q3;have hrD:rb<D.heap.size:=Nat.lt_of_lt_of_le hrb hsD;obtain⟨y0,y1,yf⟩:=qf1 HA3.out.b5;obtain⟨x0,x1,x2,x3,xf⟩:=qaa HB3.out;have MT:=qh1 r.1 u P Au cP cu D hsl (by omega) (RepT.go HP.out hbD hsD) HU3.out;obtain⟨m,hm⟩:∃m,m=qb5 r.1 u:=⟨_,rfl⟩;rw[←hm]at MT;have HM:=hdzz hm;unfold qlc at MT;have hm2:m.2=0:=by rw[hm];exact HM0.out
 rw[hm2]at MT;simp only[Tm.val]at MT;have MT:=hdzz MT;clear hbD hm hm2;refine stkz (.slice (some ⟨rb,ro,none⟩) rs.length rc) rfl rfl rfl (fun _ _ _ h=>h) (Below.refl _ _) (fun Y hY=>by
   (try simp only[Act.put]);go_simp) ?_
 refine stkz (.pointer (some ⟨w.heap.size+1,0,none⟩)) rfl rfl rfl (fun _ _ _ h=>h) (Below.refl _ _) (fun Y hY=>by
   (try simp only[Act.put]);go_simp) ?_
 refine stkz (.int .i64 i) rfl rfl rfl (fun _ _ _ h=>h) (Below.refl _ _) (fun Y hY=>by
   have z0:=sclz hY y0 (by omega)
   (try simp only[Act.put]);go_simp) ?_
 try simp only[Act.put,fsa,fsb,fsc,fsd,fse,fsf]
 refine stkz (.pointer (some ⟨rb,ro+i*8,none⟩)) rfl rfl rfl (fun _ _ _ h=>h) (Below.refl _ _) (fun Y hY=>by
   (try simp only[Act.put]);go_simp) ?_
 refine stkz (.pointer (some ⟨rb,ro+i*8,none⟩)) rfl rfl rfl (fun _ _ _ h=>h) (Below.refl _ _) (fun Y hY=>by
   (try simp only[Act.put]);go_simp) ?_
 try simp only[Act.put,fsa,fsb,fsc,fsd,fse,fsf]
 refine stkz (.agg #[.int .i64 r.1.kind,.string r.1.name,.int .i64 r.1.sort,.slice P r.1.kids.length cP]) rfl rfl rfl (fun _ _ _ h=>h) (Below.refl _ _) (fun Y hY=>by
   have z0:=sclz hY c0 (by omega);have z1:=sclz hY c1 (by omega);have z2:=sclz hY c2 (by omega);have z3:=sclz hY c3 (by omega)
   (try simp only[Act.put]);go_simp) ?_
 try simp only[Act.put,fsa,fsb,fsc,fsd,fse,fsf]
 refine stkz (.agg #[.int .i64 u.kind,.string u.name,.int .i64 u.sort,.slice Au u.kids.length cu]) rfl rfl rfl (fun _ _ _ h=>h) (Below.refl _ _) (fun Y hY=>by
   have z0:=sclz hY x0 (by omega);have z1:=sclz hY x1 (by omega);have z2:=sclz hY x2 (by omega);have z3:=sclz hY x3 (by omega)
   (try simp only[Act.put]);go_simp) ?_
 try simp only[Act.put,fsa,fsb,fsc,fsd,fse,fsf]
 refine qar rfl rfl (fun K hK=>?_);go_wp2_with fail
 refine MT.out.mono ?_;clear MT;rintro e w2 ⟨Am,cm,rfl,hrm,hb2⟩;have HB2:=hdzz hb2;have HRM:=hdzz hrm;refine hK _ _ ⟨⟨fun _=>HB2.out,trivial⟩,?_⟩;clear hK K hb2 hrm;refine stkz (.tuple #[.slice Am m.1.length cm,.int .i64 0]) rfl rfl rfl (fun _ _ _ h=>h) HB2.out (fun Y hY=>by
   (try simp only[Act.put]);go_simp) ?_
 refine stkz (.slice Am m.1.length cm) rfl rfl rfl (fun _ _ _ h=>h) HB2.out (fun Y hY=>by
   (try simp only[Act.put]);go_simp) ?_
 refine stkz (.int .i64 0) rfl rfl rfl (fun _ _ _ h=>h) HB2.out (fun Y hY=>by
   (try simp only[Act.put]);go_simp) ?_
 try simp only[Act.put,fsa,fsb,fsc,fsd,fse,fsf]
 refine stkz (.slice Am m.1.length cm) rfl rfl rfl (fun _ _ _ h=>h) HB2.out (fun Y hY=>by
   (try simp only[Act.put]);go_simp) ?_
 try simp only[Act.put,fsa,fsb,fsc,fsd,fse,fsf]
 refine qar rfl rfl (fun K hK=>?_);go_wp2_with fail
 refine⟨⟨fun _=>HB2.out,trivial⟩,qat ?_⟩;have HA4:=hdzz (HA3.out.go HB2.out);have HBW:=hdzz (HA4.out.bel);have hlt4:=HA4.out.lt;have hs2:=HB2.out.size;clear c0 c1 c2 c3 y0 y1 yf x0 x1 x2 x3 xf HA3 HU3 HB3 HB2 hX8 hrD hsD hlt;have hrw:rb<w2.heap.size:=Nat.lt_of_lt_of_le hrb HBW.out.size;have c4:=(HBW.out.cell (p:=⟨rb,ro+i*8+4,none⟩) hrb).trans q4;have c5:=(HBW.out.cell (p:=⟨rb,ro+i*8+4+1,none⟩) hrb).trans q5;have c6:=(HBW.out.cell (p:=⟨rb,ro+i*8+4+2,none⟩) hrb).trans q6;have c7:=(HBW.out.cell (p:=⟨rb,ro+i*8+4+3,none⟩) hrb).trans q7;have APP:=vappl_any m.1 Am cm r.2 R cR w2 (by rw[HM.out];exact HBO.out) (by rw[HM.out];exact hbl) K1.out K2.out K3.out hrsz (by rw[HM.out,HGY.out];exact HYV.out) HRM.out (RepT.go HR.out HBW.out HBW.out.size);have hgy:getS m.1 r.2=y:=by rw[HM.out];exact HGY.out
 rw[hgy]at APP;simp only[Tm.val]at APP;have APP:=hdzz APP;obtain⟨y0,y1,yf⟩:=qf1 HA4.out.b5;clear hgy HRM;go_wp2_with fail
 refine APP.out.mono ?_;clear APP c4 c5 c6 c7 y0 y1 yf;rintro e w3 ⟨A3,c3,rfl,hr3,hb3⟩;simp only[Tm.val];obtain⟨X3,hX3⟩:∃X,X=w3.alloc (.cells #[.int .i64 y.kind,.string y.name,.int .i64 y.sort,.slice A3 y.kids.length c3] 24):=⟨_,rfl⟩;have hbX:Below w3.heap.size w3 X3:=by rw[hX3];exact qab (Nat.le_refl _) _
 have hxX:=heap_alloc_new w3 (.cells #[.int .i64 y.kind,.string y.name,.int .i64 y.sort,.slice A3 y.kids.length c3] 24);rw[←hX3]at hxX;have hys:=qai HYV.out;have HA5:=hdzz ((HA4.out.go hb3).go hbX);have hB5:=HA5.out.bel;have RP:=qek t y A A3 c c3 p Ap cp X3 ht (by omega) hp (HREP.out.go hB5 hB5.size) (RepP.mono (fun b h=>by have:=h.2;have:=hbX.size;omega) (fun q hq=>hbX.cell hq.2) _ _ _ hr3) (RepI.mono (fun b (h:b<w.heap.size)=>Nat.lt_of_lt_of_le h hB5.size) (fun q hq=>hB5.cell hq) HRP.out);rw[Tm.repl_some HU.out]at RP;simp only[Tm.val]at RP;have RP:=hdzz RP;have HX3:=hdzz hX3;obtain⟨x0,x1,x2,x3,xf⟩:=qaa HA5.out.b4;obtain⟨y0,y1,yf⟩:=qf1 HA5.out.b5;obtain⟨z0,z1,z2,z3,zf⟩:=qaa hxX;clear hX3 hbX hxX hr3 hb3 HA4 hB5;go_upto_region 12 with fail
 rw[←HX3.out];clear HX3;go_wp2_with fail
 refine RP.out.mono ?_;clear RP x0 x1 x2 x3 xf y0 y1 yf z0 z1 z2 z3 zf;obtain⟨z,hz⟩:∃z,z=Tm.putP p t y:=⟨_,rfl⟩;have HZ:=hdzz hz;rw[←hz];clear hz;rintro e w4 ⟨hb4,A4,c4,rfl,hr4⟩;simp only[Tm.val];have hzv:z.valid=0:=by rw[HZ.out];exact HZV.out
 have hzs:=qai hzv;obtain⟨X4,hX4⟩:∃X,X=w4.alloc (.cells #[.int .i64 z.kind,.string z.name,.int .i64 z.sort,.slice A4 z.kids.length c4] 24):=⟨_,rfl⟩;have hbX:Below w4.heap.size w4 X4:=by rw[hX4];exact qab (Nat.le_refl _) _
 have hxX:=heap_alloc_new w4 (.cells #[.int .i64 z.kind,.string z.name,.int .i64 z.sort,.slice A4 z.kids.length c4] 24);rw[←hX4]at hxX;obtain⟨bz,hbz⟩:∃b,b=w4.heap.size:=⟨_,rfl⟩;have hz4:bz<X4.heap.size:=by rw[hbz];exact(sltz hxX)
 have HA6:=hdzz ((HA5.out.go hb4).go hbX);have HR6:Hid (RepP X4 (fun b=>X3.heap.size≤b∧b<bz) z A4 c4):=hdzz (RepP.mono (fun b h=>by rw[hbz];exact h) (fun q hq=>hbX.cell hq.2) _ _ _ hr4);rw[←hbz]at hxX;have HXZ:=hdzz hxX;have HX4:=hdzz hX4;have VL:=qax z A4 c4 X4 (by omega) (RepP.mono (fun b (h:X3.heap.size≤b∧b<bz)=>by have:=h.2;omega) (fun _ _=>rfl) _ _ _ HR6.out);rw[hzv]at VL;simp only[Tm.val]at VL;have VL:=hdzz VL;have hlt5:=HA5.out.lt;clear hX4 hbX hxX hr4 hb4 HA5 hzv;go_upto_region 13 with fail
 rw[←HX4.out,←hbz];clear HX4 hbz;obtain⟨z0,z1,z2,z3,zf⟩:=qaa HXZ.out;go_wp2_with fail
 refine VL.out.mono ?_;clear VL z0 z1 z2 z3 zf;rintro e w5 ⟨rfl,hl5⟩;have HA7:=hdzz (HA6.out.go hl5.below);have hxz:=(hl5.below.block _ hz4).trans HXZ.out;have hs5:=hl5.size;have HR7:Hid (RepP w5 (fun b=>X3.heap.size≤b∧b<bz) z A4 c4):=hdzz (RepP.mono (fun _ h=>h) (fun q hq=>hl5.below.cell (by have:=hq.2;omega)) _ _ _ HR6.out);obtain⟨z0,z1,z2,z3,zf⟩:=qaa hxz;obtain⟨v0,v1,v2,v3,vf⟩:=qaa HA7.out.b6;have hlt7:=HA7.out.lt;clear hl5 hxz HA6 HR6 HXZ;go_wp2_with fail
 obtain⟨U2,hU2,hxU2,hbU2,hsU2,hcU2,-⟩:=qcw (W:=w5) (B:=w.heap.size+1+1) (a:=.int .i64 z.kind) (b:=.string z.name) (c:=.int .i64 z.sort) (d:=.slice A4 z.kids.length c4) HA7.out.b6;rw[←hU2];clear v0 v1 v2 v3 vf z0 z1 z2 z3 zf;obtain⟨z0,z1,z2,z3,zf⟩:=qaa hxU2;refine bodyPost_ret (v:=.tuple #[z.val A4 c4,.int .i64 0]) ?_ rfl ?_
 ·simp[results,Tryz.results71,go_sem,z0,z1,z2,z3,Tm.val]
 rw[←HZ.out];exact⟨A4,c4,rfl,RepP.mono (w:=w5) (P:=fun b=>X3.heap.size≤b∧b<bz) (fun b h=>⟨by have:=h.1;omega,by have:=h.2;omega⟩) (fun q hq=>hcU2 q (by have:=hq.1;omega)) _ _ _ HR7.out,HA7.out.bel.trans (hbU2.mono (by omega))⟩
theorem qi7 (rs:List Bd) (RA:Option Addr) (rc:Nat) (t:Tm) (A:Option Addr) (c:Nat) (i:Nat) (p:List Int) (Ap:Option Addr) (cp:Nat) (y:Tm) (w:World) (h40:rs.length≤40) (hg:∀r∈rs,GoodR r) (hv:t.valid=0) (hp:p.length≤1000000) (hs:StepOk rs t i p y)
  (hrs:RepB w (fun b=>b<w.heap.size) rs RA rc) (hrep:RepT w w.heap.size t A c) (hrp:RepI w (fun b=>b<w.heap.size) p Ap cp) :
  Calls Tryz.prog 33 #[.slice RA rs.length rc,t.val A c,.agg #[.int .i64 i,.slice Ap p.length cp]] w (StepOf (Tm.putP p t y) w):=by
 have hts:=qai hv;obtain⟨V,hV⟩:∃V,V=((w.alloc (qal t A c)).alloc (.cells #[.int .i64 i,.slice Ap p.length cp] 66)).alloc (.cells #[.int .i64 0,.string ⟨#[]⟩,.int .i64 0,.slice none 0 0] 24):=⟨_,rfl⟩;have hAt:=SsAt.new hV;have up:∀W:World,Below w.heap.size w W→RepB W (fun b=>b<W.heap.size) rs RA rc:=fun W hb=>RepB.mono (fun b (h:b<w.heap.size)=>Nat.lt_of_lt_of_le h hb.size) (fun q hq=>hb.cell hq) hrs;have VV:=hdzz (qgy rs RA rc V h40 hg (up V hAt.bel));have HAT:=hdzz hAt;have HV:=hdzz hV;have HVT:=hdzz hv;have HREP:=hdzz hrep;have HRP:=hdzz hrp;have HS:=hdzz hs;have HUP:=hdzz up;clear hV hAt hrs hrep hrp hs hv up hg;simp only[qal]at HV;simp only[Tm.val];go_enter Tryz.func33,Tryz.ntmps33
 go_upto_region 1 with fail
 rw[←HV.out];clear HV;go_wp2_with fail
 refine VV.out.mono ?_;clear VV;rintro e w1 ⟨rfl,hb1⟩;have HA1:=hdzz (HAT.out.go hb1);clear HAT hb1;have hb:=HA1.out.bel;have VL:=qax t A c w1 (by omega) (HREP.out.go hb hb.size);rw[HVT.out]at VL;simp only[Tm.val]at VL;have VL:=hdzz VL;obtain⟨x0,x1,x2,x3,xf⟩:=qaa HA1.out.b4;clear hb;go_wp2_with fail
 refine VL.out.mono ?_;clear VL x0 x1 x2 x3 xf;rintro e w2 ⟨rfl,hl2⟩;have HA2:=hdzz (HA1.out.go hl2.below);clear HA1 hl2;have hb:=HA2.out.bel;have ST:=vstep_any rs RA rc t A c i p Ap cp y w2 h40 (by omega) hp HS.out (HUP.out w2 hb) (HREP.out.go hb hb.size) (RepI.mono (fun b (h:b<w.heap.size)=>Nat.lt_of_lt_of_le h hb.size) (fun q hq=>hb.cell hq) HRP.out);obtain⟨z,hz⟩:∃z,z=Tm.putP p t y:=⟨_,rfl⟩;have HZ:=hdzz hz;rw[←hz]at ST;simp only[Tm.val]at ST;have ST:=hdzz ST;obtain⟨x0,x1,x2,x3,xf⟩:=qaa HA2.out.b4;obtain⟨y0,y1,yf⟩:=qf1 HA2.out.b5;clear hb hz;go_wp2_with fail
 refine ST.out.mono ?_;clear ST x0 x1 x2 x3 xf y0 y1 yf;rintro e w3 ⟨A3,c3,rfl,hr3,hb3⟩;simp only[Tm.val];have hlt2:=HA2.out.lt;have HA3:=hdzz (HA2.out.go hb3);have HR3:=hdzz hr3;have hs3:=hb3.size;obtain⟨v0,v1,v2,v3,vf⟩:=qaa HA3.out.b6;clear hb3 hr3 HA2;go_wp2_with fail
 obtain⟨U2,hU2,hxU2,hbU2,hsU2,hcU2,-⟩:=qcw (W:=w3) (B:=w.heap.size+1+1) (a:=.int .i64 z.kind) (b:=.string z.name) (c:=.int .i64 z.sort) (d:=.slice A3 z.kids.length c3) HA3.out.b6;rw[←hU2];clear v0 v1 v2 v3 vf;obtain⟨z0,z1,z2,z3,zf⟩:=qaa hxU2;refine bodyPost_ret (v:=.tuple #[z.val A3 c3,.int .i64 0]) ?_ rfl ?_
 ·simp[results,Tryz.results33,go_sem,z0,z1,z2,z3,Tm.val]
 rw[←HZ.out];exact⟨A3,c3,rfl,RepP.mono (w:=w3) (P:=fun b=>w2.heap.size≤b∧b<w3.heap.size) (fun b h=>⟨by have:=h.1;omega,by have:=h.2;omega⟩) (fun q hq=>hcU2 q (by have:=hq.1;omega)) _ _ _ HR3.out,HA3.out.bel.trans (hbU2.mono (by omega))⟩
end Go.Proofs.YtjhjoiplpmjepaaGreat
namespace Go.Proofs.YtjhjoiplpmjepaaGreat
def algN (n:ByteArray):Prop:=n=nXor∨n=qdv∨n=nExp∨n=nMul∨n=nInv∨n=nOne
instance (n:ByteArray):Decidable (algN n):=by unfold algN;infer_instance
mutual
def noA:Tm→Prop
 | .mk k n _ l=>(k=3→¬algN n)∧noAs l
def noAs:List Tm→Prop
 | []=>True
 | t::r=>noA t∧noAs r
end
theorem noAs_mem:∀{l:List Tm},noAs l↔∀t∈l,noA t
 | []=>by rw[noAs];simp
 | t::r=>by rw[noAs,noAs_mem (l:=r)];simp
theorem noA.kids {t:Tm} (h:noA t):∀k∈t.kids,noA k:=by obtain⟨k,n,s,l⟩:=t;rw[noA]at h;exact noAs_mem.1 h.2
theorem noA.kidl {l:List Tm} (h:∀t∈l,noA t) (i:Nat):noA (kidT l i):=by
 unfold kidT
 cases he:l[i]? with
 | none=>show noA (.mk 0 .empty 0 []);rw[noA,noAs];exact⟨fun h=>absurd h (by decide),trivial⟩
 | some x=>exact h x (List.mem_of_getElem? he)
mutual
theorem noA_of:∀(t:Tm),(∀u∈t.all,¬(u.kind=3∧algN u.name))→noA t
 | .mk k n s l,h=>by
  rw[noA];exact⟨fun hk ha=>h (.mk k n s l) (by rw[Tm.all];exact List.mem_cons_self ..) ⟨hk,ha⟩,noAs_of l fun u hu=>h u (by rw[Tm.all];exact List.mem_cons_of_mem _ hu)⟩
theorem noAs_of:∀(l:List Tm),(∀u∈Tm.alls l,¬(u.kind=3∧algN u.name))→noAs l
 | [],_=>by rw[noAs];trivial
 | t::r,h=>by
  rw[noAs];exact⟨noA_of t fun u hu=>h u (by rw[Tm.alls];exact List.mem_append_left _ hu),noAs_of r fun u hu=>h u (by rw[Tm.alls];exact List.mem_append_right _ hu)⟩
end
theorem noA.atP:∀(p:List Int) (t x:Tm),noA t→Tm.atP p t=some x→noA x
 | [],t,x,ht,h=>by rw[Tm.atP,Option.some.injEq]at h;subst h;exact ht
 | i::r,t,x,ht,h=>by
  rw[Tm.atP]at h
  cases hk:t.kid i with
  | none=>simp[hk]at h
  | some k=>rw[hk]at h;exact noA.atP r k x (ht.kids k (qgj hk)) h
theorem noA.put:∀(p:List Int) (t y:Tm),noA t→noA y→noA (Tm.putP p t y)
 | [],_,_,_,hy=>hy
 | i::r,t,y,ht,hy=>by
  rw[Tm.putP]
  cases hk:t.kid i with
  | none=>exact ht
  | some k=>
   have hm:=ht.kids;obtain⟨k0,n,s,l⟩:=t;rw[noA]at ht;show noA (.mk k0 n s (l.set i.toNat (Tm.putP r k y)));rw[noA];exact⟨ht.1,noAs_mem.2 fun z hz=>(List.mem_or_eq_of_mem_set hz).elim (fun h=>hm z h) (fun h=>h ▸ noA.put r k y (hm k (qgj hk)) hy)⟩
theorem ArT.put:∀(p:List Int) (t y:Tm),ArT t→ArT y→ArT (Tm.putP p t y)
 | [],_,_,_,hy=>hy
 | i::r,t,y,ht,hy=>by
  rw[Tm.putP]
  cases hk:t.kid i with
  | none=>exact ht
  | some k=>
   have hm:=ht.kids;obtain⟨k0,n,s,l⟩:=t;rw[ArT]at ht;show ArT (.mk k0 n s (l.set i.toNat (Tm.putP r k y)));rw[ArT,List.length_set];exact⟨ht.1,ArTs_mem.2 fun z hz=>(List.mem_or_eq_of_mem_set hz).elim (fun h=>hm z h) (fun h=>h ▸ ArT.put r k y (hm k (qgj hk)) hy)⟩
theorem qlo:∀(l:List Tm) (j:Nat) (hj:j<l.length) (y:Tm),Tm.sizes (l.set j y)+l[j].size=Tm.sizes l+y.size
 | t::l,0,_,y=>by simp only[List.set_cons_zero,List.getElem_cons_zero,Tm.sizes];omega
 | t::l,j+1,hj,y=>by
  have:=qlo l j (by simpa using hj) y;simp only[List.set_cons_succ,List.getElem_cons_succ,Tm.sizes];omega
theorem qjy:∀(l:List Tm) (j:Nat) (hj:j<l.length) (y:Tm),y.depth≤l[j].depth→Tm.depths (l.set j y)≤Tm.depths l
 | t::l,0,_,y,h=>by
  simp only[List.getElem_cons_zero]at h;simp only[List.set_cons_zero,Tm.depths];omega
 | t::l,j+1,hj,y,h=>by
  have:=qjy l j (by simpa using hj) y (by simpa using h);simp only[List.set_cons_succ,Tm.depths];omega
theorem check_set {k:Int} {n:ByteArray} {s:Int} {l:List Tm} {j:Nat} {z:Tm} (hj:j<l.length) (h:(Tm.mk k n s l).check=0) (hz:z.check=0):(Tm.mk k n s (l.set j z)).check=0:=by
 rw[Tm.check]at h ⊢
 split at h
 ·split at h
  ·exact absurd h (by decide)
  ·rename_i h1
   exact absurd (Classical.byContradiction fun e=>h1 (.inr (.inr e)):l=[]) (by intro e;rw[e]at hj;exact absurd hj (by simp))
 ·rename_i hk
  rw[if_neg hk]
  split at h
  ·rename_i h3
   rw[if_pos h3]
   split at h
   ·exact absurd h (by decide)
   ·rename_i hs
    rw[if_neg hs]
    split at h
    ·exact absurd h (by decide)
    ·rename_i hn
     rw[if_neg hn,List.length_set]
     split at h
     ·exact absurd h (by decide)
     ·rename_i h8
      rw[if_neg h8];exact qd0.2 fun t ht=>(List.mem_or_eq_of_mem_set ht).elim (fun h'=>qd0.1 h t h') (fun h'=>h' ▸ hz)
  ·exact absurd h (by decide)
theorem qd1 {t k:Tm} (h:t.check=0) (hk:k∈t.kids):k.check=0:=by
 obtain⟨k0,n,s,l⟩:=t;have hf:=qf2.of h;rw[qf2]at hf;have h3:k0=3:=Classical.byContradiction fun e=>by rw[show(Tm.mk k0 n s l).kids=l from rfl,hf.1 e]at hk;simp at hk
 exact qn3 h h3 k hk
theorem put_le:∀(p:List Int) (t x y:Tm),t.check=0→Tm.atP p t=some x→y.check=0→y.depth≤x.depth→(Tm.putP p t y).check=0∧(Tm.putP p t y).size+x.size=t.size+y.size∧(Tm.putP p t y).depth≤t.depth
 | [],t,x,y,ht,h,hy,hd=>by
  rw[Tm.atP,Option.some.injEq]at h;subst h;rw[Tm.putP];exact⟨hy,by omega,hd⟩
 | i::r,t,x,y,ht,h,hy,hd=>by
  rw[Tm.atP]at h
  cases hk:t.kid i with
  | none=>simp[hk]at h
  | some k=>
   rw[hk]at h;obtain⟨-,hl,he⟩:=Tm.kid_lt hk;have hkc:=qd1 ht (qgj hk);obtain⟨h1,h2,h3⟩:=put_le r k x y hkc h hy hd;rw[Tm.putP,hk];obtain⟨k0,n,s,l⟩:=t;show(Tm.mk k0 n s (l.set i.toNat (Tm.putP r k y))).check=0∧(Tm.mk k0 n s (l.set i.toNat (Tm.putP r k y))).size+x.size=_∧(Tm.mk k0 n s (l.set i.toNat (Tm.putP r k y))).depth≤_;have hl:i.toNat<l.length:=hl;have he:l[i.toNat]=k:=he;have s1:=qlo l i.toNat hl (Tm.putP r k y);have s2:=qjy l i.toNat hl (Tm.putP r k y) (by rw[he];exact h3);rw[he]at s1;refine⟨check_set hl ht h1,?_,?_⟩
   ·rw[Tm.size,Tm.size];omega
   ·rw[Tm.depth,Tm.depth];omega
theorem qgk {t k:Tm} (h:k∈t.kids):k.size<t.size∧k.depth<t.depth:=by
 refine⟨qdm h,?_⟩;obtain⟨k0,n,s,l⟩:=t;have:=qiq (l:=l) h;rw[Tm.depth];omega
theorem qmd {l:List Tm} {i:Nat} (hi:i<l.length):kidT l i∈l:=by
 unfold kidT;rw[List.getElem?_eq_getElem hi];exact List.getElem_mem hi
theorem qne {i:Nat} (hi:i<6) {x:Tm} (ha:ArT x) (hr:redI i x):∃a∈x.kids,qas x.name x.kids∈a.kids:=by
 have hA:=hr.1;have hf:=(qhj hA).1 hr;rw[qf0 hA hf];have h0:0<x.kids.length:=by
  have:=ha.num hA
  match i,hi with
  | 0,_=>rw[this.2.2 (by decide)];decide
  | 1,_=>rw[this.2.2 (by decide)];decide
  | 2,_=>rw[this.2.1 (by decide)];decide
  | 3,_=>rw[this.2.1 (by decide)];decide
  | 4,_=>rw[this.2.1 (by decide)];decide
  | 5,_=>rw[this.2.2 (by decide)];decide
 have ha0:ArT (kidT x.kids 0):=ArT.kidl ha.kids 0;have hl:(kidT x.kids 0).kids.length=2:=by
  rcases hf with h|h|h|h|h|h
  ·exact(ha0.num h.2).2.1 (by decide)
  ·exact(ha0.num h.2).2.1 (by decide)
  ·exact(ha0.num h.2.1).2.1 (by decide)
  ·exact(ha0.num h.2.1).2.1 (by decide)
  ·exact(ha0.num h.2.1).2.1 (by decide)
  ·exact(ha0.num h.2).2.1 (by decide)
 exact⟨_,qmd h0,qmd (by split<;>omega)⟩
theorem qdu {a:Tm} {n:ByteArray} (ha:a.isA n) (hn:n=qbd∨n=nEnc∨n=qcf∨n=qa7∨n=nPk):a.nf.isA n∧a.nf.kids=a.kids.map Tm.nf:=by
 obtain⟨k,m,s,l⟩:=a;obtain⟨rfl,rfl⟩:k=3∧m=n:=ha;rw[Tm.nf,if_pos rfl,qba,qco]
 ·exact⟨⟨rfl,rfl⟩,rfl⟩
 all_goals rcases hn with h|h|h|h|h<;>subst h<;>decide
theorem qdn (l:List Tm) (i:Nat):kidT (l.map Tm.nf) i=(kidT l i).nf:=by
 unfold kidT;rw[List.getElem?_map]
 cases l[i]? with
 | none=>rfl
 | some x=>rfl
theorem red_nf {i:Nat} {x:Tm} (hr:redI i x) (hd:desN (qgo i)):(qas x.name x.kids).nf=x.nf:=by
 have hA:=hr.1;have hf:=(qhj hA).1 hr;obtain⟨k,n,s,l⟩:=x;obtain⟨rfl,hn⟩:k=3∧n=qgo i:=hA;have hf:fitD (qgo i) l:=hf;show(qas n l).nf=_;rw[Tm.nf,if_pos rfl,qco,hn,qa0 hd];have hf2:fitD (qgo i) (l.map Tm.nf):=by
  unfold fitD at hf ⊢;simp only[qdn];rcases hf with⟨h,h1⟩|⟨h,h1⟩|⟨h,h1,h2⟩|⟨h,h1,h2,h3⟩|⟨h,h1,h2,h3⟩|⟨h,h1⟩
  ·exact .inl ⟨h,(qdu h1 (by decide)).1⟩
  ·exact .inr (.inl ⟨h,(qdu h1 (by decide)).1⟩)
  ·exact .inr (.inr (.inl ⟨h,(qdu h1 (by decide)).1,by rw[(qdu h1 (by decide)).2,qdn,h2]⟩))
  ·refine .inr (.inr (.inr (.inl ⟨h,(qdu h1 (by decide)).1,?_,?_⟩)))
   ·rw[(qdu h1 (by decide)).2,qdn];exact(qdu h2 (by decide)).1
   ·rw[(qdu h1 (by decide)).2,qdn,(qdu h2 (by decide)).2,qdn,h3]
  ·refine .inr (.inr (.inr (.inr (.inl ⟨h,(qdu h1 (by decide)).1,(qdu h2 (by decide)).1,?_⟩))));rw[(qdu h1 (by decide)).2,qdn,(qdu h2 (by decide)).2,qdn,h3]
  ·exact .inr (.inr (.inr (.inr (.inr ⟨h,(qdu h1 (by decide)).1⟩))))
 have hk:(kidT l 0).nf.kids=(kidT l 0).kids.map Tm.nf:=by
  rcases hf with⟨h,h1⟩|⟨h,h1⟩|⟨h,h1,h2⟩|⟨h,h1,h2,h3⟩|⟨h,h1,h2,h3⟩|⟨h,h1⟩<;>exact(qdu h1 (by decide)).2
 unfold qas;rw[if_pos hf,if_pos hf2,qdn,hk,qdn]
theorem desNm_des (i:Nat):desN (qgo i):=by
 unfold qgo;split<;>decide
structure Rew (t u:Tm):Prop where
 c:u.check=0
 d:u.depth≤40
 a:ArT u
 x:noA u
 n:u.nf=t.nf
theorem Rew.step {t u x:Tm} {p:List Int} {i:Nat} (h:Rew t u) (hx:Tm.atP p u=some x) (hi:i<6) (hr:redI i x) :
  Rew t (Tm.putP p u (qas x.name x.kids))∧(Tm.putP p u (qas x.name x.kids)).size<u.size:=by
 have hax:=(ArT.atP p u x h.a hx).1;have hnx:=noA.atP p u x h.x hx;have hcx:x.check=0:=by
  have:∀(p:List Int) (u x:Tm),u.check=0→Tm.atP p u=some x→x.check=0:=by
   intro p
   induction p with
   | nil=>intro u x hu h;rw[Tm.atP,Option.some.injEq]at h;subst h;exact hu
   | cons i r ih=>
    intro u x hu h;rw[Tm.atP]at h
    cases hk:u.kid i with
    | none=>simp[hk]at h
    | some k=>rw[hk]at h;exact ih k x (qd1 hu (qgj hk)) h
  exact this p u x h.c hx
 obtain⟨a,ha,hb⟩:=qne hi hax hr;have b1:=qgk ha;have b2:=qgk hb;have hy:(qas x.name x.kids).check=0:=qd1 (qd1 hcx ha) hb;obtain⟨h1,h2,h3⟩:=put_le p u x _ h.c hx hy (by omega);refine⟨⟨h1,by have:=h.d;omega,ArT.put p u _ h.a ((hax.kids a ha).kids _ hb),noA.put p u _ h.x ((hnx.kids a ha).kids _ hb),?_⟩,by omega⟩;rw[nf_put p u x _ (qf2.of h.c) hx (red_nf hr (desNm_des i)),h.n]
theorem Rew.valid {t u:Tm} (h:Rew t u) (hs:u.size≤400):u.valid=0:=by
 unfold Tm.valid;rw[if_neg (by rw[h.c];decide),if_neg (by have:=h.d;omega)]
theorem desN_nm {n:ByteArray} (h:desN n):∃i,i<6∧qgo i=n:=by
 rcases h with h|h|h|h|h|h
 ·exact⟨0,by decide,h.symm⟩
 ·exact⟨1,by decide,h.symm⟩
 ·exact⟨2,by decide,h.symm⟩
 ·exact⟨3,by decide,h.symm⟩
 ·exact⟨4,by decide,h.symm⟩
 ·exact⟨5,by decide,h.symm⟩
def NoRed (t:Tm):Prop:=∀u∈t.all,∀i,i<6→¬redI i u
mutual
theorem NF.of_no:∀(t:Tm),ArT t→noA t→NoRed t→NF t
 | .mk k n s l,ha,hx,hr=>by
  rw[NF];intro hk;subst hk;have ha':=ha;rw[ArT]at ha';rw[noA]at hx;have hs:=(ha'.1 rfl).1;subst hs;refine⟨NFs.of_no l ha'.2 hx.2 fun u hu=>hr u (by rw[Tm.all];exact List.mem_cons_of_mem _ hu),?_⟩;have hna:=hx.1 rfl;by_cases hd:desN n
  ·rw[qa0 hd];obtain⟨i,hi,e⟩:=desN_nm hd;have:=hr _ (by rw[Tm.all];exact List.mem_cons_self ..) i hi;unfold qas;rw[if_neg];intro hf;exact this ⟨⟨rfl,e.symm⟩,hf⟩
  ·exact qba hd (fun e=>hna (.inl e)) (fun e=>hna (e.elim (fun e=>.inr (.inr (.inr (.inl e)))) (fun e=>e.elim (fun e=>.inr (.inr (.inr (.inr (.inl e))))) (fun e=>.inr (.inr (.inr (.inr (.inr e)))))))) (fun e=>hna (.inr (.inr (.inl e)))) l
theorem NFs.of_no:∀(l:List Tm),ArTs l→noAs l→(∀u∈Tm.alls l,∀i,i<6→¬redI i u)→NFs l
 | [],_,_,_=>by rw[NFs];trivial
 | t::r,ha,hx,hr=>by
  rw[ArTs]at ha;rw[noAs]at hx;rw[NFs];exact⟨NF.of_no t ha.1 hx.1 fun u hu=>hr u (by rw[Tm.alls];exact List.mem_append_left _ hu),NFs.of_no r ha.2 hx.2 fun u hu=>hr u (by rw[Tm.alls];exact List.mem_append_right _ hu)⟩
end
theorem Rew.done {t u:Tm} (h:Rew t u) (hr:NoRed u):u=t.nf:=by rw[←h.n,(NF.of_no u h.a h.x hr).self]
end Go.Proofs.YtjhjoiplpmjepaaGreat
