/- Trterm6, Trmul6, Trprod, Trpow, Trsumx (joined by shake.py). -/
import Derived.Test.YtjhjoiplpmjepaaGreatL0
import Derived.Test.YtjhjoiplpmjepaaGreatL5
import Derived.Test.YtjhjoiplpmjepaaGreatL7
import Derived.Test.YtjhjoiplpmjepaaGreatL9
import Derived.Test.YtjhjoiplpmjepaaGreatL10
import Derived.Test.YtjhjoiplpmjepaaGreatL12
import Derived.Test.YtjhjoiplpmjepaaGreatL15
import Derived.Test.YtjhjoiplpmjepaaGreatL21
set_option maxRecDepth 100000
set_option linter.unusedVariables false
set_option linter.unusedSimpArgs false
set_option maxHeartbeats 16000000
namespace Go.Proofs.YtjhjoiplpmjepaaGreat
open Go.RowKit Go.Sort
theorem qgi (l:List Pw) (A:Option Addr) (c:Nat) (w:World) (P:Nat→Prop) (hP:∀b,P b→b<w.heap.size) (ho:Okp l) (hlen:l.length≤1000000) (hsz:∀p∈l,p.1.size≤1000000) (hrep:RepW w P l A c) :
  Calls Tryz.prog 119 #[.slice A l.length c] w (EoT (qds l) P (prodT l) w):=by
 obtain⟨V,hV⟩:∃V,V=w.alloc (.cells #[.int .i64 0,.string ⟨#[]⟩,.int .i64 0,.slice none 0 0] 24):=⟨_,rfl⟩;have hbV:Below w.heap.size w V:=by rw[hV];exact qad (Nat.le_refl _) _
 have hsV:V.heap.size=w.heap.size+1:=by rw[hV];simp
 have hzV:V.heap[w.heap.size]?=some (.cells #[.int .i64 0,.string ⟨#[]⟩,.int .i64 0,.slice none 0 0] 24 (0,0)):=by rw[hV];exact heap_alloc_new _ _
 have VA:=qfk l A c V ho hlen hsz (hrep.mono (fun b h=>by have:=hP b h;omega) (fun p hp=>hbV.cell (hP _ hp)));have hrw:∀X,Below w.heap.size w X→RepW X P l A c:=fun X hX=>hrep.mono (fun _ h=>h) (fun p hp=>hX.cell (hP _ hp));obtain⟨nl,hnl⟩:∃k,k=l.length:=⟨_,rfl⟩;have HNL:=hdzz hnl;rw[←hnl]at VA hlen ⊢;have hlI:(nl:Int)≤1000000:=by omega
 have HRW:=hdzz hrw;have HP:=hdzz hP;have HV:=hdzz hV;have HBV:=hdzz hbV;have HSV:=hdzz hsV;have HZV:=hdzz hzV;have VA:=hdzz VA;clear hrw hP hV hbV hsV hzV hnl hrep ho hsz;go_enter Tryz.func119,Tryz.ntmps119
 go_upto_region 1 with fail
 rw[←HV.out];clear HV;go_wp2_with fail
 refine VA.out.mono ?_;clear VA;rintro e w1 ⟨v,rfl,hvp,hb1⟩;have HVP:=hdzz hvp;have HB1:=hdzz (HBV.out.trans (hb1.mono (by have:=HSV.out;omega)));have hs1:V.heap.size≤w1.heap.size:=hb1.size;have HS1:=hdzz hs1;have HZ1:=hdzz ((hb1.block _ (by have:=HSV.out;omega)).trans HZV.out);clear hvp hb1 HBV HZV hs1;by_cases hv:v=0
 case neg=>
  have q:(v==0)=false:=by rw[beq_eq_false_iff_ne];exact hv
  have q':(v != 0)=true:=by simp[hv]
  have HNV:=hdzz hv;obtain⟨z0,z1,z2,z3,zf⟩:=qaa HZ1.out;clear hv HVP;go_wp2_with fail
  refine bodyPost_ret (v:=.tuple #[.agg #[.int .i64 0,.string ⟨#[]⟩,.int .i64 0,.slice none 0 0],.int .i64 v]) ?_ rfl ?_
  ·simp[results,Tryz.results119,go_sem,z0,z1,z2,z3]
  exact qbn HNV.out HB1.out (Nat.le_refl _)
 subst hv;have hVP:=HVP.out rfl;have OP:=roper_any l A c w1 P (fun b h=>by have:=HP.out b h;have:=HS1.out;have:=HSV.out;omega) hVP.1 (fun p hp=>(hVP.2 p hp).2) (HRW.out w1 HB1.out);have hosz:=oper_size hVP;obtain⟨full,hfull⟩:∃f,f=posP l++negP l:=⟨_,rfl⟩;have HOK:Hid (full.length≤8→(prodT l).valid=0→qds l):=hdzz fun h1 h2=>⟨hVP,by rw[←hfull];exact h1,h2⟩;have HPR:Hid (prodT l=mulT full):=hdzz (by rw[prodT,hfull]);rw[←hfull]at OP hosz;rw[←HNL.out]at OP;obtain⟨o,ho⟩:∃o,o=full.take 9:=⟨_,rfl⟩;rw[←ho]at OP;obtain⟨n2,hn2⟩:∃n,n=o.length:=⟨_,rfl⟩;rw[←hn2]at OP;have HO:=hdzz ho;have HN2:=hdzz hn2;have HOS:=hdzz hosz;have OP:=hdzz OP;clear ho hn2 hosz hfull hVP HVP HRW;go_wp2_with fail
 refine OP.out.mono ?_;clear OP;rintro e w2 ⟨A2,c2,rfl,hS2,hE2,hb2⟩;have HS2:=hdzz hS2;have HE2:=hdzz hE2;have hs12:=HS1.out;have hsv:=HSV.out;have HB2:=hdzz (HB1.out.trans (hb2.mono (by omega)));have HLT2:Hid (w.heap.size<w2.heap.size∧w1.heap.size≤w2.heap.size):=hdzz ⟨by have:=hb2.size;omega,hb2.size⟩;have HZ2:=hdzz ((hb2.block _ (by omega)).trans HZ1.out);obtain⟨z0,z1,z2,z3,zf⟩:=qaa HZ2.out;clear hS2 hE2 hb2 hs12 hsv HB1 HZ1;have hn2b:n2≤9:=by rw[HN2.out,HO.out,List.length_take];omega
 by_cases h8:n2≤8
 case neg=>
  have h8I:(8:Int)<(n2:Int):=by omega
  clear h8 HOK HPR HS2 HE2;go_wp2_with fail
  refine bodyPost_ret (v:=.tuple #[.agg #[.int .i64 0,.string ⟨#[]⟩,.int .i64 0,.slice none 0 0],.int .i64 3]) ?_ rfl ?_
  ·simp[results,Tryz.results119,go_sem,z0,z1,z2,z3]
  exact qbn (by decide) HB2.out (Nat.le_refl _)
 have h8I:¬((8:Int)<(n2:Int)):=by omega
 have hof:o=full:=by rw[HO.out];exact qhk (by rw[←HO.out,←HN2.out];omega)
 subst hof;have HOKL:Hid ((prodT l).valid=0→qds l):=hdzz fun h=>HOK.out (by rw[←HN2.out];exact h8) h;have HS2':Hid (RepS w2 (fun b=>(P b∨w.heap.size<b)∧b<w2.heap.size) o A2 c2):=hdzz (RepS.mono (fun b h=>by
  have h1:=HLT2.out;have h2:=HS1.out;have h3:=HSV.out;rcases h with h|h
  ·exact⟨.inl h,by have:=HP.out b h;omega⟩
  ·exact⟨.inr (by omega),h.2⟩) (fun _ _=>rfl) HS2.out)
 clear HS2 h8
 match o,HN2,HOS,HPR,HS2',HE2 with
 | [],HN2,HOS,HPR,HS2',HE2=>
  clear HS2';have hn0:n2=0:=HN2.out;subst hn0;obtain⟨rfl,rfl⟩:=HE2.out rfl;have AP0:=hdzz (qdc ⟨#[109,117,108]⟩ w2);go_wp2_with fail
  refine AP0.out.mono ?_;clear AP0 z0 z1 z2 z3 zf;rintro e w3 ⟨⟨A3,rfl⟩,hb3⟩;have hs3:=hb3.size;have h1:=HLT2.out;have HB3:=hdzz (HB2.out.trans (hb3.mono (by omega)));have HZ3:=hdzz ((hb3.block _ h1.1).trans HZ2.out);obtain⟨X,hX⟩:∃X,X=w3.alloc (qag (.mk 3 ⟨#[109,117,108]⟩ 0 []) A3 0):=⟨_,rfl⟩;have hbX:Below w3.heap.size w3 X:=by rw[hX];exact qad (Nat.le_refl _) _
  have hsX:X.heap.size=w3.heap.size+1:=by rw[hX];simp
  have hxX:X.heap[w3.heap.size]?=some (qag (.mk 3 ⟨#[109,117,108]⟩ 0 []) A3 0):=by rw[hX];exact heap_alloc_new _ _
  simp only[qag,Tm.kind,Tm.name,Tm.sort,Tm.kids,List.length_nil]at hX hxX;have HXB:=hdzz hxX;have HSX:=hdzz hsX;have HBX:=hdzz (HB3.out.trans (hbX.mono (by omega)));have HZX:=hdzz ((hbX.block _ (by omega)).trans HZ3.out);have AP1:=hdzz (qdc ⟨#[111,110,101]⟩ X);have HX:=hdzz hX;clear hb3 hX hxX hbX hsX HB3 HZ3;go_upto_region 8 with fail
  rw[←HX.out];clear HX;go_wp2_with fail
  refine AP1.out.mono ?_;clear AP1;rintro e w4 ⟨⟨A4,rfl⟩,hb4⟩;have hs4:=hb4.size;have hsx:=HSX.out;obtain⟨Y,hY,hxY,hbY,hsY,hcY⟩:=qcm (W:=w4) (B:=w3.heap.size) (a:=.int .i64 3) (b:=.string ⟨#[111,110,101]⟩) (c:=.int .i64 0) (d:=.slice A4 0 0) ((hb4.block _ (by omega)).trans HXB.out);obtain⟨x0,x1,x2,x3,xf⟩:=qaa ((hb4.block _ (by omega)).trans HXB.out);obtain⟨Bx,hBx⟩:∃b,b=w3.heap.size:=⟨_,rfl⟩;have HBE:=hdzz hBx;have hwb:w.heap.size<Bx:=by omega
  have HBY:=hdzz (HBX.out.trans ((hb4.mono (show w.heap.size≤X.heap.size by omega)).trans (hbY.mono (show w.heap.size≤w3.heap.size by omega))));have HZY:=hdzz ((hcY.2 _ (by omega)).trans ((hb4.block _ (by omega)).trans HZX.out));have HXY:Hid (Y.heap[Bx]?=some (.cells #[.int .i64 3,.string ⟨#[111,110,101]⟩,.int .i64 0,.slice A4 0 0] 24 (0,0))):=hdzz (by rw[hBx];exact hxY);have HLT:Hid (w.heap.size<Bx∧Bx<Y.heap.size):=hdzz ⟨hwb,by omega⟩;have HRY:Hid (RepP Y (fun b=>(P b∨w.heap.size<b)∧b<Y.heap.size) (.mk 3 nOne 0 []) A4 0):=hdzz (by
   rw[RepP_mk];exact⟨by decide,Nat.le_refl _,Nat.zero_le _,.inl rfl⟩)
  have HSR:Hid ((Tm.mk 3 nOne 0 []).size≤1000000):=hdzz (by rw[Tm.size,Tm.sizes];omega);have HY:=hdzz hY;clear hb4 hs4 hsx hY hxY hbY hsY hcY h1 hs3 hwb hBx HXB HBX HZX HB2 HZ2;go_upto_region 10 with fail
  rw[←HY.out,←HBE.out];clear HY x0 x1 x2 x3 xf;have VT:=qbr (Tm.mk 3 nOne 0 []) A4 0 Y HSR.out (RepP.mono (fun b h=>h.2) (fun _ _=>rfl) _ _ _ HRY.out);obtain⟨vt,hvt⟩:∃v,v=((Tm.mk 3 nOne 0 [])).valid:=⟨_,rfl⟩;rw[←hvt]at VT;have HVT:=hdzz hvt;simp only[Tm.val,Tm.kind,Tm.name,Tm.sort,Tm.kids,nOne,List.length_nil]at VT;have VT:=hdzz VT;clear hvt;obtain⟨x0,x1,x2,x3,xf⟩:=qaa HXY.out
  (try simp only[Tm.kind,Tm.name,Tm.sort,Tm.kids]at x0 x1 x2 x3)
  go_wp2_with fail
  refine VT.out.mono ?_;clear VT x0 x1 x2 x3 xf;rintro e w7 ⟨rfl,hl7⟩;have hlt:=HLT.out;obtain⟨x0,x1,x2,x3,xf⟩:=qaa ((hl7.below.block Bx (by omega)).trans HXY.out)
  (try simp only[Tm.kind,Tm.name,Tm.sort,Tm.kids]at x0 x1 x2 x3)
  obtain⟨z0,z1,z2,z3,zf⟩:=qaa ((hl7.below.block _ (by omega)).trans HZY.out);have HB7:=hdzz (HBY.out.trans (hl7.below.mono (by omega)));have HR7:=hdzz (RepP.mono (w':=w7) (P':=fun b=>(P b∨w.heap.size≤b∧b≠w.heap.size)∧b<w7.heap.size) (fun b h=>⟨h.1.imp id fun h=>⟨by omega,by omega⟩,by have:=h.2;have:=hl7.size;omega⟩) (fun p h=>hl7.below.cell h.2) _ _ _ HRY.out);clear hl7 hlt;by_cases hv:vt=0
  case neg=>
   have q:(vt==0)=false:=by rw[beq_eq_false_iff_ne];exact hv
   have q':(vt != 0)=true:=by simp[hv]
   have HNV:=hdzz hv;clear hv HVT;go_wp2_with fail
   refine bodyPost_ret (v:=.tuple #[.agg #[.int .i64 0,.string ⟨#[]⟩,.int .i64 0,.slice none 0 0],.int .i64 vt]) ?_ rfl ?_
   ·simp[results,Tryz.results119,go_sem,z0,z1,z2,z3]
   exact qbn HNV.out HB7.out (Nat.le_refl _)
  subst hv;go_wp2_with fail
  refine bodyPost_ret (v:=.tuple #[Tm.val (Tm.mk 3 nOne 0 []) A4 0,.int .i64 0]) ?_ rfl ?_
  ·simp[results,Tryz.results119,go_sem,z0,z1,z2,z3,Tm.val,Tm.kind,Tm.name,Tm.sort,Tm.kids,nOne,nMul]
  have hpr:prodT l=.mk 3 nOne 0 []:=HPR.out;rw[hpr];exact qdg (HOKL.out (by rw[hpr];exact HVT.out.symm)) HB7.out HP.out (Nat.le_refl _) HR7.out
 | [a],HN2,HOS,HPR,HS2',HE2=>
  have AP:=qb5 ⟨#[109,117,108]⟩ [a] A2 c2 w2 (fun b=>(P b∨w.heap.size<b)∧b<w2.heap.size) (fun b h=>h.2) (by unfold maxLen;decide) (by simp) (by have:=HN2.out;omega) HS2'.out;rw[←HN2.out]at AP;simp only[Tm.val,Tm.kind,Tm.name,Tm.sort,Tm.kids]at AP;rw[←HN2.out]at AP;have AP:=hdzz AP;go_wp2_with fail
  refine AP.out.mono ?_;clear AP z0 z1 z2 z3 zf;rintro e w3 ⟨A3,c3,rfl,hr3,hb3⟩;have hs3:=hb3.size;have h1:=HLT2.out;have HB3:=hdzz (HB2.out.trans (hb3.mono (by omega)));have HZ3:=hdzz ((hb3.block _ h1.1).trans HZ2.out);have HR3:=hdzz hr3;obtain⟨X,hX⟩:∃X,X=w3.alloc (.cells #[.int .i64 3,.string ⟨#[109,117,108]⟩,.int .i64 0,.slice A3 n2 c3] 24):=⟨_,rfl⟩;have hbX:Below w3.heap.size w3 X:=by rw[hX];exact qad (Nat.le_refl _) _
  have hsX:X.heap.size=w3.heap.size+1:=by rw[hX];simp
  have hxX:X.heap[w3.heap.size]?=some (.cells #[.int .i64 3,.string ⟨#[109,117,108]⟩,.int .i64 0,.slice A3 n2 c3] 24 (0,0)):=by rw[hX];exact heap_alloc_new _ _
  have HX:=hdzz hX;have HBX:=hdzz (HB3.out.trans (hbX.mono (by omega)));have HZX:=hdzz ((hbX.block _ (by omega)).trans HZ3.out);have hn1:n2=1:=HN2.out;subst hn1;obtain⟨b,off,rfl,hbB,Ar,cr,h0,h1',h2,h3,h5⟩:=repS_get1 HS2'.out;have hcl:∀p:Addr,p.block<w2.heap.size→X.cell? p=w2.cell? p:=fun p hp=>(hbX.cell (by omega)).trans (hb3.cell hp);have e0:=(hcl ⟨b,off,none⟩ hbB.2).trans h0;have e1:=(hcl ⟨b,off+1,none⟩ hbB.2).trans h1';have e2:=(hcl ⟨b,off+2,none⟩ hbB.2).trans h2;have e3:=(hcl ⟨b,off+3,none⟩ hbB.2).trans h3;obtain⟨Y,hY,hxY,hbY,hsY,hcY⟩:=qcm (W:=X) (B:=w3.heap.size) (a:=.int .i64 a.kind) (b:=.string a.name) (c:=.int .i64 a.sort) (d:=.slice Ar a.kids.length cr) hxX;obtain⟨x0,x1,x2,x3,xf⟩:=qaa hxX;obtain⟨Bx,hBx⟩:∃b,b=w3.heap.size:=⟨_,rfl⟩;have HBE:=hdzz hBx
  have hwb:w.heap.size<Bx:=by omega
  have HBY:=hdzz (HBX.out.trans (hbY.mono (show w.heap.size≤w3.heap.size by omega)));have HZY:=hdzz ((hcY.2 _ (by omega)).trans HZX.out);have HXY:Hid (Y.heap[Bx]?=some (.cells #[.int .i64 a.kind,.string a.name,.int .i64 a.sort,.slice Ar a.kids.length cr] 24 (0,0))):=hdzz (by rw[hBx];exact hxY);have HLT:Hid (w.heap.size<Bx∧Bx<Y.heap.size):=hdzz ⟨hwb,by omega⟩;have HRY:Hid (RepP Y (fun b=>(P b∨w.heap.size<b)∧b<Y.heap.size) a Ar cr):=hdzz (RepP.mono (fun b h=>⟨h.1,by have:=h.2;omega⟩) (fun p hp=>(hcY.1 p (by have:=hp.2;omega)).trans (hcl p hp.2)) _ _ _ h5);have HSR:Hid (a.size≤1000000):=hdzz (by have:=HOS.out a (List.mem_cons_self ..);omega);have HY:=hdzz hY;clear hb3 hX hxX hbX hsX hY hxY hbY hsY hcY h1 hs3 hwb hBx HBX HZX HB2 HZ2 h0 h1' h2 h3 h5 hcl hr3 HR3 HB3 HZ3;go_upto_region 8 with fail
  rw[←HX.out];clear HX;go_upto_region 12 with fail
  rw[←HY.out,←HBE.out];clear HY x0 x1 x2 x3 xf e0 e1 e2 e3;have VT:=qbr a Ar cr Y HSR.out (RepP.mono (fun b h=>h.2) (fun _ _=>rfl) _ _ _ HRY.out);obtain⟨vt,hvt⟩:∃v,v=(a).valid:=⟨_,rfl⟩;rw[←hvt]at VT;have HVT:=hdzz hvt;simp only[Tm.val]at VT;have VT:=hdzz VT;clear hvt;obtain⟨x0,x1,x2,x3,xf⟩:=qaa HXY.out;go_wp2_with fail
  refine VT.out.mono ?_;clear VT x0 x1 x2 x3 xf;rintro e w7 ⟨rfl,hl7⟩;have hlt:=HLT.out;obtain⟨x0,x1,x2,x3,xf⟩:=qaa ((hl7.below.block Bx (by omega)).trans HXY.out);obtain⟨z0,z1,z2,z3,zf⟩:=qaa ((hl7.below.block _ (by omega)).trans HZY.out);have HB7:=hdzz (HBY.out.trans (hl7.below.mono (by omega)));have HR7:=hdzz (RepP.mono (w':=w7) (P':=fun b=>(P b∨w.heap.size≤b∧b≠w.heap.size)∧b<w7.heap.size) (fun b h=>⟨h.1.imp id fun h=>⟨by omega,by omega⟩,by have:=h.2;have:=hl7.size;omega⟩) (fun p h=>hl7.below.cell h.2) _ _ _ HRY.out);clear hl7 hlt;by_cases hv:vt=0
  case neg=>
   have q:(vt==0)=false:=by rw[beq_eq_false_iff_ne];exact hv
   have q':(vt != 0)=true:=by simp[hv]
   have HNV:=hdzz hv;clear hv HVT;go_wp2_with fail
   refine bodyPost_ret (v:=.tuple #[.agg #[.int .i64 0,.string ⟨#[]⟩,.int .i64 0,.slice none 0 0],.int .i64 vt]) ?_ rfl ?_
   ·simp[results,Tryz.results119,go_sem,z0,z1,z2,z3]
   exact qbn HNV.out HB7.out (Nat.le_refl _)
  subst hv;go_wp2_with fail
  refine bodyPost_ret (v:=.tuple #[Tm.val a Ar cr,.int .i64 0]) ?_ rfl ?_
  ·simp[results,Tryz.results119,go_sem,z0,z1,z2,z3,Tm.val,Tm.kind,Tm.name,Tm.sort,Tm.kids]
  have hpr:prodT l=a:=HPR.out;rw[hpr];exact qdg (HOKL.out (by rw[hpr];exact HVT.out.symm)) HB7.out HP.out (Nat.le_refl _) HR7.out
 | a::a2::r,HN2,HOS,HPR,HS2',HE2=>
  have AP:=qb5 ⟨#[109,117,108]⟩ (a::a2::r) A2 c2 w2 (fun b=>(P b∨w.heap.size<b)∧b<w2.heap.size) (fun b h=>h.2) (by unfold maxLen;decide) (by simp) (by have:=HN2.out;omega) HS2'.out;rw[←HN2.out]at AP;simp only[Tm.val,Tm.kind,Tm.name,Tm.sort,Tm.kids]at AP;rw[←HN2.out]at AP;have AP:=hdzz AP;go_wp2_with fail
  refine AP.out.mono ?_;clear AP z0 z1 z2 z3 zf;rintro e w3 ⟨A3,c3,rfl,hr3,hb3⟩;have hs3:=hb3.size;have h1:=HLT2.out;have HB3:=hdzz (HB2.out.trans (hb3.mono (by omega)));have HZ3:=hdzz ((hb3.block _ h1.1).trans HZ2.out);have HR3:=hdzz hr3;obtain⟨X,hX⟩:∃X,X=w3.alloc (.cells #[.int .i64 3,.string ⟨#[109,117,108]⟩,.int .i64 0,.slice A3 n2 c3] 24):=⟨_,rfl⟩;have hbX:Below w3.heap.size w3 X:=by rw[hX];exact qad (Nat.le_refl _) _
  have hsX:X.heap.size=w3.heap.size+1:=by rw[hX];simp
  have hxX:X.heap[w3.heap.size]?=some (.cells #[.int .i64 3,.string ⟨#[109,117,108]⟩,.int .i64 0,.slice A3 n2 c3] 24 (0,0)):=by rw[hX];exact heap_alloc_new _ _
  have HX:=hdzz hX;have HBX:=hdzz (HB3.out.trans (hbX.mono (by omega)));have HZX:=hdzz ((hbX.block _ (by omega)).trans HZ3.out);obtain⟨Y,hY⟩:∃Y,Y=X:=⟨_,rfl⟩;subst hY;obtain⟨Bx,hBx⟩:∃b,b=w3.heap.size:=⟨_,rfl⟩;have HBE:=hdzz hBx;have hwb:w.heap.size<Bx:=by omega
  have hnl:n2=(a::a2::r).length:=HN2.out;have HBY:=HBX;have HZY:=HZX;have HXY:Hid (Y.heap[Bx]?=some (.cells #[.int .i64 3,.string ⟨#[109,117,108]⟩,.int .i64 0,.slice A3 n2 c3] 24 (0,0))):=hdzz (by rw[hBx];exact hxX);have HLT:Hid (w.heap.size<Bx∧Bx<Y.heap.size):=hdzz ⟨hwb,by omega⟩;have HRY:Hid (RepP Y (fun b=>(P b∨w.heap.size<b)∧b<Y.heap.size) (.mk 3 nMul 0 (a::a2::r)) A3 c3):=hdzz (RepP.mono (fun b h=>by
   rcases h with h|h
   ·exact⟨h.1,by have:=h.2;omega⟩
   ·exact⟨.inr (by omega),by have:=h.2;omega⟩) (fun p hp=>hbX.cell (hp.elim (fun h=>by have:=h.2;omega) (fun h=>h.2))) _ _ _ hr3)
  have HSR:Hid ((Tm.mk 3 nMul 0 (a::a2::r)).size≤1000000):=hdzz (by
   have h:=qj6 HOS.out;rw[←hnl]at h;rw[Tm.size];omega)
  obtain⟨kl,hkl⟩:∃k,k=a::a2::r:=⟨_,rfl⟩;have hn2':2≤n2:=by rw[hnl];simp
  rw[←hkl]at HRY HSR hnl;have HKL:=hdzz hkl;have HNN:=hdzz hnl;have d0:((n2:Int)==0)=false:=by rw[beq_eq_false_iff_ne];omega
  have d1:((n2:Int)==1)=false:=by rw[beq_eq_false_iff_ne];omega
  clear hb3 hX hxX hbX hsX h1 hs3 hwb hBx HBX HZX HB2 HZ2 hr3 HR3 HB3 HZ3 hnl hkl hn2';go_upto_region 8 with fail
  rw[←HX.out];clear HX;go_upto_region 12 with fail
  rw[←HBE.out];have VT:=qbr (Tm.mk 3 nMul 0 kl) A3 c3 Y HSR.out (RepP.mono (fun b h=>h.2) (fun _ _=>rfl) _ _ _ HRY.out);obtain⟨vt,hvt⟩:∃v,v=((Tm.mk 3 nMul 0 kl)).valid:=⟨_,rfl⟩;rw[←hvt]at VT;have HVT:=hdzz hvt;simp only[Tm.val,Tm.kind,Tm.name,Tm.sort,Tm.kids,nMul,←HNN.out]at VT;have VT:=hdzz VT;clear hvt;obtain⟨x0,x1,x2,x3,xf⟩:=qaa HXY.out
  (try simp only[Tm.kind,Tm.name,Tm.sort,Tm.kids]at x0 x1 x2 x3)
  go_wp2_with fail
  refine VT.out.mono ?_;clear VT x0 x1 x2 x3 xf;rintro e w7 ⟨rfl,hl7⟩;have hlt:=HLT.out;obtain⟨x0,x1,x2,x3,xf⟩:=qaa ((hl7.below.block Bx (by omega)).trans HXY.out)
  (try simp only[Tm.kind,Tm.name,Tm.sort,Tm.kids]at x0 x1 x2 x3)
  obtain⟨z0,z1,z2,z3,zf⟩:=qaa ((hl7.below.block _ (by omega)).trans HZY.out);have HB7:=hdzz (HBY.out.trans (hl7.below.mono (by omega)));have HR7:=hdzz (RepP.mono (w':=w7) (P':=fun b=>(P b∨w.heap.size≤b∧b≠w.heap.size)∧b<w7.heap.size) (fun b h=>⟨h.1.imp id fun h=>⟨by omega,by omega⟩,by have:=h.2;have:=hl7.size;omega⟩) (fun p h=>hl7.below.cell h.2) _ _ _ HRY.out);clear hl7 hlt;by_cases hv:vt=0
  case neg=>
   have q:(vt==0)=false:=by rw[beq_eq_false_iff_ne];exact hv
   have q':(vt != 0)=true:=by simp[hv]
   have HNV:=hdzz hv;clear hv HVT;go_wp2_with fail
   refine bodyPost_ret (v:=.tuple #[.agg #[.int .i64 0,.string ⟨#[]⟩,.int .i64 0,.slice none 0 0],.int .i64 vt]) ?_ rfl ?_
   ·simp[results,Tryz.results119,go_sem,z0,z1,z2,z3]
   exact qbn HNV.out HB7.out (Nat.le_refl _)
  subst hv;go_wp2_with fail
  refine bodyPost_ret (v:=.tuple #[Tm.val (Tm.mk 3 nMul 0 kl) A3 c3,.int .i64 0]) ?_ rfl ?_
  ·simp[results,Tryz.results119,go_sem,z0,z1,z2,z3,Tm.val,Tm.kind,Tm.name,Tm.sort,Tm.kids,nMul,HNN.out]
  have hpr:prodT l=.mk 3 nMul 0 kl:=by rw[HKL.out];exact HPR.out
  rw[hpr];exact qdg (HOKL.out (by rw[hpr];exact HVT.out.symm)) HB7.out HP.out (Nat.le_refl _) HR7.out
theorem qm0 {w:World} {base:Nat} {F:Nat→Prop} {v:Value} {its:List IW} (hrow:RowW w base F v its) (hF:∀b,F b→b<base) (hbase:base≤w.heap.size) {l:List Pw} {A:Option Addr} {c:Nat} (hS:RepW w F l A c) (hlen:its.length+l.length≤1000000) :
  ∃v' w' it2,it2.map IW.pw=l∧(∀ty,(Builtin.append_ #[129,129] ty #[v,.slice A l.length c]).run Tryz.prog w=.ok v' w')∧RowW w' base F v' (its++it2)∧(∀W0 B0,Below B0 W0 w→B0≤base→Below B0 W0 w'):=by
 obtain⟨it2,hm,hV,hR⟩:∃it2:List IW,it2.map IW.pw=l∧RepV w F 5 (wCells it2) A it2.length c∧∀x∈it2,RepP w F x.1.1 x.1.2.1 x.1.2.2:=by
  obtain⟨h1,h2,h3⟩:=hS;rcases h3 with rfl|⟨b,off,rfl,hb,it2,hm,hc,hr⟩
  ·exact⟨[],rfl,⟨by simp[wCells],h1,h2,.inl rfl⟩,by simp⟩
  ·have hl:it2.length=l.length:=by rw[←hm,List.length_map]
   exact⟨it2,hm,⟨by rw[qfs],by omega,h2,.inr ⟨b,off,rfl,hb,hc⟩⟩,hr⟩
 have hl:l.length=it2.length:=by rw[←hm,List.length_map]
 obtain⟨v',w',hap,hown,G⟩:=qjd qja hrow.own hbase hV (qd1 _) (by unfold maxLen;omega) (by omega);refine⟨v',w',it2,hm,fun ty=>by rw[hl];exact hap ty,⟨by rw[List.length_append,qcu];exact hown,fun x hx=>?_⟩,fun W0 B0 h hB=>h.trans (G.below.mono hB)⟩;have hne:∀b,F b→v'.ownBlock≠some b:=fun b h e=>by
  have:=hF b h;rcases G.own with h'|h'
  ·rw[h']at e;have:=(hrow.lt b e).1;omega
  ·have:=h' b e;omega
 have hsz:=G.size;rcases List.mem_append.1 hx with hx|hx
 ·exact RepP.mono (fun b h=>⟨h.1,by have:=h.2.1;omega,hne b h.1⟩) (fun p hp=>G.below.cell (hF _ hp.1)) _ _ _ (hrow.reps x hx)
 ·exact RepP.mono (fun b h=>⟨h,by have:=hF b h;omega,hne b h⟩) (fun p hp=>G.below.cell (hF _ hp)) _ _ _ (hR x hx)
attribute [local irreducible] qax
theorem rmul6_any (a b0:List Pw) (A B:Option Addr) (c d:Nat) (w:World) (P:Nat→Prop) (hP:∀b,P b→b<w.heap.size) (hoa:Okp a) (hob:Okp b0) (hla:a.length≤1000000) (hlb:b0.length≤1000000) (hsa:∀p∈a,p.1.size≤1000000) (hsb:∀p∈b0,p.1.size≤1000000)
  (hra:RepW w P a A c) (hrb:RepW w P b0 B d) :
  Calls Tryz.prog 120 #[.slice A a.length c,.slice B b0.length d] w (EoW (VP a∧VP b0∧RP (mulP a b0)) P (mulP a b0) w):=by
 have mixed:=mixz;have VA:=hdzz (qfk a A c w hoa hla hsa (hra.mono (fun b h=>hP b h) (fun _ _=>rfl)));have VB:Hid (∀X,Below w.heap.size w X→Calls Tryz.prog 145 #[.slice B b0.length d] X fun e w'=>∃v:Int,e=.returned (.int .i64 v)∧(v=0→VP b0)∧Below X.heap.size X w'):=hdzz fun X hX=>
  qfk b0 B d X hob hlb hsb (hrb.mono (fun b h=>by have:=hP b h;have:=hX.size;omega) (fun p hp=>hX.cell (hP _ hp)))
 obtain⟨na,hna⟩:∃k,k=a.length:=⟨_,rfl⟩;obtain⟨nb,hnb⟩:∃k,k=b0.length:=⟨_,rfl⟩;have HNA:=hdzz hna;have HNB:=hdzz hnb;rw[←hna]at VA hla ⊢;rw[←hnb]at VB hlb ⊢;have hlbI:(nb:Int)≤1000000:=by omega
 have hlaI:(na:Int)≤1000000:=by omega
 have HP:=hdzz hP;have HRA:=hdzz hra;have HRB:=hdzz hrb;have HOA:=hdzz hoa;have HOB:=hdzz hob;have HSA:=hdzz hsa;have HSB:=hdzz hsb;clear hna hnb hP hra hrb hoa hob hsa hsb;go_enter Tryz.func120,Tryz.ntmps120
 go_wp2_with fail
 refine VA.out.mono ?_;clear VA;rintro e w1 ⟨v,rfl,hv1,hb1⟩;have HB1:=hdzz hb1;have HV1:=hdzz hv1;clear hb1 hv1;by_cases hv:v=0
 case neg=>
  have q:(v==0)=false:=by rw[beq_eq_false_iff_ne];exact hv
  have q':(v != 0)=true:=by simp[hv]
  have HNV:=hdzz hv;clear hv;go_wp2_with fail
  go_ret2
  exact .inl ⟨v,HNV.out,rfl,HB1.out⟩
 subst hv;have HVA:=hdzz (HV1.out rfl);have VB:=hdzz (VB.out w1 HB1.out);clear HV1;go_wp2_with fail
 refine VB.out.mono ?_;clear VB;rintro e w2 ⟨v,rfl,hv2,hb2⟩;have HB2:=sbtz HB1 hb2;have HV2:=hdzz hv2;clear hb2 hv2 HB1;by_cases hv:v=0
 case neg=>
  have q:(v==0)=false:=by rw[beq_eq_false_iff_ne];exact hv
  have q':(v != 0)=true:=by simp[hv]
  have HNV:=hdzz hv;clear hv;go_wp2_with fail
  go_ret2
  exact .inl ⟨v,HNV.out,rfl,HB2.out⟩
 subst hv;have HVB:=hdzz (HV2.out rfl);clear HV2;have hs2:=HB2.out.size;have hna2:na≤200:=by have:=HVA.out.1;have:=HNA.out;omega
 have hnb2:nb≤200:=by have:=HVB.out.1;have:=HNB.out;omega
 have hbX:Below w2.heap.size w2 (w2.alloc (.cells #[] 163)):=qad (Nat.le_refl _) _;have hrX:RowW (w2.alloc (.cells #[] 163)) w2.heap.size P (.slice (some ⟨w2.heap.size,0,none⟩) 0 0) []:=by
  refine⟨?_,by simp⟩;exact World.ownsRow_made (base:=w2.heap.size) (e:=163) (size:=5) w2 #[] 0 (by simp) (by simp[maxLen]) rfl
 obtain⟨v3,w3,it3,hm3,hap3,hr3,hbel3⟩:=qm0 hrX (fun b h=>by have:=HP.out b h;omega) (by simp) (HRA.out.mono (fun _ h=>h) (fun p hp=>(hbX.cell (by have:=HP.out _ hp;omega)).trans (HB2.out.cell (HP.out _ hp)))) (by have:=HNA.out;simp;omega);rw[List.nil_append]at hr3;have hb3:=hbel3 w2 w2.heap.size hbX (Nat.le_refl _);have hs3:=hb3.size;obtain⟨A3,c3,rfl,hW3⟩:=hr3.toW (P:=fun b=>P b∨w.heap.size≤b∧b<w3.heap.size) (fun b h _=>.inl h) (fun b h=>.inr ⟨by have:=(hr3.lt b h).1;omega,(hr3.lt b h).2⟩);rw[hm3]at hW3;have hl3:it3.length=na:=by rw[HNA.out,←hm3,List.length_map]
 rw[←HNA.out,hl3]at hap3;have HW3:=hdzz hW3;have HB3:=hdzz (HB2.out.trans (hb3.mono hs2));clear hbX hrX hm3 hr3 hbel3 hb3 hs3 hW3 hs2;clear hl3 HB2;go_wp2_with (at_builtin;refine qab rfl _ _ rfl rfl rfl hap3 ?_)
 go_loopw [8,9] (fun u i wr=>∃(k:Nat) (L:List Pw) (A1:Option Addr) (c1 m1:Nat),k≤nb∧i=.int .i64 k∧u=.slice A1 m1 c1∧Hid (m1=L.length)∧Hid (L=mulP a (b0.take k))∧Hid (RepW wr (fun b=>P b∨w.heap.size≤b∧b<wr.heap.size) L A1 c1)∧Hid (Below w.heap.size w wr)) (fun _ i _=>nb - (intOf i).toNat)
 case atStart=>exact⟨0,a,A3,c3,na,Nat.zero_le _,rfl,rfl,HNA.out,rfl,HW3.out,HB3.out⟩
 case round=>
  obtain⟨k,L,A1,c1,m1,hk,rfl,rfl,HM,HL,HR,HB⟩:=hrel;have i1:(0:Int)≤(k:Int):=Int.natCast_nonneg _;have hsr:=HB.out.size;clear HW3 HB3 hap3;have hbdL:BdP (1000+1000*k) (200+k) L:=by
   rw[HL.out];exact BdP.mul ⟨HVA.out.1,fun p hp=>⟨HSA.out p hp,by have:=(HVA.out.2 p hp).2;omega⟩⟩ (fun p hp=>⟨HSB.out p hp,(HVB.out.2 p hp).2⟩) k (by rw[←HNB.out];exact hk)
  have hgL:qbj L:=by rw[HL.out];exact qf8 HOA.out.1 HOB.out.1.2 k
  by_cases hlt:k<nb
  ·have i2:(k:Int)<(nb:Int):=by omega
   have hkl:k<b0.length:=by have:=HNB.out;omega
   obtain⟨b,off,rfl,hbB,hget⟩:=(HRB.out.mono (w':=wr) (P':=P) (fun _ h=>h) (fun p hp=>HB.out.cell (HP.out _ hp))).get (fun e=>by rw[e]at hkl;simp at hkl);obtain⟨A2,c2,q0,q1,q2,q3,q4,q5⟩:=hget k hkl;have hbs:=HP.out b hbB;have hns:=HSB.out b0[k] (List.getElem_mem hkl);have hnv:=(HVB.out.2 b0[k] (List.getElem_mem hkl)).2;have hmt:=qhw a b0 hkl;obtain⟨x,hx⟩:∃x,x=b0[k]:=⟨_,rfl⟩;rw[←hx]at q0 q1 q2 q3 q4 q5 hns hnv hmt;clear hx hget;obtain⟨u,m⟩:=x;dsimp only at q0 q1 q2 q3 q4 q5 hns hnv hmt;have hbD:Below wr.heap.size wr wr.drew:=(Below.refl _ _).drew;have hsD:wr.drew.heap.size=wr.heap.size:=rfl;have p0:wr.drew.cell? ⟨b,off+k*5,none⟩=_:=q0;have p1:wr.drew.cell? ⟨b,off+k*5+1,none⟩=_:=q1;have p2:wr.drew.cell? ⟨b,off+k*5+2,none⟩=_:=q2
   have p3:wr.drew.cell? ⟨b,off+k*5+3,none⟩=_:=q3;have p4:wr.drew.cell? ⟨b,off+k*5+4,none⟩=_:=q4;have AD:=qkk L u m A1 A2 c1 c2 wr.drew (fun b=>P b∨w.heap.size≤b∧b<wr.heap.size) (fun b h=>h.elim (fun h=>by have:=HP.out b h;omega) (fun h=>h.2)) (by have:=hbdL.1;omega) (fun p hp=>(hbdL.2 p hp).1) hns (fun p hp=>⟨hgL.2 p hp,by have:=(hbdL.2 p hp).2;omega⟩) (by omega)
    (RepW.mono (w:=wr) (w':=wr.drew) (fun _ h=>h) (fun _ _=>rfl) HR.out) (RepP.mono (w:=wr) (w':=wr.drew) (fun _ h=>.inl h) (fun _ _=>rfl) _ _ _ q5)
   rw[qh7 _ _ _ hgL,HL.out,←hmt,←HL.out,←HM.out]at AD;obtain⟨L2,hL2⟩:∃L2,L2=mulP a (b0.take (k+1)):=⟨_,rfl⟩;rw[←hL2]at AD;have HL2:=hdzz hL2;simp only[Tm.val]at AD;have AD:=hdzz AD;have HBD:=hdzz (HB.out.trans (hbD.mono hsr));have HSD:=hdzz hsD;clear hL2 hmt hnv hns hgL hbdL q5 HR HL HM;go_wp2_with fail
   refine qaf (fun Y=>Below wr.drew.heap.size wr.drew Y) (fun _=>True) [] (.held 0 (.held 1 (.held 2 (.held 3 (.held 4 (.held 5 (.held 6 (.held 7 (.held 8 (.held 9 (.held 10 (.op 11 (.held 12 .nil))))))))))))) mixed (by kernel_rfl) ?_;clear q0 q1 q2 q3 q4 hbD hsD;generalize wr.drew=D at *;have hbs2:b<D.heap.size:=by have:=HSD.out;omega
   refine stkz (.slice A1 m1 c1) rfl rfl rfl (fun _ _ _ h=>h) (Below.refl _ _) (fun Y hY=>by
     (try simp only[Act.put]);go_simp) ?_
   refine stkz (.slice (some ⟨b,off,none⟩) nb d) rfl rfl rfl (fun _ _ _ h=>h) (Below.refl _ _) (fun Y hY=>by
     (try simp only[Act.put]);go_simp) ?_
   refine stkz (.int .i64 k) rfl rfl rfl (fun _ _ _ h=>h) (Below.refl _ _) (fun Y hY=>by
     (try simp only[Act.put]);go_simp) ?_
   refine stkz (.pointer (some ⟨b,off+k*5,none⟩)) rfl rfl rfl (fun _ _ _ h=>h) (Below.refl _ _) (fun Y hY=>by
     (try simp only[Act.put]);go_simp) ?_
   simp only[Act.put,fsa,fsb,fsc,fsd,fse,fsf];refine stkz (.pointer (some ⟨b,off+k*5,none⟩)) rfl rfl rfl (fun _ _ _ h=>h) (Below.refl _ _) (fun Y hY=>by
     (try simp only[Act.put]);go_simp) ?_
   refine stkz (.agg #[.int .i64 u.kind,.string u.name,.int .i64 u.sort,.slice A2 u.kids.length c2]) rfl rfl rfl (fun _ _ _ h=>h) (Below.refl _ _) (fun Y hY=>by
     have z0:=sclz hY p0 (by omega);have z1:=sclz hY p1 (by omega);have z2:=sclz hY p2 (by omega);have z3:=sclz hY p3 (by omega)
     (try simp only[Act.put]);go_simp) ?_
   simp only[Act.put,fsa,fsb,fsc,fsd,fse,fsf];refine stkz (.slice (some ⟨b,off,none⟩) nb d) rfl rfl rfl (fun _ _ _ h=>h) (Below.refl _ _) (fun Y hY=>by
     (try simp only[Act.put]);go_simp) ?_
   refine stkz (.int .i64 k) rfl rfl rfl (fun _ _ _ h=>h) (Below.refl _ _) (fun Y hY=>by
     (try simp only[Act.put]);go_simp) ?_
   refine stkz (.pointer (some ⟨b,off+k*5,none⟩)) rfl rfl rfl (fun _ _ _ h=>h) (Below.refl _ _) (fun Y hY=>by
     (try simp only[Act.put]);go_simp) ?_
   simp only[Act.put,fsa,fsb,fsc,fsd,fse,fsf];refine stkz (.pointer (some ⟨b,off+k*5+4,none⟩)) rfl rfl rfl (fun _ _ _ h=>h) (Below.refl _ _) (fun Y hY=>by
     (try simp only[Act.put]);go_simp) ?_
   refine stkz (.int .i64 m) rfl rfl rfl (fun _ _ _ h=>h) (Below.refl _ _) (fun Y hY=>by
     have z4:=sclz hY p4 (by omega)
     (try simp only[Act.put]);go_simp) ?_
   simp only[Act.put,fsa,fsb,fsc,fsd,fse,fsf];refine qae rfl rfl (fun K hK=>?_);go_wp2_with fail
   refine AD.out.mono ?_;clear AD p0 p1 p2 p3 p4;rintro e w5 ⟨A5,c5,rfl,hr5,hb5⟩;refine hK _ _ ⟨⟨fun _=>hb5,trivial⟩,?_⟩;clear hK K;refine stkz (.slice A5 L2.length c5) rfl rfl rfl (fun _ _ _ h=>h) hb5 (fun Y hY=>by
     (try simp only[Act.put]);go_simp) ?_
   refine qar ?_;have HB5:=hdzz (HBD.out.trans (hb5.mono (by have:=HSD.out;omega)));have HR5:Hid (RepW w5 (fun b=>P b∨w.heap.size≤b∧b<w5.heap.size) L2 A5 c5):=hdzz (hr5.mono (fun b h=>by
    have:=hb5.size;have:=HSD.out;rcases h with(h|h)|h
    ·exact .inl h
    ·exact .inr ⟨h.1,by omega⟩
    ·exact .inr ⟨by omega,h.2⟩) (fun _ _=>rfl))
   clear hr5 hb5;simp only[Act.put,fsa,fsb,fsc,fsd,fse,fsf];go_wp2_with fail
   go_roundw
   case rel=>exact⟨k+1,L2,A5,c5,_,by omega,by go_num,rfl,rfl,HL2.out,HR5.out,HB5.out⟩
   case measure=>simp[intOf];omega
  ·obtain rfl:k=nb:=by omega
   have hLL:L=mulP a b0:=by have h:=HL.out;rw[HNB.out,List.take_length]at h;exact h
   have IR:=qkd L A1 c1 wr (by have:=hbdL.1;omega) (HR.out.mono (fun b h=>h.elim (fun h=>by have:=HP.out b h;omega) (fun h=>h.2)) (fun _ _=>rfl));have HLL:=hdzz hLL;rw[←HM.out]at IR;have IR:=hdzz IR;clear hbdL hgL HL hLL;go_wp2_with fail
   refine IR.out.mono ?_;clear IR;rintro e w5 ⟨v,rfl,hv5,hb5⟩;have HB5:=hdzz (HB.out.trans (hb5.mono hsr));have HR5:Hid (RepW w5 (fun b=>P b∨w.heap.size≤b∧b<w5.heap.size) L A1 c1):=hdzz (HR.out.mono (fun b h=>h.imp id fun h=>⟨h.1,by have:=hb5.size;omega⟩) (fun p hp=>hb5.cell (hp.elim (fun h=>by have:=HP.out _ h;omega) (fun h=>h.2))));have HV5:=hdzz hv5;clear hv5 hb5;by_cases hv:v=0
   case neg=>
    have q:(v==0)=false:=by rw[beq_eq_false_iff_ne];exact hv
    have q':(v != 0)=true:=by simp[hv]
    have HNV:=hdzz hv;clear hv;go_wp2_with fail
    go_ret2
    exact .inl ⟨v,HNV.out,rfl,HB5.out⟩
   subst hv;have HRP:=hdzz (HV5.out rfl);have hm:=HM.out;subst hm;go_wp2_with fail
   go_ret2
   rw[←HLL.out];exact .inr ⟨⟨HVA.out,HVB.out,HRP.out⟩,A1,c1,rfl,HR5.out,HB5.out⟩
theorem of_len (t:Tm):(ofT t).length≤t.size:=by have h:=col_len t 1 [];rw[List.length_nil,Nat.zero_add]at h;exact h
mutual
theorem qk6 {M:Nat}:∀(t:Tm),t.size≤M→AllF (fun x=>x.size≤M) t
 | .mk k n s l,h=>by
  rw[AllF]
  split
  ·rw[Tm.size]at h;exact qi5 l (by omega)
  ·exact h
theorem qi5 {M:Nat}:∀(l:List Tm),Tm.sizes l≤M→AllFs (fun x=>x.size≤M) l
 | [],_=>by rw[AllFs];trivial
 | t::r,h=>by rw[Tm.sizes]at h;rw[AllFs];exact⟨qk6 t (by omega),qi5 r (by omega)⟩
end
theorem qlo {M:Nat} (t:Tm) (h:t.size≤M):∀p∈ofT t,p.1.size≤M:=qed (Q:=fun x=>x.size≤M) (qk6 t h)
theorem qj8 (t:Tm) (A:Option Addr) (c:Nat) (w:World) (P:Nat→Prop) (hP:∀b,P b→b<w.heap.size) (hsz:t.size≤1000000) (hrep:RepP w P t A c) :
  Calls Tryz.prog 76 #[t.val A c] w (EoT (OfOK t∧qds (ofT t)) P (prodT (ofT t)) w):=by
 obtain⟨V1,hV1⟩:∃V,V=w.alloc (qag t A c):=⟨_,rfl⟩;obtain⟨V,hV⟩:∃V,V=V1.alloc (.cells #[.int .i64 0,.string ⟨#[]⟩,.int .i64 0,.slice none 0 0] 24):=⟨_,rfl⟩;have s1:V1.heap.size=w.heap.size+1:=by rw[hV1];simp
 have hb1:Below w.heap.size w V1:=by rw[hV1];exact qad (Nat.le_refl _) _
 have hbV:Below w.heap.size w V:=by rw[hV];exact hb1.alloc (by omega) _
 have hsV:V.heap.size=w.heap.size+1+1:=by rw[hV];simp[s1]
 have hx:V.heap[w.heap.size]?=some (qag t A c):=by rw[hV,Below.heap_alloc _ _ _ (by omega),hV1];exact heap_alloc_new w _
 have hz:V.heap[w.heap.size+1]?=some (.cells #[.int .i64 0,.string ⟨#[]⟩,.int .i64 0,.slice none 0 0] 24 (0,0)):=by rw[hV,←s1];exact heap_alloc_new V1 _
 have OF:=qlf t A c V P (fun b h=>by have:=hP b h;omega) hsz (RepP.mono (fun _ h=>h) (fun p hp=>hbV.cell (hP _ hp)) _ _ _ hrep);have hok:Okp (ofT t):=Okp.ofT t;have TM:Hid (∀(Z:World) (A2:Option Addr) (c2:Nat) (P2:Nat→Prop),(∀b,P2 b→b<Z.heap.size)→RepW Z P2 (ofT t) A2 c2→Calls Tryz.prog 119 #[.slice A2 (ofT t).length c2] Z (EoT (qds (ofT t)) P2 (prodT (ofT t)) Z)):=hdzz fun Z A2 c2 P2 h1 h2=>
  qgi (ofT t) A2 c2 Z P2 h1 hok (Nat.le_trans (of_len t) hsz) (qlo t hsz) h2
 obtain⟨r,hr⟩:∃r,r=prodT (ofT t):=⟨_,rfl⟩;obtain⟨pe,hpe⟩:∃p,p=ofT t:=⟨_,rfl⟩;rw[←hr]at TM ⊢;rw[←hpe]at OF TM ⊢;obtain⟨ne,hne⟩:∃n,n=pe.length:=⟨_,rfl⟩;rw[←hne]at TM;have HNE:=hdzz hne;have HOF:=hdzz OF;simp only[qag]at hV1 hx;simp only[Tm.val]at OF ⊢;have OF:=hdzz OF;have HV1:=hdzz hV1;have HV:=hdzz hV;have HBV:=hdzz hbV;have HSV:=hdzz hsV;have HZ:=hdzz hz;obtain⟨x0,x1,x2,x3,xf⟩:=qaa hx;clear HOF hV1 hV s1 hb1 hbV hsV hx hz hr hpe hok hrep hne;go_enter Tryz.func76,Tryz.ntmps76
 go_upto_region 1 with fail
 rw[←HV1.out,←HV.out];clear HV1 HV;go_wp2_with fail
 refine OF.out.mono ?_;clear OF x0 x1 x2 x3 xf;rintro e w1 (⟨v,hv,rfl,hb1⟩|⟨hofk,A1,c1,rfl,hr1,hb1⟩)
 ·have HB1:=hdzz (HBV.out.trans (hb1.mono (by have:=HSV.out;omega)));obtain⟨z0,z1,z2,z3,zf⟩:=qaa ((hb1.block _ (by have:=HSV.out;omega)).trans HZ.out);clear hb1;have q:(v==0)=false:=by rw[beq_eq_false_iff_ne];exact hv
  have q':(v != 0)=true:=by simp[hv]
  have HNV:=hdzz hv;clear hv;go_wp2_with fail
  refine bodyPost_ret (v:=.tuple #[.agg #[.int .i64 0,.string ⟨#[]⟩,.int .i64 0,.slice none 0 0],.int .i64 v]) ?_ rfl ?_
  ·simp[results,Tryz.results76,go_sem,z0,z1,z2,z3]
  exact qbn HNV.out HB1.out (Nat.le_succ _)
 ·have HB1:=hdzz (HBV.out.trans (hb1.mono (by have:=HSV.out;omega)));have hs1:=hb1.size;have hsv:=HSV.out;have HZ1:=hdzz ((hb1.block _ (by omega)).trans HZ.out);have HS1:Hid (w.heap.size+1+1≤w1.heap.size):=hdzz (by omega);have TM:=hdzz (TM.out w1 A1 c1 (fun b=>P b∨V.heap.size≤b∧b<w1.heap.size) (fun b h=>h.elim (fun h=>by have:=hP b h;omega) (fun h=>h.2)) hr1);have HOK:=hdzz hofk;rw[←HNE.out];clear hr1 hb1 hofk hs1 hsv;go_wp2_with fail
  refine TM.out.mono ?_;clear TM;rintro e w2 (⟨v,hv,rfl,hb2⟩|⟨htok,A2,c2,rfl,hr2,hb2⟩)
  ·have hs1:=HS1.out;have HB2:=hdzz (HB1.out.trans (hb2.mono (by omega)));obtain⟨z0,z1,z2,z3,zf⟩:=qaa ((hb2.block _ (by omega)).trans HZ1.out);clear hb2 hs1;have q:(v==0)=false:=by rw[beq_eq_false_iff_ne];exact hv
   have q':(v != 0)=true:=by simp[hv]
   have HNV:=hdzz hv;clear hv;go_wp2_with fail
   refine bodyPost_ret (v:=.tuple #[.agg #[.int .i64 0,.string ⟨#[]⟩,.int .i64 0,.slice none 0 0],.int .i64 v]) ?_ rfl ?_
   ·simp[results,Tryz.results76,go_sem,z0,z1,z2,z3]
   exact qbn HNV.out HB2.out (Nat.le_succ _)
  ·have hs1:=HS1.out;have hs2:=hb2.size;have HB2:=hdzz (HB1.out.trans (hb2.mono (by omega)));obtain⟨z0,z1,z2,z3,zf⟩:=qaa ((hb2.block _ (by omega)).trans HZ1.out);have HR2:Hid (RepP w2 (fun b=>(P b∨w.heap.size≤b∧b≠w.heap.size+1)∧b<w2.heap.size) r A2 c2):=hdzz (RepP.mono (fun b h=>by
    have hsv:=HSV.out;rcases h with(h|h)|h
    ·exact⟨.inl h,by have:=hP b h;omega⟩
    ·exact⟨.inr ⟨by omega,by omega⟩,by omega⟩
    ·exact⟨.inr ⟨by omega,by omega⟩,h.2⟩) (fun _ _=>rfl) _ _ _ hr2)
   have HTK:=hdzz htok;simp only[Tm.val];clear hb2 hr2 htok hs1 hs2;go_wp2_with fail
   refine bodyPost_ret (v:=.tuple #[r.val A2 c2,.int .i64 0]) ?_ rfl ?_
   ·simp[results,Tryz.results76,go_sem,z0,z1,z2,z3,Tm.val]
   exact qdg ⟨HOK.out,HTK.out⟩ HB2.out hP (Nat.le_succ _) HR2.out
theorem qmy (b e:Tm) (B E:Option Addr) (cb ce:Nat) (w:World) (Pb:Nat→Prop) (hPb:∀b,Pb b→b<w.heap.size) (har:ArT b) (hsb:b.size≤400000) (hse:e.size≤400000) (hrb:RepP w Pb b B cb) (hre:RepP w Pb e E ce) :
  Calls Tryz.prog 77 #[b.val B cb,e.val E ce] w (EoT (qnq b e) Pb (qbc b e) w):=by
 obtain⟨V,hV⟩:∃V,V=((w.alloc (qag b B cb)).alloc (qag e E ce)).alloc (.cells #[.int .i64 0,.string ⟨#[]⟩,.int .i64 0,.slice none 0 0] 24):=⟨_,rfl⟩;have s1:(w.alloc (qag b B cb)).heap.size=w.heap.size+1:=by simp
 have s2:((w.alloc (qag b B cb)).alloc (qag e E ce)).heap.size=w.heap.size+1+1:=by simp
 have hbV:Below w.heap.size w V:=by rw[hV];exact(((Below.refl _ _).alloc (Nat.le_refl _) _).alloc (by simp) _).alloc (by simp;omega) _
 have H0:Hid (RsB Pb w b e B E cb ce V):=hdzz (by
  refine⟨?_,?_,?_,hbV,RepP.mono (fun _ h=>h) (fun p h=>hbV.cell (hPb _ h)) _ _ _ hrb,hPb⟩
  ·rw[hV,Below.heap_alloc _ _ _ (by rw[s2];omega),Below.heap_alloc _ _ _ (by rw[s1];omega)];exact heap_alloc_new w _
  ·rw[hV,Below.heap_alloc _ _ _ (by rw[s2];omega)];have h:=heap_alloc_new (w.alloc (qag b B cb)) (qag e E ce);rw[s1]at h;exact h
  ·rw[hV];have h:=heap_alloc_new ((w.alloc (qag b B cb)).alloc (qag e E ce)) (.cells #[.int .i64 0,.string ⟨#[]⟩,.int .i64 0,.slice none 0 0] 24);rw[s2]at h;exact h)
 have hszV:=H0.out.size;have OE:=qlf e E ce V Pb (fun b h=>by have:=hPb b h;omega) (by omega) (RepP.mono (fun _ h=>h) (fun p h=>hbV.cell (hPb _ h)) _ _ _ hre);obtain⟨res,hres⟩:∃r,r=qbc b e:=⟨_,rfl⟩;obtain⟨ok,hok⟩:∃p,p=qnq b e:=⟨_,rfl⟩;rw[←hres,←hok];rw[qbc]at hres;rw[qnq]at hok;have HRES:=hdzz hres;have HK:=hdzz hok;have HOE:=hdzz (Okp.ofT e);have HLE:=hdzz (of_len e);have HSE:=hdzz (qlo e hse);obtain⟨pe,hpe⟩:∃p,p=ofT e:=⟨_,rfl⟩;rw[←hpe]at OE HOE HRES HK HLE HSE;obtain⟨ne,hne⟩:∃n,n=pe.length:=⟨_,rfl⟩;have HNE:=hdzz hne;simp only[qag]at hV;simp only[Tm.val]at OE ⊢;have OE:=hdzz OE;have HV:=hdzz hV;obtain⟨x0,x1,x2,x3,xf⟩:=qaa H0.out.b1;obtain⟨y0,y1,y2,y3,yf⟩:=qaa H0.out.b2;clear s1 s2 hV hbV hrb hre hres hpe hne hok
 go_enter Tryz.func77,Tryz.ntmps77
 go_upto_region 1 with fail
 rw[←HV.out];clear HV;go_wp2_with fail
 refine OE.out.mono ?_;clear OE x0 x1 x2 x3 xf y0 y1 y2 y3 yf;rintro e' w1 (⟨v,hv,rfl,hb1⟩|⟨hofe,Ae,ca,rfl,hre1,hb1⟩)
 ·have H1:=hdzz (H0.out.go hb1);obtain⟨z0,z1,z2,z3,zf⟩:=qaa H1.out.b3;clear hb1;have q:(v==0)=false:=by rw[beq_eq_false_iff_ne];exact hv
  have q':(v != 0)=true:=by simp[hv]
  have HNV:=hdzz hv;clear hv;go_wp2_with fail
  refine bodyPost_ret (v:=.tuple #[.agg #[.int .i64 0,.string ⟨#[]⟩,.int .i64 0,.slice none 0 0],.int .i64 v]) ?_ rfl ?_
  ·simp[results,Tryz.results77,go_sem,z0,z1,z2,z3]
  exact qbn HNV.out H1.out.bel (by omega)
 rw[←HNE.out];have H1:=hdzz (H0.out.go hb1);have hs1:=hb1.size;have HRE1:Hid (RepW w1 (fun b=>Pb b∨w.heap.size+1+1<b∧b<w1.heap.size) pe Ae ca):=hdzz (hre1.mono (fun b h=>h.imp id fun h=>⟨by omega,h.2⟩) (fun _ _=>rfl));have HOFE:=hdzz hofe;clear hre1 hb1 H0 hofe;have IS:=qbs b nExp B cb w1;obtain⟨x0,x1,x2,x3,xf⟩:=qaa H1.out.b1;by_cases hx:b.isA nExp
 case neg=>
  rw[decide_eq_false hx]at IS;simp only[Tm.val,nExp]at IS;have IS:=hdzz IS;have HRS:Hid (mkE b pe=res):=hdzz (by rw[HRES.out,Tm.baseE,if_neg hx,Tm.expoE,if_neg hx,qgn HOE.out.1]);have HEX:Hid ((pe≠[]→qds pe)→ok):=hdzz fun h=>by
   rw[HK.out];refine⟨HOFE.out,fun h2=>absurd h2 hx,?_⟩;rw[Tm.expoE,if_neg hx,qgn HOE.out.1];exact h
  clear HRES HK hx;go_wp2_with fail
  refine IS.out.mono ?_;clear IS x0 x1 x2 x3 xf;rintro e' w2 ⟨rfl,hl2⟩;have H0:=hdzz (H1.out.go hl2.below);have hszw1:=H1.out.size;have HRW:Hid (RepW w2 (fun b=>Pb b∨w.heap.size+1+1<b∧b<w2.heap.size) pe Ae ca):=hdzz (HRE1.out.mono (fun b h=>h.imp id fun h=>⟨h.1,by have:=hl2.size;omega⟩) (fun p h=>hl2.below.cell (h.elim (fun h=>by have:=hPb _ h;omega) (fun h=>h.2))));have HOR:=HOE;have HSR:Hid (pe.length≤1000000∧∀p∈pe,p.1.size≤1000000):=hdzz ⟨by have:=HLE.out;omega,fun p hp=>by have:=HSE.out p hp;omega⟩;clear hszw1;obtain⟨W,hW⟩:∃x,x=w2:=⟨_,rfl⟩;subst hW;obtain⟨b0,hb0⟩:∃x,x=b:=⟨_,rfl⟩;subst hb0;obtain⟨r,hr⟩:∃x,x=pe:=⟨_,rfl⟩;subst hr;obtain⟨nr,hnr⟩:∃x,x=ne:=⟨_,rfl⟩;subst hnr;obtain⟨Ar,hAr⟩:∃x,x=Ae:=⟨_,rfl⟩;subst hAr;obtain⟨cr,hcr⟩:∃x,x=ca:=⟨_,rfl⟩;subst hcr
  obtain⟨B0,hB0⟩:∃x,x=B:=⟨_,rfl⟩;subst hB0;obtain⟨c0,hc0⟩:∃x,x=cb:=⟨_,rfl⟩;subst hc0;have HNR:=HNE;clear hl2 H1 HRE1 HOE HNE;by_cases hnr:nr=0
  ·have hr0:r=[]:=List.eq_nil_of_length_eq_zero (by rw[←HNR.out];exact hnr);have hres2:b0=res:=by have:=HRS.out;rw[hr0,mkE,if_pos rfl]at this;exact this
   have hnI:((nr:Int)==0)=true:=by rw[hnr];rfl
   have HR2:=hdzz hres2;have HOK:=hdzz (HEX.out fun h=>absurd hr0 h);clear hnr hr0 hres2;obtain⟨x0,x1,x2,x3,xf⟩:=qaa H0.out.b1;obtain⟨z0,z1,z2,z3,zf⟩:=qaa H0.out.b3;have hsz:=H0.out.size;go_wp2_with fail
   refine bodyPost_ret (v:=.tuple #[b0.val B0 c0,.int .i64 0]) ?_ rfl ?_
   ·simp[results,Tryz.results77,go_sem,z0,z1,z2,z3,Tm.val]
   rw[←HR2.out];exact qdg HOK.out H0.out.bel hPb (by omega) (RepP.mono (fun b h=>⟨.inl h,by have:=hPb b h;omega⟩) (fun _ _=>rfl) _ _ _ H0.out.rb)
  ·have hr0:r≠[]:=fun e=>hnr (by rw[HNR.out,e];rfl);have hnI:((nr:Int)==0)=false:=by rw[beq_eq_false_iff_ne];omega
   have hres2:.mk 3 nExp 0 [b0,prodT r]=res:=by have:=HRS.out;rw[mkE,if_neg hr0]at this;exact this
   have HR2:=hdzz hres2;have HEX2:Hid (qds r→ok):=hdzz fun h=>HEX.out fun _=>h;have hszW:=H0.out.size;have TM:=qgi r Ar cr W (fun b=>Pb b∨w.heap.size+1+1<b∧b<W.heap.size) (fun b h=>h.elim (fun h=>by have:=hPb b h;omega) (fun h=>h.2)) HOR.out HSR.out.1 HSR.out.2 HRW.out;rw[←HNR.out]at TM;obtain⟨pr,hpr⟩:∃p,p=prodT r:=⟨_,rfl⟩;rw[←hpr]at TM HR2;clear hnr hr0 hres2 hpr;have TM:=hdzz TM;go_wp2_with fail
   refine TM.out.mono ?_;clear TM;rintro e w6 (⟨v,hv,rfl,hb6⟩|⟨htok,A6,c6,rfl,hr6,hb6⟩)
   ·have H6:=hdzz (H0.out.go hb6);obtain⟨X,hX⟩:∃X,X=w6.alloc (.cells #[.int .i64 0,.string ⟨#[]⟩,.int .i64 0,.slice none 0 0] 24):=⟨_,rfl⟩;have hbX:Below w6.heap.size w6 X:=by rw[hX];exact qad (Nat.le_refl _) _
    have HX:=hdzz hX;have HXB:=hdzz (H6.out.go hbX);obtain⟨z0,z1,z2,z3,zf⟩:=qaa HXB.out.b3;clear hb6 hX hbX;have q:(v==0)=false:=by rw[beq_eq_false_iff_ne];exact hv
    have q':(v != 0)=true:=by simp[hv]
    have HNV:=hdzz hv;clear hv;go_upto_region 15 with fail
    rw[←HX.out];clear HX;go_wp2_with fail
    refine bodyPost_ret (v:=.tuple #[.agg #[.int .i64 0,.string ⟨#[]⟩,.int .i64 0,.slice none 0 0],.int .i64 v]) ?_ rfl ?_
    ·simp[results,Tryz.results77,go_sem,z0,z1,z2,z3]
    exact qbn HNV.out HXB.out.bel (by omega)
   ·have H6:=hdzz (H0.out.go hb6);have hs6:=hb6.size;simp only[Tm.val];obtain⟨X,hX⟩:∃X,X=w6.alloc (.cells #[.int .i64 pr.kind,.string pr.name,.int .i64 pr.sort,.slice A6 pr.kids.length c6] 24):=⟨_,rfl⟩;have hbX:Below w6.heap.size w6 X:=by rw[hX];exact qad (Nat.le_refl _) _
    have hsX:X.heap.size=w6.heap.size+1:=by rw[hX];simp
    have hxX:X.heap[w6.heap.size]?=some (.cells #[.int .i64 pr.kind,.string pr.name,.int .i64 pr.sort,.slice A6 pr.kids.length c6] 24 (0,0)):=by rw[hX];exact heap_alloc_new _ _
    obtain⟨u0,u1,u2,u3,uf⟩:=qaa hxX;have HXB:=hdzz (H6.out.go hbX);have HRP:Hid (RepP X (fun b=>Pb b∨w.heap.size+1+1<b∧b<X.heap.size) pr A6 c6):=hdzz (RepP.mono (fun b h=>by
     rcases h with(h|h)|h
     ·exact .inl h
     ·exact .inr ⟨h.1,by omega⟩
     ·exact .inr ⟨by omega,by omega⟩) (fun p hp=>hbX.cell (by
     rcases hp with(h|h)|h
     ·have:=hPb _ h;omega
     ·omega
     ·exact h.2)) _ _ _ hr6)
    obtain⟨Y,hY⟩:∃Y,Y=X.alloc (.cells (itCells [((b0,B0,c0):It),(pr,A6,c6)]).toArray 24):=⟨_,rfl⟩;have hbY:Below X.heap.size X Y:=by rw[hY];exact qad (Nat.le_refl _) _
    have hsY:Y.heap.size=X.heap.size+1:=by rw[hY];simp
    have hxY:Y.heap[X.heap.size]?=some (.cells (itCells [((b0,B0,c0):It),(pr,A6,c6)]).toArray 24 (0,0)):=by rw[hY];exact heap_alloc_new _ _
    have hYS:RepS Y (fun b=>Pb b∨w.heap.size+1+1<b∧b<Y.heap.size) [b0,pr] (some ⟨X.heap.size,0,none⟩) 2:=by
     refine⟨Nat.le_refl _,by unfold maxLen;omega,.inr ⟨X.heap.size,0,rfl,.inr ⟨by omega,by omega⟩,?_⟩⟩;refine RepLP.of_its [((b0,B0,c0):It),(pr,A6,c6)] _ 0 (fun j u hj=>?_) (fun x hx=>?_)
     ·rw[Nat.zero_add];unfold World.cell?;rw[hxY];simpa using hj
     ·simp only[List.mem_cons,List.not_mem_nil,or_false]at hx;rcases hx with rfl|rfl
      ·exact RepP.mono (w:=X) (P:=Pb) (fun b h=>.inl h) (fun p h=>hbY.cell (by have:=hPb _ h;omega)) _ _ _ HXB.out.rb
      ·exact RepP.mono (fun b h=>h.imp id fun h=>⟨h.1,by omega⟩) (fun p h=>hbY.cell (h.elim (fun h=>by have:=hPb _ h;omega) (fun h=>h.2))) _ _ _ HRP.out
    have HYB:=hdzz (HXB.out.go hbY);have AP:=qb5 ⟨#[101,120,112]⟩ [b0,pr] (some ⟨X.heap.size,0,none⟩) 2 Y (fun b=>Pb b∨w.heap.size+1+1<b∧b<Y.heap.size) (fun b h=>h.elim (fun h=>by have:=hPb b h;omega) (fun h=>h.2)) (by unfold maxLen;decide) (by simp) (by simp) hYS;have e2:([b0,pr]:List Tm).length=2:=rfl;rw[e2]at AP;have AP:=hdzz AP;simp only[itCells,Tm.cells,List.cons_append,List.nil_append,List.append_nil]at hY;have HX:=hdzz hX;have HY:=hdzz hY;have HOK:=hdzz (HEX2.out htok);have HYS:=hdzz (show w.heap.size+1+1<Y.heap.size by omega);obtain⟨x0,x1,x2,x3,xf⟩:=qaa HXB.out.b1;clear hb6 hr6 hX hbX hsX hxX hY hbY hsY hxY hYS e2 hs6 htok;go_upto_region 15 with fail
    rw[←HX.out];clear HX;go_wp2_with fail
    rw[←HY.out];clear HY x0 x1 x2 x3 xf u0 u1 u2 u3 uf;refine AP.out.mono ?_;clear AP;rintro e w9 ⟨A9,c9,rfl,hr9,hb9⟩;have H9:=hdzz (HYB.out.go hb9);have HR9:Hid (RepP w9 (fun b=>(Pb b∨w.heap.size≤b∧b≠w.heap.size+1+1)∧b<w9.heap.size) (.mk 3 nExp 0 [b0,pr]) A9 c9):=hdzz (RepP.mono (fun b h=>by
     have:=hb9.size;have:=HYS.out;rcases h with(h|h)|h
     ·exact⟨.inl h,by have:=hPb b h;omega⟩
     ·exact⟨.inr ⟨by omega,by omega⟩,by omega⟩
     ·exact⟨.inr ⟨by omega,by omega⟩,h.2⟩) (fun _ _=>rfl) _ _ _ hr9)
    obtain⟨z0,z1,z2,z3,zf⟩:=qaa H9.out.b3;have e3:(Tm.mk 3 ⟨#[101,120,112]⟩ 0 [b0,pr]).val A9 c9=.agg #[.int .i64 3,.string ⟨#[101,120,112]⟩,.int .i64 0,.slice A9 2 c9]:=rfl;rw[e3];clear hb9 hr9 HYS e3;go_wp2_with fail
    refine bodyPost_ret (v:=.tuple #[Tm.val (.mk 3 nExp 0 [b0,pr]) A9 c9,.int .i64 0]) ?_ rfl ?_
    ·simp[results,Tryz.results77,go_sem,z0,z1,z2,z3,Tm.val,Tm.kind,Tm.name,Tm.sort,Tm.kids,nExp]
    rw[←HR2.out];exact qdg HOK.out H9.out.bel hPb (by omega) HR9.out
 have hbl:b.kids.length=2:=(har.num hx).2.1 (by decide);have hb1e:ofT (kidT b.kids 1)=b.expoE:=by rw[Tm.expoE,if_pos hx]
 have hok1:Okp b.expoE:=Okp.expo b;have HRS:Hid (mkE (kidT b.kids 0) (mulP b.expoE pe)=res):=hdzz (by rw[HRES.out,Tm.baseE,if_pos hx]);rw[decide_eq_true hx]at IS;simp only[Tm.val,nExp]at IS;have IS:=hdzz IS;have HBL:=hdzz hbl;clear HRES hbl;go_wp2_with fail
 refine IS.out.mono ?_;clear IS x0 x1 x2 x3 xf;rintro e' w2 ⟨rfl,hl2⟩;have H2:=hdzz (H1.out.go hl2.below);have hszw1:=H1.out.size;have HRE2:Hid (RepW w2 (fun b=>Pb b∨w.heap.size+1+1<b∧b<w2.heap.size) pe Ae ca):=hdzz (HRE1.out.mono (fun b h=>h.imp id fun h=>⟨h.1,by have:=hl2.size;omega⟩) (fun p h=>hl2.below.cell (h.elim (fun h=>by have:=hPb _ h;omega) (fun h=>h.2))));clear hl2 H1 HRE1 hszw1;obtain⟨kb,ko,A1,c1,hke,hkb,k0,k1,k2,k3,k1r⟩:=qal H2.out.rb 1 (by have:=HBL.out;omega);obtain⟨kb',ko',A0,c0,hke0,-,j0,j1,j2,j3,k0r⟩:=qal H2.out.rb 0 (by have:=HBL.out;omega);have hkb:kb<w.heap.size:=hPb _ hkb;subst hke;injection hke0 with hke0;injection hke0 with e1 e2;subst e1 e2;rw[Nat.one_mul]at k0 k1 k2 k3;rw[Nat.zero_mul,Nat.add_zero]at j0 j1 j2 j3;have hsz2:=H2.out.size;have hus:=qgo b 1
 have OF:=qlf (kidT b.kids 1) A1 c1 w2 Pb (fun b h=>by have:=hPb b h;omega) (by omega) k1r;have hql:=of_len (kidT b.kids 1);have hqs:=qlo (kidT b.kids 1) (M:=400000) (by omega);have HK2:Hid (OfOK (kidT b.kids 1)→VP b.expoE→VP pe→RP (mulP b.expoE pe)→(mulP b.expoE pe≠[]→qds (mulP b.expoE pe))→ok):=hdzz fun h1 h2 h3 h4 h5=>by
  rw[HK.out];exact⟨HOFE.out,fun _=>⟨h1,by rw[hb1e];exact h2,h3,h4⟩,h5⟩
 rw[hb1e]at OF hql hqs;obtain⟨u1,hu1⟩:∃u,u=kidT b.kids 1:=⟨_,rfl⟩;obtain⟨b0,hb0⟩:∃u,u=kidT b.kids 0:=⟨_,rfl⟩;rw[←hu1]at k0 k1 k2 k3 OF hql hus HK2;rw[←hb0]at j0 j1 j2 j3 k0r HRS;obtain⟨q,hq⟩:∃q,q=b.expoE:=⟨_,rfl⟩;rw[←hq]at hok1 HRS HK2 OF hql hqs;simp only[Tm.val]at OF;have OF:=hdzz OF;have HK0:=hdzz k0r;have HQL:=hdzz (show q.length≤400000 by omega);have HQS:=hdzz hqs;have MU:Hid (∀(Z:World) (A A':Option Addr) (c c':Nat) (P2:Nat→Prop),(∀b,P2 b→b<Z.heap.size)→RepW Z P2 q A c→RepW Z P2 pe A' c'→Calls Tryz.prog 120 #[.slice A q.length c,.slice A' pe.length c'] Z (EoW (VP q∧VP pe∧RP (mulP q pe)) P2 (mulP q pe) Z)):=hdzz fun Z A A' c c' P2 h0 h h'=>
  rmul6_any q pe A A' c c' Z P2 h0 hok1 HOE.out (by have:=HQL.out;omega) (by have:=HLE.out;omega) (fun p hp=>by have:=HQS.out p hp;omega) (fun p hp=>by have:=HSE.out p hp;omega) h h'
 have HOR:=hdzz (hok1.mul HOE.out);have HSR:Hid ((mulP q pe).length≤1000000∧∀p∈mulP q pe,p.1.size≤1000000):=hdzz ⟨by have h:=mul_len pe q;have:=HQL.out;have:=HLE.out;omega,qf3 (Q:=fun x=>x.size≤1000000) pe q (fun p hp=>by have:=HQS.out p hp;omega) (fun p hp=>by have:=HSE.out p hp;omega)⟩;rw[←HNE.out]at MU;obtain⟨x0,x1,x2,x3,xf⟩:=qaa H2.out.b1;rw[HBL.out]at x3;clear hu1 hb0 hq hb1e k1r k0r hok1 hql hqs hus HK hx;go_wp2_with fail
 refine OF.out.mono ?_;clear OF x0 x1 x2 x3 xf k0 k1 k2 k3;rintro e' w3 (⟨v,hv,rfl,hb3⟩|⟨hofu,A3,c3,rfl,hr3,hb3⟩)
 ·have H3:=hdzz (H2.out.go hb3);obtain⟨z0,z1,z2,z3,zf⟩:=qaa H3.out.b3;clear hb3 j0 j1 j2 j3;have q:(v==0)=false:=by rw[beq_eq_false_iff_ne];exact hv
  have q':(v != 0)=true:=by simp[hv]
  have HNV:=hdzz hv;clear hv;go_wp2_with fail
  refine bodyPost_ret (v:=.tuple #[.agg #[.int .i64 0,.string ⟨#[]⟩,.int .i64 0,.slice none 0 0],.int .i64 v]) ?_ rfl ?_
  ·simp[results,Tryz.results77,go_sem,z0,z1,z2,z3]
  exact qbn HNV.out H3.out.bel (by omega)
 have H3:=hdzz (H2.out.go hb3);have hs3:=hb3.size;have MU:=hdzz (MU.out w3 A3 Ae c3 ca (fun b=>Pb b∨w.heap.size+1+1<b∧b<w3.heap.size) (fun b h=>h.elim (fun h=>by have:=hPb b h;omega) (fun h=>h.2)) (hr3.mono (fun b h=>h.imp id fun h=>⟨by omega,h.2⟩) (fun _ _=>rfl)) (HRE2.out.mono (fun b h=>h.imp id fun h=>⟨h.1,by omega⟩) (fun p h=>hb3.cell (h.elim (fun h=>by have:=hPb _ h;omega) (fun h=>h.2)))));have HCL3:Hid (∀p:Addr,p.block<w.heap.size→w3.cell? p=w2.cell? p):=hdzz fun p hp=>hb3.cell (by omega);have HOFU:=hdzz hofu;obtain⟨nq,hnq⟩:∃n,n=q.length:=⟨_,rfl⟩;rw[←hnq]at MU ⊢;obtain⟨r,hr⟩:∃r,r=mulP q pe:=⟨_,rfl⟩;rw[←hr]at MU HRS HOR HSR HK2;clear hr3 hb3 H2 HRE2 hnq hr hofu;go_wp2_with fail
 refine MU.out.mono ?_;clear MU;rintro e' w4 (⟨v,hv,rfl,hb4⟩|⟨⟨hvq,hve,hrp⟩,Ar,cr,rfl,hr4,hb4⟩)
 ·have H4:=hdzz (H3.out.go hb4);obtain⟨z0,z1,z2,z3,zf⟩:=qaa H4.out.b3;clear hb4 j0 j1 j2 j3;have q:(v==0)=false:=by rw[beq_eq_false_iff_ne];exact hv
  have q':(v != 0)=true:=by simp[hv]
  have HNV:=hdzz hv;clear hv;go_wp2_with fail
  refine bodyPost_ret (v:=.tuple #[.agg #[.int .i64 0,.string ⟨#[]⟩,.int .i64 0,.slice none 0 0],.int .i64 v]) ?_ rfl ?_
  ·simp[results,Tryz.results77,go_sem,z0,z1,z2,z3]
  exact qbn HNV.out H4.out.bel (by omega)
 have HEX:Hid ((r≠[]→qds r)→ok):=hdzz fun h=>HK2.out HOFU.out hvq hve hrp h;have H4:=hdzz (H3.out.go hb4);have hs4:=hb4.size;have hsz3:=H3.out.size;have HCL4:Hid (∀p:Addr,p.block<w.heap.size→w4.cell? p=w2.cell? p):=hdzz fun p hp=>(hb4.cell (by omega)).trans (HCL3.out p hp);have HR4:Hid (RepW w4 (fun b=>Pb b∨w.heap.size+1+1<b∧b<w4.heap.size) r Ar cr):=hdzz (hr4.mono (fun b h=>by
  rcases h with(h|h)|h
  ·exact .inl h
  ·exact .inr ⟨h.1,by omega⟩
  ·exact .inr ⟨by omega,h.2⟩) (fun _ _=>rfl))
 have j0:=(HCL4.out ⟨kb,ko,none⟩ hkb).trans j0;have j1:=(HCL4.out ⟨kb,ko+1,none⟩ hkb).trans j1;have j2:=(HCL4.out ⟨kb,ko+2,none⟩ hkb).trans j2;have j3:=(HCL4.out ⟨kb,ko+3,none⟩ hkb).trans j3;obtain⟨x0,x1,x2,x3,xf⟩:=qaa H4.out.b1;rw[HBL.out]at x3;obtain⟨nr,hnr⟩:∃n,n=r.length:=⟨_,rfl⟩;rw[←hnr];have HNR:=hdzz hnr;obtain⟨W,hW,hx5,hb5,hs5,hc5⟩:=qcm (W:=w4) (B:=w.heap.size) (a:=.int .i64 b0.kind) (b:=.string b0.name) (c:=.int .i64 b0.sort) (d:=.slice A0 b0.kids.length c0) H4.out.b1;have H0:Hid (RsB Pb w b0 e A0 E c0 ce W):=hdzz ⟨hx5,(hc5.2 _ (by omega)).trans H4.out.b2,(hc5.2 _ (by omega)).trans H4.out.b3,H4.out.bel.trans (hb5.mono (Nat.le_refl _)),RepP.mono (w:=w2) (fun _ h=>h) (fun p (h:Pb p.block)=>(hc5.1 p (by have:=hPb _ h;omega)).trans (HCL4.out p (hPb _ h))) _ _ _ HK0.out,hPb⟩
 have HRW:Hid (RepW W (fun b=>Pb b∨w.heap.size+1+1<b∧b<W.heap.size) r Ar cr):=hdzz (HR4.out.mono (fun b h=>h.imp id fun h=>⟨h.1,by omega⟩) (fun p h=>hc5.1 p (h.elim (fun h=>by have:=hPb _ h;omega) (fun h=>by omega))));have HW:=hdzz hW;obtain⟨B0,hB0⟩:∃x,x=A0:=⟨_,rfl⟩;subst hB0;clear hr4 hb4 H3 hW hx5 hb5 hc5 hnr hvq hve hrp;go_upto_region 12 with fail
 rw[←HW.out];clear x0 x1 x2 x3 xf j0 j1 j2 j3 HW HCL3 HCL4 HR4;by_cases hnr:nr=0
 ·have hr0:r=[]:=List.eq_nil_of_length_eq_zero (by rw[←HNR.out];exact hnr);have hres2:b0=res:=by have:=HRS.out;rw[hr0,mkE,if_pos rfl]at this;exact this
  have hnI:((nr:Int)==0)=true:=by rw[hnr];rfl
  have HR2:=hdzz hres2;have HOK:=hdzz (HEX.out fun h=>absurd hr0 h);clear hnr hr0 hres2;obtain⟨x0,x1,x2,x3,xf⟩:=qaa H0.out.b1;obtain⟨z0,z1,z2,z3,zf⟩:=qaa H0.out.b3;have hsz:=H0.out.size;go_wp2_with fail
  refine bodyPost_ret (v:=.tuple #[b0.val B0 c0,.int .i64 0]) ?_ rfl ?_
  ·simp[results,Tryz.results77,go_sem,z0,z1,z2,z3,Tm.val]
  rw[←HR2.out];exact qdg HOK.out H0.out.bel hPb (by omega) (RepP.mono (fun b h=>⟨.inl h,by have:=hPb b h;omega⟩) (fun _ _=>rfl) _ _ _ H0.out.rb)
 ·have hr0:r≠[]:=fun e=>hnr (by rw[HNR.out,e];rfl);have hnI:((nr:Int)==0)=false:=by rw[beq_eq_false_iff_ne];omega
  have hres2:.mk 3 nExp 0 [b0,prodT r]=res:=by have:=HRS.out;rw[mkE,if_neg hr0]at this;exact this
  have HR2:=hdzz hres2;have HEX2:Hid (qds r→ok):=hdzz fun h=>HEX.out fun _=>h;have hszW:=H0.out.size;have TM:=qgi r Ar cr W (fun b=>Pb b∨w.heap.size+1+1<b∧b<W.heap.size) (fun b h=>h.elim (fun h=>by have:=hPb b h;omega) (fun h=>h.2)) HOR.out HSR.out.1 HSR.out.2 HRW.out;rw[←HNR.out]at TM;obtain⟨pr,hpr⟩:∃p,p=prodT r:=⟨_,rfl⟩;rw[←hpr]at TM HR2;clear hnr hr0 hres2 hpr;have TM:=hdzz TM;go_wp2_with fail
  refine TM.out.mono ?_;clear TM;rintro e w6 (⟨v,hv,rfl,hb6⟩|⟨htok,A6,c6,rfl,hr6,hb6⟩)
  ·have H6:=hdzz (H0.out.go hb6);obtain⟨X,hX⟩:∃X,X=w6.alloc (.cells #[.int .i64 0,.string ⟨#[]⟩,.int .i64 0,.slice none 0 0] 24):=⟨_,rfl⟩;have hbX:Below w6.heap.size w6 X:=by rw[hX];exact qad (Nat.le_refl _) _
   have HX:=hdzz hX;have HXB:=hdzz (H6.out.go hbX);obtain⟨z0,z1,z2,z3,zf⟩:=qaa HXB.out.b3;clear hb6 hX hbX;have q:(v==0)=false:=by rw[beq_eq_false_iff_ne];exact hv
   have q':(v != 0)=true:=by simp[hv]
   have HNV:=hdzz hv;clear hv;go_upto_region 15 with fail
   rw[←HX.out];clear HX;go_wp2_with fail
   refine bodyPost_ret (v:=.tuple #[.agg #[.int .i64 0,.string ⟨#[]⟩,.int .i64 0,.slice none 0 0],.int .i64 v]) ?_ rfl ?_
   ·simp[results,Tryz.results77,go_sem,z0,z1,z2,z3]
   exact qbn HNV.out HXB.out.bel (by omega)
  ·have H6:=hdzz (H0.out.go hb6);have hs6:=hb6.size;simp only[Tm.val];obtain⟨X,hX⟩:∃X,X=w6.alloc (.cells #[.int .i64 pr.kind,.string pr.name,.int .i64 pr.sort,.slice A6 pr.kids.length c6] 24):=⟨_,rfl⟩;have hbX:Below w6.heap.size w6 X:=by rw[hX];exact qad (Nat.le_refl _) _
   have hsX:X.heap.size=w6.heap.size+1:=by rw[hX];simp
   have hxX:X.heap[w6.heap.size]?=some (.cells #[.int .i64 pr.kind,.string pr.name,.int .i64 pr.sort,.slice A6 pr.kids.length c6] 24 (0,0)):=by rw[hX];exact heap_alloc_new _ _
   obtain⟨u0,u1,u2,u3,uf⟩:=qaa hxX;have HXB:=hdzz (H6.out.go hbX);have HRP:Hid (RepP X (fun b=>Pb b∨w.heap.size+1+1<b∧b<X.heap.size) pr A6 c6):=hdzz (RepP.mono (fun b h=>by
    rcases h with(h|h)|h
    ·exact .inl h
    ·exact .inr ⟨h.1,by omega⟩
    ·exact .inr ⟨by omega,by omega⟩) (fun p hp=>hbX.cell (by
    rcases hp with(h|h)|h
    ·have:=hPb _ h;omega
    ·omega
    ·exact h.2)) _ _ _ hr6)
   obtain⟨Y,hY⟩:∃Y,Y=X.alloc (.cells (itCells [((b0,B0,c0):It),(pr,A6,c6)]).toArray 24):=⟨_,rfl⟩;have hbY:Below X.heap.size X Y:=by rw[hY];exact qad (Nat.le_refl _) _
   have hsY:Y.heap.size=X.heap.size+1:=by rw[hY];simp
   have hxY:Y.heap[X.heap.size]?=some (.cells (itCells [((b0,B0,c0):It),(pr,A6,c6)]).toArray 24 (0,0)):=by rw[hY];exact heap_alloc_new _ _
   have hYS:RepS Y (fun b=>Pb b∨w.heap.size+1+1<b∧b<Y.heap.size) [b0,pr] (some ⟨X.heap.size,0,none⟩) 2:=by
    refine⟨Nat.le_refl _,by unfold maxLen;omega,.inr ⟨X.heap.size,0,rfl,.inr ⟨by omega,by omega⟩,?_⟩⟩;refine RepLP.of_its [((b0,B0,c0):It),(pr,A6,c6)] _ 0 (fun j u hj=>?_) (fun x hx=>?_)
    ·rw[Nat.zero_add];unfold World.cell?;rw[hxY];simpa using hj
    ·simp only[List.mem_cons,List.not_mem_nil,or_false]at hx;rcases hx with rfl|rfl
     ·exact RepP.mono (w:=X) (P:=Pb) (fun b h=>.inl h) (fun p h=>hbY.cell (by have:=hPb _ h;omega)) _ _ _ HXB.out.rb
     ·exact RepP.mono (fun b h=>h.imp id fun h=>⟨h.1,by omega⟩) (fun p h=>hbY.cell (h.elim (fun h=>by have:=hPb _ h;omega) (fun h=>h.2))) _ _ _ HRP.out
   have HYB:=hdzz (HXB.out.go hbY);have AP:=qb5 ⟨#[101,120,112]⟩ [b0,pr] (some ⟨X.heap.size,0,none⟩) 2 Y (fun b=>Pb b∨w.heap.size+1+1<b∧b<Y.heap.size) (fun b h=>h.elim (fun h=>by have:=hPb b h;omega) (fun h=>h.2)) (by unfold maxLen;decide) (by simp) (by simp) hYS;have e2:([b0,pr]:List Tm).length=2:=rfl;rw[e2]at AP;have AP:=hdzz AP;simp only[itCells,Tm.cells,List.cons_append,List.nil_append,List.append_nil]at hY;have HX:=hdzz hX;have HY:=hdzz hY;have HOK:=hdzz (HEX2.out htok);have HYS:=hdzz (show w.heap.size+1+1<Y.heap.size by omega);obtain⟨x0,x1,x2,x3,xf⟩:=qaa HXB.out.b1;clear hb6 hr6 hX hbX hsX hxX hY hbY hsY hxY hYS e2 hs6 htok;go_upto_region 15 with fail
   rw[←HX.out];clear HX;go_wp2_with fail
   rw[←HY.out];clear HY x0 x1 x2 x3 xf u0 u1 u2 u3 uf;refine AP.out.mono ?_;clear AP;rintro e w9 ⟨A9,c9,rfl,hr9,hb9⟩;have H9:=hdzz (HYB.out.go hb9);have HR9:Hid (RepP w9 (fun b=>(Pb b∨w.heap.size≤b∧b≠w.heap.size+1+1)∧b<w9.heap.size) (.mk 3 nExp 0 [b0,pr]) A9 c9):=hdzz (RepP.mono (fun b h=>by
    have:=hb9.size;have:=HYS.out;rcases h with(h|h)|h
    ·exact⟨.inl h,by have:=hPb b h;omega⟩
    ·exact⟨.inr ⟨by omega,by omega⟩,by omega⟩
    ·exact⟨.inr ⟨by omega,by omega⟩,h.2⟩) (fun _ _=>rfl) _ _ _ hr9)
   obtain⟨z0,z1,z2,z3,zf⟩:=qaa H9.out.b3;have e3:(Tm.mk 3 ⟨#[101,120,112]⟩ 0 [b0,pr]).val A9 c9=.agg #[.int .i64 3,.string ⟨#[101,120,112]⟩,.int .i64 0,.slice A9 2 c9]:=rfl;rw[e3];clear hb9 hr9 HYS e3;go_wp2_with fail
   refine bodyPost_ret (v:=.tuple #[Tm.val (.mk 3 nExp 0 [b0,pr]) A9 c9,.int .i64 0]) ?_ rfl ?_
   ·simp[results,Tryz.results77,go_sem,z0,z1,z2,z3,Tm.val,Tm.kind,Tm.name,Tm.sort,Tm.kids,nExp]
   rw[←HR2.out];exact qdg HOK.out H9.out.bel hPb (by omega) HR9.out
theorem rsum_any (its0:List It) (base:Nat) (A:Option Addr) (n c:Nat) (w:World) (P:Nat→Prop) (hP:∀b,P b→b<w.heap.size) (hsz:Tm.sizes (its0.map (·.1))≤900000) (hrow:RowT w base P (.slice A n c) its0) :
  Calls Tryz.prog 75 #[.slice A n c] w (EoT (n≤200∧(∀t∈its0.map (·.1),t.valid=0)∧(xorT (Tm.sumds (its0.map (·.1)) [])).valid=0) P (xorT (Tm.sumds (its0.map (·.1)) [])) w):=by
 obtain⟨l,hl⟩:∃l,l=its0.map (·.1):=⟨_,rfl⟩;have hlen:=hrow.len;have hll:n=l.length:=by rw[hl,List.length_map];exact hlen
 rw[←hl]at hsz ⊢;have hln:=Tm.length_le_sizes l;obtain⟨V,hV⟩:∃V,V=w.alloc (.cells #[.int .i64 0,.string ⟨#[]⟩,.int .i64 0,.slice none 0 0] 24):=⟨_,rfl⟩;have hbV:Below w.heap.size w V:=by rw[hV];exact qad (Nat.le_refl _) _
 have hsV:V.heap.size=w.heap.size+1:=by rw[hV];simp
 have hzV:V.heap[w.heap.size]?=some (.cells #[.int .i64 0,.string ⟨#[]⟩,.int .i64 0,.slice none 0 0] 24 (0,0)):=by rw[hV];exact heap_alloc_new _ _
 have RZ:=hdzz (rzero_any V);have VD:Hid (∀X A1,Below V.heap.size V X→Calls Tryz.prog 115 #[.slice A n c,Tm.val (.mk 3 qch 0 []) A1 0] X fun e w'=>∃v:Int,e=.returned (.int .i64 v)∧(v=0→l.length≤200∧∀x∈l,x.valid=0)∧Below X.heap.size X w'):=hdzz fun X A1 hX=>by
  obtain⟨A9,c9,he,hS⟩:=(hrow.below (hbV.trans (hX.mono (by omega)))).toS (P:=fun b=>b<X.heap.size) (fun b _ h=>h) (fun b _ h=>h);injection he with he1 he2 he3;subst he1 he3;rw[←hl]at hS;rw[hll];exact qld l A A1 c 0 (.mk 3 qch 0 []) X (by omega) (fun x hx=>by have:=qd2 hx;omega) (by rw[Tm.size,Tm.sizes];omega) (by rfl) hS (by rw[qbh];exact⟨by decide,Nat.le_refl _,Nat.zero_le _,.inl rfl⟩)
 obtain⟨res,hres⟩:∃r,r=Tm.sumds l []:=⟨_,rfl⟩;obtain⟨ok,hok⟩:∃p,p=(n≤200∧(∀t∈l,t.valid=0)∧(xorT (Tm.sumds l [])).valid=0):=⟨_,rfl⟩;rw[←hok,←hres];have HOK:Hid ((l.length≤200∧∀x∈l,x.valid=0)→(xorT res).valid=0→ok):=hdzz fun h1 h2=>by rw[hok];exact⟨by omega,h1.2,by rw[←hres];exact h2⟩
 have hnI:(n:Int)≤900000:=by omega
 have HRES:=hdzz hres;have HL:=hdzz hl;have HLL:=hdzz hll;have HLEN:=hdzz hlen;have HROW:=hdzz hrow;have HP:=hdzz hP;have HV:=hdzz hV;have HBV:=hdzz hbV;have HSV:=hdzz hsV;have HZV:=hdzz hzV;have HSZ:=hdzz hsz;clear hres hok hl hll hlen hrow hP hV hbV hsV hzV hsz hln;go_enter Tryz.func75,Tryz.ntmps75
 go_upto_region 1 with fail
 rw[←HV.out];clear HV;go_wp2_with fail
 refine RZ.out.mono ?_;clear RZ;rintro e w1 ⟨⟨A1,rfl⟩,hb1⟩;have hs1:=hb1.size;have VD:=VD.out w1 A1 hb1;simp only[Tm.val,Tm.kind,Tm.name,Tm.sort,Tm.kids,qch,List.length_nil]at VD ⊢;have VD:=hdzz VD;have HB1:=hdzz (HBV.out.trans (hb1.mono (by have:=HSV.out;omega)));have HZ1:=hdzz ((hb1.block _ (by have:=HSV.out;omega)).trans HZV.out);have HS1:Hid (w.heap.size<w1.heap.size):=hdzz (by have:=HSV.out;omega);clear hb1 hs1;go_wp2_with fail
 refine VD.out.mono ?_;clear VD;rintro e w2 ⟨v,rfl,hv2,hb2⟩;have hs1:=HS1.out;have HB2:=hdzz (HB1.out.trans (hb2.mono (by omega)));have HZ2:=hdzz ((hb2.block _ hs1).trans HZ1.out);have HS2:Hid (w.heap.size<w2.heap.size):=hdzz (by have:=hb2.size;omega);have HV2:=hdzz hv2;clear hb2 hv2 hs1;by_cases hv:v=0
 case neg=>
  have q:(v==0)=false:=by rw[beq_eq_false_iff_ne];exact hv
  have q':(v != 0)=true:=by simp[hv]
  have HNV:=hdzz hv;obtain⟨z0,z1,z2,z3,zf⟩:=qaa HZ2.out;clear hv;go_wp2_with fail
  refine bodyPost_ret (v:=.tuple #[.agg #[.int .i64 0,.string ⟨#[]⟩,.int .i64 0,.slice none 0 0],.int .i64 v]) ?_ rfl ?_
  ·simp[results,Tryz.results75,go_sem,z0,z1,z2,z3]
  exact qbn HNV.out HB2.out (Nat.le_refl _)
 subst hv;have HVV:=hdzz (HV2.out rfl);have HSZ2:Hid (Tm.sizes l≤80000):=hdzz (by have h:=qfj HVV.out.2;have:=HVV.out.1;omega);clear HV2;go_wp2_with fail
 go_loopw [5,6] (fun u3 i wr=>∃(k m c':Nat) (A':Option Addr) (its:List It),k≤n∧i=.int .i64 k∧u3=.slice A' m c'∧Hid (m=its.length)∧Hid (Tm.sizes (its.map (·.1))≤Tm.sizes (l.take k))∧Hid (RowT wr w.heap.size P (.slice A' m c') its)∧Hid (Tm.sumds (l.drop k) (its.map (·.1))=res)∧Hid (Below w2.heap.size w2 wr)) (fun _ i _=>n - (intOf i).toNat)
 case atStart=>exact⟨0,0,0,none,[],Nat.zero_le _,rfl,rfl,rfl,(by show Tm.sizes []≤_;rw[Tm.sizes];omega),RowT.nil _ _ _,HRES.out.symm,Below.refl _ _⟩
 case round=>
  obtain⟨k,m,c',A0,its,hk,rfl,rfl,HM,HSI,HR,HCO,HB⟩:=hrel;have i1:(0:Int)≤(k:Int):=Int.natCast_nonneg _;have hsr:=HB.out.size;have HBR:=hdzz (HB2.out.trans (HB.out.mono (by have:=HS2.out;omega)));have hsz2:=HSZ2.out;have hmk:m≤Tm.sizes (l.take k):=by have:=Tm.length_le_sizes (its.map (·.1));rw[List.length_map]at this;have:=HSI.out;have:=HM.out;omega
  have hstl0:=Tm.sizes_take_le l k;by_cases hlt:k<n
  ·have i2:(k:Int)<(n:Int):=by omega
   have hki:k<its0.length:=by have:=HLEN.out;omega
   have hkl:k<l.length:=by have:=HLL.out;omega
   obtain⟨g0,rfl⟩:=HROW.out.some (by omega);obtain⟨h0,h1,h2,h3,-⟩:=(HROW.out.below HBR.out).slot HLEN.out k hki;have hsg:=Tm.sizes_get l k hkl;have hst:=Tm.sizes_take_succ l k hkl;have hstl:=Tm.sizes_take_le l (k+1);have hco:=HCO.out;rw[qez l _ hkl]at hco;have hlk:l[k]=its0[k].1:=by
    have h2:=HL.out;subst h2;simp
   rw[hlk]at hsg hst hco;have hsl:=qfx its0[k].1;have hss:=qep its0[k].1;have hsd:=qik its0[k].1;have CON:=qjc 400000 its0[k].1 its0[k].2.1 its0[k].2.2 wr P (by omega) (Nat.le_refl _) (fun b h=>by have:=HP.out b h;have:=HBR.out.size;omega) (RepP.mono (fun _ h=>h.1) (fun p hp=>HBR.out.cell (HP.out _ hp.1)) _ _ _ (HROW.out.reps _ (List.getElem_mem hki)));obtain⟨x,hx⟩:∃x,x=its0[k]:=⟨_,rfl⟩;rw[←hx]at h0 h1 h2 h3 hco hsl hss hsd CON hst hsg;have HSL:=hdzz hsl;have HSS:=hdzz hss;have HST:=hdzz hst;have HSD:=hdzz hsd;have HSG:Hid (x.1.size≤80000∧Tm.sizes (l.take (k+1))≤80000∧m≤80000):=hdzz ⟨by omega,by omega,by omega⟩;have HCN:=hdzz hco;simp only[Tm.val]at CON;have CON:=hdzz CON;clear hx hlk hsl hss hst hstl hsg hsd hco HCO hki hkl hsz2 hmk hstl0;go_wp2_with fail
   refine CON.out.mono ?_;clear CON h0 h1 h2 h3;rintro e w3 ⟨A2,c2,n2,it2,rfl,hn2,hr2,hb2,hm2⟩;have hs3:=hb2.size;have HB3:=hdzz (HB.out.trans (hb2.mono (by omega)));have hlen2:it2.length=n2:=by rw[hn2,←hm2,List.length_map]
   have PL:=qj9 its it2 w.heap.size wr.heap.size A0 A2 m n2 c' c2 w3 P (fun b h=>by have:=HP.out b h;have:=HBR.out.size;omega) (HR.out.below hb2) hr2 (by have:=HSG.out.2.2;omega) (by have:=HSL.out;have:=HSG.out.1;omega) (fun y hy=>by
    have h:=qd2 (List.mem_map_of_mem (f:=(·.1)) hy);have:=HSI.out;have:=HSG.out.2.1;have:=HST.out;omega) (fun y hy=>by
    have h:y.1∈x.1.sumd:=by rw[←hm2];exact List.mem_map_of_mem hy
    have:=HSS.out _ h;have:=HSG.out.1;omega)
   rw[hm2]at PL;obtain⟨sl,hsl⟩:∃s,s=qc4 (its.map (·.1)) x.1.sumd:=⟨_,rfl⟩;have HPS:Hid (Tm.sizes sl≤Tm.sizes (l.take (k+1))):=hdzz (by
    have h:=qgg x.1.sumd (its.map (·.1));rw[←hsl]at h;have:=HSI.out;have:=HST.out;have:=HSD.out;omega)
   rw[←hsl]at PL;have HCN2:Hid (Tm.sumds (l.drop (k+1)) sl=res):=hdzz (by rw[hsl];exact HCN.out);have PL:=hdzz PL;clear hr2 hb2 hn2 hm2 hlen2 hsl HCN HR HM HSI;go_wp2_with fail
   refine PL.out.mono ?_;clear PL;rintro e w4 ⟨A3,c3,n3,it3,rfl,hn3,hr3,hb3,hm3⟩;have HB4:=hdzz (HB3.out.trans (hb3.mono (by omega)));have HR3:=hdzz (hr3.loosen (show w.heap.size≤w3.heap.size by have:=HBR.out.size;omega) (fun _ h=>h));have HM3:=hdzz hm3;clear hr3 hb3 hm3 hn3 hs3;go_wp2_with fail
   go_roundw
   case rel=>exact⟨k+1,n3,c3,A3,it3,by omega,by go_num,rfl,HR3.out.len,(by rw[HM3.out];exact HPS.out),HR3.out,(by rw[HM3.out];exact HCN2.out),HB4.out⟩
   case measure=>simp[intOf];omega
  ·obtain rfl:k=n:=by omega
   have hr:its.map (·.1)=res:=by have h:=HCO.out;rw[HLL.out,List.drop_length]at h;exact h
   have TM:=qmx its w.heap.size A0 m c' wr P (fun b h=>by have:=HP.out b h;have:=HBR.out.size;omega) (by omega) HR.out;rw[hr]at TM;have hxs:=qjw res;have hrs:Tm.sizes res≤80000:=by rw[←hr];have:=HSI.out;omega
   have HZR:=hdzz ((HB.out.block _ HS2.out).trans HZ2.out);obtain⟨t,ht⟩:∃t,t=xorT res:=⟨_,rfl⟩;rw[←ht]at TM HOK hxs;have HTT:=hdzz ht;have HTS:Hid (t.size≤1000000):=hdzz (by omega);have TM:=hdzz TM;clear hr hxs hrs ht hmk hstl0 hsz2;go_wp2_with fail
   refine TM.out.mono ?_;clear TM;rintro e w5 ⟨A5,c5,rfl,hr5,hb5⟩;have hs5:=hb5.size;have hsb:=HBR.out.size;have hs2:=HS2.out;have HB5:=hdzz (HBR.out.trans (hb5.mono hsb));have HR5:Hid (RepP w5 (fun b=>(P b∨w.heap.size≤b∧b≠w.heap.size)∧b<w5.heap.size) t A5 c5):=hdzz (RepP.mono (fun b h=>by
    rcases h with h|h
    ·exact⟨.inl h,by have:=HP.out b h;omega⟩
    ·exact⟨.inr (by omega),h.2⟩) (fun _ _=>rfl) _ _ _ hr5)
   have HZ5:=hdzz ((hb5.block _ (by omega)).trans HZR.out);obtain⟨X,hX⟩:∃X,X=w5.alloc (.cells #[.int .i64 t.kind,.string t.name,.int .i64 t.sort,.slice A5 t.kids.length c5] 24):=⟨_,rfl⟩;have hbX:Below w5.heap.size w5 X:=by rw[hX];exact qad (Nat.le_refl _) _
   have hsX:X.heap.size=w5.heap.size+1:=by rw[hX];simp
   have hxX:X.heap[w5.heap.size]?=some (.cells #[.int .i64 t.kind,.string t.name,.int .i64 t.sort,.slice A5 t.kids.length c5] 24 (0,0)):=by rw[hX];exact heap_alloc_new _ _
   obtain⟨x0,x1,x2,x3,xf⟩:=qaa hxX;have HX:=hdzz hX;have HXX:=hdzz hxX;have HSX:=hdzz hsX;have HRX:=hdzz (RepP.mono (w':=X) (P':=fun b=>(P b∨w.heap.size≤b∧b≠w.heap.size)∧b<X.heap.size) (fun b h=>⟨h.1,by have:=h.2;omega⟩) (fun p hp=>hbX.cell hp.2) _ _ _ HR5.out);have HBX:=hdzz (HB5.out.trans (hbX.mono (by omega)));have HZX:=hdzz ((hbX.block _ (by omega)).trans HZ5.out);have VA:=qbr t A5 c5 X HTS.out (RepP.mono (fun b h=>h.2) (fun _ _=>rfl) _ _ _ HRX.out);obtain⟨vl,hvl⟩:∃v,v=t.valid:=⟨_,rfl⟩;rw[←hvl]at VA HOK;simp only[Tm.val]at VA ⊢;have VA:=hdzz VA;have HSW:Hid (w.heap.size<w5.heap.size):=hdzz (by omega);clear hr5 hb5 hs5 hsb hs2 hX hbX hsX hxX hvl HR5 HZ5 HB5;go_upto_region 10 with fail
   rw[←HX.out];clear HX;go_wp2_with fail
   refine VA.out.mono ?_;clear VA x0 x1 x2 x3 xf;rintro e w7 ⟨rfl,hl7⟩;have hsw:=HSW.out;have hsx:=HSX.out;obtain⟨x0,x1,x2,x3,xf⟩:=qaa ((hl7.below.block _ (by omega)).trans HXX.out);obtain⟨z0,z1,z2,z3,zf⟩:=qaa ((hl7.below.block _ (by omega)).trans HZX.out);have HB7:=hdzz (HBX.out.trans (hl7.below.mono (by omega)));have HR7:=hdzz (RepP.mono (w':=w7) (P':=fun b=>(P b∨w.heap.size≤b∧b≠w.heap.size)∧b<w7.heap.size) (fun b h=>⟨h.1,by have:=h.2;have:=hl7.size;omega⟩) (fun p hp=>hl7.below.cell hp.2) _ _ _ HRX.out);clear hl7 hsw hsx;by_cases hv:vl=0
   case neg=>
    have q:(vl==0)=false:=by rw[beq_eq_false_iff_ne];exact hv
    have q':(vl != 0)=true:=by simp[hv]
    clear hv;go_wp2_with fail
    refine bodyPost_ret (v:=.tuple #[.agg #[.int .i64 0,.string ⟨#[]⟩,.int .i64 0,.slice none 0 0],.int .i64 3]) ?_ rfl ?_
    ·simp[results,Tryz.results75,go_sem,z0,z1,z2,z3]
    exact qbn (by decide) HB7.out (Nat.le_refl _)
   subst hv;go_wp2_with fail
   refine bodyPost_ret (v:=.tuple #[t.val A5 c5,.int .i64 0]) ?_ rfl ?_
   ·simp[results,Tryz.results75,go_sem,z0,z1,z2,z3,Tm.val]
   rw[←HTT.out];exact qdg (HOK.out HVV.out (by trivial)) HB7.out HP.out (Nat.le_refl _) HR7.out
end Go.Proofs.YtjhjoiplpmjepaaGreat
