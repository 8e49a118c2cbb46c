/- Trdes (joined by shake.py). -/
import Derived.Test.YtjhjoiplpmjepaaGreatL0
import Derived.Test.YtjhjoiplpmjepaaGreatL5
import Derived.Test.YtjhjoiplpmjepaaGreatL10
import Derived.Test.YtjhjoiplpmjepaaGreatL11
import Derived.Test.YtjhjoiplpmjepaaGreatL13
import Derived.Test.YtjhjoiplpmjepaaGreatL19
import Derived.Deep.Cut
import Derived.Deep.QuietTactic
import Derived.BigQuiet
set_option maxRecDepth 100000
set_option linter.unusedVariables false
set_option linter.unusedSimpArgs false
set_option maxHeartbeats 8000000
namespace Go.Proofs.YtjhjoiplpmjepaaGreat
open Go.RowKit Go.Sort
theorem qdq {n:ByteArray} {l:List Tm} (h:fitD n l):qau n l=kidT (kidT l 0).kids (if n=nSnd then 1 else 0):=by unfold qau;rw[if_pos h]
theorem qdl {n:ByteArray} {l:List Tm} (h:¬fitD n l):qau n l=.mk 3 n 0 l:=by unfold qau;rw[if_neg h]
theorem pk_iff {u k:Tm} (hu:ArT u):(u.isA nPk∧kidT u.kids 0=k)↔u=.mk 3 nPk 0 [k]:=by
 constructor
 ·rintro⟨h1,h2⟩;have h:=hu.num h1;have hl:u.kids.length=1:=h.2.2 (by decide);obtain⟨uk,un,us,ul⟩:=u;obtain⟨rfl,rfl⟩:uk=3∧un=nPk:=h1;have h3:us=0:=h.1;subst h3
  match ul,hl,h2 with
  | [x],_,h2=>rw[show k=x from h2.symm]
 ·rintro rfl;exact⟨⟨rfl,rfl⟩,rfl⟩
def fitR (n:ByteArray) (l:List Tm):Prop:=
 n=nFst∧(kidT l 0).isA qbm∨n=nSnd∧(kidT l 0).isA qbm
 ∨n=nDec∧(kidT l 0).isA nEnc∧kidT (kidT l 0).kids 1=kidT l 1
 ∨n=qbq∧(kidT l 0).isA qc5∧kidT (kidT l 0).kids 1=.mk 3 nPk 0 [kidT l 1]
 ∨n=qbp∧(kidT l 0).isA qbg∧kidT l 1=.mk 3 nPk 0 [kidT (kidT l 0).kids 1]
 ∨n=qc1∧(kidT l 0).isA qbg
theorem qgq {n:ByteArray} {l:List Tm} (h:∀t∈l,ArT t):fitD n l↔fitR n l:=by
 unfold fitD fitR;rw[pk_iff (ArT.kidl (ArT.kidl h 0).kids 1)];have e:((kidT l 1).isA nPk∧kidT (kidT l 0).kids 1=kidT (kidT l 1).kids 0)↔kidT l 1=.mk 3 nPk 0 [kidT (kidT l 0).kids 1]:=by
  rw[←pk_iff (ArT.kidl h 1)];exact⟨fun h=>⟨h.1,h.2.symm⟩,fun h=>⟨h.1,h.2.symm⟩⟩
 rw[e]
structure DsR (Pb:Nat→Prop) (w:World) (n:ByteArray) (l:List Tm) (A:Option Addr) (c:Nat) (a:Tm) (Aa:Option Addr) (ca:Nat) (W:World):Prop where
 b1:W.heap[w.heap.size]?=some (qag (.mk 3 n 0 l) A c)
 b2:W.heap[w.heap.size+1]?=some (.cells #[.int .i64 0,.string ⟨#[]⟩,.int .i64 0,.slice none 0 0] 24 (0,0))
 b3:W.heap[w.heap.size+1+1]?=some (qag a Aa ca)
 bel:Below w.heap.size w W
 ra:RepP W Pb a Aa ca
 rt:RepP W Pb (.mk 3 n 0 l) A c
 le:∀b,Pb b→b<w.heap.size
theorem DsR.size {Pb:Nat→Prop} {w W:World} {n:ByteArray} {l:List Tm} {A:Option Addr} {c:Nat} {a:Tm} {Aa:Option Addr} {ca:Nat} (h:DsR Pb w n l A c a Aa ca W):w.heap.size+1+1<W.heap.size:=(sltz h.b3)
theorem DsR.go {Pb:Nat→Prop} {w W Z:World} {n:ByteArray} {l:List Tm} {A:Option Addr} {c:Nat} {a:Tm} {Aa:Option Addr} {ca:Nat} (h:DsR Pb w n l A c a Aa ca W) (hb:Below W.heap.size W Z):DsR Pb w n l A c a Aa ca Z:=by
 have hs:=h.size;have hle:=h.le;exact⟨(hb.block _ (by omega)).trans h.b1,(hb.block _ (by omega)).trans h.b2,(hb.block _ (by omega)).trans h.b3,h.bel.trans (hb.mono (by omega)),
  RepP.mono (fun _ h=>h) (fun p hp=>hb.cell (by have:=hle _ hp;omega)) _ _ _ h.ra,RepP.mono (fun _ h=>h) (fun p hp=>hb.cell (by have:=hle _ hp;omega)) _ _ _ h.rt,hle⟩
def DesP (Pb:Nat→Prop) (r:Tm) (w:World) (e:Ending) (w':World):Prop:=
 ∃A c bb,e=.returned (.tuple #[r.val A c,.bool bb])∧RepP w' (fun b=>Pb b∨w.heap.size≤b∧b<w'.heap.size) r A c∧Below w.heap.size w w'
theorem qcq {Pb:Nat→Prop} {r:Tm} {w Y:World} {x y z u:Value} {A:Option Addr} {c:Nat} {bb:Bool} (hB:Below w.heap.size w Y) (hP:∀b,Pb b→b<w.heap.size) (hr:RepP Y Pb r A c) :
  DesP Pb r w (.returned (.tuple #[r.val A c,.bool bb])) ((((Y.setCell ⟨w.heap.size+1,0,none⟩ x).setCell ⟨w.heap.size+1,1,none⟩ y).setCell ⟨w.heap.size+1,2,none⟩ z).setCell ⟨w.heap.size+1,3,none⟩ u):=by
 refine⟨A,c,bb,rfl,RepP.mono (fun b h=>.inl h) (fun p hp=>qaq (by have:=hP _ hp;omega)) _ _ _ hr,?_⟩
 iterate 4 refine Below.setCell ?_ (by show _≤w.heap.size+1;omega) _
 exact hB
theorem qdk {l:List Tm} {M:Nat} (h:∀t∈l,t.size≤M+1) (i:Nat):(kidT l i).size≤M+1:=by
 unfold kidT
 cases he:l[i]? with
 | none=>show(Tm.mk 0 .empty 0 []).size≤_;rw[Tm.size,Tm.sizes];omega
 | some x=>exact h x (List.mem_of_getElem? he)
theorem nm6 {n:ByteArray} {L:List UInt8} (h:(n.toList==L)=true) (b0 b1 b2 b3 b4 b5:Bool) (hb:(L==[102,115,116])=b0∧(L==[115,110,100])=b1∧(L==[100,101,99])=b2∧(L==[97,100,101,99])=b3∧(L==[111,112,101,110])=b4∧(L==[114,101,97,100])=b5) :
  (n.toList==[102,115,116])=b0∧(n.toList==[115,110,100])=b1∧(n.toList==[100,101,99])=b2∧(n.toList==[97,100,101,99])=b3∧(n.toList==[111,112,101,110])=b4∧(n.toList==[114,101,97,100])=b5:=by
 rw[eq_of_beq h];exact hb
theorem qe8 {n:ByteArray} {l:List Tm} {A:Option Addr} {c:Nat} {w:World} {Pb:Nat→Prop} (hPb:∀b,Pb b→b<w.heap.size) (hl1:0<l.length) (hrep:RepP w Pb (.mk 3 n 0 l) A c) (a:Tm) (ha0:a=kidT l 0) :
  ∃b0 off0 Aa ca V1 V,A=some ⟨b0,off0,none⟩∧b0<w.heap.size∧Hid (V1=(w.alloc (.cells #[.int .i64 3,.string n,.int .i64 0,.slice A l.length c] 24)).alloc (.cells #[.int .i64 0,.string ⟨#[]⟩,.int .i64 0,.slice none 0 0] 24))∧Hid (V=V1.alloc (.cells #[.int .i64 a.kind,.string a.name,.int .i64 a.sort,.slice Aa a.kids.length ca] 24))∧Hid (V1.heap.size=w.heap.size+1+1)∧Hid (DsR Pb w n l A c a Aa ca V)∧
   (V1.cell? ⟨w.heap.size,0,none⟩=some (.int .i64 3)∧V1.cell? ⟨w.heap.size,1,none⟩=some (.string n)∧V1.cell? ⟨w.heap.size,2,none⟩=some (.int .i64 0)∧V1.cell? ⟨w.heap.size,3,none⟩=some (.slice A l.length c)∧∀o,V1.frozen? ⟨w.heap.size,o,none⟩=false)∧
   V1.cell? ⟨b0,off0,none⟩=some (.int .i64 a.kind)∧V1.cell? ⟨b0,off0+1,none⟩=some (.string a.name)∧V1.cell? ⟨b0,off0+2,none⟩=some (.int .i64 a.sort)∧V1.cell? ⟨b0,off0+3,none⟩=some (.slice Aa a.kids.length ca):=by
 obtain⟨b0,off0,Aa,ca,hA,hbw0,p0,p1,p2,p3,pa⟩:=qal hrep 0 (show 0<l.length from hl1);have ek0:kidT (Tm.mk 3 n 0 l).kids 0=kidT l 0:=rfl;rw[ek0,←ha0]at p0 p1 p2 p3 pa;rw[Nat.zero_mul,Nat.add_zero]at p0 p1 p2 p3;have hbw0:b0<w.heap.size:=hPb _ hbw0;obtain⟨V1,hV1⟩:∃V,V=(w.alloc (.cells #[.int .i64 3,.string n,.int .i64 0,.slice A l.length c] 24)).alloc (.cells #[.int .i64 0,.string ⟨#[]⟩,.int .i64 0,.slice none 0 0] 24):=⟨_,rfl⟩;obtain⟨V,hV⟩:∃V,V=V1.alloc (.cells #[.int .i64 a.kind,.string a.name,.int .i64 a.sort,.slice Aa a.kids.length ca] 24):=⟨_,rfl⟩;have s1:(w.alloc (.cells #[.int .i64 3,.string n,.int .i64 0,.slice A l.length c] 24)).heap.size=w.heap.size+1:=by simp
 have s2:V1.heap.size=w.heap.size+1+1:=by rw[hV1];simp
 have hb1:Below w.heap.size w V1:=by rw[hV1];exact((Below.refl _ _).alloc (Nat.le_refl _) _).alloc (by simp) _
 have hbV:Below w.heap.size w V:=by rw[hV];exact hb1.alloc (by omega) _
 have hy1:V1.heap[w.heap.size]?=some (.cells #[.int .i64 3,.string n,.int .i64 0,.slice A l.length c] 24 (0,0)):=by rw[hV1,Below.heap_alloc _ _ _ (by rw[s1];omega)];exact heap_alloc_new w _
 have hy2:V1.heap[w.heap.size+1]?=some (.cells #[.int .i64 0,.string ⟨#[]⟩,.int .i64 0,.slice none 0 0] 24 (0,0)):=by
  rw[hV1];have h:=heap_alloc_new (w.alloc (.cells #[.int .i64 3,.string n,.int .i64 0,.slice A l.length c] 24)) (.cells #[.int .i64 0,.string ⟨#[]⟩,.int .i64 0,.slice none 0 0] 24);rw[s1]at h;exact h
 refine⟨b0,off0,Aa,ca,V1,V,hA,hbw0,hdzz hV1,hdzz hV,hdzz s2,hdzz ?_,qaa hy1,(hb1.cell (p:=⟨b0,off0,none⟩) hbw0).trans p0,(hb1.cell (p:=⟨b0,off0+1,none⟩) hbw0).trans p1,(hb1.cell (p:=⟨b0,off0+2,none⟩) hbw0).trans p2,(hb1.cell (p:=⟨b0,off0+3,none⟩) hbw0).trans p3⟩;refine⟨?_,?_,?_,hbV,RepP.mono (fun _ h=>h) (fun p h=>hbV.cell (hPb _ h)) _ _ _ pa,RepP.mono (fun _ h=>h) (fun p h=>hbV.cell (hPb _ h)) _ _ _ hrep,hPb⟩
 ·rw[hV,Below.heap_alloc _ _ _ (by rw[s2];omega)];exact hy1
 ·rw[hV,Below.heap_alloc _ _ _ (by rw[s2];omega)];exact hy2
 ·rw[hV];have h:=heap_alloc_new V1 (.cells #[.int .i64 a.kind,.string a.name,.int .i64 a.sort,.slice Aa a.kids.length ca] 24);rw[s2]at h;exact h
theorem rdes_fst (n:ByteArray) (l:List Tm) (A:Option Addr) (c:Nat) (w:World) (Pb:Nat→Prop) (hPb:∀b,Pb b→b<w.heap.size) (hn:n=nFst) (har:arN n l.length) (hka:∀t∈l,ArT t) (hsz:∀t∈l,t.size≤899999+1) (hrep:RepP w Pb (.mk 3 n 0 l) A c) :
  Calls Tryz.prog 74 #[(Tm.mk 3 n 0 l).val A c] w (DesP Pb (qau n l) w):=by
 have mixed:=mixz;have hl1:0<l.length:=by rw[har.2 (by rw[hn];decide)];decide
 have haa:ArT (kidT l 0):=ArT.kidl hka 0;have hsa:=qdk hsz 0;obtain⟨a,ha0⟩:∃a,a=kidT l 0:=⟨_,rfl⟩;rw[←ha0]at haa hsa;obtain⟨b0,off0,Aa,ca,V1,V,rfl,hbw0,HV1,HV,HS2,DB,⟨v0,v1,v2,v3,vf⟩,e0,e1,e2,e3⟩:=qe8 hPb hl1 hrep a ha0;obtain⟨m0,m1,m2,m3,m4,m5⟩:=nm6 ((qat (n:=n) (c:=nFst) (L:=[102,115,116]) rfl).1 hn) true false false false false false (by decide);have hlI:(0:Int)<(l.length:Int):=by omega
 have HN:=hdzz hn;have HA0:=hdzz ha0;clear hrep hn ha0;simp only[Tm.val,Tm.kind,Tm.name,Tm.sort,Tm.kids];go_enter Tryz.func74,Tryz.ntmps74
 go_upto_region 1 with fail
 rw[←HV1.out];go_upto_region 2 with fail
 rw[HS2.out,←HV.out];clear HV HV1 v0 v1 v2 v3 vf e0 e1 e2 e3 HS2;obtain⟨x0,x1,x2,x3,xf⟩:=qaa DB.out.b1;obtain⟨z0,z1,z2,z3,zf⟩:=qaa DB.out.b2;obtain⟨y0,y1,y2,y3,yf⟩:=qaa DB.out.b3;simp only[Tm.kind,Tm.name,Tm.sort,Tm.kids]at x0 x1 x2 x3;have IS:=qbs a qbm Aa ca V;have hiff:fitD n l↔a.isA qbm:=by rw[qgq hka,HN.out,fitR,←HA0.out];exact⟨fun h=>by
  rcases h with⟨h,h2⟩|⟨h,h2⟩|⟨h,h2⟩|⟨h,h2⟩|⟨h,h2⟩|⟨h,h2⟩
  all_goals first|exact h2|exact absurd h (by decide),fun h=>by simp[h]⟩
 simp only[Tm.val,qbm]at IS;have IS:=hdzz IS;go_wp2_with fail
 refine IS.out.mono ?_;clear IS;rintro e w5 ⟨rfl,hl5⟩;have D5:=hdzz (DB.out.go hl5.below);clear hl5;clear x0 x1 x2 x3 xf y0 y1 y2 y3 yf z0 z1 z2 z3 zf;obtain⟨x0,x1,x2,x3,xf⟩:=qaa D5.out.b1;obtain⟨z0,z1,z2,z3,zf⟩:=qaa D5.out.b2;obtain⟨y0,y1,y2,y3,yf⟩:=qaa D5.out.b3;simp only[Tm.kind,Tm.name,Tm.sort,Tm.kids]at x0 x1 x2 x3;by_cases hf:a.isA qbm
 ·have HFIT:Hid (qau n l=kidT a.kids 0):=hdzz (by rw[qdq (hiff.2 hf),HN.out,←HA0.out];rfl);have HAL:Hid (a.kids.length=2):=hdzz ((haa.num hf).2.1 (by decide));have hdec:decide (a.isA qbm)=true:=decide_eq_true hf;simp only[qbm]at hdec;rw[hdec];clear hdec hf hiff;obtain⟨kb,ko,Ar,cr,hke,hkb,k0,k1,k2,k3,kr⟩:=qal D5.out.ra 0 (by rw[HAL.out];decide);rw[Nat.zero_mul,Nat.add_zero]at k0 k1 k2 k3
  first | subst hke|(injection hke with hke;injection hke with e1 e2;subst e1 e2)
  rw[HAL.out]at y3;obtain⟨r,hr⟩:∃r,r=kidT a.kids 0:=⟨_,rfl⟩;have HRR:Hid (qau n l=r):=hdzz (by rw[hr];exact HFIT.out);rw[←hr]at k0 k1 k2 k3 kr;have HKR:=hdzz kr;clear hr kr;go_wp2_with fail
  refine bodyPost_ret (v:=.tuple #[r.val Ar cr,.bool true]) ?_ rfl ?_
  ·simp[results,Tryz.results74,go_sem,z0,z1,z2,z3,Tm.val]
  rw[HRR.out];exact qcq D5.out.bel hPb HKR.out
 ·have HNO:Hid (qau n l=.mk 3 n 0 l):=hdzz (qdl fun h=>hf (hiff.1 h));have hdec:decide (a.isA qbm)=false:=decide_eq_false hf;simp only[qbm]at hdec;rw[hdec];clear hdec hf hiff
  iterate 3
   go_wp2_with fail
   go_quiet (fail)
   have D5:=hdzz (D5.out.go ((Lay.refl _ _).drewN nq).below);generalize w5.drewN nq=w5 at *;clear x0 x1 x2 x3 xf y0 y1 y2 y3 yf z0 z1 z2 z3 zf;obtain⟨x0,x1,x2,x3,xf⟩:=qaa D5.out.b1;obtain⟨z0,z1,z2,z3,zf⟩:=qaa D5.out.b2;obtain⟨y0,y1,y2,y3,yf⟩:=qaa D5.out.b3;simp only[Tm.kind,Tm.name,Tm.sort,Tm.kids]at x0 x1 x2 x3
  have HRT:=hdzz D5.out.rt;go_wp2_with fail
  refine bodyPost_ret (v:=.tuple #[Tm.val (.mk 3 n 0 l) (some ⟨b0,off0,none⟩) c,.bool false]) ?_ rfl ?_
  ·simp[results,Tryz.results74,go_sem,z0,z1,z2,z3,Tm.val,Tm.kind,Tm.name,Tm.sort,Tm.kids]
  rw[HNO.out];exact qcq D5.out.bel hPb HRT.out
theorem rdes_snd (n:ByteArray) (l:List Tm) (A:Option Addr) (c:Nat) (w:World) (Pb:Nat→Prop) (hPb:∀b,Pb b→b<w.heap.size) (hn:n=nSnd) (har:arN n l.length) (hka:∀t∈l,ArT t) (hsz:∀t∈l,t.size≤899999+1) (hrep:RepP w Pb (.mk 3 n 0 l) A c) :
  Calls Tryz.prog 74 #[(Tm.mk 3 n 0 l).val A c] w (DesP Pb (qau n l) w):=by
 have mixed:=mixz;have hl1:0<l.length:=by rw[har.2 (by rw[hn];decide)];decide
 have haa:ArT (kidT l 0):=ArT.kidl hka 0;have hsa:=qdk hsz 0;obtain⟨a,ha0⟩:∃a,a=kidT l 0:=⟨_,rfl⟩;rw[←ha0]at haa hsa;obtain⟨b0,off0,Aa,ca,V1,V,rfl,hbw0,HV1,HV,HS2,DB,⟨v0,v1,v2,v3,vf⟩,e0,e1,e2,e3⟩:=qe8 hPb hl1 hrep a ha0;obtain⟨m0,m1,m2,m3,m4,m5⟩:=nm6 ((qat (n:=n) (c:=nSnd) (L:=[115,110,100]) rfl).1 hn) false true false false false false (by decide);have hlI:(0:Int)<(l.length:Int):=by omega
 have HN:=hdzz hn;have HA0:=hdzz ha0;clear hrep hn ha0;simp only[Tm.val,Tm.kind,Tm.name,Tm.sort,Tm.kids];go_enter Tryz.func74,Tryz.ntmps74
 go_upto_region 1 with fail
 rw[←HV1.out];go_upto_region 2 with fail
 rw[HS2.out,←HV.out];clear HV HV1 v0 v1 v2 v3 vf e0 e1 e2 e3 HS2;obtain⟨x0,x1,x2,x3,xf⟩:=qaa DB.out.b1;obtain⟨z0,z1,z2,z3,zf⟩:=qaa DB.out.b2;obtain⟨y0,y1,y2,y3,yf⟩:=qaa DB.out.b3;simp only[Tm.kind,Tm.name,Tm.sort,Tm.kids]at x0 x1 x2 x3;have IS:=qbs a qbm Aa ca V;have hiff:fitD n l↔a.isA qbm:=by rw[qgq hka,HN.out,fitR,←HA0.out];exact⟨fun h=>by
  rcases h with⟨h,h2⟩|⟨h,h2⟩|⟨h,h2⟩|⟨h,h2⟩|⟨h,h2⟩|⟨h,h2⟩
  all_goals first|exact h2|exact absurd h (by decide),fun h=>by simp[h]⟩
 simp only[Tm.val,qbm]at IS;have IS:=hdzz IS;go_wp2_with fail
 refine IS.out.mono ?_;clear IS;rintro e w5 ⟨rfl,hl5⟩;have D5:=hdzz (DB.out.go hl5.below);clear hl5;clear x0 x1 x2 x3 xf y0 y1 y2 y3 yf z0 z1 z2 z3 zf;obtain⟨x0,x1,x2,x3,xf⟩:=qaa D5.out.b1;obtain⟨z0,z1,z2,z3,zf⟩:=qaa D5.out.b2;obtain⟨y0,y1,y2,y3,yf⟩:=qaa D5.out.b3;simp only[Tm.kind,Tm.name,Tm.sort,Tm.kids]at x0 x1 x2 x3;by_cases hf:a.isA qbm
 ·have HFIT:Hid (qau n l=kidT a.kids 1):=hdzz (by rw[qdq (hiff.2 hf),HN.out,←HA0.out];rfl);have HAL:Hid (a.kids.length=2):=hdzz ((haa.num hf).2.1 (by decide));have hdec:decide (a.isA qbm)=true:=decide_eq_true hf;simp only[qbm]at hdec;rw[hdec];clear hdec hf hiff;obtain⟨kb,ko,Ar,cr,hke,hkb,k0,k1,k2,k3,kr⟩:=qal D5.out.ra 1 (by rw[HAL.out];decide);rw[Nat.one_mul]at k0 k1 k2 k3
  first | subst hke|(injection hke with hke;injection hke with e1 e2;subst e1 e2)
  rw[HAL.out]at y3;obtain⟨r,hr⟩:∃r,r=kidT a.kids 1:=⟨_,rfl⟩;have HRR:Hid (qau n l=r):=hdzz (by rw[hr];exact HFIT.out);rw[←hr]at k0 k1 k2 k3 kr;have HKR:=hdzz kr;clear hr kr;go_wp2_with fail
  refine bodyPost_ret (v:=.tuple #[r.val Ar cr,.bool true]) ?_ rfl ?_
  ·simp[results,Tryz.results74,go_sem,z0,z1,z2,z3,Tm.val]
  rw[HRR.out];exact qcq D5.out.bel hPb HKR.out
 ·have HNO:Hid (qau n l=.mk 3 n 0 l):=hdzz (qdl fun h=>hf (hiff.1 h));have hdec:decide (a.isA qbm)=false:=decide_eq_false hf;simp only[qbm]at hdec;rw[hdec];clear hdec hf hiff
  iterate 3
   go_wp2_with fail
   go_quiet (fail)
   have D5:=hdzz (D5.out.go ((Lay.refl _ _).drewN nq).below);generalize w5.drewN nq=w5 at *;clear x0 x1 x2 x3 xf y0 y1 y2 y3 yf z0 z1 z2 z3 zf;obtain⟨x0,x1,x2,x3,xf⟩:=qaa D5.out.b1;obtain⟨z0,z1,z2,z3,zf⟩:=qaa D5.out.b2;obtain⟨y0,y1,y2,y3,yf⟩:=qaa D5.out.b3;simp only[Tm.kind,Tm.name,Tm.sort,Tm.kids]at x0 x1 x2 x3
  have HRT:=hdzz D5.out.rt;go_wp2_with fail
  refine bodyPost_ret (v:=.tuple #[Tm.val (.mk 3 n 0 l) (some ⟨b0,off0,none⟩) c,.bool false]) ?_ rfl ?_
  ·simp[results,Tryz.results74,go_sem,z0,z1,z2,z3,Tm.val,Tm.kind,Tm.name,Tm.sort,Tm.kids]
  rw[HNO.out];exact qcq D5.out.bel hPb HRT.out
theorem rdes_dec (n:ByteArray) (l:List Tm) (A:Option Addr) (c:Nat) (w:World) (Pb:Nat→Prop) (hPb:∀b,Pb b→b<w.heap.size) (hn:n=nDec) (har:arN n l.length) (hka:∀t∈l,ArT t) (hsz:∀t∈l,t.size≤899999+1) (hrep:RepP w Pb (.mk 3 n 0 l) A c) :
  Calls Tryz.prog 74 #[(Tm.mk 3 n 0 l).val A c] w (DesP Pb (qau n l) w):=by
 have mixed:=mixz;have hl1:0<l.length:=by rw[har.1 (by rw[hn];decide)];decide
 have haa:ArT (kidT l 0):=ArT.kidl hka 0;have hsa:=qdk hsz 0;obtain⟨a,ha0⟩:∃a,a=kidT l 0:=⟨_,rfl⟩;rw[←ha0]at haa hsa;obtain⟨b0,off0,Aa,ca,V1,V,rfl,hbw0,HV1,HV,HS2,DB,⟨v0,v1,v2,v3,vf⟩,e0,e1,e2,e3⟩:=qe8 hPb hl1 hrep a ha0;obtain⟨m0,m1,m2,m3,m4,m5⟩:=nm6 ((qat (n:=n) (c:=nDec) (L:=[100,101,99]) rfl).1 hn) false false true false false false (by decide);have hlI:(0:Int)<(l.length:Int):=by omega
 have HN:=hdzz hn;have HA0:=hdzz ha0;clear hrep hn ha0;simp only[Tm.val,Tm.kind,Tm.name,Tm.sort,Tm.kids];go_enter Tryz.func74,Tryz.ntmps74
 go_upto_region 1 with fail
 rw[←HV1.out];go_upto_region 2 with fail
 rw[HS2.out,←HV.out];clear HV HV1 v0 v1 v2 v3 vf e0 e1 e2 e3 HS2;obtain⟨x0,x1,x2,x3,xf⟩:=qaa DB.out.b1;obtain⟨z0,z1,z2,z3,zf⟩:=qaa DB.out.b2;obtain⟨y0,y1,y2,y3,yf⟩:=qaa DB.out.b3;simp only[Tm.kind,Tm.name,Tm.sort,Tm.kids]at x0 x1 x2 x3;have hl2:l.length=2:=har.1 (by rw[HN.out];decide);have HL2:=hdzz hl2;obtain⟨b',off',Ak,ck,hAe,hbw,q0,q1,q2,q3,pk⟩:=qal DB.out.rt 1 (show 1<l.length by omega);have ek1:kidT (Tm.mk 3 n 0 l).kids 1=kidT l 1:=rfl;rw[ek1]at q0 q1 q2 q3 pk;rw[Nat.one_mul]at q0 q1 q2 q3;have hks:=qdk hsz 1;have hiff:fitD n l↔(a.isA nEnc∧kidT a.kids 1=kidT l 1):=by rw[qgq hka,HN.out,fitR,←HA0.out];exact⟨fun h=>by
  rcases h with⟨h,h2⟩|⟨h,h2⟩|⟨h,h2⟩|⟨h,h2⟩|⟨h,h2⟩|⟨h,h2⟩
  all_goals first|exact h2|exact absurd h (by decide),fun h=>by simp[h]⟩
 obtain⟨k,hk⟩:∃k,k=kidT l 1:=⟨_,rfl⟩;rw[←hk]at q0 q1 q2 q3 pk hiff hks;injection hAe with hAe;injection hAe with e1 e2;subst e1 e2;have HPK:=hdzz pk;have hbw2:=hPb _ hbw;clear ek1 hk pk hl2;rw[HL2.out]at x3;by_cases hf:a.isA nEnc
 ·have HAL:Hid (a.kids.length=2):=hdzz ((haa.num hf).2.1 (by decide));have hdec:decide (a.isA nEnc)=true:=decide_eq_true hf;have IS:Hid (∀X,Calls Tryz.prog 27 #[a.val Aa ca,.string nEnc] X fun e w'=>e=.returned (.bool true)∧Lay X.heap.size X w'):=hdzz fun X=>by have h:=qbs a nEnc Aa ca X;rw[hdec]at h;exact h
  obtain⟨kb,ko,Ar,cr,hke,hkb,k0,k1,k2,k3,kr⟩:=qal DB.out.ra 1 (by rw[HAL.out];decide);rw[Nat.one_mul]at k0 k1 k2 k3;subst hke;rw[HAL.out]at y3;simp only[Tm.val,nEnc,HAL.out]at IS;have husz:=qee (i:=1) hsa;obtain⟨u,hu⟩:∃u,u=kidT a.kids 1:=⟨_,rfl⟩;rw[←hu]at k0 k1 k2 k3 kr hiff husz;have hkbs:=hPb _ hkb;have SM:Hid (∀X,Below V.heap.size V X→Calls Tryz.prog 31 #[u.val Ar cr,k.val Ak ck] X fun e w'=>e=.returned (.bool (u.same k))∧Lay X.heap.size X w'):=hdzz fun X hX=>by
   have hs:=DB.out.size;exact qd3 u k Ar Ak cr ck X (by omega) (by omega) (RepP.mono (w:=V) (fun b (h:Pb b)=>by have:=hPb _ h;have:=hX.size;omega) (fun p (h:Pb p.block)=>hX.cell (by have:=hPb _ h;omega)) _ _ _ kr)
    (RepP.mono (w:=V) (fun b (h:Pb b)=>by have:=hPb _ h;have:=hX.size;omega) (fun p (h:Pb p.block)=>hX.cell (by have:=hPb _ h;omega)) _ _ _ HPK.out)
  obtain⟨z,hz⟩:∃z,z=u.same k:=⟨_,rfl⟩;rw[←hz]at SM;simp only[Tm.val]at SM;have hfz:fitD n l↔z=true:=by rw[hiff,hz,Tm.same_iff];exact⟨fun h=>h.2,fun h=>⟨hf,h⟩⟩
  have HFZ:=hdzz hfz;clear hfz hz hu kr hdec hf hiff;have hcl:∀bb,bb<V.heap.size→∀n os o,(grow (V.drewN n) os).cell? ⟨bb,o,none⟩=V.cell? ⟨bb,o,none⟩:=fun bb hbb n os o=>(Lay.of_grow (w:=V) n os).below.cell (by exact hbb);have hsz:=DB.out.size;have g1:=fun n os=>(hcl _ (show w.heap.size<V.heap.size by omega) n os _).trans x1;have g3:=fun n os=>(hcl _ (show w.heap.size<V.heap.size by omega) n os _).trans x3;have h0:=fun n os=>(hcl _ (show w.heap.size+1+1<V.heap.size by omega) n os _).trans y0;have h1:=fun n os=>(hcl _ (show w.heap.size+1+1<V.heap.size by omega) n os _).trans y1;have h2:=fun n os=>(hcl _ (show w.heap.size+1+1<V.heap.size by omega) n os _).trans y2;have h3:=fun n os=>(hcl _ (show w.heap.size+1+1<V.heap.size by omega) n os _).trans y3
  have i0:=fun n os=>(hcl _ (show kb<V.heap.size by omega) n os _).trans k0;have i1:=fun n os=>(hcl _ (show kb<V.heap.size by omega) n os _).trans k1;have i2:=fun n os=>(hcl _ (show kb<V.heap.size by omega) n os _).trans k2;have i3:=fun n os=>(hcl _ (show kb<V.heap.size by omega) n os _).trans k3;have j0:=fun n os=>(hcl _ (show b0<V.heap.size by omega) n os _).trans q0;have j1:=fun n os=>(hcl _ (show b0<V.heap.size by omega) n os _).trans q1;have j2:=fun n os=>(hcl _ (show b0<V.heap.size by omega) n os _).trans q2;have j3:=fun n os=>(hcl _ (show b0<V.heap.size by omega) n os _).trans q3;clear hcl hsz;go_wp2_with fail
  refine wp_region_quiet_grown (by assumption) (by kernel_rfl) ?_
  repeat(go_big_quiet_step (first|(go_at_call 27;exact qak (IS.out _))|(go_at_call 31;exact qak (SM.out _ (Lay.of_grow _ _).below))))
  refine wpQuiet_nil ?_;intro _ hw';obtain⟨⟨nq,osq⟩,hw''⟩:=hw';subst hw'';have D5:=hdzz (DB.out.go (Lay.of_grow (w:=V) nq osq).below);clear IS SM g1 g3 h0 h1 h2 h3 i0 i1 i2 i3 j0 j1 j2 j3 q0 q1 q2 q3 k0 k1 k2 k3;generalize grow (V.drewN nq) osq=w5 at *;clear x0 x1 x2 x3 xf y0 y1 y2 y3 yf z0 z1 z2 z3 zf;obtain⟨x0,x1,x2,x3,xf⟩:=qaa D5.out.b1;obtain⟨z0,z1,z2,z3,zf⟩:=qaa D5.out.b2;obtain⟨y0,y1,y2,y3,yf⟩:=qaa D5.out.b3;simp only[Tm.kind,Tm.name,Tm.sort,Tm.kids]at x0 x1 x2 x3
  cases z with
  | true=>
   have HFIT:Hid (qau n l=kidT a.kids 0):=hdzz (by rw[qdq (HFZ.out.2 rfl),HN.out,←HA0.out];rfl);obtain⟨kb,ko,Ar,cr,hke,hkb,k0,k1,k2,k3,kr⟩:=qal D5.out.ra 0 (by rw[HAL.out];decide);rw[Nat.zero_mul,Nat.add_zero]at k0 k1 k2 k3
   first | subst hke|(injection hke with hke;injection hke with e1 e2;subst e1 e2)
   rw[HAL.out]at y3;obtain⟨r,hr⟩:∃r,r=kidT a.kids 0:=⟨_,rfl⟩;have HRR:Hid (qau n l=r):=hdzz (by rw[hr];exact HFIT.out);rw[←hr]at k0 k1 k2 k3 kr;have HKR:=hdzz kr;clear hr kr;go_wp2_with fail
   refine bodyPost_ret (v:=.tuple #[r.val Ar cr,.bool true]) ?_ rfl ?_
   ·simp[results,Tryz.results74,go_sem,z0,z1,z2,z3,Tm.val]
   rw[HRR.out];exact qcq D5.out.bel hPb HKR.out
  | false=>
   have HNO:Hid (qau n l=.mk 3 n 0 l):=hdzz (qdl fun h=>by have:=HFZ.out.1 h;cases this)
   iterate 2
    go_wp2_with fail
    go_quiet (fail)
    have D5:=hdzz (D5.out.go ((Lay.refl _ _).drewN nq).below);generalize w5.drewN nq=w5 at *;clear x0 x1 x2 x3 xf y0 y1 y2 y3 yf z0 z1 z2 z3 zf;obtain⟨x0,x1,x2,x3,xf⟩:=qaa D5.out.b1;obtain⟨z0,z1,z2,z3,zf⟩:=qaa D5.out.b2;obtain⟨y0,y1,y2,y3,yf⟩:=qaa D5.out.b3;simp only[Tm.kind,Tm.name,Tm.sort,Tm.kids]at x0 x1 x2 x3
   have HRT:=hdzz D5.out.rt;go_wp2_with fail
   refine bodyPost_ret (v:=.tuple #[Tm.val (.mk 3 n 0 l) (some ⟨b0,off0,none⟩) c,.bool false]) ?_ rfl ?_
   ·simp[results,Tryz.results74,go_sem,z0,z1,z2,z3,Tm.val,Tm.kind,Tm.name,Tm.sort,Tm.kids]
   rw[HNO.out];exact qcq D5.out.bel hPb HRT.out
 ·have HNO:Hid (qau n l=.mk 3 n 0 l):=hdzz (qdl fun h=>hf (hiff.1 h).1);have hdec:decide (a.isA nEnc)=false:=decide_eq_false hf;have IS:Hid (∀X,Calls Tryz.prog 27 #[a.val Aa ca,.string nEnc] X fun e w'=>e=.returned (.bool false)∧Lay X.heap.size X w'):=hdzz fun X=>by have h:=qbs a nEnc Aa ca X;rw[hdec]at h;exact h
  simp only[Tm.val,nEnc]at IS;clear hdec hf hiff;have hcl:∀bb,bb<V.heap.size→∀n os o,(grow (V.drewN n) os).cell? ⟨bb,o,none⟩=V.cell? ⟨bb,o,none⟩:=fun bb hbb n os o=>(Lay.of_grow (w:=V) n os).below.cell (by exact hbb);have hsz:=DB.out.size;have g1:=fun n os=>(hcl _ (show w.heap.size<V.heap.size by omega) n os _).trans x1;have h0:=fun n os=>(hcl _ (show w.heap.size+1+1<V.heap.size by omega) n os _).trans y0;have h1:=fun n os=>(hcl _ (show w.heap.size+1+1<V.heap.size by omega) n os _).trans y1;have h2:=fun n os=>(hcl _ (show w.heap.size+1+1<V.heap.size by omega) n os _).trans y2;have h3:=fun n os=>(hcl _ (show w.heap.size+1+1<V.heap.size by omega) n os _).trans y3;clear hcl hsz;go_wp2_with fail
  refine wp_region_quiet_grown (by assumption) (by kernel_rfl) ?_
  repeat(go_big_quiet_step ((go_at_call 27;exact qak (IS.out _))))
  refine wpQuiet_nil ?_;intro _ hw';obtain⟨⟨nq,osq⟩,hw''⟩:=hw';subst hw'';have D5:=hdzz (DB.out.go (Lay.of_grow (w:=V) nq osq).below);clear IS g1 h0 h1 h2 h3;generalize grow (V.drewN nq) osq=w5 at *;clear x0 x1 x2 x3 xf y0 y1 y2 y3 yf z0 z1 z2 z3 zf;obtain⟨x0,x1,x2,x3,xf⟩:=qaa D5.out.b1;obtain⟨z0,z1,z2,z3,zf⟩:=qaa D5.out.b2;obtain⟨y0,y1,y2,y3,yf⟩:=qaa D5.out.b3;simp only[Tm.kind,Tm.name,Tm.sort,Tm.kids]at x0 x1 x2 x3
  iterate 2
   go_wp2_with fail
   go_quiet (fail)
   have D5:=hdzz (D5.out.go ((Lay.refl _ _).drewN nq).below);generalize w5.drewN nq=w5 at *;clear x0 x1 x2 x3 xf y0 y1 y2 y3 yf z0 z1 z2 z3 zf;obtain⟨x0,x1,x2,x3,xf⟩:=qaa D5.out.b1;obtain⟨z0,z1,z2,z3,zf⟩:=qaa D5.out.b2;obtain⟨y0,y1,y2,y3,yf⟩:=qaa D5.out.b3;simp only[Tm.kind,Tm.name,Tm.sort,Tm.kids]at x0 x1 x2 x3
  have HRT:=hdzz D5.out.rt;go_wp2_with fail
  refine bodyPost_ret (v:=.tuple #[Tm.val (.mk 3 n 0 l) (some ⟨b0,off0,none⟩) c,.bool false]) ?_ rfl ?_
  ·simp[results,Tryz.results74,go_sem,z0,z1,z2,z3,Tm.val,Tm.kind,Tm.name,Tm.sort,Tm.kids]
  rw[HNO.out];exact qcq D5.out.bel hPb HRT.out
theorem rdes_adec (n:ByteArray) (l:List Tm) (A:Option Addr) (c:Nat) (w:World) (Pb:Nat→Prop) (hPb:∀b,Pb b→b<w.heap.size) (hn:n=qbq) (har:arN n l.length) (hka:∀t∈l,ArT t) (hsz:∀t∈l,t.size≤899999+1) (hrep:RepP w Pb (.mk 3 n 0 l) A c) :
  Calls Tryz.prog 74 #[(Tm.mk 3 n 0 l).val A c] w (DesP Pb (qau n l) w):=by
 have mixed:=mixz;have hl1:0<l.length:=by rw[har.1 (by rw[hn];decide)];decide
 have haa:ArT (kidT l 0):=ArT.kidl hka 0;have hsa:=qdk hsz 0;obtain⟨a,ha0⟩:∃a,a=kidT l 0:=⟨_,rfl⟩;rw[←ha0]at haa hsa;obtain⟨b0,off0,Aa,ca,V1,V,rfl,hbw0,HV1,HV,HS2,DB,⟨v0,v1,v2,v3,vf⟩,e0,e1,e2,e3⟩:=qe8 hPb hl1 hrep a ha0;obtain⟨m0,m1,m2,m3,m4,m5⟩:=nm6 ((qat (n:=n) (c:=qbq) (L:=[97,100,101,99]) rfl).1 hn) false false false true false false (by decide);have hlI:(0:Int)<(l.length:Int):=by omega
 have HN:=hdzz hn;have HA0:=hdzz ha0;clear hrep hn ha0;simp only[Tm.val,Tm.kind,Tm.name,Tm.sort,Tm.kids];go_enter Tryz.func74,Tryz.ntmps74
 go_upto_region 1 with fail
 rw[←HV1.out];go_upto_region 2 with fail
 rw[HS2.out,←HV.out];clear HV HV1 v0 v1 v2 v3 vf e0 e1 e2 e3 HS2;obtain⟨x0,x1,x2,x3,xf⟩:=qaa DB.out.b1;obtain⟨z0,z1,z2,z3,zf⟩:=qaa DB.out.b2;obtain⟨y0,y1,y2,y3,yf⟩:=qaa DB.out.b3;simp only[Tm.kind,Tm.name,Tm.sort,Tm.kids]at x0 x1 x2 x3;go_wp2_with fail
 go_quiet (fail)
 have DB:=hdzz (DB.out.go ((Lay.refl _ _).drewN nq).below);generalize V.drewN nq=V at *;clear x0 x1 x2 x3 xf y0 y1 y2 y3 yf z0 z1 z2 z3 zf;obtain⟨x0,x1,x2,x3,xf⟩:=qaa DB.out.b1;obtain⟨z0,z1,z2,z3,zf⟩:=qaa DB.out.b2;obtain⟨y0,y1,y2,y3,yf⟩:=qaa DB.out.b3;simp only[Tm.kind,Tm.name,Tm.sort,Tm.kids]at x0 x1 x2 x3;have hl2:l.length=2:=har.1 (by rw[HN.out];decide);have HL2:=hdzz hl2;obtain⟨b',off',Ak,ck,hAe,hbw,q0,q1,q2,q3,pk⟩:=qal DB.out.rt 1 (show 1<l.length by omega);have ek1:kidT (Tm.mk 3 n 0 l).kids 1=kidT l 1:=rfl;rw[ek1]at q0 q1 q2 q3 pk;rw[Nat.one_mul]at q0 q1 q2 q3;have hks:=qdk hsz 1;have hiff:fitD n l↔(a.isA qc5∧kidT a.kids 1=.mk 3 nPk 0 [kidT l 1]):=by rw[qgq hka,HN.out,fitR,←HA0.out];exact⟨fun h=>by
  rcases h with⟨h,h2⟩|⟨h,h2⟩|⟨h,h2⟩|⟨h,h2⟩|⟨h,h2⟩|⟨h,h2⟩
  all_goals first|exact h2|exact absurd h (by decide),fun h=>by simp[h]⟩
 obtain⟨k,hk⟩:∃k,k=kidT l 1:=⟨_,rfl⟩;rw[←hk]at q0 q1 q2 q3 pk hiff hks;injection hAe with hAe;injection hAe with e1 e2;subst e1 e2;have HPK:=hdzz pk;have hbw2:=hPb _ hbw;clear ek1 hk pk hl2;rw[HL2.out]at x3;by_cases hf:a.isA qc5
 ·have HAL:Hid (a.kids.length=2):=hdzz ((haa.num hf).2.1 (by decide));have hdec:decide (a.isA qc5)=true:=decide_eq_true hf;obtain⟨kb,ko,Ar,cr,hke,hkb,k0,k1,k2,k3,kr⟩:=qal DB.out.ra 1 (by rw[HAL.out];decide);rw[Nat.one_mul]at k0 k1 k2 k3;subst hke;rw[HAL.out]at y3;have husz:=qee (i:=1) hsa;obtain⟨u,hu⟩:∃u,u=kidT a.kids 1:=⟨_,rfl⟩;rw[←hu]at k0 k1 k2 k3 kr hiff husz;have HKR:=hdzz kr;have hkbs:=hPb _ hkb;obtain⟨z,hz⟩:∃z,z=u.same (.mk 3 nPk 0 [k]):=⟨_,rfl⟩;have HZ:=hdzz hz;have hfz:fitD n l↔z=true:=by rw[hiff,hz,Tm.same_iff];exact⟨fun h=>h.2,fun h=>⟨hf,h⟩⟩
  have HFZ:=hdzz hfz;clear hfz hz hu kr hf hiff;go_wp2_with fail
  refine qaf (fun Y=>Below V.drew.heap.size V.drew Y) (fun _=>True) [] (.held 0 (.held 1 (.held 2 (.held 3 (.held 4 (.op 5 (.held 6 (.held 7 (.held 8 (.held 9 (.held 10 (.held 11 (.held 12 (.held 13 (.held 14 (.held 15 (.op 16 (.op 17 (.op 18 (.held 19 (.held 20 .nil))))))))))))))))))))) mixed (by kernel_rfl) ?_;have DD:=hdzz (DB.out.go (Below.refl _ _).drew);have hcl:∀bb o,V.drew.cell? ⟨bb,o,none⟩=V.cell? ⟨bb,o,none⟩:=fun _ _=>rfl;rw[←hcl]at k0 k1 k2 k3;rw[←hcl]at q0 q1 q2 q3;rw[←hcl]at x0 x1 x2 x3;rw[←hcl]at y0 y1 y2 y3;clear hcl;have HKD:Hid (RepP V.drew Pb u Ar cr):=hdzz (RepP.mono (w:=V) (w':=V.drew) (fun _ h=>h) (fun _ _=>rfl) _ _ _ HKR.out);have HPD:Hid (RepP V.drew Pb k Ak ck):=hdzz (RepP.mono (w:=V) (w':=V.drew) (fun _ h=>h) (fun _ _=>rfl) _ _ _ HPK.out);clear DB HKR HPK z0 z1 z2 z3 zf xf yf
  generalize V.drew=D at *;have hszD:=DD.out.size;have CN:=qbs a qc5 (some ⟨kb,ko,none⟩) ca D;rw[hdec]at CN;simp only[Tm.val,qc5,HAL.out]at CN;have CN:=hdzz CN;clear hdec;refine stkz (.pointer (some ⟨w.heap.size,1,none⟩)) rfl rfl rfl (fun _ _ _ h=>h) (Below.refl _ _) (fun Y hY=>by
    (try simp only[Act.put]);go_simp) ?_
  refine stkz (.string n) rfl rfl rfl (fun _ _ _ h=>h) (Below.refl _ _) (fun Y hY=>by
    have z1:=sclz hY x1 (by omega)
    (try simp only[Act.put]);go_simp) ?_
  refine stkz (.bool true) rfl rfl rfl (fun _ _ _ h=>h) (Below.refl _ _) (fun Y hY=>by
    (try simp only[Act.put]);go_simp) ?_
  refine stkz (.bool true) rfl rfl rfl (fun _ _ _ h=>h) (Below.refl _ _) (fun Y hY=>by
    (try simp only[Act.put]);go_simp) ?_
  simp only[Act.put,fsa,fsb,fsc,fsd,fse,fsf];refine qac (v:=.agg #[.int .i64 a.kind,.string a.name,.int .i64 a.sort,.slice (some ⟨kb,ko,none⟩) 2 ca]) rfl (by kernel_rfl) rfl (fun _ _ _ h=>h) (Below.refl _ _) trivial (fun Y hY hY2=>by
    have z0:=sclz hY y0 (by omega);have z1:=sclz hY y1 (by omega);have z2:=sclz hY y2 (by omega);have z3:=sclz hY y3 (by omega)
    (try simp only[Act.put]);go_simp) ?_
  simp only[Act.put,fsa,fsb,fsc,fsd,fse,fsf];refine qaz rfl (by kernel_rfl) (fun K hK=>?_);go_wp2_with fail
  refine CN.out.mono ?_;clear CN;rintro e w5 ⟨rfl,hl5⟩;have H5:=hdzz hl5.below;refine hK _ _ ⟨⟨fun _=>H5.out,trivial⟩,?_⟩;clear hK K hl5;refine stkz (.bool true) rfl rfl rfl (fun _ _ _ h=>h) H5.out (fun Y hY=>by
    (try simp only[Act.put]);go_simp) ?_
  refine stkz (.bool true) rfl rfl rfl (fun _ _ _ h=>h) H5.out (fun Y hY=>by
    (try simp only[Act.put]);go_simp) ?_
  simp only[Act.put,fsa,fsb,fsc,fsd,fse,fsf];refine qac (v:=.pointer (some ⟨w.heap.size+1+1,3,none⟩)) rfl (by kernel_rfl) rfl (fun _ _ _ h=>h) H5.out trivial (fun Y hY hY2=>by
    (try simp only[Act.put]);go_simp) ?_
  refine qac (v:=.slice (some ⟨kb,ko,none⟩) 2 ca) rfl (by kernel_rfl) rfl (fun _ _ _ h=>h) H5.out trivial (fun Y hY hY2=>by
    have z3:=sclz hY y3 (by omega)
    (try simp only[Act.put]);go_simp) ?_
  refine qac (v:=.pointer (some ⟨kb,ko+4,none⟩)) rfl (by kernel_rfl) rfl (fun _ _ _ h=>h) H5.out trivial (fun Y hY hY2=>by
    (try simp only[Act.put]);go_simp) ?_
  simp only[Act.put,fsa,fsb,fsc,fsd,fse,fsf];refine qac (v:=.agg #[.int .i64 u.kind,.string u.name,.int .i64 u.sort,.slice Ar u.kids.length cr]) rfl (by kernel_rfl) rfl (fun _ _ _ h=>h) H5.out trivial (fun Y hY hY2=>by
    have z0:=sclz hY k0 (by omega);have z1:=sclz hY k1 (by omega);have z2:=sclz hY k2 (by omega);have z3:=sclz hY k3 (by omega)
    (try simp only[Act.put]);go_simp) ?_
  simp only[Act.put,fsa,fsb,fsc,fsd,fse,fsf];refine qac (v:=.pointer (some ⟨w.heap.size,3,none⟩)) rfl (by kernel_rfl) rfl (fun _ _ _ h=>h) H5.out trivial (fun Y hY hY2=>by
    (try simp only[Act.put]);go_simp) ?_
  refine qac (v:=.slice (some ⟨b0,off0,none⟩) 2 c) rfl (by kernel_rfl) rfl (fun _ _ _ h=>h) H5.out trivial (fun Y hY hY2=>by
    have z3:=sclz hY x3 (by omega)
    (try simp only[Act.put]);go_simp) ?_
  refine qac (v:=.pointer (some ⟨b0,off0+4,none⟩)) rfl (by kernel_rfl) rfl (fun _ _ _ h=>h) H5.out trivial (fun Y hY hY2=>by
    (try simp only[Act.put]);go_simp) ?_
  simp only[Act.put,fsa,fsb,fsc,fsd,fse,fsf];refine qac (v:=.agg #[.int .i64 k.kind,.string k.name,.int .i64 k.sort,.slice Ak k.kids.length ck]) rfl (by kernel_rfl) rfl (fun _ _ _ h=>h) H5.out trivial (fun Y hY hY2=>by
    have z0:=sclz hY q0 (by omega);have z1:=sclz hY q1 (by omega);have z2:=sclz hY q2 (by omega);have z3:=sclz hY q3 (by omega)
    (try simp only[Act.put]);go_simp) ?_
  simp only[Act.put,fsa,fsb,fsc,fsd,fse,fsf];obtain⟨X,hX⟩:∃X,X=w5.alloc (.cells #[.int .i64 k.kind,.string k.name,.int .i64 k.sort,.slice Ak k.kids.length ck] 24):=⟨_,rfl⟩;have hbX:Below w5.heap.size w5 X:=by rw[hX];exact qad (Nat.le_refl _) _
  have hsX:X.heap.size=w5.heap.size+1:=by rw[hX];simp
  have hxX:X.heap[w5.heap.size]?=some (.cells (itCells [((k,Ak,ck):It)]).toArray 24 (0,0)):=by rw[hX];exact heap_alloc_new _ _
  have hs5:=H5.out.size;have hXS:RepS X (fun b=>Pb b∨b=w5.heap.size) [k] (some ⟨w5.heap.size,0,none⟩) 1:=by
   refine⟨Nat.le_refl _,by unfold maxLen;omega,.inr ⟨w5.heap.size,0,rfl,.inr rfl,?_⟩⟩;refine RepLP.of_its [(k,Ak,ck)] _ 0 (fun j v hj=>?_) (fun x hx=>?_)
   ·rw[Nat.zero_add];unfold World.cell?;rw[hxX];simpa using hj
   ·rw[List.mem_singleton]at hx;subst hx;exact RepP.mono (w:=D) (P:=Pb) (fun _ h=>.inl h) (fun p (hp:Pb p.block)=>(hbX.cell (by have:=hPb _ hp;omega)).trans (H5.out.cell (by have:=hPb _ hp;omega))) _ _ _ HPD.out
  have AP:=qb5 ⟨#[112,107]⟩ [k] (some ⟨w5.heap.size,0,none⟩) 1 X (fun b=>Pb b∨b=w5.heap.size) (fun b h=>h.elim (fun h=>by have:=hPb b h;omega) (fun h=>by omega)) (by unfold maxLen;decide) (by simp) (by simp) hXS;simp only[Tm.val,Tm.kind,Tm.name,Tm.sort,Tm.kids,List.length_singleton]at AP;have AP:=hdzz AP;have HBX:Hid (Below D.heap.size D X):=hdzz (H5.out.trans (hbX.mono hs5));have HSX:=hdzz hsX;refine qaz rfl (by kernel_rfl) (fun K hK=>?_);go_wp2_with fail
  rw[←hX];refine⟨⟨fun _=>HBX.out,trivial⟩,?_⟩;clear hX hbX hsX hxX hXS;refine qaz rfl (by kernel_rfl) (fun K hK=>?_);go_wp2_with fail
  refine AP.out.mono ?_;clear AP;rintro e w6 ⟨A6,c6,rfl,hr6,hb6⟩;have hs6:=hb6.size;have hsx:=HSX.out;have H6:=hdzz (HBX.out.trans (hb6.mono (by omega)));refine hK _ _ ⟨⟨fun _=>H6.out,trivial⟩,?_⟩;clear hK K;have CN:=qd3 u (.mk 3 nPk 0 [k]) Ar A6 cr c6 w6 (by omega) (by rw[Tm.size,Tm.sizes,Tm.sizes];omega) (RepP.mono (w:=D) (P:=Pb) (fun b h=>by have:=hPb b h;show b<_;omega) (fun p hp=>H6.out.cell (by have:=hPb _ hp;omega)) _ _ _ HKD.out) (RepP.mono (fun b h=>by
   rcases h with(h|h)|h
   ·have:=hPb b h;show b<_;omega
   ·show b<_;omega
   ·exact h.2) (fun _ _=>rfl) _ _ _ hr6)
  rw[←HZ.out]at CN;have e1:(Tm.mk 3 nPk 0 [k]).val A6 c6=.agg #[.int .i64 3,.string ⟨#[112,107]⟩,.int .i64 0,.slice A6 1 c6]:=rfl;rw[e1]at CN;simp only[Tm.val]at CN;clear e1;have CN:=hdzz CN;refine qaz rfl (by kernel_rfl) (fun K hK=>?_);go_wp2_with fail
  refine CN.out.mono ?_;clear CN;rintro e w7 ⟨rfl,hl7⟩;have hs67:=H6.out.size;have H7:=hdzz (H6.out.trans (hl7.below.mono hs67));refine hK _ _ ⟨⟨fun _=>H7.out,trivial⟩,?_⟩;clear hK K hl7;refine stkz (.bool z) rfl rfl rfl (fun _ _ _ h=>h) H7.out (fun Y hY=>by
    (try simp only[Act.put]);go_simp) ?_
  refine stkz (.bool z) rfl rfl rfl (fun _ _ _ h=>h) H7.out (fun Y hY=>by
    (try simp only[Act.put]);go_simp) ?_
  refine qar ?_;simp only[Act.put,fsa,fsb,fsc,fsd,fse,fsf];have D5:=hdzz (DD.out.go H7.out);clear hr6 hb6 hs6 hsx hs67 hs5 hszD H5 H6 HBX HSX x0 x1 x2 x3 y0 y1 y2 y3 k0 k1 k2 k3 q0 q1 q2 q3;obtain⟨x0,x1,x2,x3,xf⟩:=qaa D5.out.b1;obtain⟨z0,z1,z2,z3,zf⟩:=qaa D5.out.b2;obtain⟨y0,y1,y2,y3,yf⟩:=qaa D5.out.b3;simp only[Tm.kind,Tm.name,Tm.sort,Tm.kids]at x0 x1 x2 x3
  cases z with
  | true=>
   have HFIT:Hid (qau n l=kidT a.kids 0):=hdzz (by rw[qdq (HFZ.out.2 rfl),HN.out,←HA0.out];rfl);obtain⟨kb,ko,Ar,cr,hke,hkb,k0,k1,k2,k3,kr⟩:=qal D5.out.ra 0 (by rw[HAL.out];decide);rw[Nat.zero_mul,Nat.add_zero]at k0 k1 k2 k3
   first | subst hke|(injection hke with hke;injection hke with e1 e2;subst e1 e2)
   rw[HAL.out]at y3;obtain⟨r,hr⟩:∃r,r=kidT a.kids 0:=⟨_,rfl⟩;have HRR:Hid (qau n l=r):=hdzz (by rw[hr];exact HFIT.out);rw[←hr]at k0 k1 k2 k3 kr;have HKR:=hdzz kr;clear hr kr;go_wp2_with fail
   refine bodyPost_ret (v:=.tuple #[r.val Ar cr,.bool true]) ?_ rfl ?_
   ·simp[results,Tryz.results74,go_sem,z0,z1,z2,z3,Tm.val]
   rw[HRR.out];exact qcq D5.out.bel hPb HKR.out
  | false=>
   have HNO:Hid (qau n l=.mk 3 n 0 l):=hdzz (qdl fun h=>by have:=HFZ.out.1 h;cases this);go_wp2_with fail
   go_quiet (fail)
   have D5:=hdzz (D5.out.go ((Lay.refl _ _).drewN nq).below);generalize w7.drewN nq=w7 at *;clear x0 x1 x2 x3 xf y0 y1 y2 y3 yf z0 z1 z2 z3 zf;obtain⟨x0,x1,x2,x3,xf⟩:=qaa D5.out.b1;obtain⟨z0,z1,z2,z3,zf⟩:=qaa D5.out.b2;obtain⟨y0,y1,y2,y3,yf⟩:=qaa D5.out.b3;simp only[Tm.kind,Tm.name,Tm.sort,Tm.kids]at x0 x1 x2 x3;have HRT:=hdzz D5.out.rt;go_wp2_with fail
   refine bodyPost_ret (v:=.tuple #[Tm.val (.mk 3 n 0 l) (some ⟨b0,off0,none⟩) c,.bool false]) ?_ rfl ?_
   ·simp[results,Tryz.results74,go_sem,z0,z1,z2,z3,Tm.val,Tm.kind,Tm.name,Tm.sort,Tm.kids]
   rw[HNO.out];exact qcq D5.out.bel hPb HRT.out
 ·have HNO:Hid (qau n l=.mk 3 n 0 l):=hdzz (qdl fun h=>hf (hiff.1 h).1);have hdec:decide (a.isA qc5)=false:=decide_eq_false hf;have IS:Hid (∀X,Calls Tryz.prog 27 #[a.val Aa ca,.string qc5] X fun e w'=>e=.returned (.bool false)∧Lay X.heap.size X w'):=hdzz fun X=>by have h:=qbs a qc5 Aa ca X;rw[hdec]at h;exact h
  simp only[Tm.val,qc5]at IS;clear hdec hf hiff;have hcl:∀bb,bb<V.heap.size→∀n os o,(grow (V.drewN n) os).cell? ⟨bb,o,none⟩=V.cell? ⟨bb,o,none⟩:=fun bb hbb n os o=>(Lay.of_grow (w:=V) n os).below.cell (by exact hbb);have hsz:=DB.out.size;have g1:=fun n os=>(hcl _ (show w.heap.size<V.heap.size by omega) n os _).trans x1;have h0:=fun n os=>(hcl _ (show w.heap.size+1+1<V.heap.size by omega) n os _).trans y0;have h1:=fun n os=>(hcl _ (show w.heap.size+1+1<V.heap.size by omega) n os _).trans y1;have h2:=fun n os=>(hcl _ (show w.heap.size+1+1<V.heap.size by omega) n os _).trans y2;have h3:=fun n os=>(hcl _ (show w.heap.size+1+1<V.heap.size by omega) n os _).trans y3;clear hcl hsz;go_wp2_with fail
  refine wp_region_quiet_grown (by assumption) (by kernel_rfl) ?_
  repeat(go_big_quiet_step ((go_at_call 27;exact qak (IS.out _))))
  refine wpQuiet_nil ?_;intro _ hw';obtain⟨⟨nq,osq⟩,hw''⟩:=hw';subst hw'';have D5:=hdzz (DB.out.go (Lay.of_grow (w:=V) nq osq).below);clear IS g1 h0 h1 h2 h3;generalize grow (V.drewN nq) osq=w5 at *;clear x0 x1 x2 x3 xf y0 y1 y2 y3 yf z0 z1 z2 z3 zf;obtain⟨x0,x1,x2,x3,xf⟩:=qaa D5.out.b1;obtain⟨z0,z1,z2,z3,zf⟩:=qaa D5.out.b2;obtain⟨y0,y1,y2,y3,yf⟩:=qaa D5.out.b3;simp only[Tm.kind,Tm.name,Tm.sort,Tm.kids]at x0 x1 x2 x3;go_wp2_with fail
  go_quiet (fail)
  have D5:=hdzz (D5.out.go ((Lay.refl _ _).drewN nq).below);generalize w5.drewN nq=w5 at *;clear x0 x1 x2 x3 xf y0 y1 y2 y3 yf z0 z1 z2 z3 zf;obtain⟨x0,x1,x2,x3,xf⟩:=qaa D5.out.b1;obtain⟨z0,z1,z2,z3,zf⟩:=qaa D5.out.b2;obtain⟨y0,y1,y2,y3,yf⟩:=qaa D5.out.b3;simp only[Tm.kind,Tm.name,Tm.sort,Tm.kids]at x0 x1 x2 x3;have HRT:=hdzz D5.out.rt;go_wp2_with fail
  refine bodyPost_ret (v:=.tuple #[Tm.val (.mk 3 n 0 l) (some ⟨b0,off0,none⟩) c,.bool false]) ?_ rfl ?_
  ·simp[results,Tryz.results74,go_sem,z0,z1,z2,z3,Tm.val,Tm.kind,Tm.name,Tm.sort,Tm.kids]
  rw[HNO.out];exact qcq D5.out.bel hPb HRT.out
theorem rdes_open (n:ByteArray) (l:List Tm) (A:Option Addr) (c:Nat) (w:World) (Pb:Nat→Prop) (hPb:∀b,Pb b→b<w.heap.size) (hn:n=qbp) (har:arN n l.length) (hka:∀t∈l,ArT t) (hsz:∀t∈l,t.size≤899999+1) (hrep:RepP w Pb (.mk 3 n 0 l) A c) :
  Calls Tryz.prog 74 #[(Tm.mk 3 n 0 l).val A c] w (DesP Pb (qau n l) w):=by
 have mixed:=mixz;have hl1:0<l.length:=by rw[har.1 (by rw[hn];decide)];decide
 have haa:ArT (kidT l 0):=ArT.kidl hka 0;have hsa:=qdk hsz 0;obtain⟨a,ha0⟩:∃a,a=kidT l 0:=⟨_,rfl⟩;rw[←ha0]at haa hsa;obtain⟨b0,off0,Aa,ca,V1,V,rfl,hbw0,HV1,HV,HS2,DB,⟨v0,v1,v2,v3,vf⟩,e0,e1,e2,e3⟩:=qe8 hPb hl1 hrep a ha0;obtain⟨m0,m1,m2,m3,m4,m5⟩:=nm6 ((qat (n:=n) (c:=qbp) (L:=[111,112,101,110]) rfl).1 hn) false false false false true false (by decide);have hlI:(0:Int)<(l.length:Int):=by omega
 have HN:=hdzz hn;have HA0:=hdzz ha0;clear hrep hn ha0;simp only[Tm.val,Tm.kind,Tm.name,Tm.sort,Tm.kids];go_enter Tryz.func74,Tryz.ntmps74
 go_upto_region 1 with fail
 rw[←HV1.out];go_upto_region 2 with fail
 rw[HS2.out,←HV.out];clear HV HV1 v0 v1 v2 v3 vf e0 e1 e2 e3 HS2;obtain⟨x0,x1,x2,x3,xf⟩:=qaa DB.out.b1;obtain⟨z0,z1,z2,z3,zf⟩:=qaa DB.out.b2;obtain⟨y0,y1,y2,y3,yf⟩:=qaa DB.out.b3;simp only[Tm.kind,Tm.name,Tm.sort,Tm.kids]at x0 x1 x2 x3
 iterate 2
  go_wp2_with fail
  go_quiet (fail)
  have DB:=hdzz (DB.out.go ((Lay.refl _ _).drewN nq).below);generalize V.drewN nq=V at *;clear x0 x1 x2 x3 xf y0 y1 y2 y3 yf z0 z1 z2 z3 zf;obtain⟨x0,x1,x2,x3,xf⟩:=qaa DB.out.b1;obtain⟨z0,z1,z2,z3,zf⟩:=qaa DB.out.b2;obtain⟨y0,y1,y2,y3,yf⟩:=qaa DB.out.b3;simp only[Tm.kind,Tm.name,Tm.sort,Tm.kids]at x0 x1 x2 x3
 have hl2:l.length=2:=har.1 (by rw[HN.out];decide);have HL2:=hdzz hl2;obtain⟨b',off',Ak,ck,hAe,hbw,q0,q1,q2,q3,pk⟩:=qal DB.out.rt 1 (show 1<l.length by omega);have ek1:kidT (Tm.mk 3 n 0 l).kids 1=kidT l 1:=rfl;rw[ek1]at q0 q1 q2 q3 pk;rw[Nat.one_mul]at q0 q1 q2 q3;have hks:=qdk hsz 1;have hiff:fitD n l↔(a.isA qbg∧kidT l 1=.mk 3 nPk 0 [kidT a.kids 1]):=by rw[qgq hka,HN.out,fitR,←HA0.out];exact⟨fun h=>by
  rcases h with⟨h,h2⟩|⟨h,h2⟩|⟨h,h2⟩|⟨h,h2⟩|⟨h,h2⟩|⟨h,h2⟩
  all_goals first|exact h2|exact absurd h (by decide),fun h=>by simp[h]⟩
 obtain⟨k,hk⟩:∃k,k=kidT l 1:=⟨_,rfl⟩;rw[←hk]at q0 q1 q2 q3 pk hiff hks;injection hAe with hAe;injection hAe with e1 e2;subst e1 e2;have HPK:=hdzz pk;have hbw2:=hPb _ hbw;clear ek1 hk pk hl2;rw[HL2.out]at x3;by_cases hf:a.isA qbg
 ·have HAL:Hid (a.kids.length=2):=hdzz ((haa.num hf).2.1 (by decide));have hdec:decide (a.isA qbg)=true:=decide_eq_true hf;obtain⟨kb,ko,Ar,cr,hke,hkb,k0,k1,k2,k3,kr⟩:=qal DB.out.ra 1 (by rw[HAL.out];decide);rw[Nat.one_mul]at k0 k1 k2 k3;subst hke;rw[HAL.out]at y3;have husz:=qee (i:=1) hsa;obtain⟨u,hu⟩:∃u,u=kidT a.kids 1:=⟨_,rfl⟩;rw[←hu]at k0 k1 k2 k3 kr hiff husz;have HKR:=hdzz kr;have hkbs:=hPb _ hkb;obtain⟨z,hz⟩:∃z,z=k.same (.mk 3 nPk 0 [u]):=⟨_,rfl⟩;have HZ:=hdzz hz;have hfz:fitD n l↔z=true:=by rw[hiff,hz,Tm.same_iff];exact⟨fun h=>h.2,fun h=>⟨hf,h⟩⟩
  have HFZ:=hdzz hfz;clear hfz hz hu kr hf hiff;go_wp2_with fail
  refine qaf (fun Y=>Below V.drew.heap.size V.drew Y) (fun _=>True) [] (.held 0 (.held 1 (.held 2 (.held 3 (.held 4 (.op 5 (.held 6 (.held 7 (.held 8 (.held 9 (.held 10 (.held 11 (.held 12 (.held 13 (.held 14 (.held 15 (.op 16 (.op 17 (.op 18 (.held 19 (.held 20 .nil))))))))))))))))))))) mixed (by kernel_rfl) ?_;have DD:=hdzz (DB.out.go (Below.refl _ _).drew);have hcl:∀bb o,V.drew.cell? ⟨bb,o,none⟩=V.cell? ⟨bb,o,none⟩:=fun _ _=>rfl;rw[←hcl]at k0 k1 k2 k3;rw[←hcl]at q0 q1 q2 q3;rw[←hcl]at x0 x1 x2 x3;rw[←hcl]at y0 y1 y2 y3;clear hcl;have HKD:Hid (RepP V.drew Pb u Ar cr):=hdzz (RepP.mono (w:=V) (w':=V.drew) (fun _ h=>h) (fun _ _=>rfl) _ _ _ HKR.out);have HPD:Hid (RepP V.drew Pb k Ak ck):=hdzz (RepP.mono (w:=V) (w':=V.drew) (fun _ h=>h) (fun _ _=>rfl) _ _ _ HPK.out);clear DB HKR HPK z0 z1 z2 z3 zf xf yf
  generalize V.drew=D at *;have hszD:=DD.out.size;have CN:=qbs a qbg (some ⟨kb,ko,none⟩) ca D;rw[hdec]at CN;simp only[Tm.val,qbg,HAL.out]at CN;have CN:=hdzz CN;clear hdec;refine stkz (.pointer (some ⟨w.heap.size,1,none⟩)) rfl rfl rfl (fun _ _ _ h=>h) (Below.refl _ _) (fun Y hY=>by
    (try simp only[Act.put]);go_simp) ?_
  refine stkz (.string n) rfl rfl rfl (fun _ _ _ h=>h) (Below.refl _ _) (fun Y hY=>by
    have z1:=sclz hY x1 (by omega)
    (try simp only[Act.put]);go_simp) ?_
  refine stkz (.bool true) rfl rfl rfl (fun _ _ _ h=>h) (Below.refl _ _) (fun Y hY=>by
    (try simp only[Act.put]);go_simp) ?_
  refine stkz (.bool true) rfl rfl rfl (fun _ _ _ h=>h) (Below.refl _ _) (fun Y hY=>by
    (try simp only[Act.put]);go_simp) ?_
  simp only[Act.put,fsa,fsb,fsc,fsd,fse,fsf];refine qac (v:=.agg #[.int .i64 a.kind,.string a.name,.int .i64 a.sort,.slice (some ⟨kb,ko,none⟩) 2 ca]) rfl (by kernel_rfl) rfl (fun _ _ _ h=>h) (Below.refl _ _) trivial (fun Y hY hY2=>by
    have z0:=sclz hY y0 (by omega);have z1:=sclz hY y1 (by omega);have z2:=sclz hY y2 (by omega);have z3:=sclz hY y3 (by omega)
    (try simp only[Act.put]);go_simp) ?_
  simp only[Act.put,fsa,fsb,fsc,fsd,fse,fsf];refine qaz rfl (by kernel_rfl) (fun K hK=>?_);go_wp2_with fail
  refine CN.out.mono ?_;clear CN;rintro e w5 ⟨rfl,hl5⟩;have H5:=hdzz hl5.below;refine hK _ _ ⟨⟨fun _=>H5.out,trivial⟩,?_⟩;clear hK K hl5;refine stkz (.bool true) rfl rfl rfl (fun _ _ _ h=>h) H5.out (fun Y hY=>by
    (try simp only[Act.put]);go_simp) ?_
  refine stkz (.bool true) rfl rfl rfl (fun _ _ _ h=>h) H5.out (fun Y hY=>by
    (try simp only[Act.put]);go_simp) ?_
  simp only[Act.put,fsa,fsb,fsc,fsd,fse,fsf];refine qac (v:=.pointer (some ⟨w.heap.size,3,none⟩)) rfl (by kernel_rfl) rfl (fun _ _ _ h=>h) H5.out trivial (fun Y hY hY2=>by
    (try simp only[Act.put]);go_simp) ?_
  refine qac (v:=.slice (some ⟨b0,off0,none⟩) 2 c) rfl (by kernel_rfl) rfl (fun _ _ _ h=>h) H5.out trivial (fun Y hY hY2=>by
    have z3:=sclz hY x3 (by omega)
    (try simp only[Act.put]);go_simp) ?_
  refine qac (v:=.pointer (some ⟨b0,off0+4,none⟩)) rfl (by kernel_rfl) rfl (fun _ _ _ h=>h) H5.out trivial (fun Y hY hY2=>by
    (try simp only[Act.put]);go_simp) ?_
  simp only[Act.put,fsa,fsb,fsc,fsd,fse,fsf];refine qac (v:=.agg #[.int .i64 k.kind,.string k.name,.int .i64 k.sort,.slice Ak k.kids.length ck]) rfl (by kernel_rfl) rfl (fun _ _ _ h=>h) H5.out trivial (fun Y hY hY2=>by
    have z0:=sclz hY q0 (by omega);have z1:=sclz hY q1 (by omega);have z2:=sclz hY q2 (by omega);have z3:=sclz hY q3 (by omega)
    (try simp only[Act.put]);go_simp) ?_
  simp only[Act.put,fsa,fsb,fsc,fsd,fse,fsf];refine qac (v:=.pointer (some ⟨w.heap.size+1+1,3,none⟩)) rfl (by kernel_rfl) rfl (fun _ _ _ h=>h) H5.out trivial (fun Y hY hY2=>by
    (try simp only[Act.put]);go_simp) ?_
  refine qac (v:=.slice (some ⟨kb,ko,none⟩) 2 ca) rfl (by kernel_rfl) rfl (fun _ _ _ h=>h) H5.out trivial (fun Y hY hY2=>by
    have z3:=sclz hY y3 (by omega)
    (try simp only[Act.put]);go_simp) ?_
  refine qac (v:=.pointer (some ⟨kb,ko+4,none⟩)) rfl (by kernel_rfl) rfl (fun _ _ _ h=>h) H5.out trivial (fun Y hY hY2=>by
    (try simp only[Act.put]);go_simp) ?_
  simp only[Act.put,fsa,fsb,fsc,fsd,fse,fsf];refine qac (v:=.agg #[.int .i64 u.kind,.string u.name,.int .i64 u.sort,.slice Ar u.kids.length cr]) rfl (by kernel_rfl) rfl (fun _ _ _ h=>h) H5.out trivial (fun Y hY hY2=>by
    have z0:=sclz hY k0 (by omega);have z1:=sclz hY k1 (by omega);have z2:=sclz hY k2 (by omega);have z3:=sclz hY k3 (by omega)
    (try simp only[Act.put]);go_simp) ?_
  simp only[Act.put,fsa,fsb,fsc,fsd,fse,fsf];obtain⟨X,hX⟩:∃X,X=w5.alloc (.cells #[.int .i64 u.kind,.string u.name,.int .i64 u.sort,.slice Ar u.kids.length cr] 24):=⟨_,rfl⟩;have hbX:Below w5.heap.size w5 X:=by rw[hX];exact qad (Nat.le_refl _) _
  have hsX:X.heap.size=w5.heap.size+1:=by rw[hX];simp
  have hxX:X.heap[w5.heap.size]?=some (.cells (itCells [((u,Ar,cr):It)]).toArray 24 (0,0)):=by rw[hX];exact heap_alloc_new _ _
  have hs5:=H5.out.size;have hXS:RepS X (fun b=>Pb b∨b=w5.heap.size) [u] (some ⟨w5.heap.size,0,none⟩) 1:=by
   refine⟨Nat.le_refl _,by unfold maxLen;omega,.inr ⟨w5.heap.size,0,rfl,.inr rfl,?_⟩⟩;refine RepLP.of_its [(u,Ar,cr)] _ 0 (fun j v hj=>?_) (fun x hx=>?_)
   ·rw[Nat.zero_add];unfold World.cell?;rw[hxX];simpa using hj
   ·rw[List.mem_singleton]at hx;subst hx;exact RepP.mono (w:=D) (P:=Pb) (fun _ h=>.inl h) (fun p (hp:Pb p.block)=>(hbX.cell (by have:=hPb _ hp;omega)).trans (H5.out.cell (by have:=hPb _ hp;omega))) _ _ _ HKD.out
  have AP:=qb5 ⟨#[112,107]⟩ [u] (some ⟨w5.heap.size,0,none⟩) 1 X (fun b=>Pb b∨b=w5.heap.size) (fun b h=>h.elim (fun h=>by have:=hPb b h;omega) (fun h=>by omega)) (by unfold maxLen;decide) (by simp) (by simp) hXS;simp only[Tm.val,Tm.kind,Tm.name,Tm.sort,Tm.kids,List.length_singleton]at AP;have AP:=hdzz AP;have HBX:Hid (Below D.heap.size D X):=hdzz (H5.out.trans (hbX.mono hs5));have HSX:=hdzz hsX;refine qaz rfl (by kernel_rfl) (fun K hK=>?_);go_wp2_with fail
  rw[←hX];refine⟨⟨fun _=>HBX.out,trivial⟩,?_⟩;clear hX hbX hsX hxX hXS;refine qaz rfl (by kernel_rfl) (fun K hK=>?_);go_wp2_with fail
  refine AP.out.mono ?_;clear AP;rintro e w6 ⟨A6,c6,rfl,hr6,hb6⟩;have hs6:=hb6.size;have hsx:=HSX.out;have H6:=hdzz (HBX.out.trans (hb6.mono (by omega)));refine hK _ _ ⟨⟨fun _=>H6.out,trivial⟩,?_⟩;clear hK K;have CN:=qd3 k (.mk 3 nPk 0 [u]) Ak A6 ck c6 w6 (by omega) (by rw[Tm.size,Tm.sizes,Tm.sizes];omega) (RepP.mono (w:=D) (P:=Pb) (fun b h=>by have:=hPb b h;show b<_;omega) (fun p hp=>H6.out.cell (by have:=hPb _ hp;omega)) _ _ _ HPD.out) (RepP.mono (fun b h=>by
   rcases h with(h|h)|h
   ·have:=hPb b h;show b<_;omega
   ·show b<_;omega
   ·exact h.2) (fun _ _=>rfl) _ _ _ hr6)
  rw[←HZ.out]at CN;have e1:(Tm.mk 3 nPk 0 [u]).val A6 c6=.agg #[.int .i64 3,.string ⟨#[112,107]⟩,.int .i64 0,.slice A6 1 c6]:=rfl;rw[e1]at CN;simp only[Tm.val]at CN;clear e1;have CN:=hdzz CN;refine qaz rfl (by kernel_rfl) (fun K hK=>?_);go_wp2_with fail
  refine CN.out.mono ?_;clear CN;rintro e w7 ⟨rfl,hl7⟩;have hs67:=H6.out.size;have H7:=hdzz (H6.out.trans (hl7.below.mono hs67));refine hK _ _ ⟨⟨fun _=>H7.out,trivial⟩,?_⟩;clear hK K hl7;refine stkz (.bool z) rfl rfl rfl (fun _ _ _ h=>h) H7.out (fun Y hY=>by
    (try simp only[Act.put]);go_simp) ?_
  refine stkz (.bool z) rfl rfl rfl (fun _ _ _ h=>h) H7.out (fun Y hY=>by
    (try simp only[Act.put]);go_simp) ?_
  refine qar ?_;simp only[Act.put,fsa,fsb,fsc,fsd,fse,fsf];have D5:=hdzz (DD.out.go H7.out);clear hr6 hb6 hs6 hsx hs67 hs5 hszD H5 H6 HBX HSX x0 x1 x2 x3 y0 y1 y2 y3 k0 k1 k2 k3 q0 q1 q2 q3;obtain⟨x0,x1,x2,x3,xf⟩:=qaa D5.out.b1;obtain⟨z0,z1,z2,z3,zf⟩:=qaa D5.out.b2;obtain⟨y0,y1,y2,y3,yf⟩:=qaa D5.out.b3;simp only[Tm.kind,Tm.name,Tm.sort,Tm.kids]at x0 x1 x2 x3
  cases z with
  | true=>
   have HFIT:Hid (qau n l=kidT a.kids 0):=hdzz (by rw[qdq (HFZ.out.2 rfl),HN.out,←HA0.out];rfl);obtain⟨kb,ko,Ar,cr,hke,hkb,k0,k1,k2,k3,kr⟩:=qal D5.out.ra 0 (by rw[HAL.out];decide);rw[Nat.zero_mul,Nat.add_zero]at k0 k1 k2 k3
   first | subst hke|(injection hke with hke;injection hke with e1 e2;subst e1 e2)
   rw[HAL.out]at y3;obtain⟨r,hr⟩:∃r,r=kidT a.kids 0:=⟨_,rfl⟩;have HRR:Hid (qau n l=r):=hdzz (by rw[hr];exact HFIT.out);rw[←hr]at k0 k1 k2 k3 kr;have HKR:=hdzz kr;clear hr kr;go_wp2_with fail
   refine bodyPost_ret (v:=.tuple #[r.val Ar cr,.bool true]) ?_ rfl ?_
   ·simp[results,Tryz.results74,go_sem,z0,z1,z2,z3,Tm.val]
   rw[HRR.out];exact qcq D5.out.bel hPb HKR.out
  | false=>
   have HNO:Hid (qau n l=.mk 3 n 0 l):=hdzz (qdl fun h=>by have:=HFZ.out.1 h;cases this);have HRT:=hdzz D5.out.rt;go_wp2_with fail
   refine bodyPost_ret (v:=.tuple #[Tm.val (.mk 3 n 0 l) (some ⟨b0,off0,none⟩) c,.bool false]) ?_ rfl ?_
   ·simp[results,Tryz.results74,go_sem,z0,z1,z2,z3,Tm.val,Tm.kind,Tm.name,Tm.sort,Tm.kids]
   rw[HNO.out];exact qcq D5.out.bel hPb HRT.out
 ·have HNO:Hid (qau n l=.mk 3 n 0 l):=hdzz (qdl fun h=>hf (hiff.1 h).1);have hdec:decide (a.isA qbg)=false:=decide_eq_false hf;have IS:Hid (∀X,Calls Tryz.prog 27 #[a.val Aa ca,.string qbg] X fun e w'=>e=.returned (.bool false)∧Lay X.heap.size X w'):=hdzz fun X=>by have h:=qbs a qbg Aa ca X;rw[hdec]at h;exact h
  simp only[Tm.val,qbg]at IS;clear hdec hf hiff;have hcl:∀bb,bb<V.heap.size→∀n os o,(grow (V.drewN n) os).cell? ⟨bb,o,none⟩=V.cell? ⟨bb,o,none⟩:=fun bb hbb n os o=>(Lay.of_grow (w:=V) n os).below.cell (by exact hbb);have hsz:=DB.out.size;have g1:=fun n os=>(hcl _ (show w.heap.size<V.heap.size by omega) n os _).trans x1;have h0:=fun n os=>(hcl _ (show w.heap.size+1+1<V.heap.size by omega) n os _).trans y0;have h1:=fun n os=>(hcl _ (show w.heap.size+1+1<V.heap.size by omega) n os _).trans y1;have h2:=fun n os=>(hcl _ (show w.heap.size+1+1<V.heap.size by omega) n os _).trans y2;have h3:=fun n os=>(hcl _ (show w.heap.size+1+1<V.heap.size by omega) n os _).trans y3;clear hcl hsz;go_wp2_with fail
  refine wp_region_quiet_grown (by assumption) (by kernel_rfl) ?_
  repeat(go_big_quiet_step ((go_at_call 27;exact qak (IS.out _))))
  refine wpQuiet_nil ?_;intro _ hw';obtain⟨⟨nq,osq⟩,hw''⟩:=hw';subst hw'';have D5:=hdzz (DB.out.go (Lay.of_grow (w:=V) nq osq).below);clear IS g1 h0 h1 h2 h3;generalize grow (V.drewN nq) osq=w5 at *;clear x0 x1 x2 x3 xf y0 y1 y2 y3 yf z0 z1 z2 z3 zf;obtain⟨x0,x1,x2,x3,xf⟩:=qaa D5.out.b1;obtain⟨z0,z1,z2,z3,zf⟩:=qaa D5.out.b2;obtain⟨y0,y1,y2,y3,yf⟩:=qaa D5.out.b3;simp only[Tm.kind,Tm.name,Tm.sort,Tm.kids]at x0 x1 x2 x3;have HRT:=hdzz D5.out.rt;go_wp2_with fail
  refine bodyPost_ret (v:=.tuple #[Tm.val (.mk 3 n 0 l) (some ⟨b0,off0,none⟩) c,.bool false]) ?_ rfl ?_
  ·simp[results,Tryz.results74,go_sem,z0,z1,z2,z3,Tm.val,Tm.kind,Tm.name,Tm.sort,Tm.kids]
  rw[HNO.out];exact qcq D5.out.bel hPb HRT.out
theorem rdes_read (n:ByteArray) (l:List Tm) (A:Option Addr) (c:Nat) (w:World) (Pb:Nat→Prop) (hPb:∀b,Pb b→b<w.heap.size) (hn:n=qc1) (har:arN n l.length) (hka:∀t∈l,ArT t) (hsz:∀t∈l,t.size≤899999+1) (hrep:RepP w Pb (.mk 3 n 0 l) A c) :
  Calls Tryz.prog 74 #[(Tm.mk 3 n 0 l).val A c] w (DesP Pb (qau n l) w):=by
 have mixed:=mixz;have hl1:0<l.length:=by rw[har.2 (by rw[hn];decide)];decide
 have haa:ArT (kidT l 0):=ArT.kidl hka 0;have hsa:=qdk hsz 0;obtain⟨a,ha0⟩:∃a,a=kidT l 0:=⟨_,rfl⟩;rw[←ha0]at haa hsa;obtain⟨b0,off0,Aa,ca,V1,V,rfl,hbw0,HV1,HV,HS2,DB,⟨v0,v1,v2,v3,vf⟩,e0,e1,e2,e3⟩:=qe8 hPb hl1 hrep a ha0;obtain⟨m0,m1,m2,m3,m4,m5⟩:=nm6 ((qat (n:=n) (c:=qc1) (L:=[114,101,97,100]) rfl).1 hn) false false false false false true (by decide);have hlI:(0:Int)<(l.length:Int):=by omega
 have HN:=hdzz hn;have HA0:=hdzz ha0;clear hrep hn ha0;simp only[Tm.val,Tm.kind,Tm.name,Tm.sort,Tm.kids];go_enter Tryz.func74,Tryz.ntmps74
 go_upto_region 1 with fail
 rw[←HV1.out];go_upto_region 2 with fail
 rw[HS2.out,←HV.out];clear HV HV1 v0 v1 v2 v3 vf e0 e1 e2 e3 HS2;obtain⟨x0,x1,x2,x3,xf⟩:=qaa DB.out.b1;obtain⟨z0,z1,z2,z3,zf⟩:=qaa DB.out.b2;obtain⟨y0,y1,y2,y3,yf⟩:=qaa DB.out.b3;simp only[Tm.kind,Tm.name,Tm.sort,Tm.kids]at x0 x1 x2 x3
 iterate 3
  go_wp2_with fail
  go_quiet (fail)
  have DB:=hdzz (DB.out.go ((Lay.refl _ _).drewN nq).below);generalize V.drewN nq=V at *;clear x0 x1 x2 x3 xf y0 y1 y2 y3 yf z0 z1 z2 z3 zf;obtain⟨x0,x1,x2,x3,xf⟩:=qaa DB.out.b1;obtain⟨z0,z1,z2,z3,zf⟩:=qaa DB.out.b2;obtain⟨y0,y1,y2,y3,yf⟩:=qaa DB.out.b3;simp only[Tm.kind,Tm.name,Tm.sort,Tm.kids]at x0 x1 x2 x3
 have IS:=qbs a qbg Aa ca V;have hiff:fitD n l↔a.isA qbg:=by rw[qgq hka,HN.out,fitR,←HA0.out];exact⟨fun h=>by
  rcases h with⟨h,h2⟩|⟨h,h2⟩|⟨h,h2⟩|⟨h,h2⟩|⟨h,h2⟩|⟨h,h2⟩
  all_goals first|exact h2|exact absurd h (by decide),fun h=>by simp[h]⟩
 simp only[Tm.val,qbg]at IS;have IS:=hdzz IS;go_wp2_with fail
 refine IS.out.mono ?_;clear IS;rintro e w5 ⟨rfl,hl5⟩;have D5:=hdzz (DB.out.go hl5.below);clear hl5;clear x0 x1 x2 x3 xf y0 y1 y2 y3 yf z0 z1 z2 z3 zf;obtain⟨x0,x1,x2,x3,xf⟩:=qaa D5.out.b1;obtain⟨z0,z1,z2,z3,zf⟩:=qaa D5.out.b2;obtain⟨y0,y1,y2,y3,yf⟩:=qaa D5.out.b3;simp only[Tm.kind,Tm.name,Tm.sort,Tm.kids]at x0 x1 x2 x3;by_cases hf:a.isA qbg
 ·have HFIT:Hid (qau n l=kidT a.kids 0):=hdzz (by rw[qdq (hiff.2 hf),HN.out,←HA0.out];rfl);have HAL:Hid (a.kids.length=2):=hdzz ((haa.num hf).2.1 (by decide));have hdec:decide (a.isA qbg)=true:=decide_eq_true hf;simp only[qbg]at hdec;rw[hdec];clear hdec hf hiff;obtain⟨kb,ko,Ar,cr,hke,hkb,k0,k1,k2,k3,kr⟩:=qal D5.out.ra 0 (by rw[HAL.out];decide);rw[Nat.zero_mul,Nat.add_zero]at k0 k1 k2 k3
  first | subst hke|(injection hke with hke;injection hke with e1 e2;subst e1 e2)
  rw[HAL.out]at y3;obtain⟨r,hr⟩:∃r,r=kidT a.kids 0:=⟨_,rfl⟩;have HRR:Hid (qau n l=r):=hdzz (by rw[hr];exact HFIT.out);rw[←hr]at k0 k1 k2 k3 kr;have HKR:=hdzz kr;clear hr kr;go_wp2_with fail
  refine bodyPost_ret (v:=.tuple #[r.val Ar cr,.bool true]) ?_ rfl ?_
  ·simp[results,Tryz.results74,go_sem,z0,z1,z2,z3,Tm.val]
  rw[HRR.out];exact qcq D5.out.bel hPb HKR.out
 ·have HNO:Hid (qau n l=.mk 3 n 0 l):=hdzz (qdl fun h=>hf (hiff.1 h));have hdec:decide (a.isA qbg)=false:=decide_eq_false hf;simp only[qbg]at hdec;rw[hdec];clear hdec hf hiff;have HRT:=hdzz D5.out.rt;go_wp2_with fail
  refine bodyPost_ret (v:=.tuple #[Tm.val (.mk 3 n 0 l) (some ⟨b0,off0,none⟩) c,.bool false]) ?_ rfl ?_
  ·simp[results,Tryz.results74,go_sem,z0,z1,z2,z3,Tm.val,Tm.kind,Tm.name,Tm.sort,Tm.kids]
  rw[HNO.out];exact qcq D5.out.bel hPb HRT.out
theorem qkh (n:ByteArray) (l:List Tm) (A:Option Addr) (c:Nat) (w:World) (Pb:Nat→Prop) (hPb:∀b,Pb b→b<w.heap.size) (hd:desN n) (har:arN n l.length) (hka:∀t∈l,ArT t) (hsz:∀t∈l,t.size≤899999+1) (hrep:RepP w Pb (.mk 3 n 0 l) A c) :
  Calls Tryz.prog 74 #[(Tm.mk 3 n 0 l).val A c] w (DesP Pb (qau n l) w):=by
 rcases hd with h|h|h|h|h|h
 ·exact rdes_fst n l A c w Pb hPb h har hka hsz hrep
 ·exact rdes_snd n l A c w Pb hPb h har hka hsz hrep
 ·exact rdes_dec n l A c w Pb hPb h har hka hsz hrep
 ·exact rdes_adec n l A c w Pb hPb h har hka hsz hrep
 ·exact rdes_open n l A c w Pb hPb h har hka hsz hrep
 ·exact rdes_read n l A c w Pb hPb h har hka hsz hrep
end Go.Proofs.YtjhjoiplpmjepaaGreat
