/- Tnormal, Tequal, Tlaw1, Tbenta, Tbent1 (joined by shake.py). -/
import Derived.Test.YtjhjoiplpmjepaaGreatL0
import Derived.Test.YtjhjoiplpmjepaaGreatL5
import Derived.Test.YtjhjoiplpmjepaaGreatL8
import Derived.Test.YtjhjoiplpmjepaaGreatL9
import Derived.Test.YtjhjoiplpmjepaaGreatL10
import Derived.Test.YtjhjoiplpmjepaaGreatL13
import Derived.Test.YtjhjoiplpmjepaaGreatL15
import Derived.Deep.Cut
set_option maxRecDepth 100000
set_option linter.unusedVariables false
set_option linter.unusedSimpArgs false
set_option maxHeartbeats 64000000
namespace Go.Proofs.YtjhjoiplpmjepaaGreat
open Go.RowKit Go.Sort
theorem qen (t:Tm) (A:Option Addr) (c:Nat) (w:World) (Pb:Nat→Prop) (hPb:∀b,Pb b→b<w.heap.size) (hv:t.validT=0) (hf:qce t) (hnv:t.nf.valid=0) (hrep:RepP w Pb t A c) :
  Calls Tryz.prog 30 #[t.val A c] w (OkN Pb t.nf w):=by
 have hval:t.valid=0:=by
  unfold Tm.validT at hv
  split at hv
  ·rename_i h;exact absurd hv h
  ·rename_i h;exact Classical.byContradiction h
 have hth:t.th=0:=by
  unfold Tm.validT at hv;rw[if_neg (by rw[hval];decide)]at hv;exact hv
 obtain⟨hc,hsz,-⟩:=qap hval;have ha:=ArT.of_th hc hth;have hsn:=(qap hnv).2.1;obtain⟨V,hV⟩:∃V,V=(w.alloc (qag t A c)).alloc (.cells #[.int .i64 0,.string ⟨#[]⟩,.int .i64 0,.slice none 0 0] 24):=⟨_,rfl⟩;have hbV:Below w.heap.size w V:=by rw[hV];exact((Below.refl _ _).alloc (Nat.le_refl _) _).alloc (by simp) _
 have hsV:V.heap.size=w.heap.size+1+1:=by rw[hV];simp
 have hx1:V.heap[w.heap.size]?=some (qag t A c):=by rw[hV,Below.heap_alloc _ _ _ (by simp)];exact heap_alloc_new w _
 have hx2:V.heap[w.heap.size+1]?=some (.cells #[.int .i64 0,.string ⟨#[]⟩,.int .i64 0,.slice none 0 0] 24 (0,0)):=by
  rw[hV];have h:=heap_alloc_new (w.alloc (qag t A c)) (.cells #[.int .i64 0,.string ⟨#[]⟩,.int .i64 0,.slice none 0 0] 24);rw[World.size_alloc]at h;exact h
 have VA:=qmp t A c V (by omega) (RepP.mono (fun b h=>by have:=hPb _ h;omega) (fun p h=>hbV.cell (hPb _ h)) _ _ _ hrep);rw[hv]at VA;have NO:Hid (∀Z,Below V.heap.size V Z→Calls Tryz.prog 68 #[t.val A c] Z (OkN Pb t.nf Z)):=hdzz fun Z hZ=>
  qla 400 t A c Z Pb hsz (by omega) (fun b h=>by have:=hPb _ h;have:=hZ.size;omega) hf ha hc (RepP.mono (fun _ h=>h) (fun p h=>by have:=hPb _ h;exact(hZ.cell (by omega)).trans (hbV.cell this)) _ _ _ hrep)
 obtain⟨u,hu⟩:∃u,u=t.nf:=⟨_,rfl⟩;rw[←hu]at NO hnv hsn ⊢;simp only[Tm.val]at VA NO ⊢;simp only[qag]at hV;obtain⟨x0,x1,x2,x3,xf⟩:=qaa hx1;have VA:=hdzz VA;have HV:=hdzz hV;have HBV:=hdzz hbV;have HX1:=hdzz hx1;have HX2:=hdzz hx2;have HSV:=hdzz hsV;have HNV:=hdzz hnv;clear hV hbV hx1 hx2 hsV hu hval hth hc hf ha hv hrep hnv;go_enter Tryz.func30,Tryz.ntmps30
 go_upto_region 1 with fail
 rw[←HV.out];clear HV;go_wp2_with fail
 refine VA.out.mono ?_;clear VA x0 x1 x2 x3 xf;rintro e w1 ⟨rfl,hb1⟩;have hs1:=hb1.size;have hsv:=HSV.out;have hx1:=(hb1.block _ (by omega)).trans HX1.out;have hx2:=(hb1.block _ (by omega)).trans HX2.out;obtain⟨x0,x1,x2,x3,xf⟩:=qaa hx1;have NO:=hdzz (NO.out w1 hb1);have HB1:=hdzz (HBV.out.trans (hb1.mono (by omega)));have HX2:=hdzz hx2;clear hx1 hx2 hb1 HX1 HBV hsv;go_wp2_with fail
 refine NO.out.mono ?_;clear NO x0 x1 x2 x3 xf;rintro e w2 ⟨A2,c2,rfl,hr2,hb2⟩;simp only[Tm.val];have hs2:=hb2.size;have hsv:=HSV.out;obtain⟨X,hX⟩:∃X,X=w2.alloc (.cells #[.int .i64 u.kind,.string u.name,.int .i64 u.sort,.slice A2 u.kids.length c2] 24):=⟨_,rfl⟩;have hbX:Below w2.heap.size w2 X:=by rw[hX];exact qad (Nat.le_refl _) _
 have hsX:w2.heap.size<X.heap.size:=by rw[hX];simp
 have hxX:X.heap[w2.heap.size]?=some (.cells #[.int .i64 u.kind,.string u.name,.int .i64 u.sort,.slice A2 u.kids.length c2] 24 (0,0)):=by rw[hX];exact heap_alloc_new _ _
 have hrX:RepP X (fun b=>Pb b∨w1.heap.size≤b∧b<w2.heap.size) u A2 c2:=RepP.mono (fun _ h=>h) (fun p h=>hbX.cell (h.elim (fun h=>by have:=hPb _ h;omega) (fun h=>h.2))) _ _ _ hr2;have VU:=qb4 u A2 c2 X (by omega) (RepP.mono (fun b h=>h.elim (fun h=>by have:=hPb _ h;omega) (fun h=>by omega)) (fun _ _=>rfl) _ _ _ hrX);rw[HNV.out]at VU;simp only[Tm.val]at VU;have VU:=hdzz VU;have HRX:=hdzz hrX;have HXX:=hdzz hxX;have HX:=hdzz hX;have HBX:=hdzz (HB1.out.trans ((hb2.mono (by omega)).trans (hbX.mono (by omega))));have HX2:=hdzz ((hbX.block _ (by omega)).trans ((hb2.block _ (by omega)).trans HX2.out));obtain⟨x0,x1,x2,x3,xf⟩:=qaa hxX;clear hrX hxX hX hr2 hb2 hbX HB1;go_upto_region 6 with fail
 rw[←HX.out];clear HX;go_wp2_with fail
 refine VU.out.mono ?_;clear VU x0 x1 x2 x3 xf;rintro e w3 ⟨rfl,hl3⟩;have hs3:=hl3.size;have hb3:=hl3.below;have hxX:=(hb3.block _ (by omega)).trans HXX.out;have hx2:=(hb3.block _ (by omega)).trans HX2.out;obtain⟨x0,x1,x2,x3,xf⟩:=qaa hxX;obtain⟨z0,z1,z2,z3,zf⟩:=qaa hx2;have HB3:=hdzz (HBX.out.trans (hb3.mono (by omega)));have HR3:Hid (RepP w3 (fun b=>Pb b∨w1.heap.size≤b∧b<w2.heap.size) u A2 c2):=hdzz (RepP.mono (fun _ h=>h) (fun p h=>hb3.cell (h.elim (fun h=>by have:=hPb _ h;omega) (fun h=>by omega))) _ _ _ HRX.out);clear hxX hx2 hl3 hb3;go_wp2_with fail
 refine bodyPost_ret (v:=.tuple #[Tm.val u A2 c2,.int .i64 0]) ?_ rfl ?_
 ·simp[results,Tryz.results30,go_sem,z0,z1,z2,z3,Tm.val]
 exact qcz HB3.out hPb (by omega) (RepP.mono (fun b h=>h.elim (fun h=>⟨.inl h,by have:=hPb _ h;omega⟩) (fun h=>⟨.inr (by omega),by omega⟩)) (fun _ _=>rfl) _ _ _ HR3.out)
structure FineV (t:Tm):Prop where
 v:t.validT=0
 f:qce t
 n:t.nf.valid=0
theorem qif (t u:Tm) (A B:Option Addr) (c d:Nat) (w:World) (ht:FineV t) (hu:FineV u) (hrt:RepT w w.heap.size t A c) (hru:RepT w w.heap.size u B d) :
  Calls Tryz.prog 16 #[t.val A c,u.val B d] w fun e w'=>e=.returned (.bool (t.nf.same u.nf))∧Below w.heap.size w w':=by
 have hst:=(qap ht.n).2.1;have hsu:=(qap hu.n).2.1;obtain⟨V,hV⟩:∃V,V=(w.alloc (qag t A c)).alloc (qag u B d):=⟨_,rfl⟩;have hbV:Below w.heap.size w V:=by rw[hV];exact((Below.refl _ _).alloc (Nat.le_refl _) _).alloc (by simp) _
 have hsV:V.heap.size=w.heap.size+1+1:=by rw[hV];simp
 have hx1:V.heap[w.heap.size]?=some (qag t A c):=by rw[hV,Below.heap_alloc _ _ _ (by simp)];exact heap_alloc_new w _
 have hx2:V.heap[w.heap.size+1]?=some (qag u B d):=by
  rw[hV];have h:=heap_alloc_new (w.alloc (qag t A c)) (qag u B d);rw[World.size_alloc]at h;exact h
 have NT:=qen t A c V (fun b=>b<w.heap.size) (fun b h=>by omega) ht.v ht.f ht.n (RepP.mono (fun _ h=>h) (fun p h=>hbV.cell h) _ _ _ hrt);have NU:Hid (∀Z,Below V.heap.size V Z→Calls Tryz.prog 30 #[u.val B d] Z (OkN (fun b=>b<w.heap.size) u.nf Z)):=hdzz fun Z hZ=>
  qen u B d Z (fun b=>b<w.heap.size) (fun b h=>by have:=hZ.size;omega) hu.v hu.f hu.n (RepP.mono (fun _ h=>h) (fun p (h:p.block<w.heap.size)=>(hZ.cell (by omega)).trans (hbV.cell h)) _ _ _ hru)
 obtain⟨a,ha⟩:∃a,a=t.nf:=⟨_,rfl⟩;obtain⟨b,hb⟩:∃b,b=u.nf:=⟨_,rfl⟩;rw[←ha]at NT hst ⊢;rw[←hb]at NU hsu ⊢;simp only[Tm.val]at NT NU ⊢;simp only[qag]at hV;obtain⟨x0,x1,x2,x3,xf⟩:=qaa hx1;have NT:=hdzz NT;have HV:=hdzz hV;have HBV:=hdzz hbV;have HX2:=hdzz hx2;have HSV:=hdzz hsV;clear hV hbV hx1 hx2 hsV ha hb hrt hru ht hu;go_enter Tryz.func16,Tryz.ntmps16
 go_upto_region 1 with fail
 rw[←HV.out];clear HV;go_wp2_with fail
 refine NT.out.mono ?_;clear NT x0 x1 x2 x3 xf;rintro e w1 ⟨A1,c1,rfl,hr1,hb1⟩;simp only[Tm.val];have hs1:=hb1.size;have hsv:=HSV.out;obtain⟨X,hX⟩:∃X,X=w1.alloc (.cells #[.int .i64 a.kind,.string a.name,.int .i64 a.sort,.slice A1 a.kids.length c1] 24):=⟨_,rfl⟩;have hbX:Below w1.heap.size w1 X:=by rw[hX];exact qad (Nat.le_refl _) _
 have hsX:w1.heap.size<X.heap.size:=by rw[hX];simp
 have hxX:X.heap[w1.heap.size]?=some (.cells #[.int .i64 a.kind,.string a.name,.int .i64 a.sort,.slice A1 a.kids.length c1] 24 (0,0)):=by rw[hX];exact heap_alloc_new _ _
 have hbVX:=hb1.trans (hbX.mono (by omega));have hx2:=(hbVX.block _ (by omega)).trans HX2.out;have HBX:=hdzz (HBV.out.trans (hbVX.mono (by omega)));have HRX:Hid (RepP X (fun b=>b<w1.heap.size) a A1 c1):=hdzz (RepP.mono (fun b h=>by omega) (fun p h=>hbX.cell (by omega)) _ _ _ hr1);have NU:=hdzz (NU.out X hbVX);have HXX:=hdzz hxX;have HX:=hdzz hX;obtain⟨x0,x1,x2,x3,xf⟩:=qaa hx2;clear hX hbX hxX hx2 hbVX hr1 hb1 HBV HX2;go_upto_region 2 with fail
 rw[←HX.out];clear HX;go_wp2_with fail
 refine NU.out.mono ?_;clear NU x0 x1 x2 x3 xf;rintro e w2 ⟨A2,c2,rfl,hr2,hb2⟩;simp only[Tm.val];have hs2:=hb2.size;obtain⟨Y,hY⟩:∃Y,Y=w2.alloc (.cells #[.int .i64 b.kind,.string b.name,.int .i64 b.sort,.slice A2 b.kids.length c2] 24):=⟨_,rfl⟩;have hbY:Below w2.heap.size w2 Y:=by rw[hY];exact qad (Nat.le_refl _) _
 have hsY:w2.heap.size<Y.heap.size:=by rw[hY];simp
 have hyY:Y.heap[w2.heap.size]?=some (.cells #[.int .i64 b.kind,.string b.name,.int .i64 b.sort,.slice A2 b.kids.length c2] 24 (0,0)):=by rw[hY];exact heap_alloc_new _ _
 have hbXY:=hb2.trans (hbY.mono (by omega));have hxY:=(hbXY.block _ (by omega)).trans HXX.out;have SA:=qft a b A1 A2 c1 c2 Y (by omega) (by omega) (RepP.mono (w:=X) (P:=fun b=>b<w1.heap.size) (fun b h=>by omega) (fun p h=>hbXY.cell (by omega)) _ _ _ HRX.out) (RepP.mono (fun b h=>by omega) (fun p h=>hbY.cell (by omega)) _ _ _ hr2);simp only[Tm.val]at SA;have SA:=hdzz SA;have HBY:=hdzz (HBX.out.trans (hbXY.mono (by omega)));have HY:=hdzz hY;obtain⟨x0,x1,x2,x3,xf⟩:=qaa hxY;obtain⟨y0,y1,y2,y3,yf⟩:=qaa hyY;clear hY hbY hyY hxY hbXY hr2 hb2 HBX HRX HXX;go_upto_region 3 with fail
 rw[←HY.out];clear HY;go_wp2_with fail
 refine SA.out.mono ?_;clear SA x0 x1 x2 x3 xf y0 y1 y2 y3 yf;rintro e w3 ⟨rfl,hl3⟩;have HB3:=hdzz (HBY.out.trans (hl3.below.mono (by omega)));clear hl3;go_wp2_with fail
 go_ret
 exact⟨rfl,HB3.out⟩
end Go.Proofs.YtjhjoiplpmjepaaGreat
namespace Go.Proofs.YtjhjoiplpmjepaaGreat
open Go.RowKit
structure TopW (w:World) (t:Tm) (A:Option Addr) (cap:Nat) (g:Nat) (u:Tm) (Au:Option Addr) (cu:Nat) (W:World):Prop where
 b2:W.heap[w.heap.size]?=some (qag t A cap)
 b7:W.heap[g]?=some (qag u Au cu)
 hg:w.heap.size<g
 lt:g<W.heap.size
 bel:Below w.heap.size w W
 ru:RepP W (fun b=>b≠g∧b<W.heap.size) u Au cu
theorem TopW.go {w W Z:World} {t u:Tm} {A Au:Option Addr} {cap cu g:Nat} (h:TopW w t A cap g u Au cu W) (hb:Below W.heap.size W Z):TopW w t A cap g u Au cu Z:=by
 have h1:=h.hg;have h2:=h.lt;have h3:=hb.size;have h4:=h.bel.size;exact⟨(hb.block _ (by omega)).trans h.b2,(hb.block _ h2).trans h.b7,h1,by omega,h.bel.trans (hb.mono h4),RepP.mono (fun b h'=>⟨h'.1,by have:=h'.2;omega⟩) (fun p hp=>hb.cell hp.2) _ _ _ h.ru⟩
theorem TopW.set {w W:World} {t u v:Tm} {A Au Av:Option Addr} {cap cu cv g:Nat} (h:TopW w t A cap g u Au cu W) (hr:RepP W (fun b=>b≠g∧b<W.heap.size) v Av cv) :
  TopW w t A cap g v Av cv ((((W.setCell ⟨g,0,none⟩ (.int .i64 v.kind)).setCell ⟨g,1,none⟩ (.string v.name)).setCell ⟨g,2,none⟩ (.int .i64 v.sort)).setCell ⟨g,3,none⟩ (.slice Av v.kids.length cv)):=by
 have h1:=h.hg;have hs:((((W.setCell ⟨g,0,none⟩ (.int .i64 v.kind)).setCell ⟨g,1,none⟩ (.string v.name)).setCell ⟨g,2,none⟩ (.int .i64 v.sort)).setCell ⟨g,3,none⟩ (.slice Av v.kids.length cv)).heap.size=W.heap.size:=by simp[World.setCell]
 exact⟨by rw[qay (by omega)];exact h.b2,qf6 h.b7,h1,by rw[hs];exact h.lt,qa2 h.bel (by omega),RepP.mono (fun b h'=>by rw[hs];exact h') (fun p hp=>qaq hp.1) _ _ _ hr⟩
theorem TopW.rt {w W:World} {t u:Tm} {A Au:Option Addr} {cap cu g:Nat} (h:TopW w t A cap g u Au cu W) (ht:RepT w w.heap.size t A cap):RepT W W.heap.size t A cap:=RepT.go ht h.bel h.bel.size
theorem TopW.ruT {w W:World} {t u:Tm} {A Au:Option Addr} {cap cu g:Nat} (h:TopW w t A cap g u Au cu W):RepT W W.heap.size u Au cu:=RepP.mono (fun b h'=>h'.2) (fun _ _=>rfl) _ _ _ h.ru
theorem qk1 {W:World} {B:Nat} {a b c:Value} {T:TypeId} (h:W.heap[B]?=some (.cells #[a,b,c] T (0,0))):W.cell? ⟨B,0,none⟩=some a∧W.cell? ⟨B,1,none⟩=some b∧W.cell? ⟨B,2,none⟩=some c∧∀o,W.frozen? ⟨B,o,none⟩=false:=by
 refine⟨?_,?_,?_,fun o=>?_⟩<;>simp[World.cell?,World.frozen?,h]
theorem one_slice {W Z:World} {t:Tm} {A:Option Addr} {c:Nat} (h:RepT W W.heap.size t A c) (hZ:Z=W.alloc (.cells #[.int .i64 t.kind,.string t.name,.int .i64 t.sort,.slice A t.kids.length c] 24)) :
  RepS Z (fun b=>b<Z.heap.size) [t] (some ⟨W.heap.size,0,none⟩) 1:=by
 subst hZ;refine qm6 (T:=24) [(t,A,c)] (heap_alloc_new _ _) (by simp) (fun x hx=>?_) (by simp);rw[List.mem_singleton]at hx;subst hx;exact RepT.go h (qad (Nat.le_refl _) _) (by simp)
def RepBd (w:World) (bs:List (Nat×Nat×Nat)) (A:Option Addr):Prop:=
 (∀x∈bs,x.1<256∧x.2.1<256∧x.2.2<256)∧(bs=[]∨∃b o,A=some ⟨b,o,none⟩∧b<w.heap.size∧∀j (h:j<bs.length),w.cell? ⟨b,o+j*3,none⟩=some (.int .u8 bs[j].1)∧w.cell? ⟨b,o+j*3+1,none⟩=some (.int .u8 bs[j].2.1)∧w.cell? ⟨b,o+j*3+2,none⟩=some (.int .u8 bs[j].2.2))
theorem RepBd.get {w W:World} {bs:List (Nat×Nat×Nat)} {A:Option Addr} (h:RepBd w bs A) (hb:Below w.heap.size w W) (j:Nat) (hj:j<bs.length) :
  ∃b o,A=some ⟨b,o,none⟩∧b<w.heap.size∧W.cell? ⟨b,o+j*3,none⟩=some (.int .u8 bs[j].1)∧W.cell? ⟨b,o+j*3+1,none⟩=some (.int .u8 bs[j].2.1)∧W.cell? ⟨b,o+j*3+2,none⟩=some (.int .u8 bs[j].2.2):=by
 rcases h.2 with h|⟨b,o,rfl,hlt,hc⟩
 ·rw[h]at hj;exact absurd hj (by simp)
 ·obtain⟨h1,h2,h3⟩:=hc j hj;exact⟨b,o,rfl,hlt,(hb.cell hlt).trans h1,(hb.cell hlt).trans h2,(hb.cell hlt).trans h3⟩
end Go.Proofs.YtjhjoiplpmjepaaGreat
namespace Go.Proofs.YtjhjoiplpmjepaaGreat
open Go.RowKit Go.Sort
theorem qgw {W:World} {B:Nat} {a b c:Value} {T:TypeId} (h:W.heap[B]?=some (.cells #[a,b,c] T (0,0))):W.cell? ⟨B,0,none⟩=some a∧W.cell? ⟨B,1,none⟩=some b∧W.cell? ⟨B,2,none⟩=some c:=by
 refine⟨?_,?_,?_⟩<;>simp[World.cell?,h]
theorem lit12 {W:World} {B j:Nat} {T:TypeId} (hj:j<3) (h:W.heap[B]?=some (.cells #[.int .i64 2,.string ⟨#[110]⟩,.int .i64 2,.slice none 0 0,.int .i64 2,.string ⟨#[107]⟩,.int .i64 3,.slice none 0 0,.int .i64 2,.string ⟨#[97]⟩,.int .i64 1,.slice none 0 0] T (0,0))) :
  W.cell? ⟨B,j*4,none⟩=some (.int .i64 (nOf j).kind)∧W.cell? ⟨B,j*4+1,none⟩=some (.string (nOf j).name)∧W.cell? ⟨B,j*4+2,none⟩=some (.int .i64 (nOf j).sort)∧W.cell? ⟨B,j*4+3,none⟩=some (.slice none (nOf j).kids.length 0):=by
 rcases (show j=0∨j=1∨j=2 by omega)with rfl|rfl|rfl
 all_goals refine⟨?_,?_,?_,?_⟩<;>simp[World.cell?,h,nOf,Tm.kind,Tm.name,Tm.sort,Tm.kids]
theorem hbl {X Y:World} {b:Nat} {c:Obj} (h:Below X.heap.size X Y) (H:Hid (X.heap[b]?=some c)):Hid (Y.heap[b]?=some c):=sblz h H
theorem hbt {D X Y:World} (H:Hid (Below D.heap.size D X)) (h:Below X.heap.size X Y):Hid (Below D.heap.size D Y):=hdzz (H.out.trans (h.mono H.out.size))
theorem Qb.gh {Pb:Nat→Prop} {B:Nat} {D W Z:World} {t:Tm} {A:Option Addr} {c:Nat} (hB:B≤D.heap.size) (HB:Hid (Below D.heap.size D W)) (hP:∀b,Pb b→b<B) (hb:Below W.heap.size W Z) (h:Hid (RepP W (Qb Pb B W) t A c)):Hid (RepP Z (Qb Pb B Z) t A c):=
 hdzz (Qb.go h.out hb hP (Nat.le_trans hB HB.out.size))
theorem qfl {D W Z:World} {B:Nat} {c:Obj} (HB:Hid (Below D.heap.size D W)) (hB:B≤D.heap.size) (hZ:Z=W.alloc c):∃b,b=W.heap.size∧Below W.heap.size W Z∧Hid (Z.heap[b]?=some c)∧B≤b:=by
 subst hZ;exact⟨_,rfl,qad (Nat.le_refl _) _,hdzz (heap_alloc_new _ _),Nat.le_trans hB HB.out.size⟩
theorem qa3 {D W Z:World} {B:Nat} (its:List It) (HB:Hid (Below D.heap.size D W)) (hB:B≤D.heap.size) (hZ:Z=W.alloc (.cells (itCells its).toArray 24)) :
  ∃b,b=W.heap.size∧Below W.heap.size W Z∧Hid (Z.heap[b]?=some (.cells (itCells its).toArray 24 (0,0)))∧B≤b:=qfl HB hB hZ
theorem qck (x:ByteArray) {t v:Tm} {A C:Option Addr} {c d g:Nat} {D W:World} {Pb:Nat→Prop} {B:Nat} (hP:∀b,Pb b→b<B) (hB:B≤D.heap.size) (HB:Hid (Below D.heap.size D W)) (hg:B≤g) (HL:Hid (W.heap[g]?=some (.cells (itCells [((t,A,c):It),((v,C,d):It)]).toArray 24 (0,0)))) (hx:x.size≤1000)
  (h1:RepP W (Qb Pb B W) t A c) (h2:RepP W (Qb Pb B W) v C d) :
  Hid (Calls Tryz.prog 20 #[.string x,.slice (some ⟨g,0,none⟩) 2 2] W fun e w'=>∃A' c',e=.returned (.agg #[.int .i64 3,.string x,.int .i64 0,.slice A' 2 c'])∧RepP w' (Qb Pb B w') (.mk 3 x 0 [t,v]) A' c'∧Below W.heap.size W w'):=
 hdzz (app_box x [((t,A,c):It),((v,C,d):It)] g W Pb B hP (Nat.le_trans hB HB.out.size) hx (by simp) (by simp) hg HL.out (by
  intro y hy;simp only[List.mem_cons,List.not_mem_nil,or_false]at hy;rcases hy with rfl|rfl
  ·exact h1
  ·exact h2))
theorem qh6 (x:ByteArray) {t:Tm} {A:Option Addr} {c g:Nat} {D W:World} {Pb:Nat→Prop} {B:Nat} (hP:∀b,Pb b→b<B) (hB:B≤D.heap.size) (HB:Hid (Below D.heap.size D W)) (hg:B≤g) (HL:Hid (W.heap[g]?=some (.cells (itCells [((t,A,c):It)]).toArray 24 (0,0)))) (hx:x.size≤1000)
  (h1:RepP W (Qb Pb B W) t A c) :
  Hid (Calls Tryz.prog 20 #[.string x,.slice (some ⟨g,0,none⟩) 1 1] W fun e w'=>∃A' c',e=.returned (.agg #[.int .i64 3,.string x,.int .i64 0,.slice A' 1 c'])∧RepP w' (Qb Pb B w') (.mk 3 x 0 [t]) A' c'∧Below W.heap.size W w'):=
 hdzz (app_box x [((t,A,c):It)] g W Pb B hP (Nat.le_trans hB HB.out.size) hx (by simp) (by simp) hg HL.out (by
  intro y hy;simp only[List.mem_cons,List.not_mem_nil,or_false]at hy;subst hy;exact h1))
attribute [local irreducible] qax
theorem rbent_g0 (u:Tm) (Au:Option Addr) (cu kb ab wb:Nat) (w:World) (Pb:Nat→Prop) (hPb:∀b,Pb b→b<w.heap.size) (hgr:0≤kb % 14∧kb % 14≤7) (hkb:kb<256) (hwb:wb<256) (hau:ArT u) (hsz:u.size≤100000) (hrep:RepP w Pb u Au cu) :
  Calls Tryz.prog 13 #[u.val Au cu,.agg #[.int .u8 kb,.int .u8 ab,.int .u8 wb]] w (TmP Pb (qfd (kb % 14) (nOf (wb % 3)) u) w):=by
 have mixed:=mixz;obtain⟨V1,hV1⟩:∃V,V=(w.alloc (qag u Au cu)).alloc (.cells #[.int .u8 kb,.int .u8 ab,.int .u8 wb] 33):=⟨_,rfl⟩;obtain⟨V,hV⟩:∃V,V=V1.alloc (.cells #[.int .i64 0,.string ⟨#[]⟩,.int .i64 0,.slice none 0 0] 24):=⟨_,rfl⟩;have s1:(w.alloc (qag u Au cu)).heap.size=w.heap.size+1:=by simp
 have s2:V1.heap.size=w.heap.size+1+1:=by rw[hV1];simp
 have s3:V.heap.size=w.heap.size+1+1+1:=by rw[hV];simp[s2]
 have hb1:Below w.heap.size w V1:=by rw[hV1];exact((Below.refl _ _).alloc (Nat.le_refl _) _).alloc (by simp) _
 have hbV:Below w.heap.size w V:=by rw[hV];exact hb1.alloc (by omega) _
 have hx1:V.heap[w.heap.size]?=some (qag u Au cu):=by rw[hV,Below.heap_alloc _ _ _ (by omega),hV1,Below.heap_alloc _ _ _ (by omega)];exact heap_alloc_new w _
 have hx2:V.heap[w.heap.size+1]?=some (.cells #[.int .u8 kb,.int .u8 ab,.int .u8 wb] 33 (0,0)):=by
  rw[hV,Below.heap_alloc _ _ _ (by omega),hV1];have h:=heap_alloc_new (w.alloc (qag u Au cu)) (.cells #[.int .u8 kb,.int .u8 ab,.int .u8 wb] 33);rw[s1]at h;exact h
 have hx3:V.heap[w.heap.size+1+1]?=some (.cells #[.int .i64 0,.string ⟨#[]⟩,.int .i64 0,.slice none 0 0] 24 (0,0)):=by rw[hV,←s2];exact heap_alloc_new V1 _
 have hr2:RepP V Pb u Au cu:=RepP.mono (fun _ h=>h) (fun p hp=>hbV.cell (hPb _ hp)) _ _ _ hrep;obtain⟨j,hj⟩:∃j,j=wb % 3:=⟨_,rfl⟩;have hj3:j<3:=by omega
 have hrj:((wb:Int) % 3)=(j:Int):=by omega
 rw[←hj];obtain⟨kk,hkk⟩:∃k,k=kb % 14:=⟨_,rfl⟩;have hk14:kk<14:=by omega
 have hrk:((kb:Int) % 14)=(kk:Int):=by omega
 rw[←hkk];rw[←hkk]at hgr;have HGR:=hdzz hgr;clear hgr;simp only[qag]at hV1;have HV1:=hdzz hV1;have HV:=hdzz hV;have HBV:=hdzz hbV;have HS3:=hdzz s3;have HX1:=hdzz hx1;have HX2:=hdzz hx2;have HX3:=hdzz hx3;have HR2:=hdzz hr2;have HRJ:=hdzz hrj;have HRK:=hdzz hrk;have HREP:=hdzz hrep;clear hV1 hV s1 s2 s3 hb1 hbV hx1 hx2 hx3 hr2 hrep hj hkk hrj hrk;simp only[Tm.val];go_enter Tryz.func13,Tryz.ntmps13
 go_upto_region 2 with fail
 rw[←HV1.out,←HV.out];clear HV1 HV;go_cut [6]from 9 (fun s6 wc=>∃g,s6=.pointer (some ⟨g,0,none⟩)∧Hid (BtN Pb w u Au cu (nOf j) g wc)∧Hid (wc.heap[w.heap.size+1]?=some (.cells #[.int .u8 kb,.int .u8 ab,.int .u8 wb] 33 (0,0))))
 case first=>
  refine qaf (fun Y=>Below V.drew.heap.size V.drew Y) (fun _=>True) [] (.held 4 (.held 5 (.held 6 (.two 0 9 (.two 1 9 (.two 2 9 (.two 3 9 (.held 7 (.two 8 9 (.op 9 (.op 10 .nil)) (.op 8 (.op 10 .nil)))) (.op 3 (.held 7 (.op 8 (.op 10 .nil))))) (.op 2 (.op 3 (.held 7 (.op 8 (.op 10 .nil)))))) (.op 1 (.op 2 (.op 3 (.held 7 (.op 8 (.op 10 .nil))))))) (.op 0 (.op 1 (.op 2 (.op 3 (.held 7 (.op 8 (.op 10 .nil))))))))))) mixed (by kernel_rfl) ?_;have HX2:Hid (V.drew.heap[w.heap.size+1]?=some (.cells #[.int .u8 kb,.int .u8 ab,.int .u8 wb] 33 (0,0))):=HX2;have HX1:Hid (V.drew.heap[w.heap.size]?=some (qag u Au cu)):=HX1;have HX3:Hid (V.drew.heap[w.heap.size+1+1]?=some (.cells #[.int .i64 0,.string ⟨#[]⟩,.int .i64 0,.slice none 0 0] 24 (0,0))):=HX3
  have HBV:Hid (Below w.heap.size w V.drew):=hdzz (HBV.out.trans ((Below.refl V.heap.size V).drew.mono (by have:=HS3.out;omega)));have HS3:Hid (V.drew.heap.size=w.heap.size+1+1+1):=HS3;have HR2:Hid (RepP V.drew Pb u Au cu):=hdzz (RepP.mono (w:=V) (w':=V.drew) (fun _ h=>h) (fun _ _=>rfl) _ _ _ HR2.out);generalize V.drew=D at *;obtain⟨d0,d1,d2⟩:=qgw HX2.out;have hrj:Int.tmod (wb:Int) 3=(j:Int):=by rw[Int.tmod_eq_emod_of_nonneg (by omega)];exact HRJ.out
  have hsD:=HS3.out;have hsw:w.heap.size+1<D.heap.size:=by omega
  have hBD:w.heap.size+1+1+1≤D.heap.size:=by omega
  have hj0:(0:Int)≤(j:Int):=Int.natCast_nonneg _;have hj3I:(j:Int)<3:=by omega
  clear hsD;refine(fun(W:World) (HB:Hid (Below D.heap.size D W))=>?_:∀W,Hid (Below D.heap.size D W)→qax _ _ _ (fun Y=>Below D.heap.size D Y) _ _ _ _ W) D (hdzz (Below.refl _ _));refine stkz (.pointer (some ⟨w.heap.size+1,2,none⟩)) rfl rfl rfl (fun _ _ _ h=>h) HB.out (fun Y hY=>by
    (try simp only[Act.put]);go_simp) ?_
  refine stkz (.int .u8 wb) rfl rfl rfl (fun _ _ _ h=>h) HB.out (fun Y hY=>by
    have z2:=sclz hY d2 (by omega)
    (try simp only[Act.put]);go_simp) ?_
  refine stkz (.int .u8 j) rfl rfl rfl (fun _ _ _ h=>h) HB.out (fun Y hY=>by
    (try simp only[Act.put]);go_simp) ?_
  try simp only[Act.put,fsa,fsb,fsc,fsd,fse,fsf]
  repeat any_goals first
   | refine qbw ?_ ?_
   | (
    first
     | (
      refine qae (i:=0) rfl rfl (fun K hK=>?_);have CN:=hdzz (qc9 ⟨#[110]⟩ 2 W);simp only[Tm.val,Tm.kind,Tm.name,Tm.sort,Tm.kids,List.length_nil]at CN;go_wp2_with fail
      refine CN.out.mono ?_;clear CN;rintro e Z ⟨rfl,hl⟩;have hb:=hl.below;clear hl)
     | (
      refine qae (i:=1) rfl rfl (fun K hK=>?_);have CN:=hdzz (qc9 ⟨#[107]⟩ 3 W);simp only[Tm.val,Tm.kind,Tm.name,Tm.sort,Tm.kids,List.length_nil]at CN;go_wp2_with fail
      refine CN.out.mono ?_;clear CN;rintro e Z ⟨rfl,hl⟩;have hb:=hl.below;clear hl)
     | (
      refine qae (i:=2) rfl rfl (fun K hK=>?_);have CN:=hdzz (qc9 ⟨#[97]⟩ 1 W);simp only[Tm.val,Tm.kind,Tm.name,Tm.sort,Tm.kids,List.length_nil]at CN;go_wp2_with fail
      refine CN.out.mono ?_;clear CN;rintro e Z ⟨rfl,hl⟩;have hb:=hl.below;clear hl)
     | (
      refine qae (i:=3) rfl rfl (fun K hK=>?_);obtain⟨Z,hZ⟩:∃Z,Z=W.alloc (.cells #[.int .i64 2,.string ⟨#[110]⟩,.int .i64 2,.slice none 0 0,.int .i64 2,.string ⟨#[107]⟩,.int .i64 3,.slice none 0 0,.int .i64 2,.string ⟨#[97]⟩,.int .i64 1,.slice none 0 0] 24):=⟨_,rfl⟩;obtain⟨b3,hbe,hb,HL3,hg3⟩:=qfl HB hBD hZ;go_wp2_with fail
      rw[←hZ,←hbe];clear hZ hbe)
     | (
      refine qae (i:=9) rfl rfl (fun K hK=>?_);obtain⟨Z,hZ⟩:∃Z,Z=W.alloc (.cells #[.int .i64 0,.string ⟨#[]⟩,.int .i64 0,.slice none 0 0] 24):=⟨_,rfl⟩;obtain⟨b9,hbe,hb,HL9,hg9⟩:=qfl HB hBD hZ;go_wp2_with fail
      rw[←hZ,←hbe];clear hZ hbe)
    try replace HL3:=hbl hb HL3
    try replace HL9:=hbl hb HL9
    replace HB:=hbt HB hb
    first | refine⟨⟨fun _=>HB.out,trivial⟩,?_⟩|refine hK _ _ ⟨⟨fun _=>HB.out,trivial⟩,?_⟩
    clear hb
    try clear hK K
    rename World=>W)
   | (
    refine qci (i:=7) (v:=.pointer (some ⟨b3,j*4,none⟩)) rfl rfl rfl (fun _ _ _ h=>h) HB.out trivial (fun Y hY hY2=>by
      (try simp only[Act.put]);go_simp) ?_
    try simp only[Act.put,fsa,fsb,fsc,fsd,fse,fsf])
   | (
    refine qae (i:=8) rfl rfl (fun K hK=>?_);obtain⟨l0,l1,l2,l3⟩:=lit12 hj3 HL3.out;go_wp2_with fail
    refine⟨⟨fun _=>HB.out,trivial⟩,?_⟩;clear l0 l1 l2 l3)
   | (
    refine qae (i:=10) rfl rfl (fun K hK=>?_);obtain⟨Z,hZ,hxZ,hbZ,hsZ,hcZ⟩:=qcm (W:=W) (B:=b9) (a:=.int .i64 (nOf j).kind) (b:=.string (nOf j).name) (c:=.int .i64 (nOf j).sort) (d:=.slice none (nOf j).kids.length 0) HL9.out;obtain⟨o0,o1,o2,o3,of_⟩:=qaa HL9.out;have hgL:=(sltz HL9.out);have HBZ:Hid (Below D.heap.size D Z):=hdzz (HB.out.trans (hbZ.mono (by have:=HS3.out;omega)));go_wp2_with fail
    rw[←hZ];refine⟨⟨fun _=>HBZ.out,trivial⟩,qar ?_⟩;have hs3:=HS3.out;have HNN:Hid (BtN Pb w u Au cu (nOf j) b9 Z):=hdzz ⟨(HBZ.out.block _ (by omega)).trans HX1.out,(HBZ.out.block _ (by omega)).trans HX3.out,hxZ,by omega,by omega,HBV.out.trans (HBZ.out.mono (by omega)),RepP.mono (fun _ h=>h) (fun p hp=>HBZ.out.cell (by have:=hPb _ hp;omega)) _ _ _ HR2.out,hPb⟩;have HBB:Hid (Z.heap[w.heap.size+1]?=some (.cells #[.int .u8 kb,.int .u8 ab,.int .u8 wb] 33 (0,0))):=hdzz ((HBZ.out.block _ (by omega)).trans HX2.out);clear hZ hxZ hbZ hsZ hcZ hgL hs3;go_wp2_with fail
    go_meet
    case rel=>exact⟨_,rfl,HNN,HBB⟩)
 case rest=>
  obtain⟨g,rfl,HN,HB⟩:=hcut;obtain⟨d0,d1,d2⟩:=qgw HB.out;have hrk:=HRK.out;go_upto_region 4 with fail
  rw[hrk];have hgr:=HGR.out;clear d0 d1 d2 hrk HB HX1 HX2 HX3 HR2 HRJ HRK HBV HS3;have hcases:kk=0∨kk=1∨kk=2∨kk=3∨kk=4∨kk=5∨kk=6∨kk=7:=by omega
  clear hgr HGR;rcases hcases with rfl|rfl|rfl|rfl|rfl|rfl|rfl|rfl
  ·go_wp2_with fail
   refine qaf (fun Y=>Below wc.drew.heap.size wc.drew Y) (fun _=>True) [9] (.held 0 (.held 1 (.held 2 (.held 3 (.held 4 (.op 5 (.op 6 (.op 7 (.op 8 (.op 9 .nil)))))))))) mixed (by kernel_rfl) ?_
   replace HN:=hdzz (HN.out.go (Below.refl _ _).drew)
   generalize wc.drew=D at *;have hPB:∀b,Pb b→b<(w.heap.size+1+1+1):=fun b h=>by have:=hPb b h;omega
   have hBD:(w.heap.size+1+1+1)≤D.heap.size:=by have:=HN.out.hg;have:=HN.out.lt;omega
   have hgD:g<D.heap.size:=HN.out.lt;have hwD:w.heap.size<D.heap.size:=by omega
   obtain⟨x0,x1,x2,x3,xf⟩:=qaa HN.out.b1;obtain⟨n0,n1,n2,n3,nf⟩:=qaa HN.out.bn;refine(fun(W:World) (HB:Hid (Below D.heap.size D W)) (HU:Hid (RepP W (Qb Pb (w.heap.size+1+1+1) W) u Au cu))=>?_:∀W,Hid (Below D.heap.size D W)→Hid (RepP W (Qb Pb (w.heap.size+1+1+1) W) u Au cu)→qax _ _ _ (fun Y=>Below D.heap.size D Y) _ _ _ _ W) D (hdzz (Below.refl _ _)) (hdzz (RepP.mono (fun b h=>.inl h) (fun _ _=>rfl) _ _ _ HN.out.ru));refine stkz (.func (.func 20) #[] #[]) rfl rfl rfl (fun _ _ _ h=>h) HB.out (fun Y hY=>by
     (try simp only[Act.put]);go_simp) ?_
   refine stkz (.agg #[.int .i64 u.kind,.string u.name,.int .i64 u.sort,.slice Au u.kids.length cu]) rfl rfl rfl (fun _ _ _ h=>h) HB.out (fun Y hY=>by
     have z0:=sclz hY x0 (by omega);have z1:=sclz hY x1 (by omega);have z2:=sclz hY x2 (by omega);have z3:=sclz hY x3 (by omega)
     (try simp only[Act.put]);go_simp) ?_
   refine stkz (.func (.func 20) #[] #[]) rfl rfl rfl (fun _ _ _ h=>h) HB.out (fun Y hY=>by
     (try simp only[Act.put]);go_simp) ?_
   try simp only[Act.put,fsa,fsb,fsc,fsd,fse,fsf]
   refine stkz (.agg #[.int .i64 (nOf j).kind,.string (nOf j).name,.int .i64 (nOf j).sort,.slice none (nOf j).kids.length 0]) rfl rfl rfl (fun _ _ _ h=>h) HB.out (fun Y hY=>by
     have z0:=sclz hY n0 (by omega);have z1:=sclz hY n1 (by omega);have z2:=sclz hY n2 (by omega);have z3:=sclz hY n3 (by omega)
     (try simp only[Act.put]);go_simp) ?_
   refine stkz (.agg #[.int .i64 (nOf j).kind,.string (nOf j).name,.int .i64 (nOf j).sort,.slice none (nOf j).kids.length 0]) rfl rfl rfl (fun _ _ _ h=>h) HB.out (fun Y hY=>by
     have z0:=sclz hY n0 (by omega);have z1:=sclz hY n1 (by omega);have z2:=sclz hY n2 (by omega);have z3:=sclz hY n3 (by omega)
     (try simp only[Act.put]);go_simp) ?_
   try simp only[Act.put,fsa,fsb,fsc,fsd,fse,fsf]
   repeat any_goals first
    | refine qbw ?_ ?_
    | (
     first
      | (
       refine qae (i:=5) rfl rfl (fun K hK=>?_);obtain⟨Z,hZ⟩:∃Z,Z=W.alloc (.cells #[.int .i64 (nOf j).kind,.string (nOf j).name,.int .i64 (nOf j).sort,.slice none (nOf j).kids.length 0,.int .i64 (nOf j).kind,.string (nOf j).name,.int .i64 (nOf j).sort,.slice none (nOf j).kids.length 0] 24):=⟨_,rfl⟩;obtain⟨b5,hbe,hb,HL5,hg5⟩:=qa3 [((nOf j,none,0):It),((nOf j,none,0):It)] HB hBD hZ;go_wp2_with fail
       rw[←hZ,←hbe];clear hZ hbe)
      | (
       refine qae (i:=6) rfl rfl (fun K hK=>?_);have AP:=qck ⟨#[120,111,114]⟩ hPB hBD HB hg5 HL5 (by decide) (qb7 j _ _) (qb7 j _ _);go_wp2_with fail
       refine AP.out.mono ?_;clear AP;rintro e Z ⟨A6,c6,rfl,hr,hb⟩;have HI6:=hdzz hr;clear hr)
      | (
       refine qae (i:=7) rfl rfl (fun K hK=>?_);obtain⟨Z,hZ⟩:∃Z,Z=W.alloc (.cells #[.int .i64 u.kind,.string u.name,.int .i64 u.sort,.slice Au u.kids.length cu,.int .i64 3,.string ⟨#[120,111,114]⟩,.int .i64 0,.slice A6 2 c6] 24):=⟨_,rfl⟩;obtain⟨b7,hbe,hb,HL7,hg7⟩:=qa3 [((u,Au,cu):It),(((Tm.mk 3 ⟨#[120,111,114]⟩ 0 [nOf j,nOf j]),A6,c6):It)] HB hBD hZ;go_wp2_with fail
       rw[←hZ,←hbe];clear hZ hbe)
      | (
       refine qae (i:=8) rfl rfl (fun K hK=>?_);have AP:=qck ⟨#[120,111,114]⟩ hPB hBD HB hg7 HL7 (by decide) HU.out HI6.out;go_wp2_with fail
       refine AP.out.mono ?_;clear AP;rintro e Z ⟨A8,c8,rfl,hr,hb⟩;have HI8:=hdzz hr;clear hr)
     try replace HU:=Qb.gh hBD HB hPB hb HU
     try replace HI6:=Qb.gh hBD HB hPB hb HI6
     try replace HI8:=Qb.gh hBD HB hPB hb HI8
     try replace HL5:=hbl hb HL5
     try replace HL7:=hbl hb HL7
     replace HB:=hbt HB hb
     first | refine⟨⟨fun _=>HB.out,trivial⟩,?_⟩|refine hK _ _ ⟨⟨fun _=>HB.out,trivial⟩,?_⟩
     clear hb
     try clear hK K
     rename World=>W)
    | (
     refine qae (i:=9) rfl rfl (fun K hK=>?_);have HNf:=hdzz (HN.out.go HB.out);obtain⟨z0,z1,z2,z3,zf⟩:=qaa HNf.out.b3;go_wp2_with fail
     refine⟨⟨fun h=>absurd h (by decide),trivial⟩,qar ?_⟩;go_wp2_with fail
     refine bodyPost_ret (v:=.agg #[.int .i64 3,.string ⟨#[120,111,114]⟩,.int .i64 0,.slice A8 2 c8]) ?_ rfl ?_
     ·simp[results,Tryz.results13,go_sem,z0,z1,z2,z3]
     exact qdf (r:=(Tm.mk 3 ⟨#[120,111,114]⟩ 0 [u,(Tm.mk 3 ⟨#[120,111,114]⟩ 0 [nOf j,nOf j])])) (A:=A8) (c:=c8) HNf.out.bel hPb HI8.out (by have:=HB.out.size;omega))
  ·go_wp2_with fail
   refine qaf (fun Y=>Below wc.drew.heap.size wc.drew Y) (fun _=>True) [9] (.held 0 (.held 1 (.held 2 (.held 3 (.held 4 (.op 5 (.op 6 (.op 7 (.op 8 (.op 9 .nil)))))))))) mixed (by kernel_rfl) ?_
   replace HN:=hdzz (HN.out.go (Below.refl _ _).drew)
   generalize wc.drew=D at *;have hPB:∀b,Pb b→b<(w.heap.size+1+1+1):=fun b h=>by have:=hPb b h;omega
   have hBD:(w.heap.size+1+1+1)≤D.heap.size:=by have:=HN.out.hg;have:=HN.out.lt;omega
   have hgD:g<D.heap.size:=HN.out.lt;have hwD:w.heap.size<D.heap.size:=by omega
   obtain⟨x0,x1,x2,x3,xf⟩:=qaa HN.out.b1;obtain⟨n0,n1,n2,n3,nf⟩:=qaa HN.out.bn;refine(fun(W:World) (HB:Hid (Below D.heap.size D W)) (HU:Hid (RepP W (Qb Pb (w.heap.size+1+1+1) W) u Au cu))=>?_:∀W,Hid (Below D.heap.size D W)→Hid (RepP W (Qb Pb (w.heap.size+1+1+1) W) u Au cu)→qax _ _ _ (fun Y=>Below D.heap.size D Y) _ _ _ _ W) D (hdzz (Below.refl _ _)) (hdzz (RepP.mono (fun b h=>.inl h) (fun _ _=>rfl) _ _ _ HN.out.ru));refine stkz (.func (.func 20) #[] #[]) rfl rfl rfl (fun _ _ _ h=>h) HB.out (fun Y hY=>by
     (try simp only[Act.put]);go_simp) ?_
   refine stkz (.agg #[.int .i64 (nOf j).kind,.string (nOf j).name,.int .i64 (nOf j).sort,.slice none (nOf j).kids.length 0]) rfl rfl rfl (fun _ _ _ h=>h) HB.out (fun Y hY=>by
     have z0:=sclz hY n0 (by omega);have z1:=sclz hY n1 (by omega);have z2:=sclz hY n2 (by omega);have z3:=sclz hY n3 (by omega)
     (try simp only[Act.put]);go_simp) ?_
   refine stkz (.func (.func 20) #[] #[]) rfl rfl rfl (fun _ _ _ h=>h) HB.out (fun Y hY=>by
     (try simp only[Act.put]);go_simp) ?_
   try simp only[Act.put,fsa,fsb,fsc,fsd,fse,fsf]
   refine stkz (.agg #[.int .i64 u.kind,.string u.name,.int .i64 u.sort,.slice Au u.kids.length cu]) rfl rfl rfl (fun _ _ _ h=>h) HB.out (fun Y hY=>by
     have z0:=sclz hY x0 (by omega);have z1:=sclz hY x1 (by omega);have z2:=sclz hY x2 (by omega);have z3:=sclz hY x3 (by omega)
     (try simp only[Act.put]);go_simp) ?_
   refine stkz (.agg #[.int .i64 (nOf j).kind,.string (nOf j).name,.int .i64 (nOf j).sort,.slice none (nOf j).kids.length 0]) rfl rfl rfl (fun _ _ _ h=>h) HB.out (fun Y hY=>by
     have z0:=sclz hY n0 (by omega);have z1:=sclz hY n1 (by omega);have z2:=sclz hY n2 (by omega);have z3:=sclz hY n3 (by omega)
     (try simp only[Act.put]);go_simp) ?_
   try simp only[Act.put,fsa,fsb,fsc,fsd,fse,fsf]
   repeat any_goals first
    | refine qbw ?_ ?_
    | (
     first
      | (
       refine qae (i:=5) rfl rfl (fun K hK=>?_);obtain⟨Z,hZ⟩:∃Z,Z=W.alloc (.cells #[.int .i64 u.kind,.string u.name,.int .i64 u.sort,.slice Au u.kids.length cu,.int .i64 (nOf j).kind,.string (nOf j).name,.int .i64 (nOf j).sort,.slice none (nOf j).kids.length 0] 24):=⟨_,rfl⟩;obtain⟨b5,hbe,hb,HL5,hg5⟩:=qa3 [((u,Au,cu):It),((nOf j,none,0):It)] HB hBD hZ;go_wp2_with fail
       rw[←hZ,←hbe];clear hZ hbe)
      | (
       refine qae (i:=6) rfl rfl (fun K hK=>?_);have AP:=qck ⟨#[120,111,114]⟩ hPB hBD HB hg5 HL5 (by decide) HU.out (qb7 j _ _);go_wp2_with fail
       refine AP.out.mono ?_;clear AP;rintro e Z ⟨A6,c6,rfl,hr,hb⟩;have HI6:=hdzz hr;clear hr)
      | (
       refine qae (i:=7) rfl rfl (fun K hK=>?_);obtain⟨Z,hZ⟩:∃Z,Z=W.alloc (.cells #[.int .i64 (nOf j).kind,.string (nOf j).name,.int .i64 (nOf j).sort,.slice none (nOf j).kids.length 0,.int .i64 3,.string ⟨#[120,111,114]⟩,.int .i64 0,.slice A6 2 c6] 24):=⟨_,rfl⟩;obtain⟨b7,hbe,hb,HL7,hg7⟩:=qa3 [((nOf j,none,0):It),(((Tm.mk 3 ⟨#[120,111,114]⟩ 0 [u,nOf j]),A6,c6):It)] HB hBD hZ;go_wp2_with fail
       rw[←hZ,←hbe];clear hZ hbe)
      | (
       refine qae (i:=8) rfl rfl (fun K hK=>?_);have AP:=qck ⟨#[120,111,114]⟩ hPB hBD HB hg7 HL7 (by decide) (qb7 j _ _) HI6.out;go_wp2_with fail
       refine AP.out.mono ?_;clear AP;rintro e Z ⟨A8,c8,rfl,hr,hb⟩;have HI8:=hdzz hr;clear hr)
     try replace HU:=Qb.gh hBD HB hPB hb HU
     try replace HI6:=Qb.gh hBD HB hPB hb HI6
     try replace HI8:=Qb.gh hBD HB hPB hb HI8
     try replace HL5:=hbl hb HL5
     try replace HL7:=hbl hb HL7
     replace HB:=hbt HB hb
     first | refine⟨⟨fun _=>HB.out,trivial⟩,?_⟩|refine hK _ _ ⟨⟨fun _=>HB.out,trivial⟩,?_⟩
     clear hb
     try clear hK K
     rename World=>W)
    | (
     refine qae (i:=9) rfl rfl (fun K hK=>?_);have HNf:=hdzz (HN.out.go HB.out);obtain⟨z0,z1,z2,z3,zf⟩:=qaa HNf.out.b3;go_wp2_with fail
     refine⟨⟨fun h=>absurd h (by decide),trivial⟩,qar ?_⟩;go_wp2_with fail
     refine bodyPost_ret (v:=.agg #[.int .i64 3,.string ⟨#[120,111,114]⟩,.int .i64 0,.slice A8 2 c8]) ?_ rfl ?_
     ·simp[results,Tryz.results13,go_sem,z0,z1,z2,z3]
     exact qdf (r:=(Tm.mk 3 ⟨#[120,111,114]⟩ 0 [nOf j,(Tm.mk 3 ⟨#[120,111,114]⟩ 0 [u,nOf j])])) (A:=A8) (c:=c8) HNf.out.bel hPb HI8.out (by have:=HB.out.size;omega))
  ·have hPB:∀b,Pb b→b<(w.heap.size+1+1+1):=fun b h=>by have:=hPb b h;omega
   have hBD:(w.heap.size+1+1+1)≤wc.heap.size:=by have:=HN.out.hg;have:=HN.out.lt;omega
   have hgD:g<wc.heap.size:=HN.out.lt;have hwD:w.heap.size<wc.heap.size:=by omega
   obtain⟨x0,x1,x2,x3,xf⟩:=qaa HN.out.b1;obtain⟨n0,n1,n2,n3,nf⟩:=qaa HN.out.bn;have HB:Hid (Below wc.heap.size wc wc):=hdzz (Below.refl _ _);have HU:Hid (RepP wc (Qb Pb (w.heap.size+1+1+1) wc) u Au cu):=(hdzz (RepP.mono (fun b h=>.inl h) (fun _ _=>rfl) _ _ _ HN.out.ru));obtain⟨Z,hZ⟩:∃Z,Z=wc.alloc (.cells #[.int .i64 u.kind,.string u.name,.int .i64 u.sort,.slice Au u.kids.length cu,.int .i64 (nOf j).kind,.string (nOf j).name,.int .i64 (nOf j).sort,.slice none (nOf j).kids.length 0] 24):=⟨_,rfl⟩;obtain⟨b4,hbe,hb,HL4,hg4⟩:=qa3 [((u,Au,cu):It),((nOf j,none,0):It)] HB hBD hZ;go_wp2_with fail
   rw[←hZ,←hbe]
   try replace HU:=Qb.gh hBD HB hPB hb HU
   try replace HI5:=Qb.gh hBD HB hPB hb HI5
   try replace HI7:=Qb.gh hBD HB hPB hb HI7
   try replace HL6:=hbl hb HL6
   replace HB:=hbt HB hb
   clear hZ hbe hb
   rename World=>W
   have AP:=qck ⟨#[112,97,105,114]⟩ hPB hBD HB hg4 HL4 (by decide) HU.out (qb7 j _ _);refine AP.out.mono ?_;clear AP;rintro e Z ⟨A5,c5,rfl,hr,hb⟩
   try replace HU:=Qb.gh hBD HB hPB hb HU
   try replace HI7:=Qb.gh hBD HB hPB hb HI7
   try replace HL4:=hbl hb HL4
   try replace HL6:=hbl hb HL6
   replace HB:=hbt HB hb
   have HI5:=hdzz hr;clear hr;clear hb
   rename World=>W
   obtain⟨Z,hZ⟩:∃Z,Z=W.alloc (.cells #[.int .i64 3,.string ⟨#[112,97,105,114]⟩,.int .i64 0,.slice A5 2 c5] 24):=⟨_,rfl⟩;obtain⟨b6,hbe,hb,HL6,hg6⟩:=qa3 [(((Tm.mk 3 ⟨#[112,97,105,114]⟩ 0 [u,nOf j]),A5,c5):It)] HB hBD hZ;go_wp2_with fail
   rw[←hZ,←hbe]
   try replace HU:=Qb.gh hBD HB hPB hb HU
   try replace HI5:=Qb.gh hBD HB hPB hb HI5
   try replace HI7:=Qb.gh hBD HB hPB hb HI7
   try replace HL4:=hbl hb HL4
   replace HB:=hbt HB hb
   clear hZ hbe hb
   rename World=>W
   have AP:=qh6 ⟨#[102,115,116]⟩ hPB hBD HB hg6 HL6 (by decide) HI5.out;refine AP.out.mono ?_;clear AP;rintro e Z ⟨A7,c7,rfl,hr,hb⟩
   try replace HU:=Qb.gh hBD HB hPB hb HU
   try replace HI5:=Qb.gh hBD HB hPB hb HI5
   try replace HL4:=hbl hb HL4
   try replace HL6:=hbl hb HL6
   replace HB:=hbt HB hb
   have HI7:=hdzz hr;clear hr;clear hb
   rename World=>W
   have HNf:=hdzz (HN.out.go HB.out);obtain⟨z0,z1,z2,z3,zf⟩:=qaa HNf.out.b3;go_wp2_with fail
   refine bodyPost_ret (v:=.agg #[.int .i64 3,.string ⟨#[102,115,116]⟩,.int .i64 0,.slice A7 1 c7]) ?_ rfl ?_
   ·simp[results,Tryz.results13,go_sem,z0,z1,z2,z3]
   exact qdf (r:=(Tm.mk 3 ⟨#[102,115,116]⟩ 0 [(Tm.mk 3 ⟨#[112,97,105,114]⟩ 0 [u,nOf j])])) (A:=A7) (c:=c7) HNf.out.bel hPb HI7.out (by have:=HB.out.size;omega)
  ·have hPB:∀b,Pb b→b<(w.heap.size+1+1+1):=fun b h=>by have:=hPb b h;omega
   have hBD:(w.heap.size+1+1+1)≤wc.heap.size:=by have:=HN.out.hg;have:=HN.out.lt;omega
   have hgD:g<wc.heap.size:=HN.out.lt;have hwD:w.heap.size<wc.heap.size:=by omega
   obtain⟨x0,x1,x2,x3,xf⟩:=qaa HN.out.b1;obtain⟨n0,n1,n2,n3,nf⟩:=qaa HN.out.bn;have HB:Hid (Below wc.heap.size wc wc):=hdzz (Below.refl _ _);have HU:Hid (RepP wc (Qb Pb (w.heap.size+1+1+1) wc) u Au cu):=(hdzz (RepP.mono (fun b h=>.inl h) (fun _ _=>rfl) _ _ _ HN.out.ru));obtain⟨Z,hZ⟩:∃Z,Z=wc.alloc (.cells #[.int .i64 (nOf j).kind,.string (nOf j).name,.int .i64 (nOf j).sort,.slice none (nOf j).kids.length 0,.int .i64 u.kind,.string u.name,.int .i64 u.sort,.slice Au u.kids.length cu] 24):=⟨_,rfl⟩;obtain⟨b4,hbe,hb,HL4,hg4⟩:=qa3 [((nOf j,none,0):It),((u,Au,cu):It)] HB hBD hZ;go_wp2_with fail
   rw[←hZ,←hbe]
   try replace HU:=Qb.gh hBD HB hPB hb HU
   try replace HI5:=Qb.gh hBD HB hPB hb HI5
   try replace HI7:=Qb.gh hBD HB hPB hb HI7
   try replace HL6:=hbl hb HL6
   replace HB:=hbt HB hb
   clear hZ hbe hb
   rename World=>W
   have AP:=qck ⟨#[112,97,105,114]⟩ hPB hBD HB hg4 HL4 (by decide) (qb7 j _ _) HU.out;refine AP.out.mono ?_;clear AP;rintro e Z ⟨A5,c5,rfl,hr,hb⟩
   try replace HU:=Qb.gh hBD HB hPB hb HU
   try replace HI7:=Qb.gh hBD HB hPB hb HI7
   try replace HL4:=hbl hb HL4
   try replace HL6:=hbl hb HL6
   replace HB:=hbt HB hb
   have HI5:=hdzz hr;clear hr;clear hb
   rename World=>W
   obtain⟨Z,hZ⟩:∃Z,Z=W.alloc (.cells #[.int .i64 3,.string ⟨#[112,97,105,114]⟩,.int .i64 0,.slice A5 2 c5] 24):=⟨_,rfl⟩;obtain⟨b6,hbe,hb,HL6,hg6⟩:=qa3 [(((Tm.mk 3 ⟨#[112,97,105,114]⟩ 0 [nOf j,u]),A5,c5):It)] HB hBD hZ;go_wp2_with fail
   rw[←hZ,←hbe]
   try replace HU:=Qb.gh hBD HB hPB hb HU
   try replace HI5:=Qb.gh hBD HB hPB hb HI5
   try replace HI7:=Qb.gh hBD HB hPB hb HI7
   try replace HL4:=hbl hb HL4
   replace HB:=hbt HB hb
   clear hZ hbe hb
   rename World=>W
   have AP:=qh6 ⟨#[115,110,100]⟩ hPB hBD HB hg6 HL6 (by decide) HI5.out;refine AP.out.mono ?_;clear AP;rintro e Z ⟨A7,c7,rfl,hr,hb⟩
   try replace HU:=Qb.gh hBD HB hPB hb HU
   try replace HI5:=Qb.gh hBD HB hPB hb HI5
   try replace HL4:=hbl hb HL4
   try replace HL6:=hbl hb HL6
   replace HB:=hbt HB hb
   have HI7:=hdzz hr;clear hr;clear hb
   rename World=>W
   have HNf:=hdzz (HN.out.go HB.out);obtain⟨z0,z1,z2,z3,zf⟩:=qaa HNf.out.b3;go_wp2_with fail
   refine bodyPost_ret (v:=.agg #[.int .i64 3,.string ⟨#[115,110,100]⟩,.int .i64 0,.slice A7 1 c7]) ?_ rfl ?_
   ·simp[results,Tryz.results13,go_sem,z0,z1,z2,z3]
   exact qdf (r:=(Tm.mk 3 ⟨#[115,110,100]⟩ 0 [(Tm.mk 3 ⟨#[112,97,105,114]⟩ 0 [nOf j,u])])) (A:=A7) (c:=c7) HNf.out.bel hPb HI7.out (by have:=HB.out.size;omega)
  ·go_wp2_with fail
   refine qaf (fun Y=>Below wc.drew.heap.size wc.drew Y) (fun _=>True) [9] (.held 0 (.held 1 (.held 2 (.held 3 (.held 6 (.op 4 (.op 5 (.op 7 (.op 8 (.op 9 .nil)))))))))) mixed (by kernel_rfl) ?_
   replace HN:=hdzz (HN.out.go (Below.refl _ _).drew)
   generalize wc.drew=D at *;have hPB:∀b,Pb b→b<(w.heap.size+1+1+1):=fun b h=>by have:=hPb b h;omega
   have hBD:(w.heap.size+1+1+1)≤D.heap.size:=by have:=HN.out.hg;have:=HN.out.lt;omega
   have hgD:g<D.heap.size:=HN.out.lt;have hwD:w.heap.size<D.heap.size:=by omega
   obtain⟨x0,x1,x2,x3,xf⟩:=qaa HN.out.b1;obtain⟨n0,n1,n2,n3,nf⟩:=qaa HN.out.bn;refine(fun(W:World) (HB:Hid (Below D.heap.size D W)) (HU:Hid (RepP W (Qb Pb (w.heap.size+1+1+1) W) u Au cu))=>?_:∀W,Hid (Below D.heap.size D W)→Hid (RepP W (Qb Pb (w.heap.size+1+1+1) W) u Au cu)→qax _ _ _ (fun Y=>Below D.heap.size D Y) _ _ _ _ W) D (hdzz (Below.refl _ _)) (hdzz (RepP.mono (fun b h=>.inl h) (fun _ _=>rfl) _ _ _ HN.out.ru));refine stkz (.func (.func 20) #[] #[]) rfl rfl rfl (fun _ _ _ h=>h) HB.out (fun Y hY=>by
     (try simp only[Act.put]);go_simp) ?_
   refine stkz (.func (.func 20) #[] #[]) rfl rfl rfl (fun _ _ _ h=>h) HB.out (fun Y hY=>by
     (try simp only[Act.put]);go_simp) ?_
   refine stkz (.agg #[.int .i64 u.kind,.string u.name,.int .i64 u.sort,.slice Au u.kids.length cu]) rfl rfl rfl (fun _ _ _ h=>h) HB.out (fun Y hY=>by
     have z0:=sclz hY x0 (by omega);have z1:=sclz hY x1 (by omega);have z2:=sclz hY x2 (by omega);have z3:=sclz hY x3 (by omega)
     (try simp only[Act.put]);go_simp) ?_
   try simp only[Act.put,fsa,fsb,fsc,fsd,fse,fsf]
   refine stkz (.agg #[.int .i64 (nOf j).kind,.string (nOf j).name,.int .i64 (nOf j).sort,.slice none (nOf j).kids.length 0]) rfl rfl rfl (fun _ _ _ h=>h) HB.out (fun Y hY=>by
     have z0:=sclz hY n0 (by omega);have z1:=sclz hY n1 (by omega);have z2:=sclz hY n2 (by omega);have z3:=sclz hY n3 (by omega)
     (try simp only[Act.put]);go_simp) ?_
   refine stkz (.agg #[.int .i64 (nOf j).kind,.string (nOf j).name,.int .i64 (nOf j).sort,.slice none (nOf j).kids.length 0]) rfl rfl rfl (fun _ _ _ h=>h) HB.out (fun Y hY=>by
     have z0:=sclz hY n0 (by omega);have z1:=sclz hY n1 (by omega);have z2:=sclz hY n2 (by omega);have z3:=sclz hY n3 (by omega)
     (try simp only[Act.put]);go_simp) ?_
   try simp only[Act.put,fsa,fsb,fsc,fsd,fse,fsf]
   repeat any_goals first
    | refine qbw ?_ ?_
    | (
     first
      | (
       refine qae (i:=4) rfl rfl (fun K hK=>?_);obtain⟨Z,hZ⟩:∃Z,Z=W.alloc (.cells #[.int .i64 u.kind,.string u.name,.int .i64 u.sort,.slice Au u.kids.length cu,.int .i64 (nOf j).kind,.string (nOf j).name,.int .i64 (nOf j).sort,.slice none (nOf j).kids.length 0] 24):=⟨_,rfl⟩;obtain⟨b4,hbe,hb,HL4,hg4⟩:=qa3 [((u,Au,cu):It),((nOf j,none,0):It)] HB hBD hZ;go_wp2_with fail
       rw[←hZ,←hbe];clear hZ hbe)
      | (
       refine qae (i:=5) rfl rfl (fun K hK=>?_);have AP:=qck ⟨#[101,110,99]⟩ hPB hBD HB hg4 HL4 (by decide) HU.out (qb7 j _ _);go_wp2_with fail
       refine AP.out.mono ?_;clear AP;rintro e Z ⟨A5,c5,rfl,hr,hb⟩;have HI5:=hdzz hr;clear hr)
      | (
       refine qae (i:=7) rfl rfl (fun K hK=>?_);obtain⟨Z,hZ⟩:∃Z,Z=W.alloc (.cells #[.int .i64 3,.string ⟨#[101,110,99]⟩,.int .i64 0,.slice A5 2 c5,.int .i64 (nOf j).kind,.string (nOf j).name,.int .i64 (nOf j).sort,.slice none (nOf j).kids.length 0] 24):=⟨_,rfl⟩;obtain⟨b7,hbe,hb,HL7,hg7⟩:=qa3 [(((Tm.mk 3 ⟨#[101,110,99]⟩ 0 [u,nOf j]),A5,c5):It),((nOf j,none,0):It)] HB hBD hZ;go_wp2_with fail
       rw[←hZ,←hbe];clear hZ hbe)
      | (
       refine qae (i:=8) rfl rfl (fun K hK=>?_);have AP:=qck ⟨#[100,101,99]⟩ hPB hBD HB hg7 HL7 (by decide) HI5.out (qb7 j _ _);go_wp2_with fail
       refine AP.out.mono ?_;clear AP;rintro e Z ⟨A8,c8,rfl,hr,hb⟩;have HI8:=hdzz hr;clear hr)
     try replace HU:=Qb.gh hBD HB hPB hb HU
     try replace HI5:=Qb.gh hBD HB hPB hb HI5
     try replace HI8:=Qb.gh hBD HB hPB hb HI8
     try replace HL4:=hbl hb HL4
     try replace HL7:=hbl hb HL7
     replace HB:=hbt HB hb
     first | refine⟨⟨fun _=>HB.out,trivial⟩,?_⟩|refine hK _ _ ⟨⟨fun _=>HB.out,trivial⟩,?_⟩
     clear hb
     try clear hK K
     rename World=>W)
    | (
     refine qae (i:=9) rfl rfl (fun K hK=>?_);have HNf:=hdzz (HN.out.go HB.out);obtain⟨z0,z1,z2,z3,zf⟩:=qaa HNf.out.b3;go_wp2_with fail
     refine⟨⟨fun h=>absurd h (by decide),trivial⟩,qar ?_⟩;go_wp2_with fail
     refine bodyPost_ret (v:=.agg #[.int .i64 3,.string ⟨#[100,101,99]⟩,.int .i64 0,.slice A8 2 c8]) ?_ rfl ?_
     ·simp[results,Tryz.results13,go_sem,z0,z1,z2,z3]
     exact qdf (r:=(Tm.mk 3 ⟨#[100,101,99]⟩ 0 [(Tm.mk 3 ⟨#[101,110,99]⟩ 0 [u,nOf j]),nOf j])) (A:=A8) (c:=c8) HNf.out.bel hPb HI8.out (by have:=HB.out.size;omega))
  ·have hPB:∀b,Pb b→b<(w.heap.size+1+1+1):=fun b h=>by have:=hPb b h;omega
   have hBD:(w.heap.size+1+1+1)≤wc.heap.size:=by have:=HN.out.hg;have:=HN.out.lt;omega
   have hgD:g<wc.heap.size:=HN.out.lt;have hwD:w.heap.size<wc.heap.size:=by omega
   obtain⟨x0,x1,x2,x3,xf⟩:=qaa HN.out.b1;obtain⟨n0,n1,n2,n3,nf⟩:=qaa HN.out.bn;have HB:Hid (Below wc.heap.size wc wc):=hdzz (Below.refl _ _);have HU:Hid (RepP wc (Qb Pb (w.heap.size+1+1+1) wc) u Au cu):=(hdzz (RepP.mono (fun b h=>.inl h) (fun _ _=>rfl) _ _ _ HN.out.ru));obtain⟨Z,hZ⟩:∃Z,Z=wc.alloc (.cells #[.int .i64 u.kind,.string u.name,.int .i64 u.sort,.slice Au u.kids.length cu,.int .i64 (nOf j).kind,.string (nOf j).name,.int .i64 (nOf j).sort,.slice none (nOf j).kids.length 0] 24):=⟨_,rfl⟩;obtain⟨b4,hbe,hb,HL4,hg4⟩:=qa3 [((u,Au,cu):It),((nOf j,none,0):It)] HB hBD hZ;go_wp2_with fail
   rw[←hZ,←hbe]
   try replace HU:=Qb.gh hBD HB hPB hb HU
   try replace HI5:=Qb.gh hBD HB hPB hb HI5
   try replace HI7:=Qb.gh hBD HB hPB hb HI7
   try replace HL6:=hbl hb HL6
   replace HB:=hbt HB hb
   clear hZ hbe hb
   rename World=>W
   have AP:=qck ⟨#[115,105,103,110]⟩ hPB hBD HB hg4 HL4 (by decide) HU.out (qb7 j _ _);refine AP.out.mono ?_;clear AP;rintro e Z ⟨A5,c5,rfl,hr,hb⟩
   try replace HU:=Qb.gh hBD HB hPB hb HU
   try replace HI7:=Qb.gh hBD HB hPB hb HI7
   try replace HL4:=hbl hb HL4
   try replace HL6:=hbl hb HL6
   replace HB:=hbt HB hb
   have HI5:=hdzz hr;clear hr;clear hb
   rename World=>W
   obtain⟨Z,hZ⟩:∃Z,Z=W.alloc (.cells #[.int .i64 3,.string ⟨#[115,105,103,110]⟩,.int .i64 0,.slice A5 2 c5] 24):=⟨_,rfl⟩;obtain⟨b6,hbe,hb,HL6,hg6⟩:=qa3 [(((Tm.mk 3 ⟨#[115,105,103,110]⟩ 0 [u,nOf j]),A5,c5):It)] HB hBD hZ;go_wp2_with fail
   rw[←hZ,←hbe]
   try replace HU:=Qb.gh hBD HB hPB hb HU
   try replace HI5:=Qb.gh hBD HB hPB hb HI5
   try replace HI7:=Qb.gh hBD HB hPB hb HI7
   try replace HL4:=hbl hb HL4
   replace HB:=hbt HB hb
   clear hZ hbe hb
   rename World=>W
   have AP:=qh6 ⟨#[114,101,97,100]⟩ hPB hBD HB hg6 HL6 (by decide) HI5.out;refine AP.out.mono ?_;clear AP;rintro e Z ⟨A7,c7,rfl,hr,hb⟩
   try replace HU:=Qb.gh hBD HB hPB hb HU
   try replace HI5:=Qb.gh hBD HB hPB hb HI5
   try replace HL4:=hbl hb HL4
   try replace HL6:=hbl hb HL6
   replace HB:=hbt HB hb
   have HI7:=hdzz hr;clear hr;clear hb
   rename World=>W
   have HNf:=hdzz (HN.out.go HB.out);obtain⟨z0,z1,z2,z3,zf⟩:=qaa HNf.out.b3;go_wp2_with fail
   refine bodyPost_ret (v:=.agg #[.int .i64 3,.string ⟨#[114,101,97,100]⟩,.int .i64 0,.slice A7 1 c7]) ?_ rfl ?_
   ·simp[results,Tryz.results13,go_sem,z0,z1,z2,z3]
   exact qdf (r:=(Tm.mk 3 ⟨#[114,101,97,100]⟩ 0 [(Tm.mk 3 ⟨#[115,105,103,110]⟩ 0 [u,nOf j])])) (A:=A7) (c:=c7) HNf.out.bel hPb HI7.out (by have:=HB.out.size;omega)
  ·go_wp2_with fail
   refine qaf (fun Y=>Below wc.drew.heap.size wc.drew Y) (fun _=>True) [6] (.held 0 (.held 1 (.held 2 (.op 3 (.op 4 (.op 5 (.op 6 .nil))))))) mixed (by kernel_rfl) ?_
   replace HN:=hdzz (HN.out.go (Below.refl _ _).drew)
   generalize wc.drew=D at *;have hPB:∀b,Pb b→b<(w.heap.size+1+1+1):=fun b h=>by have:=hPb b h;omega
   have hBD:(w.heap.size+1+1+1)≤D.heap.size:=by have:=HN.out.hg;have:=HN.out.lt;omega
   have hgD:g<D.heap.size:=HN.out.lt;have hwD:w.heap.size<D.heap.size:=by omega
   obtain⟨x0,x1,x2,x3,xf⟩:=qaa HN.out.b1;obtain⟨n0,n1,n2,n3,nf⟩:=qaa HN.out.bn;refine(fun(W:World) (HB:Hid (Below D.heap.size D W)) (HU:Hid (RepP W (Qb Pb (w.heap.size+1+1+1) W) u Au cu))=>?_:∀W,Hid (Below D.heap.size D W)→Hid (RepP W (Qb Pb (w.heap.size+1+1+1) W) u Au cu)→qax _ _ _ (fun Y=>Below D.heap.size D Y) _ _ _ _ W) D (hdzz (Below.refl _ _)) (hdzz (RepP.mono (fun b h=>.inl h) (fun _ _=>rfl) _ _ _ HN.out.ru));refine stkz (.func (.func 20) #[] #[]) rfl rfl rfl (fun _ _ _ h=>h) HB.out (fun Y hY=>by
     (try simp only[Act.put]);go_simp) ?_
   refine stkz (.agg #[.int .i64 u.kind,.string u.name,.int .i64 u.sort,.slice Au u.kids.length cu]) rfl rfl rfl (fun _ _ _ h=>h) HB.out (fun Y hY=>by
     have z0:=sclz hY x0 (by omega);have z1:=sclz hY x1 (by omega);have z2:=sclz hY x2 (by omega);have z3:=sclz hY x3 (by omega)
     (try simp only[Act.put]);go_simp) ?_
   refine stkz (.func (.func 20) #[] #[]) rfl rfl rfl (fun _ _ _ h=>h) HB.out (fun Y hY=>by
     (try simp only[Act.put]);go_simp) ?_
   try simp only[Act.put,fsa,fsb,fsc,fsd,fse,fsf]
   try simp only[Act.put,fsa,fsb,fsc,fsd,fse,fsf]
   repeat any_goals first
    | refine qbw ?_ ?_
    | (
     first
      | (
       refine qae (i:=3) rfl rfl (fun K hK=>?_);have AP:=hdzz (qmj ⟨#[111,110,101]⟩ W Pb (w.heap.size+1+1+1) (by decide));go_wp2_with fail
       refine AP.out.mono ?_;clear AP;rintro e Z ⟨A3,rfl,hr,hb⟩;have HI3:=hdzz hr;clear hr)
      | (
       refine qae (i:=4) rfl rfl (fun K hK=>?_);obtain⟨Z,hZ⟩:∃Z,Z=W.alloc (.cells #[.int .i64 u.kind,.string u.name,.int .i64 u.sort,.slice Au u.kids.length cu,.int .i64 3,.string ⟨#[111,110,101]⟩,.int .i64 0,.slice A3 0 0] 24):=⟨_,rfl⟩;obtain⟨b4,hbe,hb,HL4,hg4⟩:=qa3 [((u,Au,cu):It),(((Tm.mk 3 ⟨#[111,110,101]⟩ 0 []),A3,0):It)] HB hBD hZ;go_wp2_with fail
       rw[←hZ,←hbe];clear hZ hbe)
      | (
       refine qae (i:=5) rfl rfl (fun K hK=>?_);have AP:=qck ⟨#[101,120,112]⟩ hPB hBD HB hg4 HL4 (by decide) HU.out HI3.out;go_wp2_with fail
       refine AP.out.mono ?_;clear AP;rintro e Z ⟨A5,c5,rfl,hr,hb⟩;have HI5:=hdzz hr;clear hr)
     try replace HU:=Qb.gh hBD HB hPB hb HU
     try replace HI3:=Qb.gh hBD HB hPB hb HI3
     try replace HI5:=Qb.gh hBD HB hPB hb HI5
     try replace HL4:=hbl hb HL4
     replace HB:=hbt HB hb
     first | refine⟨⟨fun _=>HB.out,trivial⟩,?_⟩|refine hK _ _ ⟨⟨fun _=>HB.out,trivial⟩,?_⟩
     clear hb
     try clear hK K
     rename World=>W)
    | (
     refine qae (i:=6) rfl rfl (fun K hK=>?_);have HNf:=hdzz (HN.out.go HB.out);obtain⟨z0,z1,z2,z3,zf⟩:=qaa HNf.out.b3;go_wp2_with fail
     refine⟨⟨fun h=>absurd h (by decide),trivial⟩,qar ?_⟩;go_wp2_with fail
     refine bodyPost_ret (v:=.agg #[.int .i64 3,.string ⟨#[101,120,112]⟩,.int .i64 0,.slice A5 2 c5]) ?_ rfl ?_
     ·simp[results,Tryz.results13,go_sem,z0,z1,z2,z3]
     exact qdf (r:=(Tm.mk 3 ⟨#[101,120,112]⟩ 0 [u,(Tm.mk 3 ⟨#[111,110,101]⟩ 0 [])])) (A:=A5) (c:=c5) HNf.out.bel hPb HI5.out (by have:=HB.out.size;omega))
  ·go_wp2_with fail
   refine qaf (fun Y=>Below wc.drew.heap.size wc.drew Y) (fun _=>True) [12] (.held 0 (.held 1 (.held 2 (.held 3 (.held 4 (.held 9 (.op 5 (.op 6 (.op 7 (.op 8 (.op 10 (.op 11 (.op 12 .nil))))))))))))) mixed (by kernel_rfl) ?_
   replace HN:=hdzz (HN.out.go (Below.refl _ _).drew)
   generalize wc.drew=D at *;have hPB:∀b,Pb b→b<(w.heap.size+1+1+1):=fun b h=>by have:=hPb b h;omega
   have hBD:(w.heap.size+1+1+1)≤D.heap.size:=by have:=HN.out.hg;have:=HN.out.lt;omega
   have hgD:g<D.heap.size:=HN.out.lt;have hwD:w.heap.size<D.heap.size:=by omega
   obtain⟨x0,x1,x2,x3,xf⟩:=qaa HN.out.b1;obtain⟨n0,n1,n2,n3,nf⟩:=qaa HN.out.bn;refine(fun(W:World) (HB:Hid (Below D.heap.size D W)) (HU:Hid (RepP W (Qb Pb (w.heap.size+1+1+1) W) u Au cu))=>?_:∀W,Hid (Below D.heap.size D W)→Hid (RepP W (Qb Pb (w.heap.size+1+1+1) W) u Au cu)→qax _ _ _ (fun Y=>Below D.heap.size D Y) _ _ _ _ W) D (hdzz (Below.refl _ _)) (hdzz (RepP.mono (fun b h=>.inl h) (fun _ _=>rfl) _ _ _ HN.out.ru));refine stkz (.func (.func 20) #[] #[]) rfl rfl rfl (fun _ _ _ h=>h) HB.out (fun Y hY=>by
     (try simp only[Act.put]);go_simp) ?_
   refine stkz (.func (.func 20) #[] #[]) rfl rfl rfl (fun _ _ _ h=>h) HB.out (fun Y hY=>by
     (try simp only[Act.put]);go_simp) ?_
   refine stkz (.agg #[.int .i64 u.kind,.string u.name,.int .i64 u.sort,.slice Au u.kids.length cu]) rfl rfl rfl (fun _ _ _ h=>h) HB.out (fun Y hY=>by
     have z0:=sclz hY x0 (by omega);have z1:=sclz hY x1 (by omega);have z2:=sclz hY x2 (by omega);have z3:=sclz hY x3 (by omega)
     (try simp only[Act.put]);go_simp) ?_
   try simp only[Act.put,fsa,fsb,fsc,fsd,fse,fsf]
   refine stkz (.func (.func 20) #[] #[]) rfl rfl rfl (fun _ _ _ h=>h) HB.out (fun Y hY=>by
     (try simp only[Act.put]);go_simp) ?_
   refine stkz (.agg #[.int .i64 (nOf j).kind,.string (nOf j).name,.int .i64 (nOf j).sort,.slice none (nOf j).kids.length 0]) rfl rfl rfl (fun _ _ _ h=>h) HB.out (fun Y hY=>by
     have z0:=sclz hY n0 (by omega);have z1:=sclz hY n1 (by omega);have z2:=sclz hY n2 (by omega);have z3:=sclz hY n3 (by omega)
     (try simp only[Act.put]);go_simp) ?_
   refine stkz (.agg #[.int .i64 (nOf j).kind,.string (nOf j).name,.int .i64 (nOf j).sort,.slice none (nOf j).kids.length 0]) rfl rfl rfl (fun _ _ _ h=>h) HB.out (fun Y hY=>by
     have z0:=sclz hY n0 (by omega);have z1:=sclz hY n1 (by omega);have z2:=sclz hY n2 (by omega);have z3:=sclz hY n3 (by omega)
     (try simp only[Act.put]);go_simp) ?_
   try simp only[Act.put,fsa,fsb,fsc,fsd,fse,fsf]
   try simp only[Act.put,fsa,fsb,fsc,fsd,fse,fsf]
   repeat any_goals first
    | refine qbw ?_ ?_
    | (
     first
      | (
       refine qae (i:=5) rfl rfl (fun K hK=>?_);obtain⟨Z,hZ⟩:∃Z,Z=W.alloc (.cells #[.int .i64 (nOf j).kind,.string (nOf j).name,.int .i64 (nOf j).sort,.slice none (nOf j).kids.length 0] 24):=⟨_,rfl⟩;obtain⟨b5,hbe,hb,HL5,hg5⟩:=qa3 [((nOf j,none,0):It)] HB hBD hZ;go_wp2_with fail
       rw[←hZ,←hbe];clear hZ hbe)
      | (
       refine qae (i:=6) rfl rfl (fun K hK=>?_);have AP:=qh6 ⟨#[112,107]⟩ hPB hBD HB hg5 HL5 (by decide) (qb7 j _ _);go_wp2_with fail
       refine AP.out.mono ?_;clear AP;rintro e Z ⟨A6,c6,rfl,hr,hb⟩;have HI6:=hdzz hr;clear hr)
      | (
       refine qae (i:=7) rfl rfl (fun K hK=>?_);obtain⟨Z,hZ⟩:∃Z,Z=W.alloc (.cells #[.int .i64 u.kind,.string u.name,.int .i64 u.sort,.slice Au u.kids.length cu,.int .i64 3,.string ⟨#[112,107]⟩,.int .i64 0,.slice A6 1 c6] 24):=⟨_,rfl⟩;obtain⟨b7,hbe,hb,HL7,hg7⟩:=qa3 [((u,Au,cu):It),(((Tm.mk 3 ⟨#[112,107]⟩ 0 [nOf j]),A6,c6):It)] HB hBD hZ;go_wp2_with fail
       rw[←hZ,←hbe];clear hZ hbe)
      | (
       refine qae (i:=8) rfl rfl (fun K hK=>?_);have AP:=qck ⟨#[97,101,110,99]⟩ hPB hBD HB hg7 HL7 (by decide) HU.out HI6.out;go_wp2_with fail
       refine AP.out.mono ?_;clear AP;rintro e Z ⟨A8,c8,rfl,hr,hb⟩;have HI8:=hdzz hr;clear hr)
      | (
       refine qae (i:=10) rfl rfl (fun K hK=>?_);obtain⟨Z,hZ⟩:∃Z,Z=W.alloc (.cells #[.int .i64 3,.string ⟨#[97,101,110,99]⟩,.int .i64 0,.slice A8 2 c8,.int .i64 (nOf j).kind,.string (nOf j).name,.int .i64 (nOf j).sort,.slice none (nOf j).kids.length 0] 24):=⟨_,rfl⟩;obtain⟨b10,hbe,hb,HL10,hg10⟩:=qa3 [(((Tm.mk 3 ⟨#[97,101,110,99]⟩ 0 [u,(Tm.mk 3 ⟨#[112,107]⟩ 0 [nOf j])]),A8,c8):It),((nOf j,none,0):It)] HB hBD hZ;go_wp2_with fail
       rw[←hZ,←hbe];clear hZ hbe)
      | (
       refine qae (i:=11) rfl rfl (fun K hK=>?_);have AP:=qck ⟨#[97,100,101,99]⟩ hPB hBD HB hg10 HL10 (by decide) HI8.out (qb7 j _ _);go_wp2_with fail
       refine AP.out.mono ?_;clear AP;rintro e Z ⟨A11,c11,rfl,hr,hb⟩;have HI11:=hdzz hr;clear hr)
     try replace HU:=Qb.gh hBD HB hPB hb HU
     try replace HI6:=Qb.gh hBD HB hPB hb HI6
     try replace HI8:=Qb.gh hBD HB hPB hb HI8
     try replace HI11:=Qb.gh hBD HB hPB hb HI11
     try replace HL5:=hbl hb HL5
     try replace HL7:=hbl hb HL7
     try replace HL10:=hbl hb HL10
     replace HB:=hbt HB hb
     first | refine⟨⟨fun _=>HB.out,trivial⟩,?_⟩|refine hK _ _ ⟨⟨fun _=>HB.out,trivial⟩,?_⟩
     clear hb
     try clear hK K
     rename World=>W)
    | (
     refine qae (i:=12) rfl rfl (fun K hK=>?_);have HNf:=hdzz (HN.out.go HB.out);obtain⟨z0,z1,z2,z3,zf⟩:=qaa HNf.out.b3;go_wp2_with fail
     refine⟨⟨fun h=>absurd h (by decide),trivial⟩,qar ?_⟩;go_wp2_with fail
     refine bodyPost_ret (v:=.agg #[.int .i64 3,.string ⟨#[97,100,101,99]⟩,.int .i64 0,.slice A11 2 c11]) ?_ rfl ?_
     ·simp[results,Tryz.results13,go_sem,z0,z1,z2,z3]
     exact qdf (r:=(Tm.mk 3 ⟨#[97,100,101,99]⟩ 0 [(Tm.mk 3 ⟨#[97,101,110,99]⟩ 0 [u,(Tm.mk 3 ⟨#[112,107]⟩ 0 [nOf j])]),nOf j])) (A:=A11) (c:=c11) HNf.out.bel hPb HI11.out (by have:=HB.out.size;omega))
end Go.Proofs.YtjhjoiplpmjepaaGreat
