/- Tawake, Tlaw1, Vlaw1, Topen, Vopen (joined by shake.py). -/
import Derived.Test.YtjhjoiplpmjepaaGreatW0
import Derived.Test.YtjhjoiplpmjepaaGreatWGi
import Derived.Test.YtjhjoiplpmjepaaGreatW14
import Derived.Test.YtjhjoiplpmjepaaGreatW15
import Derived.Test.YtjhjoiplpmjepaaGreatW16
import Derived.Test.YtjhjoiplpmjepaaGreatW20
import Derived.Test.YtjhjoiplpmjepaaGreatW21
import Derived.Test.YtjhjoiplpmjepaaGreatW22
import Derived.Deep.CutRange
set_option maxRecDepth 100000
set_option linter.unusedVariables false
set_option linter.unusedSimpArgs false
set_option maxHeartbeats 64000000
namespace Go.Proofs.YtjhjoiplpmjepaaGreat
open Go.RowKit Go.Sort
def aA:Tm:=.mk 2 ⟨#[97]⟩ 0 []
def kA:Tm:=.mk 2 ⟨#[107]⟩ 3 []
def tA:Tm:=.mk 3 nDec 0 [.mk 3 nEnc 0 [aA,kA],kA]
theorem tA_valid:tA.valid=0:=by rfl
theorem tA_text:tA.text=[100,101,99,40,101,110,99,40,97,58,97,110,121,44,32,107,58,107,101,121,41,44,32,107,58,107,101,121,41]:=by rfl
theorem tA_validT:tA.validT=0:=by rfl
theorem tA_fine:qei tA:=by
 have ha:qei aA:=by unfold aA;rw[qei];exact fun h=>absurd h (by decide)
 have hk:qei kA:=by unfold kA;rw[qei];exact fun h=>absurd h (by decide)
 unfold tA;rw[qei];refine fun _=>⟨?_,fineN_des (by unfold desN;simp)⟩;rw[qeh,qeh,qeh];refine⟨?_,hk,trivial⟩;rw[qei];refine fun _=>⟨?_,qjx (by decide) (by decide) (by decide)⟩;rw[qeh,qeh,qeh];exact⟨ha,hk,trivial⟩
theorem tA_nf:tA.nf=aA:=by
 have he:(Tm.mk 3 nEnc 0 [aA,kA]).nf=.mk 3 nEnc 0 [aA,kA]:=by
  rw[Tm.nf,if_pos rfl,qco,qba (by decide) (by decide) (by decide) (by decide)];rfl
 unfold tA;rw[Tm.nf,if_pos rfl,qco,List.map_cons,he,qa0 (by unfold desN;simp),destT_fit (by unfold fitD;exact .inr (.inr (.inl ⟨rfl,⟨rfl,rfl⟩,rfl⟩)))];rfl
theorem aA_valid:aA.valid=0:=by rfl
theorem tA_parse:qee [100,101,99,40,101,110,99,40,97,58,97,110,121,44,32,107,58,107,101,121,41,44,32,107,58,107,101,121,41]=(tA,0):=by rw[←tA_text];exact qnh tA_valid
theorem qep (w:World):Calls Tryz.prog 6 #[] w fun e w'=>e=.returned (.bool true)∧Below w.heap.size w w':=by
 have mixed:=mixz;have PA:=qpu ⟨#[100,101,99,40,101,110,99,40,97,58,97,110,121,44,32,107,58,107,101,121,41,44,32,107,58,107,101,121,41]⟩ w (by decide);unfold qiw at PA;rw[show(⟨#[100,101,99,40,101,110,99,40,97,58,97,110,121,44,32,107,58,107,101,121,41,44,32,107,58,107,101,121,41]⟩:ByteArray).data.toList=[100,101,99,40,101,110,99,40,97,58,97,110,121,44,32,107,58,107,101,121,41,44,32,107,58,107,101,121,41]from rfl,tA_parse]at PA;obtain⟨uA,huA⟩:∃u,u=aA:=⟨_,rfl⟩;obtain⟨tt,htt⟩:∃u,u=tA:=⟨_,rfl⟩;have HNO:Hid (∀(X:World) (A:Option Addr) (c:Nat) (Pb:Nat→Prop),(∀b,Pb b→b<X.heap.size)→RepP X Pb tt A c→Calls Tryz.prog 30 #[tt.val A c] X (OkN Pb uA X)):=hdzz fun X A c Pb h1 h2=>by
  have h:=qhb tA A c X Pb h1 tA_validT tA_fine (by rw[tA_nf];exact aA_valid) (by rw[←htt];exact h2);rw[tA_nf,←huA,←htt]at h;exact h
 have HSA:Hid (∀(X:World) (A A':Option Addr) (c c':Nat),RepT X X.heap.size uA A c→RepT X X.heap.size uA A' c'→Calls Tryz.prog 31 #[uA.val A c,uA.val A' c'] X fun e w'=>e=.returned (.bool true)∧Lay X.heap.size X w'):=hdzz fun X A A' c c' h1 h2=>by
  have h:=qls uA uA A A' c c' X (by rw[huA];decide) (by rw[huA];decide) h1 h2;rw[show uA.same uA=true from Tm.same_iff.2 rfl]at h;exact h
 have HAT:Hid (∀X:World,Calls Tryz.prog 35 #[.string ⟨#[97]⟩,.int .i64 0] X fun e w'=>e=.returned (uA.val none 0)∧Lay X.heap.size X w'):=hdzz fun X=>by rw[huA];exact atom_any ⟨#[97]⟩ 0 X
 have HUN:Hid (∀X:World,RepT X X.heap.size uA none 0):=hdzz fun X=>by rw[huA];unfold aA;rw[qbe];exact⟨by decide,Nat.le_refl _,Nat.zero_le _,.inl rfl⟩
 rw[←htt]at PA;simp only[Tm.val]at PA HNO HSA HAT;have PA:=hdzz PA;clear huA htt;go_enter Tryz.func6,Tryz.ntmps6
 go_wp2_with fail
 refine PA.out.mono ?_;clear PA;rintro e w1 ⟨A1,c1,rfl,hr1,hb1⟩;simp only;obtain⟨X,hX⟩:∃X,X=w1.alloc (.cells #[.int .i64 tt.kind,.string tt.name,.int .i64 tt.sort,.slice A1 tt.kids.length c1] 24):=⟨_,rfl⟩;have hbX:Below w1.heap.size w1 X:=by rw[hX];exact qab (Nat.le_refl _) _
 have hsX:X.heap.size=w1.heap.size+1:=by rw[hX];simp
 have hxX:X.heap[w1.heap.size]?=some (.cells #[.int .i64 tt.kind,.string tt.name,.int .i64 tt.sort,.slice A1 tt.kids.length c1] 24 (0,0)):=by rw[hX];exact heap_alloc_new w1 _
 obtain⟨x0,x1,x2,x3,xf⟩:=qaa hxX;have hs1:=hb1.size;have NO:=HNO.out X A1 c1 (fun b=>b<w1.heap.size) (fun b h=>by omega) (RepP.mono (fun b h=>h.2) (fun p hp=>hbX.cell hp.2) _ _ _ hr1);have NO:=hdzz NO;have HX:=hdzz hX;have HB1:=hdzz (hb1.trans (hbX.mono hs1));have HSX:Hid (w.heap.size≤X.heap.size∧w1.heap.size<X.heap.size):=hdzz ⟨by omega,by omega⟩;clear hX hbX hsX hxX hs1 hb1 hr1 HNO;go_upto_region 2 with fail
 rw[←HX.out];clear HX;go_wp2_with fail
 refine NO.out.mono ?_;clear NO x0 x1 x2 x3 xf;rintro e w2 ⟨A2,c2,rfl,hr2,hb2⟩;simp only[Tm.val];have hs2:=hb2.size;have hs1:=HSX.out.1;have hs12:=HSX.out.2;obtain⟨Y,hY⟩:∃X,X=w2.alloc (.cells #[.int .i64 uA.kind,.string uA.name,.int .i64 uA.sort,.slice A2 uA.kids.length c2] 24):=⟨_,rfl⟩;have hbY:Below w2.heap.size w2 Y:=by rw[hY];exact qab (Nat.le_refl _) _
 have hsY:Y.heap.size=w2.heap.size+1:=by rw[hY];simp
 have hxY:Y.heap[w2.heap.size]?=some (.cells #[.int .i64 uA.kind,.string uA.name,.int .i64 uA.sort,.slice A2 uA.kids.length c2] 24 (0,0)):=by rw[hY];exact heap_alloc_new w2 _
 have HB2:=hdzz ((HB1.out.trans (hb2.mono hs1)).trans (hbY.mono (by omega)));have HRY:Hid (RepP Y (fun b=>b<w2.heap.size) uA A2 c2):=hdzz (RepP.mono (fun b h=>by rcases h with h|h<;>omega) (fun p hp=>hbY.cell (by rcases hp with h|h<;>omega)) _ _ _ hr2);have HY:=hdzz hY;have HXY:=hdzz hxY;have HSY:Hid (w.heap.size≤Y.heap.size∧w2.heap.size<Y.heap.size):=hdzz ⟨by omega,by omega⟩;clear hY hbY hsY hxY hs1 hs12 hs2 hb2 hr2 HB1 HSX;go_upto_region 3 with fail
 rw[←HY.out];clear HY;refine qae (fun Z=>Below Y.drew.heap.size Y.drew Z) (fun _=>True) [] (.held 0 (.held 1 (.held 2 (.held 3 (.held 4 (.held 5 (.held 6 (.held 7 (.op 8 (.op 9 (.held 10 (.held 11 (.op 12 (.held 13 (.held 14 (.held 15 (.held 16 .nil))))))))))))))))) mixed (by kernel_rfl) ?_;have HBD:=hdzz (HB2.out.trans ((Below.refl Y.heap.size Y).drew.mono HSY.out.1));obtain⟨y0,y1,y2,y3,yf⟩:=qaa (W:=Y.drew) HXY.out;have HRD:Hid (RepP Y.drew (fun b=>b<w2.heap.size) uA A2 c2):=hdzz (RepP.mono (w:=Y) (w':=Y.drew) (fun _ h=>h) (fun _ _=>rfl) _ _ _ HRY.out);have HSD:Hid (w.heap.size≤Y.drew.heap.size∧w2.heap.size<Y.drew.heap.size):=HSY;have hwd:=HSD.out.2;clear HB2 HRY HXY HSY;generalize Y.drew=D at *;refine stkz (.int .i64 0) rfl rfl rfl (fun _ _ _ h=>h) (Below.refl _ _) (fun Y hY=>by
   (try simp only[Act.put]);go_simp) ?_
 refine stkz (.bool true) rfl rfl rfl (fun _ _ _ h=>h) (Below.refl _ _) (fun Y hY=>by
   (try simp only[Act.put]);go_simp) ?_
 refine stkz (.bool true) rfl rfl rfl (fun _ _ _ h=>h) (Below.refl _ _) (fun Y hY=>by
   (try simp only[Act.put]);go_simp) ?_
 refine qac (v:=.int .i64 0) rfl (by kernel_rfl) rfl (fun _ _ _ h=>h) (Below.refl _ _) trivial (fun Y hY hY2=>by
   (try simp only[Act.put]);go_simp) ?_
 refine qac (v:=.bool true) rfl (by kernel_rfl) rfl (fun _ _ _ h=>h) (Below.refl _ _) trivial (fun Y hY hY2=>by
   (try simp only[Act.put]);go_simp) ?_
 refine stkz (.bool true) rfl rfl rfl (fun _ _ _ h=>h) (Below.refl _ _) (fun Y hY=>by
   (try simp only[Act.put]);go_simp) ?_
 refine stkz (.bool true) rfl rfl rfl (fun _ _ _ h=>h) (Below.refl _ _) (fun Y hY=>by
   (try simp only[Act.put]);go_simp) ?_
 simp only[Act.put,fsa,fsb,fsc,fsd,fse,fsf];refine qac (v:=.agg #[.int .i64 uA.kind,.string uA.name,.int .i64 uA.sort,.slice A2 uA.kids.length c2]) rfl (by kernel_rfl) rfl (fun _ _ _ h=>h) (Below.refl _ _) trivial (fun Y hY hY2=>by
   have z0:=sclz hY y0 (by omega);have z1:=sclz hY y1 (by omega);have z2:=sclz hY y2 (by omega);have z3:=sclz hY y3 (by omega)
   (try simp only[Act.put]);go_simp) ?_
 simp only[Act.put,fsa,fsb,fsc,fsd,fse,fsf];have CN:=hdzz (HAT.out D);refine qbx rfl (by kernel_rfl) (fun K hK=>?_);go_wp2_with fail
 refine CN.out.mono ?_;clear CN HAT y0 y1 y2 y3 yf;rintro e w5 ⟨rfl,hl5⟩;have H5:=hdzz hl5.below;refine hK _ _ ⟨⟨fun _=>H5.out,trivial⟩,?_⟩;clear hK K hl5;have CN:=HSA.out w5 A2 none c2 0 (RepP.mono (w:=D) (fun b (h:b<w2.heap.size)=>by have:=H5.out.size;omega) (fun p (h:p.block<w2.heap.size)=>H5.out.cell (by omega)) _ _ _ HRD.out) (HUN.out w5);have CN:=hdzz CN;refine qbx rfl (by kernel_rfl) (fun K hK=>?_);go_wp2_with fail
 refine CN.out.mono ?_;clear CN HSA;rintro e w6 ⟨rfl,hl6⟩;have H6:=hdzz (H5.out.trans (hl6.below.mono H5.out.size));refine hK _ _ ⟨⟨fun _=>H6.out,trivial⟩,?_⟩;clear hK K hl6;refine stkz (.bool true) rfl rfl rfl (fun _ _ _ h=>h) H6.out (fun Y hY=>by
   (try simp only[Act.put]);go_simp) ?_
 refine stkz (.bool true) rfl rfl rfl (fun _ _ _ h=>h) H6.out (fun Y hY=>by
   (try simp only[Act.put]);go_simp) ?_
 simp only[Act.put,fsa,fsb,fsc,fsd,fse,fsf];have CN:=hdzz (qpm w6);refine qbx rfl (by kernel_rfl) (fun K hK=>?_);go_wp2_with fail
 refine CN.out.mono ?_;clear CN;rintro e w7 ⟨⟨A7,c7,rfl⟩,hb7⟩;have H7:=hdzz (H6.out.trans (hb7.mono H6.out.size));refine hK _ _ ⟨⟨fun _=>H7.out,trivial⟩,?_⟩;clear hK K hb7;refine qac (v:=.int .i64 6) rfl (by kernel_rfl) rfl (fun _ _ _ h=>h) H7.out trivial (fun Y hY hY2=>by
   (try simp only[Act.put]);go_simp) ?_
 refine qac (v:=.bool true) rfl (by kernel_rfl) rfl (fun _ _ _ h=>h) H7.out trivial (fun Y hY hY2=>by
   (try simp only[Act.put]);go_simp) ?_
 refine stkz (.bool true) rfl rfl rfl (fun _ _ _ h=>h) H7.out (fun Y hY=>by
   (try simp only[Act.put]);go_simp) ?_
 refine stkz (.bool true) rfl rfl rfl (fun _ _ _ h=>h) H7.out (fun Y hY=>by
   (try simp only[Act.put]);go_simp) ?_
 refine qat ?_;simp only[Act.put,fsa,fsb,fsc,fsd,fse,fsf];go_wp2_with fail
 go_ret
 exact⟨rfl,HBD.out.trans (H7.out.mono HSD.out.1)⟩
end Go.Proofs.YtjhjoiplpmjepaaGreat
namespace Go.Proofs.YtjhjoiplpmjepaaGreat
open Go.RowKit
structure TopW (w:World) (t:Tm) (A:Option Addr) (cap:Nat) (g:Nat) (u:Tm) (Au:Option Addr) (cu:Nat) (W:World):Prop where
 b2:W.heap[w.heap.size]?=some (qal t A cap)
 b7:W.heap[g]?=some (qal u Au cu)
 hg:w.heap.size<g
 lt:g<W.heap.size
 bel:Below w.heap.size w W
 ru:RepP W (fun b=>b≠g∧b<W.heap.size) u Au cu
theorem TopW.go {w W Z:World} {t u:Tm} {A Au:Option Addr} {cap cu g:Nat} (h:TopW w t A cap g u Au cu W) (hb:Below W.heap.size W Z):TopW w t A cap g u Au cu Z:=by
 have h1:=h.hg;have h2:=h.lt;have h3:=hb.size;have h4:=h.bel.size;exact⟨(hb.block _ (by omega)).trans h.b2,(hb.block _ h2).trans h.b7,h1,by omega,h.bel.trans (hb.mono h4),RepP.mono (fun b h'=>⟨h'.1,by have:=h'.2;omega⟩) (fun p hp=>hb.cell hp.2) _ _ _ h.ru⟩
theorem TopW.set {w W:World} {t u v:Tm} {A Au Av:Option Addr} {cap cu cv g:Nat} (h:TopW w t A cap g u Au cu W) (hr:RepP W (fun b=>b≠g∧b<W.heap.size) v Av cv) :
  TopW w t A cap g v Av cv ((((W.setCell ⟨g,0,none⟩ (.int .i64 v.kind)).setCell ⟨g,1,none⟩ (.string v.name)).setCell ⟨g,2,none⟩ (.int .i64 v.sort)).setCell ⟨g,3,none⟩ (.slice Av v.kids.length cv)):=by
 have h1:=h.hg;have hs:((((W.setCell ⟨g,0,none⟩ (.int .i64 v.kind)).setCell ⟨g,1,none⟩ (.string v.name)).setCell ⟨g,2,none⟩ (.int .i64 v.sort)).setCell ⟨g,3,none⟩ (.slice Av v.kids.length cv)).heap.size=W.heap.size:=by simp[World.setCell]
 exact⟨by rw[qbk (by omega)];exact h.b2,qim h.b7,h1,by rw[hs];exact h.lt,qcc h.bel (by omega),RepP.mono (fun b h'=>by rw[hs];exact h') (fun p hp=>qao hp.1) _ _ _ hr⟩
theorem TopW.rt {w W:World} {t u:Tm} {A Au:Option Addr} {cap cu g:Nat} (h:TopW w t A cap g u Au cu W) (ht:RepT w w.heap.size t A cap):RepT W W.heap.size t A cap:=RepT.go ht h.bel h.bel.size
theorem TopW.ruT {w W:World} {t u:Tm} {A Au:Option Addr} {cap cu g:Nat} (h:TopW w t A cap g u Au cu W):RepT W W.heap.size u Au cu:=RepP.mono (fun b h'=>h'.2) (fun _ _=>rfl) _ _ _ h.ru
theorem one_slice {W Z:World} {t:Tm} {A:Option Addr} {c:Nat} (h:RepT W W.heap.size t A c) (hZ:Z=W.alloc (.cells #[.int .i64 t.kind,.string t.name,.int .i64 t.sort,.slice A t.kids.length c] 24)) :
  RepS Z (fun b=>b<Z.heap.size) [t] (some ⟨W.heap.size,0,none⟩) 1:=by
 subst hZ;refine qp1 (T:=24) [(t,A,c)] (heap_alloc_new _ _) (by simp) (fun x hx=>?_) (by simp);rw[List.mem_singleton]at hx;subst hx;exact RepT.go h (qab (Nat.le_refl _) _) (by simp)
def RepBd (w:World) (bs:List (Nat×Nat×Nat)) (A:Option Addr):Prop:=
 (∀x∈bs,x.1<256∧x.2.1<256∧x.2.2<256)∧(bs=[]∨∃b o,A=some ⟨b,o,none⟩∧b<w.heap.size∧∀j (h:j<bs.length),w.cell? ⟨b,o+j*3,none⟩=some (.int .u8 bs[j].1)∧w.cell? ⟨b,o+j*3+1,none⟩=some (.int .u8 bs[j].2.1)∧w.cell? ⟨b,o+j*3+2,none⟩=some (.int .u8 bs[j].2.2))
theorem RepBd.get {w W:World} {bs:List (Nat×Nat×Nat)} {A:Option Addr} (h:RepBd w bs A) (hb:Below w.heap.size w W) (j:Nat) (hj:j<bs.length) :
  ∃b o,A=some ⟨b,o,none⟩∧b<w.heap.size∧W.cell? ⟨b,o+j*3,none⟩=some (.int .u8 bs[j].1)∧W.cell? ⟨b,o+j*3+1,none⟩=some (.int .u8 bs[j].2.1)∧W.cell? ⟨b,o+j*3+2,none⟩=some (.int .u8 bs[j].2.2):=by
 rcases h.2 with h|⟨b,o,rfl,hlt,hc⟩
 ·rw[h]at hj;exact absurd hj (by simp)
 ·obtain⟨h1,h2,h3⟩:=hc j hj;exact⟨b,o,rfl,hlt,(hb.cell hlt).trans h1,(hb.cell hlt).trans h2,(hb.cell hlt).trans h3⟩
end Go.Proofs.YtjhjoiplpmjepaaGreat
namespace Go.Proofs.YtjhjoiplpmjepaaGreat
open Go.RowKit Go.Sort
theorem atP_len:∀(p:List Int) (t u:Tm),Tm.atP p t=some u→p.length+u.size≤t.size
 | [],t,u,h=>by rw[Tm.atP,Option.some.injEq]at h;subst h;exact Nat.le_of_eq (Nat.zero_add _)
 | i::r,t,u,h=>by
  rw[Tm.atP]at h
  cases hk:t.kid i with
  | none=>simp[hk]at h
  | some k=>rw[hk]at h;have h1:=atP_len r k u h;have h2:=qdm (qgj hk);simp only[List.length_cons];omega
theorem qly {W:World} {g:Nat} {a b c d:Value} {rs:List Bd} {RA:Option Addr} {rc:Nat} (h:RepB W (fun k=>k≠g∧k<W.heap.size) rs RA rc) :
  RepB ((((W.setCell ⟨g,0,none⟩ a).setCell ⟨g,1,none⟩ b).setCell ⟨g,2,none⟩ c).setCell ⟨g,3,none⟩ d) (fun k=>k≠g∧k<((((W.setCell ⟨g,0,none⟩ a).setCell ⟨g,1,none⟩ b).setCell ⟨g,2,none⟩ c).setCell ⟨g,3,none⟩ d).heap.size) rs RA rc:=
 RepB.mono (fun k hk=>⟨hk.1,by simp only[World.size_setCell];exact hk.2⟩) (fun q hq=>qao hq.1) h
def nmL:List ByteArray:=[nXor,qdv,nExp,nMul,nInv,nOne]
def RepCh (w:World) (l:List Nat) (A:Option Addr):Prop:=
 (∀x∈l,x<256)∧(l=[]∨∃b o,A=some ⟨b,o,none⟩∧b<w.heap.size∧∀j (h:j<l.length),w.cell? ⟨b,o+j,none⟩=some (.int .u8 l[j]))
attribute [local irreducible] qay
theorem toprw_law (t:Tm) (A:Option Addr) (cap:Nat) (l:List Nat) (L:Option Addr) (cL:Nat) (w:World) (ht:RepT w w.heap.size t A cap) (hl:RepCh w l L) :
  Calls Tryz.prog 5 #[t.val A cap,.slice L l.length cL] w fun e w'=>e=.returned (.bool true)∧Below w.heap.size w w':=by
 have mixed:=mixz;obtain⟨V,hV⟩:∃V,V=w.alloc (qal t A cap):=⟨_,rfl⟩;have hbV:Below w.heap.size w V:=by rw[hV];exact qab (Nat.le_refl _) _
 have hxV:BoxT V w.heap.size t A cap:=by rw[hV];exact BoxT.new ht
 simp only[qal]at hV;have HV:=hdzz hV;have HB:=hdzz hbV;have HX:=hdzz hxV;have HT:=hdzz ht;have HL:=hdzz hl;clear hV hbV hxV ht hl;simp only[Tm.val];go_enter Tryz.func5,Tryz.ntmps5
 go_wp2_with fail
 rw[←HV.out];clear HV;refine(qep V).mono ?_;rintro e w1 ⟨rfl,hb1⟩;have HX1:=hdzz (HX.out.below hb1);have HB1:=sbtz HB hb1;clear hb1 HX HB;obtain⟨x0,x1,x2,x3,xf⟩:=BoxT.cells HX1.out;obtain⟨Z,hZ⟩:∃Z,Z=w1.alloc (.cells #[.int .i64 t.kind,.string t.name,.int .i64 t.sort,.slice A t.kids.length cap] 24):=⟨_,rfl⟩;have hZs:=one_slice HX1.out.2 hZ;have hbZ:Below w1.heap.size w1 Z:=by rw[hZ];exact qab (Nat.le_refl _) _
 have FE:=hdzz (few_any [t] _ 1 1 60 Z (by decide) (by decide) hZs);have HX2:=hdzz (HX1.out.below hbZ);have HB2:=sbtz HB1 hbZ;have HZ:=hdzz hZ;clear hZ hZs hbZ HX1 HB1;go_wp2_with fail
 rw[←HZ.out];refine FE.out.mono ?_;clear FE HZ x0 x1 x2 x3 xf;rintro e w2 ⟨rfl,hl2⟩;have HX3:=hdzz (HX2.out.below hl2.below);have HB3:=sbtz HB2 hl2.below;clear hl2 HX2 HB2;by_cases hle:(([t]:List Tm).length:Int)≤1∧0≤Tm.lefts [t] 60
 rotate_left
 ·rw[decide_eq_false hle];go_wp2_with fail
  refine(qep w2).mono ?_;rintro e w9 ⟨rfl,hb9⟩;go_wp2_with fail
  go_ret
  exact⟨rfl,HB3.out.trans (hb9.mono HB3.out.size)⟩
 have hsz:t.size≤60:=by have:=Tm.lefts_each (by decide) hle.2 t (by simp);omega
 rw[decide_eq_true hle];clear hle;obtain⟨x0,x1,x2,x3,xf⟩:=BoxT.cells HX3.out;have DE:=qm9 t A cap w2 (by omega) HX3.out.2;simp only[Tm.val]at DE;have DE:=hdzz DE;go_wp2_with fail
 refine DE.out.mono ?_;clear DE x0 x1 x2 x3 xf;rintro e w3 ⟨rfl,hb3⟩;have HX4:=hdzz (HX3.out.below hb3);have HB4:=sbtz HB3 hb3;clear hb3 HX3 HB3;by_cases hd:t.validT=0
 rotate_left
 ·have hd':decide (t.validT=0)=false:=decide_eq_false hd;go_wp2_with fail
  refine(qep w3).mono ?_;rintro e w9 ⟨rfl,hb9⟩;go_wp2_with fail
  go_ret
  exact⟨rfl,HB4.out.trans (hb9.mono HB4.out.size)⟩
 have HVT:=hdzz hd;rw[hd];clear hd;by_cases hl0:l=[]
 ·have hl0':l.length=0:=by rw[hl0];rfl
  go_wp2_with fail
  refine(qep w3).mono ?_;rintro e w9 ⟨rfl,hb9⟩;go_wp2_with fail
  go_ret
  exact⟨rfl,HB4.out.trans (hb9.mono HB4.out.size)⟩
 have hlp:0<l.length:=List.length_pos_iff.2 hl0;have hlpI:(0:Int)<(l.length:Int):=by omega
 have hlpb:((l.length:Int)==0)=false:=beq_eq_false_iff_ne.2 (by omega);obtain⟨x0,x1,x2,x3,xf⟩:=BoxT.cells HX4.out;have AL:=rall_any 1000000 t A cap w3 w3.heap.size (by omega) (Nat.le_refl _) (Nat.le_refl _) HX4.out.2;simp only[Tm.val]at AL;have AL:=hdzz AL;go_wp2_with fail
 refine AL.out.mono ?_;clear AL x0 x1 x2 x3 xf;rintro e w4 ⟨Ae,ce,ne,es,rfl,hne,hrow,hb4,hes⟩;have HX5:=hdzz (HX4.out.below hb4);have HB5:=sbtz HB4 hb4;obtain⟨Ae',ce',hve,hse⟩:=hrow.toS (P:=fun b=>b<w4.heap.size) (fun _ _ h=>h) (fun _ _ h=>h);rw[hes]at hse;injection hve with e1 e2 e3;subst e1 e3;obtain⟨q0,q1,q3⟩:=hse;unfold maxLen at q1;have hal:t.all.length≤60:=by rw[Tm.all_length];exact hsz
 have HQ3:=hdzz q3;have HES:=hdzz hes;clear hrow hb4 e2 HX4 HB4 q3 hes q0;rw[hne];clear hne;go_wp2_with fail
 go_loopw [39] (fun iv wr=>∃k:Nat,k≤t.all.length∧iv=.int .i64 k∧Hid (BoxT wr w.heap.size t A cap)∧Hid (Below w.heap.size w wr)∧Hid (Below w4.heap.size w4 wr)∧Hid (∀j (h:j<t.all.length),j<k→¬(t.all[j].kind=3∧algN t.all[j].name))) (fun iv _=>t.all.length - (intOf iv).toNat)
 case atStart=>exact⟨0,Nat.zero_le _,rfl,HX5.out,HB5.out,Below.refl _ _,fun j _ hj=>absurd hj (by omega)⟩
 case round=>
  obtain⟨k,hk,rfl,HX,HB,HBO,HN⟩:=hrel;clear HX5 HB5;have i1:(0:Int)≤(k:Int):=Int.natCast_nonneg _;by_cases hlt:k<t.all.length
  ·have i2:(k:Int)<(t.all.length:Int):=by omega
   rcases HQ3.out with hnil|⟨eb,eo,rfl,heb,hel⟩
   ·rw[hnil]at hlt;simp at hlt
   have hsw:=HBO.out.size;obtain⟨A1,c1,t0,t1,t2,t3,hr1⟩:=(RepLP.mono (P':=fun b=>b<w4.heap.size) (fun _ h=>h) (fun p hp=>HBO.out.cell hp) _ _ _ heb hel:RepLP wr (fun b=>b<w4.heap.size) t.all eb eo).get k hlt;obtain⟨y,hy⟩:∃y,y=t.all[k]:=⟨_,rfl⟩;rw[←hy]at t0 t1 t2 t3 hr1;obtain⟨X,hX⟩:∃X,X=wr.alloc (.cells #[.int .i64 y.kind,.string y.name,.int .i64 y.sort,.slice A1 y.kids.length c1] 24):=⟨_,rfl⟩;have hbX:Below wr.heap.size wr X:=by rw[hX];exact qab (Nat.le_refl _) _
   have hxX:=heap_alloc_new wr (.cells #[.int .i64 y.kind,.string y.name,.int .i64 y.sort,.slice A1 y.kids.length c1] 24);rw[←hX]at hxX;obtain⟨b6,hb6⟩:∃b,b=wr.heap.size:=⟨_,rfl⟩;have h6X:b6<X.heap.size:=by rw[hb6];exact(sltz hxX)
   rw[←hb6]at hxX;have HXX:=hdzz (HX.out.below hbX);have HBX:=sbtz HB hbX;have HBOX:=hdzz (HBO.out.trans (hbX.mono hsw));have HY:=hdzz hy;have HX2:=hdzz hX;have HX6:=hdzz hxX;clear hX hbX hxX hel hr1 hy HX HB HBO;go_upto_region 6 with fail
   rw[←HX2.out,←hb6];clear HX2 hb6 t0 t1 t2 t3 hsw;obtain⟨Y,hY⟩:∃Y,Y=X.alloc (.cells #[.string ⟨#[120,111,114]⟩,.string ⟨#[122,101,114,111]⟩,.string ⟨#[101,120,112]⟩,.string ⟨#[109,117,108]⟩,.string ⟨#[105,110,118]⟩,.string ⟨#[111,110,101]⟩] 9):=⟨_,rfl⟩;have hbY:Below X.heap.size X Y:=by rw[hY];exact qab (Nat.le_refl _) _
   have hxY:=heap_alloc_new X (.cells #[.string ⟨#[120,111,114]⟩,.string ⟨#[122,101,114,111]⟩,.string ⟨#[101,120,112]⟩,.string ⟨#[109,117,108]⟩,.string ⟨#[105,110,118]⟩,.string ⟨#[111,110,101]⟩] 9);rw[←hY]at hxY;obtain⟨b7,hb7⟩:∃b,b=X.heap.size:=⟨_,rfl⟩;have h7Y:b7<Y.heap.size:=by rw[hb7];exact(sltz hxY)
   rw[←hb7]at hxY;have HXY:=hdzz (HXX.out.below hbY);have HBY:=sbtz HBX hbY;have HBOY:=sbtz HBOX hbY;have HY6:=hdzz ((hbY.block _ h6X).trans HX6.out);have h6Y:b6<Y.heap.size:=Nat.lt_of_lt_of_le h6X hbY.size;have HY7:=hdzz hxY;have HY2:=hdzz hY;clear hY hbY hxY HXX HBX HBOX HX6;have hcs:∀q (h:q<6),Y.cell? ⟨b7,q,none⟩=some (.string (nmL[q]'h)):=by
    intro q h
    match q,h with
    | 0,_|1,_|2,_|3,_|4,_|5,_=>simp[World.cell?,HY7.out,nmL,nXor,qdv,nExp,nMul,nInv,nOne]
   have HCS:=hdzz hcs;clear hcs;obtain⟨y0,y1,y2,y3,yf⟩:=qaa HY6.out;go_wp2_with fail
   rw[←HY2.out,←hb7];clear HY2 hb7 y0 y1 y2 y3 yf;generalize wr=wo at *;go_loopw [45] (fun iv wr=>∃q:Nat,q≤6∧iv=.int .i64 q∧Hid (Below Y.heap.size Y wr)∧Hid (∀j (h:j<6),j<q→¬y.isA (nmL[j]'h))) (fun iv _=>6 - (intOf iv).toNat)
   case atStart=>exact⟨0,by omega,rfl,Below.refl _ _,fun j _ hj=>absurd hj (by omega)⟩
   case round=>
    obtain⟨q,hq,rfl,HBq,HNq⟩:=hrel;have j1:(0:Int)≤(q:Int):=Int.natCast_nonneg _;by_cases hqt:q<6
    ·have j2:(q:Int)<6:=by omega
     have hs:=(HBq.out.cell (p:=⟨b7,q,none⟩) h7Y).trans (HCS.out q hqt);have hy6:=(HBq.out.block _ h6Y).trans HY6.out;obtain⟨y0,y1,y2,y3,yf⟩:=qaa hy6;have IS:=ris_any y (nmL[q]'hqt) A1 c1 wr;obtain⟨s,hse⟩:∃s,s=nmL[q]'hqt:=⟨_,rfl⟩;rw[←hse]at hs IS;simp only[Tm.val]at IS;have HSE:=hdzz hse;clear hse hy6;by_cases hA:y.isA s
     ·rw[decide_eq_true hA]at IS;have IS:=hdzz IS;clear hA;go_wp2_with fail
      refine IS.out.mono ?_;clear IS;rintro e w8 ⟨rfl,hl8⟩;go_wp2_with fail
      go_ret
      exact⟨rfl,(HBY.out.trans (HBq.out.mono HBY.out.size)).trans (hl8.below.mono (HBY.out.trans (HBq.out.mono HBY.out.size)).size)⟩
     ·rw[decide_eq_false hA]at IS;have IS:=hdzz IS;have HNA:Hid (∀j (h:j<6),j<q+1→¬y.isA (nmL[j]'h)):=hdzz fun j hj hjq=>by
       rcases Nat.lt_succ_iff_lt_or_eq.1 hjq with h|h
       ·exact HNq.out j hj h
       ·subst h;rw[←HSE.out];exact hA
      clear hA;go_wp2_with fail
      refine IS.out.mono ?_;clear IS;rintro e w8 ⟨rfl,hl8⟩;have HB8:=sbtz HBq hl8.below;go_wp2_with fail
      go_roundw
      case rel=>exact⟨q+1,by omega,by go_num,HB8.out,HNA⟩
      case measure=>simp[intOf];omega
    ·have hqe:q=6:=by omega
     subst hqe;have HN2:Hid (∀j (h:j<t.all.length),j<k+1→¬(t.all[j].kind=3∧algN t.all[j].name)):=hdzz fun j hj hjk=>by
      rcases Nat.lt_succ_iff_lt_or_eq.1 hjk with h|h
      ·exact HN.out j hj h
      ·subst h;rw[←HY.out];rintro⟨h1,h2⟩;rcases h2 with h2|h2|h2|h2|h2|h2
       ·exact HNq.out 0 (by decide) (by decide) ⟨h1,h2⟩
       ·exact HNq.out 1 (by decide) (by decide) ⟨h1,h2⟩
       ·exact HNq.out 2 (by decide) (by decide) ⟨h1,h2⟩
       ·exact HNq.out 3 (by decide) (by decide) ⟨h1,h2⟩
       ·exact HNq.out 4 (by decide) (by decide) ⟨h1,h2⟩
       ·exact HNq.out 5 (by decide) (by decide) ⟨h1,h2⟩
     have HXw:=hdzz (HXY.out.below HBq.out);have HBw:=hdzz (HBY.out.trans (HBq.out.mono HBY.out.size));have HBOw:=hdzz (HBOY.out.trans (HBq.out.mono HBOY.out.size));go_wp2_with fail
     go_roundw
     case rel=>exact⟨k+1,by omega,by go_num,HXw.out,HBw.out,HBOw.out,HN2⟩
     case measure=>simp[intOf];omega
  ·have hke:k=t.all.length:=by omega
   subst hke;have hno:noA t:=noA_of t fun u hu=>by
    obtain⟨j,hj,rfl⟩:=List.getElem_of_mem hu;exact HN.out j hj hj
   have HNO:=hdzz hno;clear HN HBO HQ3 hno;have RU:=hdzz (qpd wr);go_wp2_with fail
   refine RU.out.mono ?_;clear RU;rintro e w5 ⟨RA,rc,rfl,hru,hb5⟩;have HX5:=hdzz (HX.out.below hb5);have HB5:=sbtz HB hb5;obtain⟨x0,x1,x2,x3,xf⟩:=BoxT.cells HX5.out;obtain⟨X6,hX6⟩:∃X,X=w5.alloc (.cells #[.int .i64 t.kind,.string t.name,.int .i64 t.sort,.slice A t.kids.length cap] 24):=⟨_,rfl⟩;obtain⟨g,hg⟩:∃g,g=w5.heap.size:=⟨_,rfl⟩;have hb6:Below w5.heap.size w5 X6:=by rw[hX6];exact qab (Nat.le_refl _) _
   have HW0:Hid (TopW w t A cap g t A cap X6):=hdzz (by
    have h1:=HX5.out.lt;have h2:=HB5.out.size;have h4:X6.heap.size=w5.heap.size+1:=by rw[hX6];simp
    exact⟨(HX5.out.below hb6).1,by rw[hX6,hg];exact heap_alloc_new _ _,by omega,by omega,HB5.out.trans (hb6.mono h2),RepP.mono (fun b h=>⟨by have:b<w5.heap.size:=h;omega,by have:b<w5.heap.size:=h;omega⟩) (fun p hp=>hb6.cell hp) _ _ _ HX5.out.2⟩)
   have HRU0:Hid (RepB X6 (fun b=>b≠g∧b<X6.heap.size) rulesT RA rc):=hdzz (RepB.mono (fun b (h:b<w5.heap.size)=>⟨by omega,Nat.lt_of_lt_of_le h hb6.size⟩) (fun p hp=>hb6.cell hp) hru);have HX7:=hdzz hX6;clear hX6 hb6 hru hb5 HX HB;have HRW0:Hid (Rew t t):=hdzz (Rew.of HVT.out HNO.out);go_upto_region 15 with fail
   rw[←HX7.out,←hg];clear HX7 HX5 HB5 hg x0 x1 x2 x3 xf;go_wp2_with fail
   go_loopw [56] (fun iv wr=>∃(i:Nat) (u:Tm) (Au:Option Addr) (cu:Nat),iv=.int .i64 i∧u.size+i≤60∧Hid (Rew t u)∧Hid (TopW w t A cap g u Au cu wr)∧Hid (RepB wr (fun b=>b≠g∧b<wr.heap.size) rulesT RA rc)) (fun iv _=>80 - (intOf iv).toNat)
   case atStart=>exact⟨0,t,A,cap,rfl,by omega,HRW0.out,HW0.out,HRU0.out⟩
   case round=>
    clear HRW0 HW0 HRU0;obtain⟨i,u,Au,cu,rfl,hui,HRW,HW,HRU⟩:=hrel;have hup:=u.size_pos;have i1:(0:Int)≤(i:Int):=Int.natCast_nonneg _;have i2:(i:Int)<80:=by omega
    have huv:=HRW.out.valid (by omega);have RX:=qpe rulesT RA rc u Au cu wr (by decide) qc5 huv (RepB.mono (fun b h=>h.2) (fun _ _=>rfl) HRU.out) HW.out.ruT;rw[show rulesT.length=6 from rfl]at RX;simp only[Tm.val]at RX;have RX:=hdzz RX;obtain⟨x0,x1,x2,x3,xf⟩:=qaa HW.out.b7;have HUV:=hdzz huv;clear huv;go_wp2_with fail
    refine RX.out.mono ?_;clear RX x0 x1 x2 x3 xf;rintro e w7 ⟨v,its,rfl,hrow,hb7,hok,hno,hil⟩;have HW7:=hdzz (HW.out.go hb7);have HRU7:Hid (RepB w7 (fun b=>b≠g∧b<w7.heap.size) rulesT RA rc):=hdzz (RepB.mono (fun b h=>⟨h.1,Nat.lt_of_lt_of_le h.2 hb7.size⟩) (fun p hp=>hb7.cell hp.2) HRU.out);obtain⟨Ax,cx,rfl⟩:=hrow.form;have HROW:=hdzz hrow;have HOK:=hdzz hok;have HNR:=hdzz hno;have hs7:=hb7.size;clear hb7 hrow hok hno HW HRU;by_cases hne:its=[]
    ·have hnof:=HNR.out hne;have hue:u=t.nf:=HRW.out.done (qix.red HRW.out (by omega) hnof);have hl0:its.length=0:=by rw[hne];rfl
     have HUE:=hdzz hue;have HNF:=hdzz hnof;have hfv:=FineV.of_no HVT.out HNO.out;have NO:=qhb t A cap w7 (fun b=>b<w7.heap.size) (fun _ h=>h) hfv.v hfv.f hfv.n (HW7.out.rt HT.out);simp only[Tm.val]at NO;have NO:=hdzz NO;obtain⟨x0,x1,x2,x3,xf⟩:=qaa HW7.out.b2;clear hne hnof hue hfv HNR HOK HROW;go_wp2_with fail
     refine NO.out.mono ?_;clear NO x0 x1 x2 x3 xf;obtain⟨z,hz⟩:∃z,z=t.nf:=⟨_,rfl⟩;have HZE:=hdzz hz;rw[←hz];clear hz;rintro e w8 ⟨A8,c8,rfl,hr8,hb8⟩;simp only[Tm.val];obtain⟨X8,hX8⟩:∃X,X=w8.alloc (.cells #[.int .i64 z.kind,.string z.name,.int .i64 z.sort,.slice A8 z.kids.length c8] 24):=⟨_,rfl⟩;have hbX:Below w8.heap.size w8 X8:=by rw[hX8];exact qab (Nat.le_refl _) _
     have hxX:=heap_alloc_new w8 (.cells #[.int .i64 z.kind,.string z.name,.int .i64 z.sort,.slice A8 z.kids.length c8] 24);rw[←hX8]at hxX;have hs8:=hb8.size;have HW8:=hdzz ((HW7.out.go hb8).go hbX);have HRU8:Hid (RepB X8 (fun b=>b<X8.heap.size) rulesT RA rc):=hdzz (RepB.mono (fun b h=>by have:=h.2;have:=hbX.size;omega) (fun p hp=>(hbX.cell (by have:=hp.2;omega)).trans (hb8.cell hp.2)) HRU7.out);have HR8:Hid (RepT X8 X8.heap.size z A8 c8):=hdzz (RepP.mono (w:=w8) (fun b h=>by have:=hbX.size;rcases h with h|h<;>omega) (fun q hq=>hbX.cell (by rcases hq with h|h<;>omega)) _ _ _ hr8);have hzs:z.size≤1000000:=by rw[HZE.out,←HUE.out];omega
     have SM:=qls u z Au A8 cu c8 X8 (by omega) hzs HW8.out.ruT HR8.out;rw[Tm.same_iff.2 (HUE.out.trans HZE.out.symm)]at SM;simp only[Tm.val]at SM;have SM:=hdzz SM;have HX8:=hdzz hX8;obtain⟨x0,x1,x2,x3,xf⟩:=qaa HW8.out.b7;obtain⟨z0,z1,z2,z3,zf⟩:=qaa hxX;clear hX8 hbX hxX hr8 hb8 HW7 HRU7;go_upto_region 21 with fail
     rw[←HX8.out];clear HX8;go_wp2_with fail
     refine SM.out.mono ?_;clear SM x0 x1 x2 x3 xf z0 z1 z2 z3 zf;rintro e w9 ⟨rfl,hl9⟩;have HW9:=hdzz (HW8.out.go hl9.below);have IN:=qj8 rulesT RA rc u Au cu w9 (by decide) qc5 HUV.out HNF.out (RepB.mono (fun b (h:b<X8.heap.size)=>Nat.lt_of_lt_of_le h hl9.size) (fun p hp=>hl9.below.cell hp) HRU8.out) HW9.out.ruT;rw[show rulesT.length=6 from rfl]at IN;simp only[Tm.val]at IN;have IN:=hdzz IN;obtain⟨x0,x1,x2,x3,xf⟩:=qaa HW9.out.b7;clear hl9 HW8 HRU8;go_wp2_with fail
     refine IN.out.mono ?_;clear IN x0 x1 x2 x3 xf;rintro e w10 ⟨rfl,hb10⟩;have HW10:=hdzz (HW9.out.go hb10);go_wp2_with fail
     go_ret
     exact⟨rfl,HW10.out.bel⟩
    ·have hlp2:0<its.length:=List.length_pos_iff.2 hne;clear HNR;obtain⟨r,hr⟩:∃r,r=i % l.length:=⟨_,rfl⟩;have hrl:r<l.length:=by rw[hr];exact Nat.mod_lt _ hlp
     obtain⟨cv,hcv⟩:∃v,v=l[r]'hrl:=⟨_,rfl⟩;have hcv1:cv<256:=HL.out.1 cv (by rw[hcv];exact List.getElem_mem _);obtain⟨j,hj⟩:∃j,j=cv % its.length:=⟨_,rfl⟩;have hjl:j<its.length:=by rw[hj];exact Nat.mod_lt _ hlp2
     obtain⟨cb,co,hLe,hcb,hcc⟩:∃cb co,L=some ⟨cb,co,none⟩∧cb<w.heap.size∧w7.cell? ⟨cb,co+r,none⟩=some (.int .u8 cv):=by
      rcases HL.out.2 with h|⟨b,o,hA,hb,hc⟩
      ·exact absurd h hl0
      ·exact⟨b,o,hA,hb,(HW7.out.bel.cell hb).trans (by rw[hcv];exact hc r hrl)⟩
     subst hLe;obtain⟨gx,hgx,hx0,hx1⟩:=HROW.out.slot j hjl;subst hgx;obtain⟨x,hx⟩:∃x,x=its[j]'hjl:=⟨_,rfl⟩;rw[←hx]at hx0 hx1;have hgl:gx<w7.heap.size:=(HROW.out.lt gx rfl).2;obtain⟨ii,p,Ap,cp⟩:=x;have hxm:(ii,p,Ap,cp)∈its:=by rw[hx];exact List.getElem_mem _
     have hri:=HROW.out.reps _ hxm;obtain⟨y,hst,hrw2,hlt⟩:=HRW.out.ok (by omega) (HOK.out _ hxm);have hpl:p.length≤1000000:=by
      obtain⟨v,hv,_⟩:=hst.pt;have:=atP_len p u v hv;omega
     simp only at hst hrw2 hlt hri hx0 hx1;obtain⟨z,hz⟩:∃z,z=Tm.putP p u y:=⟨_,rfl⟩;have HST:=hdzz hst;have HZ:=hdzz hz;rw[←hz]at hrw2 hlt;have HRWZ:=hdzz hrw2;have HLT:=hdzz hlt;have r0:(0:Int)≤(r:Int):=Int.natCast_nonneg _;have r1:(r:Int)<(l.length:Int):=by omega
     have r2:(i:Int) % (l.length:Int)=(r:Int):=by rw[hr];exact(Int.natCast_emod _ _).symm
     have r3:Int.tmod (i:Int) (l.length:Int)=(r:Int):=by rw[Int.tmod_eq_emod_of_nonneg (by omega)];exact r2
     have cw:IntKind.i64.wrap (cv:Int)=cv:=IntWalk.i64_in _ ⟨by omega,by omega⟩;have j0:(0:Int)≤(j:Int):=Int.natCast_nonneg _;have j1:(j:Int)<(its.length:Int):=by omega
     have j2:(cv:Int) % (its.length:Int)=(j:Int):=by rw[hj];exact(Int.natCast_emod _ _).symm
     have j3:Int.tmod (cv:Int) (its.length:Int)=(j:Int):=by rw[Int.tmod_eq_emod_of_nonneg (by omega)];exact j2
     have j4:((its.length:Int)==0)=false:=beq_eq_false_iff_ne.2 (by omega);have hil2:(its.length:Int)<9223372036854775808:=by omega
     have HRI:=hdzz hri;clear hst hz hrw2 hlt hri hxm hx hj hr hcv HOK HROW HL HRW;go_wp2_with fail
     refine qae (fun Y=>Below w7.drew.heap.size w7.drew Y) (fun _=>True) [] (.held 0 (.held 1 (.held 2 (.held 3 (.held 4 (.held 5 (.held 6 (.held 7 (.held 8 (.held 9 (.held 10 (.held 11 (.held 12 (.held 13 (.held 14 (.held 15 (.two 16 20 (.held 17 (.held 18 (.held 19 (.op 20 (.op 21 (.op 22 .nil)))))) (.op 16 (.held 17 (.held 18 (.held 19 (.op 21 (.op 22 .nil))))))))))))))))))))))) mixed (by kernel_rfl) ?_;have HW7:=hdzz (HW7.out.go (Below.refl _ _).drew);have HRU7:Hid (RepB w7.drew (fun b=>b≠g∧b<w7.drew.heap.size) rulesT RA rc):=HRU7;have HRI:Hid (RepI w7.drew (fun b=>b<w7.drew.heap.size) p Ap cp):=hdzz (RepI.mono (fun b h=>h.2.1) (fun _ _=>rfl) HRI.out);have hcc:w7.drew.cell? ⟨cb,co+r,none⟩=some (.int .u8 cv):=hcc;have hx0:w7.drew.cell? ⟨gx,j*2,none⟩=some (.int .i64 ii):=hx0
     have hx1:w7.drew.cell? ⟨gx,j*2+1,none⟩=some (.slice Ap p.length cp):=hx1;have hgl:gx<w7.drew.heap.size:=hgl;clear hs7;generalize w7.drew=D at *;obtain⟨x0,x1,x2,x3,xf⟩:=qaa HW7.out.b7;have hgD:=HW7.out.lt;have hcD:cb<D.heap.size:=by have:=HW7.out.hg;omega
     refine stkz (.slice RA 6 rc) rfl rfl rfl (fun _ _ _ h=>h) (Below.refl _ _) (fun Y hY=>by
       (try simp only[Act.put]);go_simp) ?_
     refine stkz (.agg #[.int .i64 u.kind,.string u.name,.int .i64 u.sort,.slice Au u.kids.length cu]) rfl rfl rfl (fun _ _ _ h=>h) (Below.refl _ _) (fun Y hY=>by
       have z0:=sclz hY x0 (by omega);have z1:=sclz hY x1 (by omega);have z2:=sclz hY x2 (by omega);have z3:=sclz hY x3 (by omega)
       (try simp only[Act.put]);go_simp) ?_
     refine stkz (.slice (some ⟨gx,0,none⟩) its.length cx) rfl rfl rfl (fun _ _ _ h=>h) (Below.refl _ _) (fun Y hY=>by
       (try simp only[Act.put]);go_simp) ?_
     refine stkz (.slice (some ⟨cb,co,none⟩) l.length cL) rfl rfl rfl (fun _ _ _ h=>h) (Below.refl _ _) (fun Y hY=>by
       (try simp only[Act.put]);go_simp) ?_
     try simp only[Act.put,fsa,fsb,fsc,fsd,fse,fsf]
     refine stkz (.int .i64 i) rfl rfl rfl (fun _ _ _ h=>h) (Below.refl _ _) (fun Y hY=>by
       (try simp only[Act.put]);go_simp) ?_
     refine stkz (.slice (some ⟨cb,co,none⟩) l.length cL) rfl rfl rfl (fun _ _ _ h=>h) (Below.refl _ _) (fun Y hY=>by
       (try simp only[Act.put]);go_simp) ?_
     refine stkz (.int .i64 l.length) rfl rfl rfl (fun _ _ _ h=>h) (Below.refl _ _) (fun Y hY=>by
       (try simp only[Act.put]);go_simp) ?_
     refine stkz (.int .i64 r) rfl rfl rfl (fun _ _ _ h=>h) (Below.refl _ _) (fun Y hY=>by
       (try simp only[Act.put]);go_simp) ?_
     try simp only[Act.put,fsa,fsb,fsc,fsd,fse,fsf]
     refine stkz (.pointer (some ⟨cb,co+r,none⟩)) rfl rfl rfl (fun _ _ _ h=>h) (Below.refl _ _) (fun Y hY=>by
       (try simp only[Act.put]);go_simp) ?_
     refine stkz (.int .u8 cv) rfl rfl rfl (fun _ _ _ h=>h) (Below.refl _ _) (fun Y hY=>by
       have z0:=sclz hY hcc (by omega)
       (try simp only[Act.put]);go_simp) ?_
     refine stkz (.int .i64 cv) rfl rfl rfl (fun _ _ _ h=>h) (Below.refl _ _) (fun Y hY=>by
       (try simp only[Act.put]);go_simp) ?_
     refine stkz (.slice (some ⟨gx,0,none⟩) its.length cx) rfl rfl rfl (fun _ _ _ h=>h) (Below.refl _ _) (fun Y hY=>by
       (try simp only[Act.put]);go_simp) ?_
     try simp only[Act.put,fsa,fsb,fsc,fsd,fse,fsf]
     refine stkz (.int .i64 its.length) rfl rfl rfl (fun _ _ _ h=>h) (Below.refl _ _) (fun Y hY=>by
       (try simp only[Act.put]);go_simp) ?_
     refine stkz (.int .i64 j) rfl rfl rfl (fun _ _ _ h=>h) (Below.refl _ _) (fun Y hY=>by
       (try simp only[Act.put]);go_simp) ?_
     refine stkz (.pointer (some ⟨gx,j*2,none⟩)) rfl rfl rfl (fun _ _ _ h=>h) (Below.refl _ _) (fun Y hY=>by
       (try simp only[Act.put]);go_simp) ?_
     refine stkz (.agg #[.int .i64 ii,.slice Ap p.length cp]) rfl rfl rfl (fun _ _ _ h=>h) (Below.refl _ _) (fun Y hY=>by
       have z0:=sclz hY hx0 (by omega);have z1:=sclz hY hx1 (by omega)
       (try simp only[Act.put]);go_simp) ?_
     try simp only[Act.put,fsa,fsb,fsc,fsd,fse,fsf]
     clear x0 x1 x2 x3 xf hcc hx0 hx1 r0 r1 r2 r3 j0 j1 j2 j3 j4 hil2 cw hne;refine mix4_two ?_ ?_
     ·refine qar (i:=16) rfl rfl (fun K hK=>?_);have HWa:=hdzz (HW7.out.go (hdzz (Below.refl D.heap.size D)).out);have AP:=qi7 rulesT RA rc u Au cu ii p Ap cp y D (by decide) qc5 HUV.out hpl HST.out (RepB.mono (fun b h=>Nat.lt_of_lt_of_le h.2 (hdzz (Below.refl D.heap.size D)).out.size) (fun q hq=>(hdzz (Below.refl D.heap.size D)).out.cell hq.2) HRU7.out) HWa.out.ruT (RepI.mono (fun b (h:b<D.heap.size)=>Nat.lt_of_lt_of_le h (hdzz (Below.refl D.heap.size D)).out.size) (fun q hq=>(hdzz (Below.refl D.heap.size D)).out.cell hq) HRI.out);rw[show rulesT.length=6 from rfl,←HZ.out]at AP;simp only[Tm.val]at AP;have AP:=hdzz AP;go_wp2_with fail
      refine AP.out.mono ?_;clear AP;rintro e w8 ⟨Az,cz,rfl,hrz,hb⟩;simp only[Tm.val];have HBc:=hdzz ((hdzz (Below.refl D.heap.size D)).out.trans (hb.mono (hdzz (Below.refl D.heap.size D)).out.size));have hsb:=hb.size;have hsB:=(hdzz (Below.refl D.heap.size D)).out.size;have HRz:Hid (RepP w8 (fun b=>b≠g∧b<w8.heap.size) z Az cz):=hdzz (RepP.mono (w:=w8) (P:=fun b=>D.heap.size≤b∧b<w8.heap.size) (fun b h=>⟨by omega,h.2⟩) (fun _ _=>rfl) _ _ _ hrz);refine hK _ _ ⟨⟨fun _=>HBc.out,trivial⟩,?_⟩;clear hb hsb hsB hrz HWa
      try simp only[Act.put,fsa,fsb,fsc,fsd,fse,fsf]
      refine qaq (i:=17) (v:=.tuple #[.agg #[.int .i64 z.kind,.string z.name,.int .i64 z.sort,.slice Az z.kids.length cz],.int .i64 0]) rfl rfl rfl (fun _ _ _ h=>h) HBc.out trivial (fun Y hY hY2=>by
        (try simp only[Act.put]);go_simp) ?_
      refine qaq (i:=18) (v:=.agg #[.int .i64 z.kind,.string z.name,.int .i64 z.sort,.slice Az z.kids.length cz]) rfl rfl rfl (fun _ _ _ h=>h) HBc.out trivial (fun Y hY hY2=>by
        (try simp only[Act.put]);go_simp) ?_
      refine qaq (i:=19) (v:=.int .i64 0) rfl rfl rfl (fun _ _ _ h=>h) HBc.out trivial (fun Y hY hY2=>by
        (try simp only[Act.put]);go_simp) ?_
      try simp only[Act.put,fsa,fsb,fsc,fsd,fse,fsf]
      refine qar (i:=20) rfl rfl (fun K hK=>?_);obtain⟨w9,hEQ⟩:∃Z,Z=w8.alloc (.cells #[.int .i64 0,.string ⟨#[]⟩,.int .i64 0,.slice none 0 0] 24):=⟨_,rfl⟩;have hx2:=heap_alloc_new w8 (.cells #[.int .i64 0,.string ⟨#[]⟩,.int .i64 0,.slice none 0 0] 24);have hb2:Below w8.heap.size w8 w9:=by rw[hEQ];exact qab (Nat.le_refl _) _
      rw[←hEQ]at hx2;go_wp2_with fail
      rw[←hEQ];have HBd:=sbtz HBc hb2;have HLn:=hdzz hx2;have HRy:Hid (RepP w9 (fun b=>b≠w8.heap.size∧b≠g∧b<w9.heap.size) z Az cz):=hdzz (RepP.mono (w:=w8) (P:=fun b=>b≠g∧b<w8.heap.size) (fun b h=>⟨by omega,h.1,Nat.lt_of_lt_of_le h.2 hb2.size⟩) (fun q hq=>hb2.cell hq.2) _ _ _ HRz.out);have hs8:=HBc.out.size;refine⟨⟨fun _=>HBd.out,trivial⟩,?_⟩;clear hEQ hx2 hb2
      try simp only[Act.put,fsa,fsb,fsc,fsd,fse,fsf]
      refine qar (i:=21) rfl rfl (fun K hK=>?_);obtain⟨Zs,hZ,hxZ,hbZ,hsZ,hcZ,-⟩:=qcw (W:=w9) (B:=w8.heap.size) (a:=.int .i64 z.kind) (b:=.string z.name) (c:=.int .i64 z.sort) (d:=.slice Az z.kids.length cz) HLn.out;obtain⟨o0,o1,o2,o3,of_⟩:=qaa HLn.out;have HBz:=hdzz (HBd.out.trans (hbZ.mono (by omega)));have HXZ:=hdzz hxZ;have HRs:Hid (RepP Zs (fun b=>b≠g∧b<Zs.heap.size) z Az cz):=hdzz (RepP.mono (fun b h=>⟨h.2.1,by rw[hsZ];exact h.2.2⟩) (fun q hq=>hcZ q hq.1) _ _ _ HRy.out);go_wp2_with fail
      rw[←hZ];refine⟨⟨fun _=>HBz.out,trivial⟩,?_⟩;clear hZ hxZ hbZ hsZ hcZ o0 o1 o2 o3 of_;refine qar (i:=22) rfl rfl (fun K hK=>?_);go_wp2_with fail
      refine⟨⟨fun _=>HBz.out,trivial⟩,qat ?_⟩;have HWz:=hdzz (HW7.out.go HBz.out);have HRUz:Hid (RepB Zs (fun b=>b≠g∧b<Zs.heap.size) rulesT RA rc):=hdzz (RepB.mono (fun b h=>⟨h.1,Nat.lt_of_lt_of_le h.2 HBz.out.size⟩) (fun q hq=>HBz.out.cell hq.2) HRU7.out);have HWS:=hdzz (HWz.out.set HRs.out);have hlt:=HLT.out;obtain⟨z0,z1,z2,z3,zf⟩:=qaa HXZ.out;obtain⟨y0,y1,y2,y3,yf⟩:=qaa HWz.out.b7;have HRUs:=hdzz (qly (a:=.int .i64 z.kind) (b:=.string z.name) (c:=.int .i64 z.sort) (d:=.slice Az z.kids.length cz) HRUz.out);go_wp2_with fail
      go_roundw
      case measure=>simp[intOf];omega
      case rel=>exact⟨i+1,z,Az,cz,by go_num,by omega,HRWZ.out,HWS.out,HRUs.out⟩
     ·refine qar (i:=20) rfl rfl (fun K hK=>?_);obtain⟨w8,hEQ⟩:∃Z,Z=D.alloc (.cells #[.int .i64 0,.string ⟨#[]⟩,.int .i64 0,.slice none 0 0] 24):=⟨_,rfl⟩;have hx2:=heap_alloc_new D (.cells #[.int .i64 0,.string ⟨#[]⟩,.int .i64 0,.slice none 0 0] 24);have hb2:Below D.heap.size D w8:=by rw[hEQ];exact qab (Nat.le_refl _) _
      rw[←hEQ]at hx2;go_wp2_with fail
      rw[←hEQ];have HBq:=hdzz hb2;have HL20:=hdzz hx2;refine⟨⟨fun _=>HBq.out,trivial⟩,?_⟩;clear hEQ hx2 hb2
      try simp only[Act.put,fsa,fsb,fsc,fsd,fse,fsf]
      refine qar (i:=16) rfl rfl (fun K hK=>?_);have HWa:=hdzz (HW7.out.go HBq.out);have AP:=qi7 rulesT RA rc u Au cu ii p Ap cp y w8 (by decide) qc5 HUV.out hpl HST.out (RepB.mono (fun b h=>Nat.lt_of_lt_of_le h.2 HBq.out.size) (fun q hq=>HBq.out.cell hq.2) HRU7.out) HWa.out.ruT (RepI.mono (fun b (h:b<D.heap.size)=>Nat.lt_of_lt_of_le h HBq.out.size) (fun q hq=>HBq.out.cell hq) HRI.out);rw[show rulesT.length=6 from rfl,←HZ.out]at AP;simp only[Tm.val]at AP;have AP:=hdzz AP;go_wp2_with fail
      refine AP.out.mono ?_;clear AP;rintro e w9 ⟨Az,cz,rfl,hrz,hb⟩;simp only[Tm.val];have HBc:=sbtz HBq hb;have hsb:=hb.size;have hsB:=HBq.out.size;have HLn:=hbl hb HL20;have hlt20:D.heap.size<w8.heap.size:=(sltz HL20.out);have HRz:Hid (RepP w9 (fun b=>b≠D.heap.size∧b≠g∧b<w9.heap.size) z Az cz):=hdzz (RepP.mono (w:=w9) (P:=fun b=>w8.heap.size≤b∧b<w9.heap.size) (fun b h=>⟨by omega,by omega,h.2⟩) (fun _ _=>rfl) _ _ _ hrz);clear hlt20;refine hK _ _ ⟨⟨fun _=>HBc.out,trivial⟩,?_⟩;clear hb hsb hsB hrz HWa
      try simp only[Act.put,fsa,fsb,fsc,fsd,fse,fsf]
      refine qaq (i:=17) (v:=.tuple #[.agg #[.int .i64 z.kind,.string z.name,.int .i64 z.sort,.slice Az z.kids.length cz],.int .i64 0]) rfl rfl rfl (fun _ _ _ h=>h) HBc.out trivial (fun Y hY hY2=>by
        (try simp only[Act.put]);go_simp) ?_
      refine qaq (i:=18) (v:=.agg #[.int .i64 z.kind,.string z.name,.int .i64 z.sort,.slice Az z.kids.length cz]) rfl rfl rfl (fun _ _ _ h=>h) HBc.out trivial (fun Y hY hY2=>by
        (try simp only[Act.put]);go_simp) ?_
      refine qaq (i:=19) (v:=.int .i64 0) rfl rfl rfl (fun _ _ _ h=>h) HBc.out trivial (fun Y hY hY2=>by
        (try simp only[Act.put]);go_simp) ?_
      try simp only[Act.put,fsa,fsb,fsc,fsd,fse,fsf]
      have HBd:=HBc;have HRy:=HRz;refine qar (i:=21) rfl rfl (fun K hK=>?_);obtain⟨Zs,hZ,hxZ,hbZ,hsZ,hcZ,-⟩:=qcw (W:=w9) (B:=D.heap.size) (a:=.int .i64 z.kind) (b:=.string z.name) (c:=.int .i64 z.sort) (d:=.slice Az z.kids.length cz) HLn.out;obtain⟨o0,o1,o2,o3,of_⟩:=qaa HLn.out;have HBz:=hdzz (HBd.out.trans (hbZ.mono (by omega)));have HXZ:=hdzz hxZ;have HRs:Hid (RepP Zs (fun b=>b≠g∧b<Zs.heap.size) z Az cz):=hdzz (RepP.mono (fun b h=>⟨h.2.1,by rw[hsZ];exact h.2.2⟩) (fun q hq=>hcZ q hq.1) _ _ _ HRy.out);go_wp2_with fail
      rw[←hZ];refine⟨⟨fun _=>HBz.out,trivial⟩,?_⟩;clear hZ hxZ hbZ hsZ hcZ o0 o1 o2 o3 of_;refine qar (i:=22) rfl rfl (fun K hK=>?_);go_wp2_with fail
      refine⟨⟨fun _=>HBz.out,trivial⟩,qat ?_⟩;have HWz:=hdzz (HW7.out.go HBz.out);have HRUz:Hid (RepB Zs (fun b=>b≠g∧b<Zs.heap.size) rulesT RA rc):=hdzz (RepB.mono (fun b h=>⟨h.1,Nat.lt_of_lt_of_le h.2 HBz.out.size⟩) (fun q hq=>HBz.out.cell hq.2) HRU7.out);have HWS:=hdzz (HWz.out.set HRs.out);have hlt:=HLT.out;obtain⟨z0,z1,z2,z3,zf⟩:=qaa HXZ.out;obtain⟨y0,y1,y2,y3,yf⟩:=qaa HWz.out.b7;have HRUs:=hdzz (qly (a:=.int .i64 z.kind) (b:=.string z.name) (c:=.int .i64 z.sort) (d:=.slice Az z.kids.length cz) HRUz.out);go_wp2_with fail
      go_roundw
      case measure=>simp[intOf];omega
      case rel=>exact⟨i+1,z,Az,cz,by go_num,by omega,HRWZ.out,HWS.out,HRUs.out⟩
end Go.Proofs.YtjhjoiplpmjepaaGreat
namespace Go.Proofs.YtjhjoiplpmjepaaGreat
open Go.ChangeShapes Go.WideShapes Go.Deep Go.Joins Go.RowKit
theorem qo1:Tryz.prog.cellsOf 5=1:=by kernel_rfl
theorem cellsBe:Tryz.prog.cellsOf 33=3:=by kernel_rfl
theorem fieldsBe:∃f0 f1 f2:Field,Tryz.prog.underlying 33=some (.struct #[f0,f1,f2])∧(f0.type = 5∧f0.offset=0)∧(f1.type = 5∧f1.offset=1)∧(f2.type = 5∧f2.offset=2):=
 ⟨_,_,_,Tryz.underlying33,⟨rfl,rfl⟩,⟨rfl,rfl⟩,⟨rfl,rfl⟩⟩
section
variable {H:Type} {enc:TypeId×Value→H} {w:World} {base:Nat} {spare:Nat→Bool} {held:Bool}
theorem qgf {n:Nat} {c:Value} {x:DataW H×List MemPlace} (h:DataW.trod enc Tryz.prog w base spare held n 5 [c]=some x):∃z:Nat,c=.int .u8 z∧z<256:=by
 obtain⟨z,hz,-,hwf⟩:=DataW.trod_int Tryz.underlying5 h;simp only[List.cons.injEq,and_true]at hz;have hr:0≤z∧z<256:=by
  have e1:IntKind.u8.min=0:=by rfl
  have e2:IntKind.u8.max=255:=by rfl
  simp[Lit.wf,e1,e2]at hwf;omega
 exact⟨z.toNat,by rw[hz];congr 1;omega,by omega⟩
theorem open_bend (n:Nat) (cs:List Value) (x:DataW H×List MemPlace) (h:DataW.trod enc Tryz.prog w base spare held n 33 cs=some x) :
  ∃b:Nat×Nat×Nat,cs=[.int .u8 b.1,.int .u8 b.2.1,.int .u8 b.2.2]∧b.1<256∧b.2.1<256∧b.2.2<256:=by
 obtain⟨f0,f1,f2,hu,⟨t0,o0⟩,⟨t1,o1⟩,⟨t2,o2⟩⟩:=fieldsBe;obtain⟨xs,m,rfl,-,hcl,hxl,hf⟩:=DataW.trod_struct hu h;rw[cellsBe]at hcl;simp only[List.size_toArray,List.length_cons,List.length_nil]at hxl
 match cs,hcl,xs,hxl with
 | [c0,c1,c2],_,[x0,x1,x2],_=>
  have g0:=hf 0 f0 rfl;have g1:=hf 1 f1 rfl;have g2:=hf 2 f2 rfl;rw[t0,o0,qo1]at g0;rw[t1,o1,qo1]at g1;rw[t2,o2,qo1]at g2;obtain⟨a,rfl,ha⟩:=qgf g0;obtain⟨b,rfl,hb⟩:=qgf g1;obtain⟨c,rfl,hc⟩:=qgf g2;exact⟨(a,b,c),rfl,ha,hb,hc⟩
theorem open_bends {v:Value} {d:DataW H} {p:List MemPlace} {r:Reach} {b0:Nat} (hv:Value.okWide Tryz.prog w r b0 25 v) (h:DataW.Trod enc Tryz.prog w base spare held 25 v d p) :
  ∃(l:List (Nat×Nat×Nat)) (A:Option Addr) (cap:Nat),v=.slice A l.length cap∧RepBd w l A:=by
 obtain⟨A,len,cap,rfl⟩:=okWide_slice Tryz.underlying25 hv;obtain⟨n,hn⟩:=h;rcases DataW.trod_slice Tryz.underlying25 hn with⟨hn,-⟩|⟨a,len',cap',elems,rest,j,hj,hn,hx,-,hl,hm,hlen,hel,-,-⟩
 ·simp[Value.cells]at hn;obtain⟨rfl,rfl,rfl⟩:=hn;exact⟨[],none,0,rfl,fun x hx=>by simp at hx,.inl rfl⟩
 ·simp[Value.cells]at hn;obtain⟨rfl,rfl,rfl⟩:=hn;have step:∀i,i<len→∃b:Nat×Nat×Nat,(∀j,j<3→w.cell? ((a.add (i*3)).add j)=([.int .u8 b.1,.int .u8 b.2.1,.int .u8 b.2.2]:List Value)[j]?)∧b.1<256∧b.2.1<256∧b.2.2<256:=fun i hi=>by
   have h:=hel i hi;rw[List.getElem?_eq_getElem (by omega),cellsBe]at h;obtain⟨cs,hc,ht⟩:=Option.bind_eq_some_iff.1 h;obtain⟨b,rfl,hr⟩:=open_bend j _ _ ht;exact⟨b,(World.cells?_some hc).2.2,hr⟩
  obtain⟨f,hf⟩:=choose_lt step;refine⟨(List.range len).map f,some a,cap,by simp,fun x hx=>?_,?_⟩
  ·obtain⟨i,hi,rfl⟩:=List.mem_map.1 hx;exact(hf i (by simpa using hi)).2
  by_cases h0:len=0
  ·left;subst h0;rfl
  right;have h000:=(hf 0 (by omega)).1 0 (by omega);simp only[Nat.zero_mul,Addr.add,if_true,List.getElem?_cons_zero]at h000;have hs:=World.cell?_spot h000;have hb:=World.block_lt h000;obtain⟨b,off,sp⟩:=a;subst hs;refine⟨b,off,rfl,hb,fun i hi=>?_⟩;have hc:=(hf i (by simpa using hi)).1;have e:∀j,((⟨b,off,none⟩:Addr).add (i*3)).add j=⟨b,off+i*3+j,none⟩:=fun j=>by
   rw[add_add];unfold Addr.add;split
   ·rename_i h;rw[show off+i*3+j=off by omega]
   ·rw[Nat.add_assoc]
  have ei:((List.range len).map f)[i]=f i:=by simp
  rw[ei];refine⟨?_,?_,?_⟩
  ·have:=hc 0 (by omega);rw[e]at this;simpa using this
  ·have:=hc 1 (by omega);rw[e]at this;simpa using this
  ·have:=hc 2 (by omega);rw[e]at this;simpa using this
end
section
variable {H:Type} {enc:TypeId×Value→H} {w:World} {base:Nat} {spare:Nat→Bool} {held:Bool}
theorem ql4 {v:Value} {d:DataW H} {p:List MemPlace} {r:Reach} {b0:Nat} (hv:Value.okWide Tryz.prog w r b0 44 v) (h:DataW.Trod enc Tryz.prog w base spare held 44 v d p) :
  ∃(l:List Nat) (A:Option Addr) (cap:Nat),v=.slice A l.length cap∧RepCh w l A:=by
 obtain⟨A,len,cap,rfl⟩:=okWide_slice Tryz.underlying44 hv;obtain⟨n,hn⟩:=h;rcases DataW.trod_slice Tryz.underlying44 hn with⟨hn,-⟩|⟨a,len',cap',elems,rest,j,hj,hn,hx,-,hl,hm,hlen,hel,-,-⟩
 ·simp[Value.cells]at hn;obtain⟨rfl,rfl,rfl⟩:=hn;exact⟨[],none,0,rfl,fun x hx=>by simp at hx,.inl rfl⟩
 ·simp[Value.cells]at hn;obtain⟨rfl,rfl,rfl⟩:=hn;have step:∀i,i<len→∃b:Nat,(∀j,j<1→w.cell? ((a.add (i*1)).add j)=([.int .u8 b]:List Value)[j]?)∧b<256:=fun i hi=>by
   have h:=hel i hi;rw[List.getElem?_eq_getElem (by omega),qo1]at h;obtain⟨cs,hc,ht⟩:=Option.bind_eq_some_iff.1 h;have hcs:=(World.cells?_some hc).2.1
   match cs,hcs,hc,ht with
   | [c],_,hc,ht=>
    obtain⟨b,rfl,hr⟩:=qgf ht;exact⟨b,(World.cells?_some hc).2.2,hr⟩
  obtain⟨f,hf⟩:=choose_lt step;refine⟨(List.range len).map f,some a,cap,by simp,fun x hx=>?_,?_⟩
  ·obtain⟨i,hi,rfl⟩:=List.mem_map.1 hx;exact(hf i (by simpa using hi)).2
  by_cases h0:len=0
  ·left;subst h0;rfl
  right;have h000:=(hf 0 (by omega)).1 0 (by omega);simp only[Nat.zero_mul,Addr.add,if_true,List.getElem?_cons_zero]at h000;have hs:=World.cell?_spot h000;have hb:=World.block_lt h000;obtain⟨b,off,sp⟩:=a;subst hs;refine⟨b,off,rfl,hb,fun i hi=>?_⟩;have hc:=(hf i (by simpa using hi)).1;have e:((⟨b,off,none⟩:Addr).add (i*1)).add 0=⟨b,off+i,none⟩:=by
   rw[add_add];unfold Addr.add;split
   ·rename_i h;rw[show off+i=off by omega]
   ·rw[Nat.add_zero,Nat.mul_one]
  have ei:((List.range len).map f)[i]=f i:=by simp
  rw[ei];have:=hc 0 (by omega);rw[e]at this;simpa using this
end
end Go.Proofs.YtjhjoiplpmjepaaGreat
