/- Tawake, Tlaw2, Topen (joined by shake.py). -/
import Derived.Test.YtjhjoiplpmjepaaGreatL0
import Derived.Test.YtjhjoiplpmjepaaGreatLGi
import Derived.Test.YtjhjoiplpmjepaaGreatL16
import Derived.Test.YtjhjoiplpmjepaaGreatL18
import Derived.Test.YtjhjoiplpmjepaaGreatL19
import Derived.Test.YtjhjoiplpmjepaaGreatL23
import Derived.Test.YtjhjoiplpmjepaaGreatL24
import Derived.Deep.CutRange
set_option maxRecDepth 100000
set_option linter.unusedVariables false
set_option linter.unusedSimpArgs false
set_option maxHeartbeats 64000000
namespace Go.Proofs.YtjhjoiplpmjepaaGreat
open Go.RowKit Go.Sort
def aA:Tm:=.mk 2 ⟨#[97]⟩ 0 []
def kA:Tm:=.mk 2 ⟨#[107]⟩ 3 []
def tA:Tm:=.mk 3 nDec 0 [.mk 3 nEnc 0 [aA,kA],kA]
theorem tA_valid:tA.valid=0:=by rfl
theorem tA_text:tA.text=[100,101,99,40,101,110,99,40,97,58,97,110,121,44,32,107,58,107,101,121,41,44,32,107,58,107,101,121,41]:=by rfl
theorem tA_validT:tA.validT=0:=by rfl
theorem tA_fine:qce tA:=by
 have ha:qce aA:=by unfold aA;rw[qce];exact fun h=>absurd h (by decide)
 have hk:qce kA:=by unfold kA;rw[qce];exact fun h=>absurd h (by decide)
 unfold tA;rw[qce];refine fun _=>⟨?_,qks (by unfold desN;simp)⟩;rw[qd9,qd9,qd9];refine⟨?_,hk,trivial⟩;rw[qce];refine fun _=>⟨?_,qgr (by decide) (by decide) (by decide)⟩;rw[qd9,qd9,qd9];exact⟨ha,hk,trivial⟩
theorem tA_nf:tA.nf=aA:=by
 have he:(Tm.mk 3 nEnc 0 [aA,kA]).nf=.mk 3 nEnc 0 [aA,kA]:=by
  rw[Tm.nf,if_pos rfl,qc0,qbd (by decide) (by decide) (by decide) (by decide)];rfl
 unfold tA;rw[Tm.nf,if_pos rfl,qc0,List.map_cons,he,qa6 (by unfold desN;simp),qdq (by unfold fitD;exact .inr (.inr (.inl ⟨rfl,⟨rfl,rfl⟩,rfl⟩)))];rfl
theorem aA_valid:aA.valid=0:=by rfl
theorem tA_parse:qd4 [100,101,99,40,101,110,99,40,97,58,97,110,121,44,32,107,58,107,101,121,41,44,32,107,58,107,101,121,41]=(tA,0):=by rw[←tA_text];exact qlm tA_valid
theorem qeg (w:World):Calls Tryz.prog 6 #[] w fun e w'=>e=.returned (.bool true)∧Below w.heap.size w w':=by
 have mixed:=mixz;have PA:=qmz ⟨#[100,101,99,40,101,110,99,40,97,58,97,110,121,44,32,107,58,107,101,121,41,44,32,107,58,107,101,121,41]⟩ w (by decide);unfold qh9 at PA;rw[show(⟨#[100,101,99,40,101,110,99,40,97,58,97,110,121,44,32,107,58,107,101,121,41,44,32,107,58,107,101,121,41]⟩:ByteArray).data.toList=[100,101,99,40,101,110,99,40,97,58,97,110,121,44,32,107,58,107,101,121,41,44,32,107,58,107,101,121,41]from rfl,tA_parse]at PA;obtain⟨uA,huA⟩:∃u,u=aA:=⟨_,rfl⟩;obtain⟨tt,htt⟩:∃u,u=tA:=⟨_,rfl⟩;have HNO:Hid (∀(X:World) (A:Option Addr) (c:Nat) (Pb:Nat→Prop),(∀b,Pb b→b<X.heap.size)→RepP X Pb tt A c→Calls Tryz.prog 30 #[tt.val A c] X (OkN Pb uA X)):=hdzz fun X A c Pb h1 h2=>by
  have h:=qen tA A c X Pb h1 tA_validT tA_fine (by rw[tA_nf];exact aA_valid) (by rw[←htt];exact h2);rw[tA_nf,←huA,←htt]at h;exact h
 have HSA:Hid (∀(X:World) (A A':Option Addr) (c c':Nat),RepT X X.heap.size uA A c→RepT X X.heap.size uA A' c'→Calls Tryz.prog 31 #[uA.val A c,uA.val A' c'] X fun e w'=>e=.returned (.bool true)∧Lay X.heap.size X w'):=hdzz fun X A A' c c' h1 h2=>by
  have h:=qd3 uA uA A A' c c' X (by rw[huA];decide) (by rw[huA];decide) h1 h2;rw[show uA.same uA=true from Tm.same_iff.2 rfl]at h;exact h
 have HAT:Hid (∀X:World,Calls Tryz.prog 35 #[.string ⟨#[97]⟩,.int .i64 0] X fun e w'=>e=.returned (uA.val none 0)∧Lay X.heap.size X w'):=hdzz fun X=>by rw[huA];exact qc9 ⟨#[97]⟩ 0 X
 have HUN:Hid (∀X:World,RepT X X.heap.size uA none 0):=hdzz fun X=>by rw[huA];unfold aA;rw[qbh];exact⟨by decide,Nat.le_refl _,Nat.zero_le _,.inl rfl⟩
 rw[←htt]at PA;simp only[Tm.val]at PA HNO HSA HAT;have PA:=hdzz PA;clear huA htt;go_enter Tryz.func6,Tryz.ntmps6
 go_wp2_with fail
 refine PA.out.mono ?_;clear PA;rintro e w1 ⟨A1,c1,rfl,hr1,hb1⟩;simp only;obtain⟨X,hX⟩:∃X,X=w1.alloc (.cells #[.int .i64 tt.kind,.string tt.name,.int .i64 tt.sort,.slice A1 tt.kids.length c1] 24):=⟨_,rfl⟩;have hbX:Below w1.heap.size w1 X:=by rw[hX];exact qad (Nat.le_refl _) _
 have hsX:X.heap.size=w1.heap.size+1:=by rw[hX];simp
 have hxX:X.heap[w1.heap.size]?=some (.cells #[.int .i64 tt.kind,.string tt.name,.int .i64 tt.sort,.slice A1 tt.kids.length c1] 24 (0,0)):=by rw[hX];exact heap_alloc_new w1 _
 obtain⟨x0,x1,x2,x3,xf⟩:=qaa hxX;have hs1:=hb1.size;have NO:=HNO.out X A1 c1 (fun b=>b<w1.heap.size) (fun b h=>by omega) (RepP.mono (fun b h=>h.2) (fun p hp=>hbX.cell hp.2) _ _ _ hr1);have NO:=hdzz NO;have HX:=hdzz hX;have HB1:=hdzz (hb1.trans (hbX.mono hs1));have HSX:Hid (w.heap.size≤X.heap.size∧w1.heap.size<X.heap.size):=hdzz ⟨by omega,by omega⟩;clear hX hbX hsX hxX hs1 hb1 hr1 HNO;go_upto_region 2 with fail
 rw[←HX.out];clear HX;go_wp2_with fail
 refine NO.out.mono ?_;clear NO x0 x1 x2 x3 xf;rintro e w2 ⟨A2,c2,rfl,hr2,hb2⟩;simp only[Tm.val];have hs2:=hb2.size;have hs1:=HSX.out.1;have hs12:=HSX.out.2;obtain⟨Y,hY⟩:∃X,X=w2.alloc (.cells #[.int .i64 uA.kind,.string uA.name,.int .i64 uA.sort,.slice A2 uA.kids.length c2] 24):=⟨_,rfl⟩;have hbY:Below w2.heap.size w2 Y:=by rw[hY];exact qad (Nat.le_refl _) _
 have hsY:Y.heap.size=w2.heap.size+1:=by rw[hY];simp
 have hxY:Y.heap[w2.heap.size]?=some (.cells #[.int .i64 uA.kind,.string uA.name,.int .i64 uA.sort,.slice A2 uA.kids.length c2] 24 (0,0)):=by rw[hY];exact heap_alloc_new w2 _
 have HB2:=hdzz ((HB1.out.trans (hb2.mono hs1)).trans (hbY.mono (by omega)));have HRY:Hid (RepP Y (fun b=>b<w2.heap.size) uA A2 c2):=hdzz (RepP.mono (fun b h=>by rcases h with h|h<;>omega) (fun p hp=>hbY.cell (by rcases hp with h|h<;>omega)) _ _ _ hr2);have HY:=hdzz hY;have HXY:=hdzz hxY;have HSY:Hid (w.heap.size≤Y.heap.size∧w2.heap.size<Y.heap.size):=hdzz ⟨by omega,by omega⟩;clear hY hbY hsY hxY hs1 hs12 hs2 hb2 hr2 HB1 HSX;go_upto_region 3 with fail
 rw[←HY.out];clear HY;refine qaf (fun Z=>Below Y.drew.heap.size Y.drew Z) (fun _=>True) [] (.held 0 (.held 1 (.held 2 (.held 3 (.held 4 (.held 5 (.held 6 (.held 7 (.op 8 (.op 9 (.held 10 (.held 11 (.op 12 (.held 13 (.held 14 (.held 15 (.held 16 .nil))))))))))))))))) mixed (by kernel_rfl) ?_;have HBD:=hdzz (HB2.out.trans ((Below.refl Y.heap.size Y).drew.mono HSY.out.1));obtain⟨y0,y1,y2,y3,yf⟩:=qaa (W:=Y.drew) HXY.out;have HRD:Hid (RepP Y.drew (fun b=>b<w2.heap.size) uA A2 c2):=hdzz (RepP.mono (w:=Y) (w':=Y.drew) (fun _ h=>h) (fun _ _=>rfl) _ _ _ HRY.out);have HSD:Hid (w.heap.size≤Y.drew.heap.size∧w2.heap.size<Y.drew.heap.size):=HSY;have hwd:=HSD.out.2;clear HB2 HRY HXY HSY;generalize Y.drew=D at *;refine stkz (.int .i64 0) rfl rfl rfl (fun _ _ _ h=>h) (Below.refl _ _) (fun Y hY=>by
   (try simp only[Act.put]);go_simp) ?_
 refine stkz (.bool true) rfl rfl rfl (fun _ _ _ h=>h) (Below.refl _ _) (fun Y hY=>by
   (try simp only[Act.put]);go_simp) ?_
 refine stkz (.bool true) rfl rfl rfl (fun _ _ _ h=>h) (Below.refl _ _) (fun Y hY=>by
   (try simp only[Act.put]);go_simp) ?_
 refine qac (v:=.int .i64 0) rfl (by kernel_rfl) rfl (fun _ _ _ h=>h) (Below.refl _ _) trivial (fun Y hY hY2=>by
   (try simp only[Act.put]);go_simp) ?_
 refine qac (v:=.bool true) rfl (by kernel_rfl) rfl (fun _ _ _ h=>h) (Below.refl _ _) trivial (fun Y hY hY2=>by
   (try simp only[Act.put]);go_simp) ?_
 refine stkz (.bool true) rfl rfl rfl (fun _ _ _ h=>h) (Below.refl _ _) (fun Y hY=>by
   (try simp only[Act.put]);go_simp) ?_
 refine stkz (.bool true) rfl rfl rfl (fun _ _ _ h=>h) (Below.refl _ _) (fun Y hY=>by
   (try simp only[Act.put]);go_simp) ?_
 simp only[Act.put,fsa,fsb,fsc,fsd,fse,fsf];refine qac (v:=.agg #[.int .i64 uA.kind,.string uA.name,.int .i64 uA.sort,.slice A2 uA.kids.length c2]) rfl (by kernel_rfl) rfl (fun _ _ _ h=>h) (Below.refl _ _) trivial (fun Y hY hY2=>by
   have z0:=sclz hY y0 (by omega);have z1:=sclz hY y1 (by omega);have z2:=sclz hY y2 (by omega);have z3:=sclz hY y3 (by omega)
   (try simp only[Act.put]);go_simp) ?_
 simp only[Act.put,fsa,fsb,fsc,fsd,fse,fsf];have CN:=hdzz (HAT.out D);refine qaz rfl (by kernel_rfl) (fun K hK=>?_);go_wp2_with fail
 refine CN.out.mono ?_;clear CN HAT y0 y1 y2 y3 yf;rintro e w5 ⟨rfl,hl5⟩;have H5:=hdzz hl5.below;refine hK _ _ ⟨⟨fun _=>H5.out,trivial⟩,?_⟩;clear hK K hl5;have CN:=HSA.out w5 A2 none c2 0 (RepP.mono (w:=D) (fun b (h:b<w2.heap.size)=>by have:=H5.out.size;omega) (fun p (h:p.block<w2.heap.size)=>H5.out.cell (by omega)) _ _ _ HRD.out) (HUN.out w5);have CN:=hdzz CN;refine qaz rfl (by kernel_rfl) (fun K hK=>?_);go_wp2_with fail
 refine CN.out.mono ?_;clear CN HSA;rintro e w6 ⟨rfl,hl6⟩;have H6:=hdzz (H5.out.trans (hl6.below.mono H5.out.size));refine hK _ _ ⟨⟨fun _=>H6.out,trivial⟩,?_⟩;clear hK K hl6;refine stkz (.bool true) rfl rfl rfl (fun _ _ _ h=>h) H6.out (fun Y hY=>by
   (try simp only[Act.put]);go_simp) ?_
 refine stkz (.bool true) rfl rfl rfl (fun _ _ _ h=>h) H6.out (fun Y hY=>by
   (try simp only[Act.put]);go_simp) ?_
 simp only[Act.put,fsa,fsb,fsc,fsd,fse,fsf];have CN:=hdzz (qmq w6);refine qaz rfl (by kernel_rfl) (fun K hK=>?_);go_wp2_with fail
 refine CN.out.mono ?_;clear CN;rintro e w7 ⟨⟨A7,c7,rfl⟩,hb7⟩;have H7:=hdzz (H6.out.trans (hb7.mono H6.out.size));refine hK _ _ ⟨⟨fun _=>H7.out,trivial⟩,?_⟩;clear hK K hb7;refine qac (v:=.int .i64 6) rfl (by kernel_rfl) rfl (fun _ _ _ h=>h) H7.out trivial (fun Y hY hY2=>by
   (try simp only[Act.put]);go_simp) ?_
 refine qac (v:=.bool true) rfl (by kernel_rfl) rfl (fun _ _ _ h=>h) H7.out trivial (fun Y hY hY2=>by
   (try simp only[Act.put]);go_simp) ?_
 refine stkz (.bool true) rfl rfl rfl (fun _ _ _ h=>h) H7.out (fun Y hY=>by
   (try simp only[Act.put]);go_simp) ?_
 refine stkz (.bool true) rfl rfl rfl (fun _ _ _ h=>h) H7.out (fun Y hY=>by
   (try simp only[Act.put]);go_simp) ?_
 refine qar ?_;simp only[Act.put,fsa,fsb,fsc,fsd,fse,fsf];go_wp2_with fail
 go_ret
 exact⟨rfl,HBD.out.trans (H7.out.mono HSD.out.1)⟩
attribute [local irreducible] qax
theorem topeq_law (t:Tm) (A:Option Addr) (cap:Nat) (bs:List (Nat×Nat×Nat)) (Ab:Option Addr) (cb:Nat) (w:World) (ht:RepT w w.heap.size t A cap) (hbs:RepBd w bs Ab) :
  Calls Tryz.prog 3 #[t.val A cap,.slice Ab bs.length cb] w fun e w'=>e=.returned (.bool true)∧Below w.heap.size w w':=by
 have mixed:=mixz;obtain⟨V,hV⟩:∃V,V=w.alloc (qag t A cap):=⟨_,rfl⟩;have hbV:Below w.heap.size w V:=by rw[hV];exact qad (Nat.le_refl _) _
 have hxV:BoxT V w.heap.size t A cap:=by rw[hV];exact BoxT.new ht
 simp only[qag]at hV;have HV:=hdzz hV;have HB:=hdzz hbV;have HX:=hdzz hxV;have HT:=hdzz ht;have HBS:=hdzz hbs;clear hV hbV hxV ht hbs;simp only[Tm.val];go_enter Tryz.func3,Tryz.ntmps3
 go_wp2_with fail
 rw[←HV.out];clear HV;refine(qeg V).mono ?_;rintro e w1 ⟨rfl,hb1⟩;have HX1:=hdzz (HX.out.below hb1);have HB1:=sbtz HB hb1;clear hb1 HX HB;obtain⟨x0,x1,x2,x3,xf⟩:=BoxT.cells HX1.out;obtain⟨Z,hZ⟩:∃Z,Z=w1.alloc (.cells #[.int .i64 t.kind,.string t.name,.int .i64 t.sort,.slice A t.kids.length cap] 24):=⟨_,rfl⟩;have hZs:=one_slice HX1.out.2 hZ;have hbZ:Below w1.heap.size w1 Z:=by rw[hZ];exact qad (Nat.le_refl _) _
 have FE:=hdzz (few_any [t] _ 1 1 60 Z (by decide) (by decide) hZs);have HX2:=hdzz (HX1.out.below hbZ);have HB2:=sbtz HB1 hbZ;have HZ:=hdzz hZ;clear hZ hZs hbZ HX1 HB1;go_wp2_with fail
 rw[←HZ.out];refine FE.out.mono ?_;clear FE HZ x0 x1 x2 x3 xf;rintro e w2 ⟨rfl,hl2⟩;have HX3:=hdzz (HX2.out.below hl2.below);have HB3:=sbtz HB2 hl2.below;clear hl2 HX2 HB2;by_cases hle:(([t]:List Tm).length:Int)≤1∧0≤Tm.lefts [t] 60
 rotate_left
 ·rw[decide_eq_false hle];go_wp2_with fail
  refine(qeg w2).mono ?_;rintro e w9 ⟨rfl,hb9⟩;go_wp2_with fail
  go_ret
  exact⟨rfl,HB3.out.trans (hb9.mono HB3.out.size)⟩
 have hsz:t.size≤60:=by have:=Tm.lefts_each (by decide) hle.2 t (by simp);omega
 rw[decide_eq_true hle];clear hle;obtain⟨x0,x1,x2,x3,xf⟩:=BoxT.cells HX3.out;have DE:=qgk 60 t A cap w2 hsz (by decide) HX3.out.2;simp only[Tm.val]at DE;have DE:=hdzz DE;go_wp2_with fail
 refine DE.out.mono ?_;clear DE x0 x1 x2 x3 xf;rintro e w3 ⟨rfl,hl3⟩;have HX4:=hdzz (HX3.out.below hl3.below);have HB4:=sbtz HB3 hl3.below;clear hl3 HX3 HB3;by_cases hd:12<(t.depth:Int)
 ·have hd':decide (12<(t.depth:Int))=true:=decide_eq_true hd;go_wp2_with fail
  refine(qeg w3).mono ?_;rintro e w9 ⟨rfl,hb9⟩;go_wp2_with fail
  go_ret
  exact⟨rfl,HB4.out.trans (hb9.mono HB4.out.size)⟩
 have hd':decide (12<(t.depth:Int))=false:=decide_eq_false hd;by_cases hbl:8<(bs.length:Int)
 ·have hbl':decide (8<(bs.length:Int))=true:=decide_eq_true hbl;go_wp2_with fail
  refine(qeg w3).mono ?_;rintro e w9 ⟨rfl,hb9⟩;go_wp2_with fail
  go_ret
  exact⟨rfl,HB4.out.trans (hb9.mono HB4.out.size)⟩
 have hbl':decide (8<(bs.length:Int))=false:=decide_eq_false hbl;obtain⟨x0,x1,x2,x3,xf⟩:=BoxT.cells HX4.out;have NO:=qg1 t A cap w3 (fun b=>b<w3.heap.size) (fun _ h=>h) (by omega) HX4.out.2;simp only[Tm.val]at NO;have NO:=hdzz NO;go_wp2_with fail
 clear hd hd';refine NO.out.mono ?_;clear NO x0 x1 x2 x3 xf;rintro e w4 (⟨z,hz,rfl,hb4⟩|⟨hfine,A4,c4,rfl,hr4,hb4⟩)
 ·have HX5:=hdzz (HX4.out.below hb4);have HB5:=sbtz HB4 hb4;clear HX4 HB4 hb4;go_wp2_with fail
  go_ret
  exact⟨rfl,HB5.out.trans ((qad (Nat.le_refl _) _).mono HB5.out.size)⟩
 simp only[Tm.val];obtain⟨X5,hX5⟩:∃X,X=w4.alloc (.cells #[.int .i64 t.nf.kind,.string t.nf.name,.int .i64 t.nf.sort,.slice A4 t.nf.kids.length c4] 24):=⟨_,rfl⟩;have hb5:Below w4.heap.size w4 X5:=by rw[hX5];exact qad (Nat.le_refl _) _
 have HX5:=hdzz ((HX4.out.below hb4).below hb5);have HB5:=hdzz ((HB4.out.trans (hb4.mono HB4.out.size)).trans (hb5.mono (HB4.out.trans (hb4.mono HB4.out.size)).size));have HX:=hdzz hX5;have HFI:=hdzz hfine;clear HX4 HB4 hb4 hr4 hb5 hX5 hfine;go_upto_region 6 with fail
 rw[←HX.out];clear HX;obtain⟨x0,x1,x2,x3,xf⟩:=BoxT.cells HX5.out;obtain⟨X6,hX6⟩:∃X,X=X5.alloc (.cells #[.int .i64 t.kind,.string t.name,.int .i64 t.sort,.slice A t.kids.length cap] 24):=⟨_,rfl⟩;obtain⟨g,hg⟩:∃g,g=X5.heap.size:=⟨_,rfl⟩;have HW0:Hid (TopW w t A cap g t A cap X6):=hdzz (by
  have hb6:Below X5.heap.size X5 X6:=by rw[hX6];exact qad (Nat.le_refl _) _
  have h1:=HX5.out.lt;have h2:=HB5.out.size;have h3:=hb6.size;have h4:X6.heap.size=X5.heap.size+1:=by rw[hX6];simp
  exact⟨(HX5.out.below hb6).1,by rw[hX6,hg];exact heap_alloc_new _ _,by omega,by omega,HB5.out.trans (hb6.mono h2),RepP.mono (fun b h=>⟨by have:b<X5.heap.size:=h;omega,by have:b<X5.heap.size:=h;omega⟩) (fun p hp=>hb6.cell hp) _ _ _ HX5.out.2⟩)
 have HX:=hdzz hX6;clear hX6;go_upto_region 7 with fail
 rw[←HX.out,←hg];clear HX HX5 HB5 hg x0 x1 x2 x3 xf;have HBN:Hid (Bent t t):=hdzz ⟨HFI.out.v,rfl,by omega⟩;go_wp2_with fail
 go_loopw [47] (fun iv wr=>∃(k:Nat) (u:Tm) (Au:Option Addr) (cu:Nat),k≤bs.length∧iv=.int .i64 k∧Hid (Bent t u)∧Hid (TopW w t A cap g u Au cu wr)) (fun iv _=>bs.length - (intOf iv).toNat)
 case atStart=>exact⟨0,t,A,cap,Nat.zero_le _,rfl,HBN.out,HW0.out⟩
 case round=>
  obtain⟨k,u,Au,cu,hk,rfl,HN,HW⟩:=hrel;clear HW0 HBN;have i1:(0:Int)≤(k:Int):=Int.natCast_nonneg _;by_cases hlt:k<bs.length
  ·have i2:(k:Int)<(bs.length:Int):=by omega
   obtain⟨bb,oo,hAb,hbb,e0,e1,e2⟩:=HBS.out.get HW.out.bel k hlt;have hl256:=HBS.out.1 bs[k] (List.getElem_mem _);obtain⟨⟨kb,ab,wb⟩,hbk⟩:∃x,x=bs[k]:=⟨_,rfl⟩;rw[←hbk]at e0 e1 e2 hl256;simp only at e0 e1 e2 hl256;obtain⟨hkb,hab,hwb⟩:=hl256;clear hbk;subst hAb;have hbw:bb<wr.heap.size:=Nat.lt_of_lt_of_le hbb HW.out.bel.size;obtain⟨X9,hX9⟩:∃X,X=wr.alloc (.cells #[.int .u8 kb,.int .u8 ab,.int .u8 wb] 33):=⟨_,rfl⟩;have hb9:Below wr.heap.size wr X9:=by rw[hX9];exact qad (Nat.le_refl _) _
   have hx9:X9.heap[wr.heap.size]?=some (.cells #[.int .u8 kb,.int .u8 ab,.int .u8 wb] 33 (0,0)):=by rw[hX9];exact heap_alloc_new wr _
   have HW9:=hdzz (HW.out.go hb9);have HB9:=hdzz hx9;have HX:=hdzz hX9;clear hx9 hX9 hb9 HW;go_upto_region 10 with fail
   rw[←HX.out];clear HX;obtain⟨b9,hb9⟩:∃b,b=wr.heap.size:=⟨_,rfl⟩;rw[←hb9]at HB9;rw[←hb9];clear hb9 hbw hbb;obtain⟨x0,x1,x2,x3,xf⟩:=qaa HW9.out.b7;have PO:=rposs_any 1000 u Au cu X9 (by have:=HN.out.s;omega) (by decide) HW9.out.ruT;simp only[Tm.val]at PO;have PO:=hdzz PO;go_wp2_with fail
   refine PO.out.mono ?_;clear PO x0 x1 x2 x3 xf;rintro e w10 ⟨v,its,rfl,hrow,hb10,hposs⟩;obtain⟨Ap,cp,rfl,-⟩:=hrow.form;have hlen:its.length=u.size:=by rw[←Tm.poss_length,←hposs,List.length_map]
   have hHW:=HN.out.s;have hup:=u.size_pos;obtain⟨i,hi⟩:∃i,i=ab % its.length:=⟨_,rfl⟩;have hil:i<its.length:=by rw[hi];exact Nat.mod_lt _ (by omega)
   have hmod:((ab:Int) % (its.length:Int))=(i:Int):=by rw[hi];rfl
   obtain⟨gp,hAp,hsl⟩:=hrow.slot i hil;subst hAp;have hrp:=(hrow.reps its[i] (List.getElem_mem _)).toI;have hpm:its[i].1∈u.poss:=by rw[←hposs];exact List.mem_map_of_mem (List.getElem_mem _)
   obtain⟨⟨p,Aq,cq⟩,hq⟩:∃x,x=its[i]:=⟨_,rfl⟩;rw[←hq]at hsl hrp hpm;simp only at hsl hrp hpm;obtain⟨x,hx⟩:=Tm.poss_at u p hpm;have hpl:=Tm.poss_len u p hpm;have HRP:Hid (RepI w10 (fun b=>b<w10.heap.size) p Aq cq):=hdzz (RepI.mono (fun b h=>h.2.1) (fun _ _=>rfl) hrp);have HW10:=hdzz (HW9.out.go hb10);have HBX:=sblz hb10 HB9;have HPX:=hdzz hx;obtain⟨nn,hnn⟩:∃n,n=its.length:=⟨_,rfl⟩;rw[←hnn]at hil hmod hlen;rw[←hnn];have hnn0:(0:Int)<(nn:Int):=by omega
   have hi0:(0:Int)≤(i:Int):=Int.natCast_nonneg _;have hi1:(i:Int)<(nn:Int):=by omega
   have habI:(ab:Int)<256:=by omega
   have hab0:(0:Int)≤(ab:Int):=Int.natCast_nonneg _;clear hrow hb10 hposs hrp hpm hq hi hx HW9 HB9 hlen hHW hup hnn;obtain⟨y0,y1,y2,yf⟩:=qk1 HBX.out;obtain⟨x0,x1,x2,x3,xf⟩:=qaa HW10.out.b7;have AT:=ratP_any (fun b=>b≠g∧b<w10.heap.size) u Au cu p Aq cq w10 (by have:=HN.out.s;omega) (by have:=HN.out.s;omega) (fun b h=>h.2) HW10.out.ru HRP.out;unfold RatP at AT;rw[HPX.out]at AT;simp only[Tm.val]at AT;have AT:=hdzz AT;go_wp2_with fail
   refine AT.out.mono ?_;clear AT x0 x1 x2 x3 xf y0 y1 y2 yf;rintro e w12 ⟨hb12,Ax,cx,rfl,hrx⟩;simp only;obtain⟨X12,hX12⟩:∃X,X=w12.alloc (.cells #[.int .i64 x.kind,.string x.name,.int .i64 x.sort,.slice Ax x.kids.length cx] 24):=⟨_,rfl⟩;obtain⟨b12,hb12e⟩:∃b,b=w12.heap.size:=⟨_,rfl⟩;have hbx:Below w12.heap.size w12 X12:=by rw[hX12];exact qad (Nat.le_refl _) _
   have hsx:X12.heap.size=w12.heap.size+1:=by rw[hX12];simp
   have hs12:=hb12.size;have hbxx:Below w10.heap.size w10 X12:=hb12.trans (hbx.mono hs12);have HW12:=hdzz (HW10.out.go hbxx);have HBX:=sblz hbxx HBX;have HRP:=hdzz (HRP.out.go hbxx hbxx.size);have HBY:Hid (X12.heap[b12]?=some (qag x Ax cx)):=hdzz (by rw[hX12,hb12e];exact heap_alloc_new _ _);have HRX:Hid (RepP X12 (fun b=>b≠g∧b<X12.heap.size) x Ax cx):=hdzz (RepP.mono (fun b h=>⟨h.1,by have:=h.2;omega⟩) (fun q hq=>hbx.cell (by have:=hq.2;omega)) _ _ _ hrx);have HX:=hdzz hX12;clear hX12 hbx hsx hs12 hbxx hb12 hrx HW10;go_upto_region 13 with fail
   rw[←HX.out,←hb12e];clear HX hb12e;obtain⟨y,hy1,hy2,hy3⟩:=HN.out.step HPX.out (kb % 14) (wb % 3);obtain⟨rr,hrr⟩:∃r,r=qfd (kb % 14) (nOf (wb % 3)) x:=⟨_,rfl⟩;have hrs:rr.size≤1000:=by rw[hrr];have h1:=qk4 (kb % 14) (wb % 3) x;have h2:=(ArT.atP p u x HN.out.ar HPX.out).2;have h3:=HN.out.s;omega
   rw[←hrr]at hy1;have HRR:=hdzz hrr;clear hrr;have hus:=HN.out.s;have HRE:=hdzz hy1;have HYN:Hid (y.nf=t.nf∧y.size≤1000):=hdzz ⟨hy2,hy3⟩;clear hy1 hy2 hy3;go_cut [14,15]from 48 to 91 (fun s14 s15 wc=>∃(z:Nat) (y:Tm) (Ay:Option Addr) (cy:Nat),s14=.pointer (some ⟨z,0,none⟩)∧s15=.int .i64 0∧Hid (y.nf=t.nf∧y.size≤1000)∧Hid (TopW w t A cap g u Au cu wc)∧Hid (wc.heap[z]?=some (qag y Ay cy))∧Hid (RepP wc (fun b=>b≠g∧b<wc.heap.size) y Ay cy))
   case first=>
    refine qaf (fun Y=>Below X12.drew.heap.size X12.drew Y) (fun _=>True) [] (.held 0 (.held 1 (.held 2 (.held 3 (.two 4 9 (.two 5 9 (.held 6 (.held 7 (.held 8 (.op 9 (.op 10 (.op 11 .nil)))))) (.op 5 (.held 6 (.held 7 (.held 8 (.op 10 (.op 11 .nil))))))) (.op 4 (.op 5 (.held 6 (.held 7 (.held 8 (.op 10 (.op 11 .nil)))))))))))) mixed (by kernel_rfl) ?_;have HW:Hid (TopW w t A cap g u Au cu X12.drew):=hdzz (HW12.out.go (Below.refl _ _).drew);have HBX:Hid (X12.drew.heap[b9]?=some (.cells #[.int .u8 kb,.int .u8 ab,.int .u8 wb] 33 (0,0))):=HBX;have HBY:Hid (X12.drew.heap[b12]?=some (qag x Ax cx)):=HBY;have HRP:Hid (RepI X12.drew (fun b=>b<X12.drew.heap.size) p Aq cq):=hdzz (HRP.out.go (Below.refl X12.heap.size X12).drew (Nat.le_refl _))
    have HRX:Hid (RepP X12.drew (fun b=>b≠g∧b<X12.drew.heap.size) x Ax cx):=hdzz (RepP.mono (w:=X12) (w':=X12.drew) (fun _ h=>h) (fun _ _=>rfl) _ _ _ HRX.out);clear HW12;generalize X12.drew=D at *;have HB0:Hid (Below D.heap.size D D):=hdzz (Below.refl _ _);obtain⟨x0,x1,x2,x3,xf⟩:=qaa HW.out.b7;obtain⟨y0,y1,y2,yf⟩:=qk1 HBX.out;obtain⟨v0,v1,v2,v3,vf⟩:=qaa HBY.out;have hgD:=HW.out.lt;have h9D:=(sltz HBX.out);have h12D:=(sltz HBY.out);refine stkz (.agg #[.int .i64 u.kind,.string u.name,.int .i64 u.sort,.slice Au u.kids.length cu]) rfl rfl rfl (fun _ _ _ h=>h) HB0.out (fun Y hY=>by
      have z0:=sclz hY x0 (by omega);have z1:=sclz hY x1 (by omega);have z2:=sclz hY x2 (by omega);have z3:=sclz hY x3 (by omega)
      (try simp only[Act.put]);go_simp) ?_
    refine stkz (.slice Aq p.length cq) rfl rfl rfl (fun _ _ _ h=>h) HB0.out (fun Y hY=>by
      (try simp only[Act.put]);go_simp) ?_
    refine stkz (.agg #[.int .i64 x.kind,.string x.name,.int .i64 x.sort,.slice Ax x.kids.length cx]) rfl rfl rfl (fun _ _ _ h=>h) HB0.out (fun Y hY=>by
      have z0:=sclz hY v0 (by omega);have z1:=sclz hY v1 (by omega);have z2:=sclz hY v2 (by omega);have z3:=sclz hY v3 (by omega)
      (try simp only[Act.put]);go_simp) ?_
    try simp only[Act.put,fsa,fsb,fsc,fsd,fse,fsf]
    refine stkz (.agg #[.int .u8 kb,.int .u8 ab,.int .u8 wb]) rfl rfl rfl (fun _ _ _ h=>h) HB0.out (fun Y hY=>by
      have z0:=sclz hY y0 (by omega);have z1:=sclz hY y1 (by omega);have z2:=sclz hY y2 (by omega)
      (try simp only[Act.put]);go_simp) ?_
    clear x0 x1 x2 x3 xf y0 y1 y2 yf v0 v1 v2 v3 vf
    try simp only[Act.put,fsa,fsb,fsc,fsd,fse,fsf]
    refine qbw ?_ ?_
    ·have BE:=qkj x Ax cx kb ab wb D (fun b=>b≠g∧b<D.heap.size) (fun b h=>Nat.lt_of_lt_of_le h.2 HB0.out.size) hkb hwb (ArT.atP p u x HN.out.ar HPX.out).1 (by have:=(ArT.atP p u x HN.out.ar HPX.out).2;have:=HN.out.s;omega) (RepP.mono (fun b h=>h) (fun q hq=>HB0.out.cell hq.2) _ _ _ HRX.out);rw[←HRR.out]at BE;unfold TmP at BE;simp only[Tm.val]at BE;have BE:=hdzz BE;refine qae rfl rfl (fun K hK=>?_);go_wp2_with fail
     refine BE.out.mono ?_;clear BE;rintro e w1 ⟨Ar,cr,rfl,hr,hb⟩;have hDW:=HB0.out.size;have HRr:Hid (RepP w1 (fun b=>b≠g∧b≠g∧b<w1.heap.size) rr Ar cr):=hdzz (RepP.mono (fun b h=>by have:=hb.size;rcases h with h|h<;>(refine⟨?_,?_,?_⟩<;>omega)) (fun _ _=>rfl) _ _ _ hr);have HB2:=sbtz HB0 hb;refine hK _ _ ⟨⟨fun _=>HB2.out,trivial⟩,?_⟩;clear hK K hb hr hDW;refine qbw ?_ ?_
     ·have hDW:=HB2.out.size;have RE:=qeb (fun b=>b≠g∧b≠g∧b<w1.heap.size) rr (by omega) p u Au Ar cu cr Aq cq w1 (fun b h=>h.2.2) (by omega) (by omega) (RepP.mono (fun b h=>⟨h.1,by have:=h.2;have:=h.1;omega,by have:=h.2;omega⟩) (fun q hq=>HB2.out.cell hq.2) _ _ _ HW.out.ru) HRr.out (HRP.out.go HB2.out hDW);unfold RrepP at RE;rw[HRE.out]at RE;simp only[Tm.val]at RE;have RE:=hdzz RE;refine qae rfl rfl (fun K hK=>?_);go_wp2_with fail
      refine RE.out.mono ?_;clear RE;rintro e w3 ⟨hb,y2,Ay,cy,ec,rfl,hr,hcas⟩;obtain⟨hye,hec⟩:y=y2∧ec=0:=by
       rcases hcas with⟨h,-⟩|⟨h,h2⟩
       ·cases h
       ·exact⟨Option.some.inj h,h2⟩
      subst hec;rw[←hye]at hr;rw[←hye];clear hye hcas;have HRy:Hid (RepP w3 (fun b=>b≠g∧b≠g∧b<w3.heap.size) y Ay cy):=hdzz (RepP.mono (fun b h=>by have:=h.2;rcases h.1 with h|h<;>(refine⟨?_,?_,?_⟩<;>omega)) (fun _ _=>rfl) _ _ _ hr);have HB4:=sbtz HB2 hb;refine hK _ _ ⟨⟨fun _=>HB4.out,trivial⟩,?_⟩;clear hK K hb hr hDW;refine stkz (.tuple #[.agg #[.int .i64 y.kind,.string y.name,.int .i64 y.sort,.slice Ay y.kids.length cy],.int .i64 0]) rfl rfl rfl (fun _ _ _ h=>h) HB4.out (fun Y hY=>by
        (try simp only[Act.put]);go_simp) ?_
      refine stkz (.agg #[.int .i64 y.kind,.string y.name,.int .i64 y.sort,.slice Ay y.kids.length cy]) rfl rfl rfl (fun _ _ _ h=>h) HB4.out (fun Y hY=>by
        (try simp only[Act.put]);go_simp) ?_
      refine stkz (.int .i64 0) rfl rfl rfl (fun _ _ _ h=>h) HB4.out (fun Y hY=>by
        (try simp only[Act.put]);go_simp) ?_
      try simp only[Act.put,fsa,fsb,fsc,fsd,fse,fsf]
      try simp only[Act.put,fsa,fsb,fsc,fsd,fse,fsf]
      obtain⟨X5,hX6⟩:∃X,X=w3.alloc (.cells #[.int .i64 0,.string ⟨#[]⟩,.int .i64 0,.slice none 0 0] 24):=⟨_,rfl⟩;have hb7:Below w3.heap.size w3 X5:=by rw[hX6];exact qad (Nat.le_refl _) _
      obtain⟨z8,z8e⟩:∃z,z=w3.heap.size:=⟨_,rfl⟩;have hz9:D.heap.size≤z8:=by have:=HB4.out.size;omega
      have HZ10:Hid (X5.heap[z8]?=some (.cells #[.int .i64 0,.string ⟨#[]⟩,.int .i64 0,.slice none 0 0] 24 (0,0))):=hdzz (by rw[hX6,z8e];exact heap_alloc_new _ _);have HR11:Hid (RepP X5 (fun b=>b≠g∧b≠z8∧b<X5.heap.size) y Ay cy):=hdzz (RepP.mono (fun b h=>⟨h.1,by have:=h.2.2;omega,Nat.lt_of_lt_of_le h.2.2 hb7.size⟩) (fun q hq=>hb7.cell hq.2.2) _ _ _ HRy.out);have HB12:=sbtz HB4 hb7;refine qae rfl rfl (fun K hK=>?_);go_wp2_with fail
      rw[←hX6,←z8e];refine⟨⟨fun _=>HB12.out,trivial⟩,?_⟩;clear hX6 hb7 z8e;obtain⟨Z,hZ,hxZ,hbZ,hsZ,hcZ,-⟩:=qcm (W:=X5) (B:=z8) (a:=.int .i64 y.kind) (b:=.string y.name) (c:=.int .i64 y.sort) (d:=.slice Ay y.kids.length cy) HZ10.out;obtain⟨o0,o1,o2,o3,of_⟩:=qaa HZ10.out;have HBZ:Hid (Below D.heap.size D Z):=hdzz (HB12.out.trans (hbZ.mono hz9));have HWZ:=hdzz (HW.out.go HBZ.out);have HXZ:=hdzz hxZ;have HRZ:Hid (RepP Z (fun b=>b≠g∧b<Z.heap.size) y Ay cy):=hdzz (RepP.mono (fun b h=>⟨h.1,by rw[hsZ];exact h.2.2⟩) (fun q hq=>hcZ q hq.2.1) _ _ _ HR11.out);refine qae rfl rfl (fun K hK=>?_);go_wp2_with fail
      rw[←hZ];refine⟨⟨fun _=>HBZ.out,trivial⟩,?_⟩;clear hZ hxZ hbZ hsZ hcZ o0 o1 o2 o3 of_;refine qae rfl rfl (fun K hK=>?_);go_wp2_with fail
      refine⟨⟨fun _=>HBZ.out,trivial⟩,qar ?_⟩;go_wp2_with fail
      go_meet
      case rel=>exact⟨z8,y,Ay,cy,rfl,rfl,HYN.out,HWZ.out,HXZ.out,HRZ.out⟩
     ·obtain⟨X13,hX14⟩:∃X,X=w1.alloc (.cells #[.int .i64 0,.string ⟨#[]⟩,.int .i64 0,.slice none 0 0] 24):=⟨_,rfl⟩;have hb15:Below w1.heap.size w1 X13:=by rw[hX14];exact qad (Nat.le_refl _) _
      obtain⟨z16,z16e⟩:∃z,z=w1.heap.size:=⟨_,rfl⟩;have hz17:D.heap.size≤z16:=by have:=HB2.out.size;omega
      have HZ18:Hid (X13.heap[z16]?=some (.cells #[.int .i64 0,.string ⟨#[]⟩,.int .i64 0,.slice none 0 0] 24 (0,0))):=hdzz (by rw[hX14,z16e];exact heap_alloc_new _ _);have HR19:Hid (RepP X13 (fun b=>b≠g∧b≠z16∧b<X13.heap.size) rr Ar cr):=hdzz (RepP.mono (fun b h=>⟨h.1,by have:=h.2.2;omega,Nat.lt_of_lt_of_le h.2.2 hb15.size⟩) (fun q hq=>hb15.cell hq.2.2) _ _ _ HRr.out);have HB20:=sbtz HB2 hb15;refine qae rfl rfl (fun K hK=>?_);go_wp2_with fail
      rw[←hX14,←z16e];refine⟨⟨fun _=>HB20.out,trivial⟩,?_⟩;clear hX14 hb15 z16e;have hDW:=HB20.out.size;have RE:=qeb (fun b=>b≠g∧b≠z16∧b<X13.heap.size) rr (by omega) p u Au Ar cu cr Aq cq X13 (fun b h=>h.2.2) (by omega) (by omega) (RepP.mono (fun b h=>⟨h.1,by have:=h.2;have:=hz17;omega,by have:=h.2;omega⟩) (fun q hq=>HB20.out.cell hq.2) _ _ _ HW.out.ru) HR19.out (HRP.out.go HB20.out hDW);unfold RrepP at RE;rw[HRE.out]at RE;simp only[Tm.val]at RE;have RE:=hdzz RE;refine qae rfl rfl (fun K hK=>?_);go_wp2_with fail
      refine RE.out.mono ?_;clear RE;rintro e w21 ⟨hb,y2,Ay,cy,ec,rfl,hr,hcas⟩;obtain⟨hye,hec⟩:y=y2∧ec=0:=by
       rcases hcas with⟨h,-⟩|⟨h,h2⟩
       ·cases h
       ·exact⟨Option.some.inj h,h2⟩
      subst hec;rw[←hye]at hr;rw[←hye];clear hye hcas;have HRy:Hid (RepP w21 (fun b=>b≠g∧b≠z16∧b<w21.heap.size) y Ay cy):=hdzz (RepP.mono (fun b h=>by have:=h.2;have:=hz17;have hz1:=(sltz HZ18.out);rcases h.1 with h|h<;>(refine⟨?_,?_,?_⟩<;>omega)) (fun _ _=>rfl) _ _ _ hr);have HB22:=sbtz HB20 hb;have HZ23:=sblz hb HZ18;refine hK _ _ ⟨⟨fun _=>HB22.out,trivial⟩,?_⟩;clear hK K hb hr hDW;refine stkz (.tuple #[.agg #[.int .i64 y.kind,.string y.name,.int .i64 y.sort,.slice Ay y.kids.length cy],.int .i64 0]) rfl rfl rfl (fun _ _ _ h=>h) HB22.out (fun Y hY=>by
        (try simp only[Act.put]);go_simp) ?_
      refine stkz (.agg #[.int .i64 y.kind,.string y.name,.int .i64 y.sort,.slice Ay y.kids.length cy]) rfl rfl rfl (fun _ _ _ h=>h) HB22.out (fun Y hY=>by
        (try simp only[Act.put]);go_simp) ?_
      refine stkz (.int .i64 0) rfl rfl rfl (fun _ _ _ h=>h) HB22.out (fun Y hY=>by
        (try simp only[Act.put]);go_simp) ?_
      try simp only[Act.put,fsa,fsb,fsc,fsd,fse,fsf]
      try simp only[Act.put,fsa,fsb,fsc,fsd,fse,fsf]
      obtain⟨Z,hZ,hxZ,hbZ,hsZ,hcZ,-⟩:=qcm (W:=w21) (B:=z16) (a:=.int .i64 y.kind) (b:=.string y.name) (c:=.int .i64 y.sort) (d:=.slice Ay y.kids.length cy) HZ23.out;obtain⟨o0,o1,o2,o3,of_⟩:=qaa HZ23.out;have HBZ:Hid (Below D.heap.size D Z):=hdzz (HB22.out.trans (hbZ.mono hz17));have HWZ:=hdzz (HW.out.go HBZ.out);have HXZ:=hdzz hxZ;have HRZ:Hid (RepP Z (fun b=>b≠g∧b<Z.heap.size) y Ay cy):=hdzz (RepP.mono (fun b h=>⟨h.1,by rw[hsZ];exact h.2.2⟩) (fun q hq=>hcZ q hq.2.1) _ _ _ HRy.out);refine qae rfl rfl (fun K hK=>?_);go_wp2_with fail
      rw[←hZ];refine⟨⟨fun _=>HBZ.out,trivial⟩,?_⟩;clear hZ hxZ hbZ hsZ hcZ o0 o1 o2 o3 of_;refine qae rfl rfl (fun K hK=>?_);go_wp2_with fail
      refine⟨⟨fun _=>HBZ.out,trivial⟩,qar ?_⟩;go_wp2_with fail
      go_meet
      case rel=>exact⟨z16,y,Ay,cy,rfl,rfl,HYN.out,HWZ.out,HXZ.out,HRZ.out⟩
    ·obtain⟨X24,hX25⟩:∃X,X=D.alloc (.cells #[.int .i64 0,.string ⟨#[]⟩,.int .i64 0,.slice none 0 0] 24):=⟨_,rfl⟩;have hb26:Below D.heap.size D X24:=by rw[hX25];exact qad (Nat.le_refl _) _
     have hz28:D.heap.size≤D.heap.size:=Nat.le_refl _;have HZ29:Hid (X24.heap[D.heap.size]?=some (.cells #[.int .i64 0,.string ⟨#[]⟩,.int .i64 0,.slice none 0 0] 24 (0,0))):=hdzz (by rw[hX25];exact heap_alloc_new _ _);have HB30:=sbtz HB0 hb26;refine qae rfl rfl (fun K hK=>?_);go_wp2_with fail
     rw[←hX25];refine⟨⟨fun _=>HB30.out,trivial⟩,?_⟩;clear hX25 hb26;have BE:=qkj x Ax cx kb ab wb X24 (fun b=>b≠g∧b<D.heap.size) (fun b h=>Nat.lt_of_lt_of_le h.2 HB30.out.size) hkb hwb (ArT.atP p u x HN.out.ar HPX.out).1 (by have:=(ArT.atP p u x HN.out.ar HPX.out).2;have:=HN.out.s;omega) (RepP.mono (fun b h=>h) (fun q hq=>HB30.out.cell hq.2) _ _ _ HRX.out);rw[←HRR.out]at BE;unfold TmP at BE;simp only[Tm.val]at BE;have BE:=hdzz BE;refine qae rfl rfl (fun K hK=>?_);go_wp2_with fail
     refine BE.out.mono ?_;clear BE;rintro e w31 ⟨Ar,cr,rfl,hr,hb⟩;have hDW:=HB30.out.size;have HRr:Hid (RepP w31 (fun b=>b≠g∧b≠D.heap.size∧b<w31.heap.size) rr Ar cr):=hdzz (RepP.mono (fun b h=>by have:=hb.size;have hz1:=(sltz HZ29.out);have hz2:=hz28;rcases h with h|h<;>(refine⟨?_,?_,?_⟩<;>omega)) (fun _ _=>rfl) _ _ _ hr);have HB32:=sbtz HB30 hb;have HZ33:=sblz hb HZ29;refine hK _ _ ⟨⟨fun _=>HB32.out,trivial⟩,?_⟩;clear hK K hb hr hDW;have hDW:=HB32.out.size;have RE:=qeb (fun b=>b≠g∧b≠D.heap.size∧b<w31.heap.size) rr (by omega) p u Au Ar cu cr Aq cq w31 (fun b h=>h.2.2) (by omega) (by omega) (RepP.mono (fun b h=>⟨h.1,by have:=h.2;have:=hz28;omega,by have:=h.2;omega⟩) (fun q hq=>HB32.out.cell hq.2) _ _ _ HW.out.ru) HRr.out (HRP.out.go HB32.out hDW);unfold RrepP at RE;rw[HRE.out]at RE
     simp only[Tm.val]at RE;have RE:=hdzz RE;refine qae rfl rfl (fun K hK=>?_);go_wp2_with fail
     refine RE.out.mono ?_;clear RE;rintro e w34 ⟨hb,y2,Ay,cy,ec,rfl,hr,hcas⟩;obtain⟨hye,hec⟩:y=y2∧ec=0:=by
      rcases hcas with⟨h,-⟩|⟨h,h2⟩
      ·cases h
      ·exact⟨Option.some.inj h,h2⟩
     subst hec;rw[←hye]at hr;rw[←hye];clear hye hcas;have HRy:Hid (RepP w34 (fun b=>b≠g∧b≠D.heap.size∧b<w34.heap.size) y Ay cy):=hdzz (RepP.mono (fun b h=>by have:=h.2;have:=hz28;have hz1:=(sltz HZ33.out);rcases h.1 with h|h<;>(refine⟨?_,?_,?_⟩<;>omega)) (fun _ _=>rfl) _ _ _ hr);have HB35:=sbtz HB32 hb;have HZ36:=sblz hb HZ33;refine hK _ _ ⟨⟨fun _=>HB35.out,trivial⟩,?_⟩;clear hK K hb hr hDW;refine stkz (.tuple #[.agg #[.int .i64 y.kind,.string y.name,.int .i64 y.sort,.slice Ay y.kids.length cy],.int .i64 0]) rfl rfl rfl (fun _ _ _ h=>h) HB35.out (fun Y hY=>by
       (try simp only[Act.put]);go_simp) ?_
     refine stkz (.agg #[.int .i64 y.kind,.string y.name,.int .i64 y.sort,.slice Ay y.kids.length cy]) rfl rfl rfl (fun _ _ _ h=>h) HB35.out (fun Y hY=>by
       (try simp only[Act.put]);go_simp) ?_
     refine stkz (.int .i64 0) rfl rfl rfl (fun _ _ _ h=>h) HB35.out (fun Y hY=>by
       (try simp only[Act.put]);go_simp) ?_
     try simp only[Act.put,fsa,fsb,fsc,fsd,fse,fsf]
     try simp only[Act.put,fsa,fsb,fsc,fsd,fse,fsf]
     obtain⟨Z,hZ,hxZ,hbZ,hsZ,hcZ,-⟩:=qcm (W:=w34) (B:=D.heap.size) (a:=.int .i64 y.kind) (b:=.string y.name) (c:=.int .i64 y.sort) (d:=.slice Ay y.kids.length cy) HZ36.out;obtain⟨o0,o1,o2,o3,of_⟩:=qaa HZ36.out;have HBZ:Hid (Below D.heap.size D Z):=hdzz (HB35.out.trans (hbZ.mono hz28));have HWZ:=hdzz (HW.out.go HBZ.out);have HXZ:=hdzz hxZ;have HRZ:Hid (RepP Z (fun b=>b≠g∧b<Z.heap.size) y Ay cy):=hdzz (RepP.mono (fun b h=>⟨h.1,by rw[hsZ];exact h.2.2⟩) (fun q hq=>hcZ q hq.2.1) _ _ _ HRy.out);refine qae rfl rfl (fun K hK=>?_);go_wp2_with fail
     rw[←hZ];refine⟨⟨fun _=>HBZ.out,trivial⟩,?_⟩;clear hZ hxZ hbZ hsZ hcZ o0 o1 o2 o3 of_;refine qae rfl rfl (fun K hK=>?_);go_wp2_with fail
     refine⟨⟨fun _=>HBZ.out,trivial⟩,qar ?_⟩;go_wp2_with fail
     go_meet
     case rel=>exact⟨D.heap.size,y,Ay,cy,rfl,rfl,HYN.out,HWZ.out,HXZ.out,HRZ.out⟩
   case rest=>
    clear HW12 HBX HRP HBY HRX HPX HYN HRE HRR hrs y hmod hi0 hi1 hil habI hab0 hnn0;obtain⟨z,y,Ay,cy,rfl,rfl,HYN,HW,HBY,HRY⟩:=hcut;obtain⟨x0,x1,x2,x3,xf⟩:=qaa HBY.out;have VA:=qhr y Ay cy wc (by have:=HYN.out.2;omega) (RepP.mono (fun b h=>h.2) (fun _ _=>rfl) _ _ _ HRY.out);simp only[Tm.val]at VA;have VA:=hdzz VA;go_wp2_with fail
    refine VA.out.mono ?_;clear VA x0 x1 x2 x3 xf;rintro e w14 ⟨rfl,hb⟩;have HW1:=hdzz (HW.out.go hb);have HBY1:=sblz hb HBY;have HRY1:Hid (RepP w14 (fun b=>b≠g∧b<w14.heap.size) y Ay cy):=hdzz (RepP.mono (fun b h=>⟨h.1,Nat.lt_of_lt_of_le h.2 hb.size⟩) (fun q hq=>hb.cell hq.2) _ _ _ HRY.out);clear HW HBY HRY hb;by_cases hv:y.validT=0
    rotate_left
    ·have hv1:decide (y.validT=0)=false:=decide_eq_false hv;go_wp2_with fail
     go_roundw
     case measure=>simp[intOf];omega
     case rel=>exact⟨k+1,u,Au,cu,by omega,by simp,HN.out,HW1.out⟩
    have HV:=hdzz hv;rw[hv];clear hv;obtain⟨x0,x1,x2,x3,xf⟩:=qaa HBY1.out;have VA:=qf0 1000 y Ay cy w14 (by have:=HYN.out.2;omega) (by decide) (RepP.mono (fun b h=>h.2) (fun _ _=>rfl) _ _ _ HRY1.out);simp only[Tm.val]at VA;have VA:=hdzz VA;go_wp2_with fail
    refine VA.out.mono ?_;clear VA x0 x1 x2 x3 xf;rintro e w15 ⟨rfl,hb⟩;have hb:=hb.below;have HW2:=hdzz (HW1.out.go hb);have HBY2:=sblz hb HBY1;have HRY2:Hid (RepP w15 (fun b=>b≠g∧b<w15.heap.size) y Ay cy):=hdzz (RepP.mono (fun b h=>⟨h.1,Nat.lt_of_lt_of_le h.2 hb.size⟩) (fun q hq=>hb.cell hq.2) _ _ _ HRY1.out);clear HW1 HBY1 HRY1 hb;by_cases hz:(y.size:Int)≤150
    rotate_left
    ·have hz1:decide ((y.size:Int)≤150)=false:=decide_eq_false hz;go_wp2_with fail
     go_roundw
     case measure=>simp[intOf];omega
     case rel=>exact⟨k+1,u,Au,cu,by omega,by simp,HN.out,HW2.out⟩
    have hz1:decide ((y.size:Int)≤150)=true:=decide_eq_true hz;obtain⟨x0,x1,x2,x3,xf⟩:=qaa HBY2.out;have VA:=qgk 1000 y Ay cy w15 (by have:=HYN.out.2;omega) (by decide) (RepP.mono (fun b h=>h.2) (fun _ _=>rfl) _ _ _ HRY2.out);simp only[Tm.val]at VA;have VA:=hdzz VA;go_wp2_with fail
    refine VA.out.mono ?_;clear VA x0 x1 x2 x3 xf;rintro e w16 ⟨rfl,hb⟩;have hb:=hb.below;have HW3:=hdzz (HW2.out.go hb);have HBY3:=sblz hb HBY2;have HRY3:Hid (RepP w16 (fun b=>b≠g∧b<w16.heap.size) y Ay cy):=hdzz (RepP.mono (fun b h=>⟨h.1,Nat.lt_of_lt_of_le h.2 hb.size⟩) (fun q hq=>hb.cell hq.2) _ _ _ HRY2.out);clear HW2 HBY2 HRY2 hb;by_cases hd:(y.depth:Int)≤30
    rotate_left
    ·have hd1:decide ((y.depth:Int)≤30)=false:=decide_eq_false hd;go_wp2_with fail
     go_roundw
     case measure=>simp[intOf];omega
     case rel=>exact⟨k+1,u,Au,cu,by omega,by simp,HN.out,HW3.out⟩
    have hd1:decide ((y.depth:Int)≤30)=true:=decide_eq_true hd;have HBN:Hid (Bent t y):=hdzz ⟨HV.out,HYN.out.1,by omega⟩;have HWS:=hdzz (HW3.out.set HRY3.out);obtain⟨x0,x1,x2,x3,xf⟩:=qaa HBY3.out;obtain⟨y0,y1,y2,y3,yf⟩:=qaa HW3.out.b7;clear hz hd;go_wp2_with fail
    go_roundw
    case measure=>simp[intOf];omega
    case rel=>exact⟨k+1,y,Ay,cy,by omega,by simp,HBN.out,HWS.out⟩
  ·have hke:k=bs.length:=by omega
   subst hke;have hge:¬((bs.length:Int)<(bs.length:Int)):=by omega
   obtain⟨x0,x1,x2,x3,xf⟩:=qaa HW.out.b7;have NO:=qg1 u Au cu wr (fun b=>b≠g∧b<wr.heap.size) (fun b h=>h.2) (by have:=HN.out.s;omega) HW.out.ru;simp only[Tm.val]at NO;have NO:=hdzz NO;go_wp2_with fail
   refine NO.out.mono ?_;clear NO x0 x1 x2 x3 xf;rintro e w17 (⟨z,hz,rfl,hb⟩|⟨hfine,A4,c4,rfl,hr4,hb⟩)
   ·have HB:=hdzz (HW.out.bel.trans (hb.mono HW.out.bel.size));clear HW hb;go_wp2_with fail
    go_ret
    exact⟨rfl,HB.out.trans ((qad (Nat.le_refl _) _).mono HB.out.size)⟩
   simp only[Tm.val];obtain⟨X5,hX5⟩:∃X,X=w17.alloc (.cells #[.int .i64 u.nf.kind,.string u.nf.name,.int .i64 u.nf.sort,.slice A4 u.nf.kids.length c4] 24):=⟨_,rfl⟩;have hb5:Below w17.heap.size w17 X5:=by rw[hX5];exact qad (Nat.le_refl _) _
   have HW5:=hdzz ((HW.out.go hb).go hb5);have HX:=hdzz hX5;have HFU:=hdzz hfine;clear HW hb hr4 hb5 hX5 hfine;go_upto_region 20 with fail
   rw[←HX.out];clear HX;obtain⟨x0,x1,x2,x3,xf⟩:=qaa HW5.out.b2;obtain⟨y0,y1,y2,y3,yf⟩:=qaa HW5.out.b7;have EQ:=qif t u A Au cap cu X5 HFI.out HFU.out (HW5.out.rt HT.out) HW5.out.ruT;rw[Tm.same_iff.2 HN.out.n.symm]at EQ;simp only[Tm.val]at EQ;have EQ:=hdzz EQ;go_wp2_with fail
   refine EQ.out.mono ?_;clear EQ x0 x1 x2 x3 xf y0 y1 y2 y3 yf;rintro e w18 ⟨rfl,hb⟩;have HW6:=hdzz (HW5.out.go hb);clear HW5 hb;obtain⟨x0,x1,x2,x3,xf⟩:=qaa HW6.out.b2;obtain⟨y0,y1,y2,y3,yf⟩:=qaa HW6.out.b7;have EQ:=qif u t Au A cu cap w18 HFU.out HFI.out HW6.out.ruT (HW6.out.rt HT.out);rw[Tm.same_iff.2 HN.out.n]at EQ;simp only[Tm.val]at EQ;have EQ:=hdzz EQ;go_wp2_with fail
   refine EQ.out.mono ?_;clear EQ x0 x1 x2 x3 xf y0 y1 y2 y3 yf;rintro e w19 ⟨rfl,hb⟩;have HW7:=hdzz (HW6.out.go hb);clear HW6 hb;go_wp2_with fail
   go_ret
   exact⟨rfl,HW7.out.bel⟩
end Go.Proofs.YtjhjoiplpmjepaaGreat
namespace Go.Proofs.YtjhjoiplpmjepaaGreat
open Go.ChangeShapes Go.WideShapes Go.Deep Go.Joins Go.RowKit
theorem cellsU:Tryz.prog.cellsOf 5=1:=by kernel_rfl
theorem cellsBe:Tryz.prog.cellsOf 33=3:=by kernel_rfl
theorem fieldsBe:∃f0 f1 f2:Field,Tryz.prog.underlying 33=some (.struct #[f0,f1,f2])∧(f0.type = 5∧f0.offset=0)∧(f1.type = 5∧f1.offset=1)∧(f2.type = 5∧f2.offset=2):=
 ⟨_,_,_,Tryz.underlying33,⟨rfl,rfl⟩,⟨rfl,rfl⟩,⟨rfl,rfl⟩⟩
section
variable {H:Type} {enc:TypeId×Value→H} {w:World} {base:Nat} {spare:Nat→Bool} {held:Bool}
theorem qhv {n:Nat} {c:Value} {x:DataW H×List MemPlace} (h:DataW.trod enc Tryz.prog w base spare held n 5 [c]=some x):∃z:Nat,c=.int .u8 z∧z<256:=by
 obtain⟨z,hz,-,hwf⟩:=DataW.trod_int Tryz.underlying5 h;simp only[List.cons.injEq,and_true]at hz;have hr:0≤z∧z<256:=by
  have e1:IntKind.u8.min=0:=by rfl
  have e2:IntKind.u8.max=255:=by rfl
  simp[Lit.wf,e1,e2]at hwf;omega
 exact⟨z.toNat,by rw[hz];congr 1;omega,by omega⟩
theorem open_bend (n:Nat) (cs:List Value) (x:DataW H×List MemPlace) (h:DataW.trod enc Tryz.prog w base spare held n 33 cs=some x) :
  ∃b:Nat×Nat×Nat,cs=[.int .u8 b.1,.int .u8 b.2.1,.int .u8 b.2.2]∧b.1<256∧b.2.1<256∧b.2.2<256:=by
 obtain⟨f0,f1,f2,hu,⟨t0,o0⟩,⟨t1,o1⟩,⟨t2,o2⟩⟩:=fieldsBe;obtain⟨xs,m,rfl,-,hcl,hxl,hf⟩:=DataW.trod_struct hu h;rw[cellsBe]at hcl;simp only[List.size_toArray,List.length_cons,List.length_nil]at hxl
 match cs,hcl,xs,hxl with
 | [c0,c1,c2],_,[x0,x1,x2],_=>
  have g0:=hf 0 f0 rfl;have g1:=hf 1 f1 rfl;have g2:=hf 2 f2 rfl;rw[t0,o0,cellsU]at g0;rw[t1,o1,cellsU]at g1;rw[t2,o2,cellsU]at g2;obtain⟨a,rfl,ha⟩:=qhv g0;obtain⟨b,rfl,hb⟩:=qhv g1;obtain⟨c,rfl,hc⟩:=qhv g2;exact⟨(a,b,c),rfl,ha,hb,hc⟩
theorem qnd {v:Value} {d:DataW H} {p:List MemPlace} {r:Reach} {b0:Nat} (hv:Value.okWide Tryz.prog w r b0 25 v) (h:DataW.Trod enc Tryz.prog w base spare held 25 v d p) :
  ∃(l:List (Nat×Nat×Nat)) (A:Option Addr) (cap:Nat),v=.slice A l.length cap∧RepBd w l A:=by
 obtain⟨A,len,cap,rfl⟩:=okWide_slice Tryz.underlying25 hv;obtain⟨n,hn⟩:=h;rcases DataW.trod_slice Tryz.underlying25 hn with⟨hn,-⟩|⟨a,len',cap',elems,rest,j,hj,hn,hx,-,hl,hm,hlen,hel,-,-⟩
 ·simp[Value.cells]at hn;obtain⟨rfl,rfl,rfl⟩:=hn;exact⟨[],none,0,rfl,fun x hx=>by simp at hx,.inl rfl⟩
 ·simp[Value.cells]at hn;obtain⟨rfl,rfl,rfl⟩:=hn;have step:∀i,i<len→∃b:Nat×Nat×Nat,(∀j,j<3→w.cell? ((a.add (i*3)).add j)=([.int .u8 b.1,.int .u8 b.2.1,.int .u8 b.2.2]:List Value)[j]?)∧b.1<256∧b.2.1<256∧b.2.2<256:=fun i hi=>by
   have h:=hel i hi;rw[List.getElem?_eq_getElem (by omega),cellsBe]at h;obtain⟨cs,hc,ht⟩:=Option.bind_eq_some_iff.1 h;obtain⟨b,rfl,hr⟩:=open_bend j _ _ ht;exact⟨b,(World.cells?_some hc).2.2,hr⟩
  obtain⟨f,hf⟩:=choose_lt step;refine⟨(List.range len).map f,some a,cap,by simp,fun x hx=>?_,?_⟩
  ·obtain⟨i,hi,rfl⟩:=List.mem_map.1 hx;exact(hf i (by simpa using hi)).2
  by_cases h0:len=0
  ·left;subst h0;rfl
  right;have h000:=(hf 0 (by omega)).1 0 (by omega);simp only[Nat.zero_mul,Addr.add,if_true,List.getElem?_cons_zero]at h000;have hs:=World.cell?_spot h000;have hb:=World.block_lt h000;obtain⟨b,off,sp⟩:=a;subst hs;refine⟨b,off,rfl,hb,fun i hi=>?_⟩;have hc:=(hf i (by simpa using hi)).1;have e:∀j,((⟨b,off,none⟩:Addr).add (i*3)).add j=⟨b,off+i*3+j,none⟩:=fun j=>by
   rw[add_add];unfold Addr.add;split
   ·rename_i h;rw[show off+i*3+j=off by omega]
   ·rw[Nat.add_assoc]
  have ei:((List.range len).map f)[i]=f i:=by simp
  rw[ei];refine⟨?_,?_,?_⟩
  ·have:=hc 0 (by omega);rw[e]at this;simpa using this
  ·have:=hc 1 (by omega);rw[e]at this;simpa using this
  ·have:=hc 2 (by omega);rw[e]at this;simpa using this
end
end Go.Proofs.YtjhjoiplpmjepaaGreat
