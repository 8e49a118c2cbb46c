/- Tmul2, Tavoid, Tdes0, Ttwo, Tcat, Tterm, Traise, Trhas, Tmrg (joined by shake.py). -/
import Derived.Test.YtjhjoiplpmjepaaGreatW0
import Derived.Test.YtjhjoiplpmjepaaGreatW5
import Derived.Test.YtjhjoiplpmjepaaGreatW6
import Derived.Test.YtjhjoiplpmjepaaGreatW9
import Derived.Test.YtjhjoiplpmjepaaGreatW11
import Derived.Test.YtjhjoiplpmjepaaGreatW13
import Derived.Deep.Cut
import Derived.Deep.QuietTactic
import Derived.BigQuiet
set_option maxRecDepth 100000
set_option linter.unusedVariables false
set_option linter.unusedSimpArgs false
set_option maxHeartbeats 16000000
namespace Go.Proofs.YtjhjoiplpmjepaaGreat
open Go.RowKit Go.Sort
theorem ql5 (a b:List Pw) {k:Nat} (hk:k<b.length):mulP a (b.take (k+1))=insP b[k].1 b[k].2 (mulP a (b.take k)):=by
 unfold mulP;rw[List.take_succ_eq_append_getElem hk,List.foldl_append];rfl
theorem BdP.mul {M L:Nat} {a b:List Pw} (ha:BdP M L a) (hb:∀p∈b,p.1.size≤1000000∧-1000≤p.2∧p.2≤1000):∀k,k≤b.length→BdP (M+1000*k) (L+k) (mulP a (b.take k)):=by
 intro k
 induction k with
 | zero=>intro _;rw[List.take_zero];exact ha
 | succ k ih=>
  intro hk;have hkb:k<b.length:=by omega
  rw[ql5 a b hkb];have h:=hb b[k] (List.getElem_mem hkb);exact(BdP.ins (K:=1000) h.1 (by omega) (ih (by omega))).more (by omega) (by omega)
theorem qkv {a b:List Pw} (ha:qbv a) (hb:∀p∈b,p.2≠0) (k:Nat):qbv (mulP a (b.take k)):=qhv _ ha fun p hp=>hb p (List.mem_of_mem_take hp)
theorem emul_any (a b:List Pw) (A B:Option Addr) (c d:Nat) (w:World) (hva:VP a) (hoa:Okp a) (hvb:VP b) (hob:Okp b) (hr:RP (mulP a b)) (hra:RepW w (fun b=>b<w.heap.size) a A c) (hrb:RepW w (fun b=>b<w.heap.size) b B d) :
  Calls Tryz.prog 138 #[.slice A a.length c,.slice B b.length d] w (OkW (mulP a b) w):=by
 have V1:=hdzz (qg5 a A c w hva hoa hra);have V2:Hid (∀X,Below w.heap.size w X→Calls Tryz.prog 135 #[.slice B b.length d] X fun e w'=>e=.returned (.int .i64 0)∧Below X.heap.size X w'):=hdzz fun X hX=>qg5 b B d X hvb hob (hrb.go hX hX.size);have CP:Hid (∀X,Below w.heap.size w X→Calls Tryz.prog 170 #[.slice A a.length c] X (OwnW a X)):=hdzz fun X hX=>qny a A c X (by have:=hva.1;omega) (fun p hp=>by have:=(qai (hva.2 p hp).1).2.1;omega) (hra.go hX hX.size)
 have RS:Hid (∀(X:World) (A':Option Addr) (c':Nat),RepW X (fun b=>b<X.heap.size) (mulP a b) A' c'→Calls Tryz.prog 171 #[.slice A' (mulP a b).length c'] X fun e w'=>e=.returned (.tuple #[.slice A' (mulP a b).length c',.int .i64 0])∧Below X.heap.size X w'):=hdzz fun X A' c' h=>qnx _ A' c' X hr h;have HBD:Hid (∀k,k≤b.length→qbv (mulP a (b.take k))∧BdP (1000+1000*k) (200+k) (mulP a (b.take k))):=hdzz fun k hk=>⟨qkv hoa.1 hob.1.2 k,BdP.mul ⟨hva.1,fun p hp=>by have h:=hva.2 p hp;have:=(qai h.1).2.1;omega⟩ (fun p hp=>by have h:=hvb.2 p hp;have:=(qai h.1).2.1;omega) k hk⟩;have HVB:=hdzz hvb;have HRB:=hdzz hrb;obtain⟨nb,hnb⟩:∃n,n=b.length:=⟨_,rfl⟩;have hlb:=hvb.1;rw[←hnb]at hlb V2 ⊢;have HNB:=hdzz hnb;obtain⟨na,hna⟩:∃n,n=a.length:=⟨_,rfl⟩
 rw[←hna]at V1 CP ⊢;obtain⟨res,hres⟩:∃r,r=mulP a b:=⟨_,rfl⟩;rw[←hres]at RS ⊢;have HRES:=hdzz hres;clear hva hoa hvb hob hr hra hrb hnb hna hres;have hlI:(nb:Int)≤200:=by omega
 go_enter Tryz.func138,Tryz.ntmps138
 go_wp2_with fail
 refine V1.out.mono ?_;clear V1;rintro e w1 ⟨rfl,hb1⟩;have V2:=hdzz (V2.out w1 hb1);have HB1:=hdzz hb1;clear hb1;go_wp2_with fail
 refine V2.out.mono ?_;clear V2;rintro e w2 ⟨rfl,hb2⟩;have HB2:=sbtz HB1 hb2;clear hb2 HB1;have CP:=hdzz (CP.out w2 HB2.out);go_wp2_with fail
 refine CP.out.mono ?_;clear CP;rintro e w3 ⟨v3,its,rfl,hrow3,hm3,hb3⟩;have hs2:=HB2.out.size;have HB3:=hdzz (HB2.out.trans (hb3.mono hs2));have HR3:=hdzz hrow3;have HM3:=hdzz hm3;have hs3:=hb3.size;clear hrow3 hm3 hb3;go_wp2_with fail
 go_loopw [8,25] (fun u8 i wr=>∃(k:Nat) (jts:List IW),k≤nb∧i=.int .i64 k∧Hid (RowW wr w2.heap.size (fun b=>w2.heap.size≤b) u8 jts)∧Hid (jts.map IW.pw=mulP a (b.take k))∧Hid (Below w2.heap.size w3 wr)) (fun _ i _=>nb - (intOf i).toNat)
 case atStart=>exact⟨0,its,Nat.zero_le _,rfl,HR3.out,HM3.out,Below.refl _ _⟩
 case round=>
  obtain⟨k,jts,hk,rfl,HR,HM,HB⟩:=hrel;have i1:(0:Int)≤(k:Int):=Int.natCast_nonneg _;have hsr:=HB.out.size;have HBW:=hdzz (HB3.out.trans (HB.out.mono hs2));by_cases hlt:k<nb
  ·have i2:(k:Int)<(nb:Int):=by omega
   have hkl:k<b.length:=by have:=HNB.out;omega
   obtain⟨bb,off,rfl,hbB,hget⟩:=(HRB.out.mono (w':=wr) (P':=fun b=>b<w.heap.size) (fun _ h=>h) (fun p hp=>HBW.out.cell (by omega))).get (fun e=>by rw[e]at hkl;simp at hkl);obtain⟨A1,c1,h0,h1,h2,h3,h4,h5⟩:=hget k hkl;have hbk:=HBD.out k (by omega);have hvk:=HVB.out.2 _ (List.getElem_mem hkl);have HNX:=hdzz (ql5 a b hkl);obtain⟨x,hx⟩:∃x,x=b[k]:=⟨_,rfl⟩;rw[←hx]at h0 h1 h2 h3 h4 h5 hvk HNX;clear hx hget;obtain⟨q,m⟩:=x;dsimp only at h0 h1 h2 h3 h4 h5 hvk HNX;rw[←HM.out]at hbk HNX;have hqs:=(qai hvk.1).2.1;obtain⟨X,hX⟩:∃X,X=wr.alloc (.cells #[.int .i64 q.kind,.string q.name,.int .i64 q.sort,.slice A1 q.kids.length c1,.int .i64 m] 163):=⟨_,rfl⟩;have hbX:Below wr.heap.size wr X:=by rw[hX];exact qab (Nat.le_refl _) _
   have hxX:X.heap[wr.heap.size]?=some (.cells #[.int .i64 q.kind,.string q.name,.int .i64 q.sort,.slice A1 q.kids.length c1,.int .i64 m] 163 (0,0)):=by rw[hX];exact heap_alloc_new wr _
   obtain⟨x0,x1,x2,x3,x4,xf⟩:=qdg hxX;have hbs:=hbX.size;have IN:=qip X w2.heap.size u8 jts q m A1 c1 (HR.out.below hbX) (by omega) hbk.1 (by have:=hbk.2.1;simp at this;omega) (fun x hx=>(hbk.2.2 _ (List.mem_map_of_mem hx)).1) (fun x hx=>by have:=(hbk.2.2 _ (List.mem_map_of_mem hx)).2;simp only[IW.pw]at this;omega) (by omega) (by omega)
    (RepP.mono (w:=wr) (fun b (h:b<w.heap.size)=>⟨by omega,fun e=>by have:=(HR.out.lt b e).1;omega⟩) (fun p (h:p.block<w.heap.size)=>hbX.cell (by omega)) _ _ _ h5)
   simp only[pval]at IN;have IN:=hdzz IN;have HX:=hdzz hX;have HBX:=hdzz (HB.out.trans (hbX.mono (by omega)));clear hX hbX hxX h5 hbk hvk;go_wp2_with fail
   rw[←HX.out];clear HX h0 h1 h2 h3 h4;go_wp2_with fail
   refine IN.out.mono ?_;clear IN x0 x1 x2 x3 x4 xf;rintro e w4 ⟨v4,jt4,rfl,hr4,hm4,hb4⟩;have HR4:=hdzz hr4;have HM4:=hdzz (hm4.trans HNX.out.symm);have HB4:=hdzz (HBX.out.trans hb4);clear hr4 hm4 hb4;go_wp2_with fail
   go_roundw
   case rel=>exact⟨k+1,jt4,by omega,by go_num,HR4.out,HM4.out,HB4.out⟩
   case measure=>simp[intOf];omega
  ·obtain rfl:k=nb:=by omega
   have hm:jts.map IW.pw=res:=by rw[HM.out,HNB.out,List.take_length,HRES.out]
   obtain⟨A2,c2,rfl,hW⟩:=HR.out.toW (P:=fun b=>w.heap.size≤b∧b<wr.heap.size) (fun b h1 h=>⟨by omega,h⟩) (fun b h=>by have:=HR.out.lt b h;omega);rw[hm]at hW;have HWF:=hdzz hW;have hjl:jts.length=res.length:=by rw[←hm];simp
   have RS:=hdzz (RS.out wr A2 c2 (hW.mono (fun _ h=>h.2) (fun _ _=>rfl)));rw[hjl];clear hm hW HR HM hjl;go_wp2_with fail
   refine RS.out.mono ?_;clear RS;rintro e w5 ⟨rfl,hb5⟩;have HW5:=hdzz (HWF.out.mono (w':=w5) (P':=fun b=>w.heap.size≤b∧b<w5.heap.size) (fun b h=>⟨h.1,by have:=hb5.size;omega⟩) (fun p h=>hb5.cell h.2));have HB5:=sbtz HBW hb5;clear hb5;go_wp2_with fail
   go_ret2
   exact⟨A2,c2,rfl,HW5.out,HB5.out⟩
theorem qao {W:World} {B:Nat} {x y z u:Value} {q:Addr} (hq:q.block≠B) :
  ((((W.setCell ⟨B,0,none⟩ x).setCell ⟨B,1,none⟩ y).setCell ⟨B,2,none⟩ z).setCell ⟨B,3,none⟩ u).cell? q=W.cell? q:=by
 have hne:∀o,(⟨B,o,none⟩:Addr)≠q:=fun o e=>hq (by rw[←e]);rw[World.cell?_setCell_other _ _ _ _ (hne _),World.cell?_setCell_other _ _ _ _ (hne _),World.cell?_setCell_other _ _ _ _ (hne _),World.cell?_setCell_other _ _ _ _ (hne _)]
theorem qh2 (t u:Tm) (A A':Option Addr) (c c':Nat) (w:World) (ht:t.size≤1000000) (hu:u.size≤1000000) (hrep:RepT w w.heap.size t A c) (hrep':RepT w w.heap.size u A' c') :
  Calls Tryz.prog 40 #[t.val A c,u.val A' c'] w fun e w'=>e=.returned (.bool (t.same u))∧Lay w.heap.size w w':=by
 have hL:Lay w.heap.size w ((w.alloc (.cells #[.int .i64 t.kind,.string t.name,.int .i64 t.sort,.slice A t.kids.length c] 24)).alloc (.cells #[.int .i64 u.kind,.string u.name,.int .i64 u.sort,.slice A' u.kids.length c'] 24)):=
  ((Lay.refl _ _).alloc (Nat.le_refl _) _).alloc (by simp) _
 have HC:=hdzz (qb7 1000000 t u A A' c c' _ ht (by omega) hu (hrep.go hL.below hL.size) (hrep'.go hL.below hL.size));have e:t.same u=(t.cmp u==0):=by unfold Tm.same;rw[Bool.eq_iff_iff];simp
 rw[e];generalize t.cmp u=r at *;simp only[Tm.val]at HC ⊢;go_enter Tryz.func40,Tryz.ntmps40
 go_wp2_with fail
 refine HC.out.mono ?_;rintro e w' ⟨rfl,hl⟩;go_wp2_with fail
 go_ret
 exact⟨rfl,hL.trans (hl.mono hL.size)⟩
theorem qam (n:ByteArray) (A:Option Addr) (k c:Nat) (w:World):Calls Tryz.prog 61 #[.string n,.slice A k c] w fun e w'=>e=.returned (.agg #[.int .i64 3,.string n,.int .i64 0,.slice A k c])∧Below w.heap.size w w':=by
 go_enter Tryz.func61,Tryz.ntmps61
 go_wp2_with fail
 have hx:=heap_alloc_new w (.cells #[.int .i64 3,.string n,.int .i64 0,.slice A k c] 24);obtain⟨r0,r1,r2,r3,rf⟩:=qaa hx;refine bodyPost_ret (v:=.agg #[.int .i64 3,.string n,.int .i64 0,.slice A k c]) ?_ rfl ?_
 ·simp[results,Tryz.results61,go_sem,r0,r1,r2,r3]
 exact⟨rfl,qab (Nat.le_refl _) _⟩
def OkR (Pb:Nat→Prop) (r:Tm) (w:World) (e:Ending) (w':World):Prop:=∃A c,e=.returned (r.val A c)∧RepP w' (fun b=>Pb b∨w.heap.size≤b∧b<w'.heap.size) r A c∧Below w.heap.size w w'
structure DstB (Pb:Nat→Prop) (w:World) (n:ByteArray) (l:List Tm) (A:Option Addr) (c:Nat) (a k:Tm) (Aa Ak:Option Addr) (ca ck:Nat) (W:World):Prop where
 b1:W.heap[w.heap.size]?=some (qal (.mk 3 n 0 l) A c)
 b2:W.heap[w.heap.size+1]?=some (.cells #[.int .i64 0,.string ⟨#[]⟩,.int .i64 0,.slice none 0 0] 24 (0,0))
 b3:W.heap[w.heap.size+1+1]?=some (qal a Aa ca)
 b4:W.heap[w.heap.size+1+1+1]?=some (qal k Ak ck)
 bel:Below w.heap.size w W
 ra:RepP W Pb a Aa ca
 rk:RepP W Pb k Ak ck
 rt:RepP W Pb (.mk 3 n 0 l) A c
 le:∀b,Pb b→b<w.heap.size
theorem DstB.size {Pb:Nat→Prop} {w W:World} {n:ByteArray} {l:List Tm} {A:Option Addr} {c:Nat} {a k:Tm} {Aa Ak:Option Addr} {ca ck:Nat} (h:DstB Pb w n l A c a k Aa Ak ca ck W):w.heap.size+1+1+1<W.heap.size:=(sltz h.b4)
theorem DstB.go {Pb:Nat→Prop} {w W Z:World} {n:ByteArray} {l:List Tm} {A:Option Addr} {c:Nat} {a k:Tm} {Aa Ak:Option Addr} {ca ck:Nat} (h:DstB Pb w n l A c a k Aa Ak ca ck W) (hb:Below W.heap.size W Z):DstB Pb w n l A c a k Aa Ak ca ck Z:=by
 have hs:=h.size;have hle:=h.le;exact⟨(hb.block _ (by omega)).trans h.b1,(hb.block _ (by omega)).trans h.b2,(hb.block _ (by omega)).trans h.b3,(hb.block _ (by omega)).trans h.b4,h.bel.trans (hb.mono (by omega)),
  RepP.mono (fun _ h=>h) (fun p hp=>hb.cell (by have:=hle _ hp;omega)) _ _ _ h.ra,RepP.mono (fun _ h=>h) (fun p hp=>hb.cell (by have:=hle _ hp;omega)) _ _ _ h.rk,RepP.mono (fun _ h=>h) (fun p hp=>hb.cell (by have:=hle _ hp;omega)) _ _ _ h.rt,hle⟩
theorem qau {W:World} {P:Nat→Prop} {t:Tm} {A:Option Addr} {c:Nat} (h:RepP W P t A c) (i:Nat) (hi:i<t.kids.length):∃b off A' c',A=some ⟨b,off,none⟩∧P b∧
  W.cell? ⟨b,off+i*4,none⟩=some (.int .i64 (kidT t.kids i).kind)∧W.cell? ⟨b,off+i*4+1,none⟩=some (.string (kidT t.kids i).name)∧W.cell? ⟨b,off+i*4+2,none⟩=some (.int .i64 (kidT t.kids i).sort)∧W.cell? ⟨b,off+i*4+3,none⟩=some (.slice A' (kidT t.kids i).kids.length c')∧RepP W P (kidT t.kids i) A' c':=by
 obtain⟨k,n,s,l⟩:=t;have hi:i<l.length:=hi;have e:kidT (Tm.mk k n s l).kids i=l[i]:=by show kidT l i=_;unfold kidT;rw[List.getElem?_eq_getElem hi];rfl
 rw[e];rw[qa3]at h;rcases h.2.2.2 with h|⟨b,off,rfl,hb,hl⟩
 ·rw[h]at hi;simp at hi
 ·obtain⟨A',c',h0,h1,h2,h3,h4⟩:=RepLP.get hl i hi;exact⟨b,off,A',c',rfl,hb,h0,h1,h2,h3,h4⟩
theorem qlu {w:World} {base:Nat} {F:Nat→Prop} {v:Value} {its:List It} (hrow:RowT w base F v its) (hbase:base≤w.heap.size) (X:It) (hX:RepP w (fun b=>F b∧b<w.heap.size∧v.ownBlock≠some b) X.1 X.2.1 X.2.2) (hlen:its.length+1≤100000000) :
  ∃g c' w',(∀ty,(Builtin.append_ #[22,22] ty #[v,.slice (some ⟨w.heap.size,0,none⟩) 1 1]).run Tryz.prog (w.alloc (.cells #[.int .i64 X.1.kind,.string X.1.name,.int .i64 X.1.sort,.slice X.2.1 X.1.kids.length X.2.2] 24))=.ok (.slice (some ⟨g,0,none⟩) (its.length+1) c') w')∧
   RowT w' base F (.slice (some ⟨g,0,none⟩) (its.length+1) c') (its++[X])∧(∀W0 B0,Below B0 W0 w→B0≤base→Below B0 W0 w')∧(∀k,k<w.heap.size→v.ownBlock≠some k→w'.heap[k]?=w.heap[k]?)∧w.heap.size≤w'.heap.size∧(v.ownBlock=some g∨w.heap.size≤g):=by
 obtain⟨W6,hW6⟩:∃W6,W6=w.alloc (.cells #[.int .i64 X.1.kind,.string X.1.name,.int .i64 X.1.sort,.slice X.2.1 X.1.kids.length X.2.2] 24):=⟨_,rfl⟩;have hb6:Below w.heap.size w W6:=by rw[hW6];exact qab (Nat.le_refl _) _
 have hs6:W6.heap.size=w.heap.size+1:=by rw[hW6];simp
 have hx6:W6.heap[w.heap.size]?=some (.cells (itCells [X]).toArray 24 (0,0)):=by rw[hW6];exact heap_alloc_new _ _
 have key:RepP W6 (fun b=>F b∧b<W6.heap.size∧v.ownBlock≠some b) X.1 X.2.1 X.2.2:=
  RepP.mono (fun b hb=>⟨hb.1,by have:=hb.2.1;omega,hb.2.2⟩) (fun p hp=>hb6.cell hp.2.1) _ _ _ hX
 obtain⟨i0,hi0,hz0,hz1,hz2⟩:=info_parts qcj;have hrow6:=hrow.below hb6;obtain⟨g,cap,w',h1,h2,h3,h4,h5⟩:=run_append_lies (P:=Tryz.prog) W6 22 0 base 24 i0 _ 4 56 Tryz.underlying22 hi0 hz0 hz1 hz2 rfl (by omega) v its.length (itCells its) hrow6.own ⟨w.heap.size,0,none⟩ 1 1 (itCells [X]) (qa8 _)
  (fun j u hu=>by
   have e:(⟨w.heap.size,0,none⟩:Addr).add j=⟨w.heap.size,j,none⟩:=by unfold Addr.add;split<;>simp_all
   rw[e,cell_of_row W6 w.heap.size j _ _ _ hx6];simpa using hu) (qbt [X]) (by omega) (by unfold maxLen;omega) (by omega) (by omega) W6.heap.size rfl
 have hsz:=h3.size;have hb1:∀ty,(Builtin.append_ #[22,22] ty #[v,.slice (some ⟨w.heap.size,0,none⟩) 1 1]).run Tryz.prog W6=.ok (.slice (some ⟨g,0,none⟩) (its.length+1) cap) w':=fun ty=>h1;rw[hW6]at hb1;refine⟨g,cap,w',hb1,qge hrow6 key (by simpa[itCells]using h2) h3 (h4.imp id fun h=>by omega),fun W0 B0 hB hB0=>?_,fun k hk hne=>?_,by omega,h4.imp id (fun h=>by omega)⟩
 ·have hbs:=hB.size;exact(hB.trans (hb6.mono (by omega))).grown h3 (by omega) (fun j e=>by have:=(hrow.lt _ e).1;omega)
 ·rw[h3.block k (by omega) (fun e=>hne e.symm)];exact hb6.block k hk
structure Two (w:World) (base:Nat) (v u:Value) (ps ns:List It):Prop where
 p:RowT w base (fun b=>base≤b∧u.ownBlock≠some b) v ps
 n:RowT w base (fun b=>base≤b∧v.ownBlock≠some b) u ns
 ne:∀k,v.ownBlock=some k→u.ownBlock≠some k
theorem Two.nil (w:World) (base:Nat):Two w base (.slice none 0 0) (.slice none 0 0) [] []:=⟨RowT.nil _ _ _,RowT.nil _ _ _,fun k h=>by cases h⟩
theorem Two.swap {w:World} {base:Nat} {v u:Value} {ps ns:List It} (h:Two w base v u ps ns):Two w base u v ns ps:=⟨h.n,h.p,fun k h1 h2=>h.ne k h2 h1⟩
theorem Two.below {w w':World} {base:Nat} {v u:Value} {ps ns:List It} (h:Two w base v u ps ns) (hb:Below w.heap.size w w'):Two w' base v u ps ns:=⟨h.p.below hb,h.n.below hb,h.ne⟩
theorem Two.push {w:World} {base:Nat} {v u:Value} {ps ns:List It} (h:Two w base v u ps ns) (hbase:base≤w.heap.size) (X:It) (hX:RepP w (fun b=>base≤b∧b<w.heap.size∧v.ownBlock≠some b∧u.ownBlock≠some b) X.1 X.2.1 X.2.2) (hlen:ps.length+1≤100000000) :
  ∃g c' w',(∀ty,(Builtin.append_ #[22,22] ty #[v,.slice (some ⟨w.heap.size,0,none⟩) 1 1]).run Tryz.prog (w.alloc (.cells #[.int .i64 X.1.kind,.string X.1.name,.int .i64 X.1.sort,.slice X.2.1 X.1.kids.length X.2.2] 24))=.ok (.slice (some ⟨g,0,none⟩) (ps.length+1) c') w')∧
   Two w' base (.slice (some ⟨g,0,none⟩) (ps.length+1) c') u (ps++[X]) ns∧(∀W0 B0,Below B0 W0 w→B0≤base→Below B0 W0 w')∧(∀k,k<w.heap.size→v.ownBlock≠some k→w'.heap[k]?=w.heap[k]?)∧w.heap.size≤w'.heap.size∧(v.ownBlock=some g∨w.heap.size≤g):=by
 obtain⟨g,c',w',h1,h2,h3,h4,h5,h6⟩:=qlu h.p hbase X (RepP.mono (fun b hb=>⟨⟨hb.1,hb.2.2.2⟩,hb.2.1,hb.2.2.1⟩) (fun _ _=>rfl) _ _ _ hX) hlen;have hn:RowT w' base (fun b=>base≤b∧v.ownBlock≠some b) u ns:=h.n.keep h5 (fun b hb hor=>h4 b hb (fun e=>by
  rcases hor with hor|hor
  ·exact hor.2 e
  ·exact h.ne b e hor))
 refine⟨g,c',w',h1,⟨h2,?_,fun k hk hu=>?_⟩,h3,h4,h5,h6⟩
 ·-- the other row's terms lie as they lay
  have hno:∀b,b<w.heap.size→v.ownBlock≠some b→(Value.slice (some ⟨g,0,none⟩) (ps.length+1) c').ownBlock≠some b:=fun b hb hne e=>by
   have e:g=b:=Option.some.inj e;subst e;rcases h6 with h|h
   ·exact hne h
   ·omega
  refine⟨hn.own,fun x hx=>?_⟩;refine RepP.mono (fun b hb=>?_) (fun p hp=>World.cell?_of_block (h4 p.block hp.2.1 hp.1.2)) _ _ _ (h.n.reps x hx);exact⟨⟨hb.1.1,hno b hb.2.1 hb.1.2⟩,by omega,hb.2.2⟩
 ·have e:g=k:=Option.some.inj hk;subst e;rcases h6 with h|h
  ·exact absurd hu (‹Two w base v u ps ns›.ne g h)
  ·have:=(‹Two w base v u ps ns›.n.lt g hu).2;omega
theorem qjh {w:World} {base:Nat} {v:Value} {its:List It} {F:Nat→Prop} (hrow:RowT w base F v its) (hB:∀b,F b→b<base) (hbase:base≤w.heap.size) {l:List Tm} {A:Option Addr} {c:Nat} (hS:RepS w F l A c) (hlen:its.length+l.length≤100000000) :
  ∃A' c' w' it2,it2.map (·.1)=l∧(∀ty,(Builtin.append_ #[22,22] ty #[v,.slice A l.length c]).run Tryz.prog w=.ok (.slice A' (its.length+l.length) c') w')∧
   RowT w' base F (.slice A' (its.length+l.length) c') (its++it2)∧(∀W0 B0,Below B0 W0 w→B0≤base→Below B0 W0 w'):=by
 have grown:∀{w1:World},w.grownBy w1 v.ownBlock→∀W0 B0,Below B0 W0 w→B0≤base→Below B0 W0 w1:=fun hg W0 B0 hb hB0=>
  qbf hb (by omega) hg (fun k hk=>by have:=(hrow.lt k hk).1;omega)
 rcases hS.2.2 with h|⟨b,off,rfl,hbB,hl⟩
 ·subst h;have hc0:∀ty,(Builtin.append_ #[22,22] ty #[v,.slice A 0 c]).run Tryz.prog w=.ok v w:=fun ty=>qhn hrow.own A c ty;rcases hrow.own.2 with⟨hv,h0⟩|⟨g,cap,cur,hv,_⟩
  ·refine⟨none,0,w,[],rfl,fun ty=>?_,?_,fun _ _ h _=>h⟩
   ·rw[hv]at hc0;rw[hv,h0];exact hc0 ty
   ·rw[hv]at hrow;rw[List.append_nil,h0];exact hrow
  ·refine⟨some ⟨g,0,none⟩,cap,w,[],rfl,fun ty=>?_,?_,fun _ _ h _=>h⟩
   ·have h2:=hc0 ty;rw[hv]at h2;rw[hv];exact h2
   ·rw[hv]at hrow;rw[List.append_nil];exact hrow
 ·obtain⟨it2,hm,hc,hr⟩:=RepLP.its l b off hl;have hl2:l.length=it2.length:=by rw[←hm,List.length_map]
  obtain⟨A',c',w',h1,h2,h3,-⟩:=hrow.more hB hbase b off c l.length it2 hl2 hc hr hlen;exact⟨A',c',w',it2,hm,h1,h2,grown h3⟩
def CattedP (P:Nat→Prop) (L:List Tm) (w:World) (e:Ending) (w':World):Prop:=
 ∃A c its,e=.returned (.slice A L.length c)∧RowT w' w.heap.size P (.slice A L.length c) its∧its.map (·.1)=L∧Below w.heap.size w w'
theorem qnz (P:Nat→Prop) (l m:List Tm) (A0 A1:Option Addr) (c0 c1 sb:Nat) (w:World) (hl:l.length≤100000) (hm:m.length≤100000)
  (hx:w.heap[sb]?=some (.cells #[.slice A0 l.length c0,.slice A1 m.length c1] 22 (0,0))) (hP:∀b,P b→b<w.heap.size) (h0:RepS w P l A0 c0) (h1:RepS w P m A1 c1) :
  Calls Tryz.prog 81 #[.slice (some ⟨sb,0,none⟩) 2 2] w (CattedP P (l++m) w):=by
 have hsb:=(sltz hx);have x0:w.cell? ⟨sb,0,none⟩=some (.slice A0 l.length c0):=by simp[World.cell?,hx]
 have x1:w.cell? ⟨sb,1,none⟩=some (.slice A1 m.length c1):=by simp[World.cell?,hx]
 have GR:=qou (l.length+m.length) (by omega) w;rw[show((l.length+m.length:Nat):Int)=(l.length:Int)+(m.length:Int)by omega]at GR;have GR:=hdzz GR;have H0:=hdzz h0;clear h0;have H1:=hdzz h1;clear h1;have i1:(0:Int)≤(l.length:Int):=by omega
 have i2:(0:Int)≤(m.length:Int):=by omega
 have i3:¬((l.length:Int)<0):=by omega
 have i4:¬((l.length:Int)+(m.length:Int)<0):=by omega
 go_enter Tryz.func81,Tryz.ntmps81
 go_wp2_with fail
 refine wp_loop_rounds 3 ?_;rw[rounds_succ];go_wp2_with fail
 rw[rounds_succ];go_wp2_with fail
 rw[rounds_succ];go_wp2_with fail
 refine GR.out.mono ?_;clear GR x0 x1;rintro e w1 ⟨A,c,rfl,hrow,hb⟩;have hrow':RowT w1 w.heap.size P (.slice A 0 c) []:=⟨hrow.own,by simp⟩;have up:∀{Z:World} {t:List Tm} {T:Option Addr} {k:Nat},Below w.heap.size w Z→RepS w P t T k→RepS Z P t T k:=fun hZ h=>RepS.mono (fun _ h=>h) (fun p hp=>hZ.cell (hP _ hp)) h;obtain⟨A2,c2,w2,it2,hm2,hap1,hrow2,hg2⟩:=qjh hrow' hP hb.size (up hb H0.out) (by simp;omega);have hb2:=hg2 _ _ hb (Nat.le_refl _);simp only[List.length_nil,Nat.zero_add,List.nil_append]at hap1 hrow2;have hl2:it2.length=l.length:=by rw[←hm2,List.length_map]
 rw[←hl2]at hrow2;obtain⟨A3,c3,w3,it3,hm3,hap2,hrow3,hg3⟩:=qjh hrow2 hP hb2.size (up hb2 H1.out) (by omega);have hb3:=hg3 _ _ hb2 (Nat.le_refl _);rw[hl2]at hap2 hrow3;have x0:w1.cell? ⟨sb,0,none⟩=some (.slice A0 l.length c0):=by rw[hb.cell (show sb<_ from hsb)];simp[World.cell?,hx]
 have x1:w2.cell? ⟨sb,1,none⟩=some (.slice A1 m.length c1):=by rw[hb2.cell (show sb<_ from hsb)];simp[World.cell?,hx]
 have HROW:=hdzz hrow3;clear hrow3 hrow2 hrow' hrow hg2 hg3;have HB:=hdzz hb3;clear hb3 hb2 hb;have HM:Hid ((it2++it3).map (·.1)=l++m):=by show _=_;rw[List.map_append,hm2,hm3]
 clear hm2 hm3 hl2 hx up i1 i2 i3 i4;go_wp2_with fail
 refine wp_loop_rounds 3 ?_;rw[rounds_succ];go_wp2_with (at_builtin;refine qag rfl _ _ rfl rfl rfl hap1 ?_)
 rw[rounds_succ];go_wp2_with (at_builtin;refine qag rfl _ _ rfl rfl rfl hap2 ?_)
 rw[rounds_succ];go_wp2_with fail
 go_ret
 exact⟨A3,c3,it2++it3,by rw[List.length_append];rfl,by rw[List.length_append];exact HROW.out,HM.out,HB.out⟩
theorem qkz (n:ByteArray) (A:Option Addr) (k c:Nat) (w:World):Calls Tryz.prog 137 #[.string n,.slice A k c] w fun e w'=>e=.returned (.agg #[.int .i64 3,.string n,.int .i64 0,.slice A k c])∧Below w.heap.size w w':=by
 go_enter Tryz.func137,Tryz.ntmps137
 go_wp2_with fail
 have hx:=heap_alloc_new w (.cells #[.int .i64 3,.string n,.int .i64 0,.slice A k c] 24);obtain⟨r0,r1,r2,r3,rf⟩:=qaa hx;refine bodyPost_ret (v:=.agg #[.int .i64 3,.string n,.int .i64 0,.slice A k c]) ?_ rfl ?_
 ·simp[results,Tryz.results137,go_sem,r0,r1,r2,r3]
 exact⟨rfl,qab (Nat.le_refl _) _⟩
def OkT (r:Tm) (w:World) (e:Ending) (w':World):Prop:=
 ∃A c,e=.returned (.tuple #[r.val A c,.int .i64 0])∧RepP w' (fun b=>w.heap.size≤b∧b<w'.heap.size) r A c∧Below w.heap.size w w'
theorem pos_take (l:List Pw) {k:Nat} (hk:k<l.length):posP (l.take (k+1))=posP (l.take k)++List.replicate l[k].2.toNat l[k].1:=by
 unfold posP;rw[List.take_succ_eq_append_getElem hk,List.flatMap_append];simp
theorem neg_take (l:List Pw) {k:Nat} (hk:k<l.length):negP (l.take (k+1))=negP (l.take k)++List.replicate (-l[k].2).toNat (.mk 3 nInv 0 [l[k].1]):=by
 unfold negP;rw[List.take_succ_eq_append_getElem hk,List.flatMap_append];simp
theorem pos_le (l:List Pw):∀k,(posP (l.take k)).length≤(posP l).length:=fun k=>by
 unfold posP
 conv=>rhs;rw[←List.take_append_drop k l,List.flatMap_append,List.length_append]
 omega
theorem neg_le (l:List Pw):∀k,(negP (l.take k)).length≤(negP l).length:=fun k=>by
 unfold negP
 conv=>rhs;rw[←List.take_append_drop k l,List.flatMap_append,List.length_append]
 omega
structure TAt (w:World) (u5 u6:Value) (ps ns:List It) (wr:World):Prop where
 two:Two wr (w.heap.size+1) u5 u6 ps ns
 bel:Below w.heap.size w wr
 box:wr.heap[w.heap.size]?=some (.cells #[.int .i64 0,.string ⟨#[]⟩,.int .i64 0,.slice none 0 0] 24 (0,0))
 siz:w.heap.size<wr.heap.size
theorem qe5 (l:List Pw) (A:Option Addr) (c:Nat) (w:World) (hok:qo7 l) (ho:Okp l) (hrep:RepW w (fun b=>b<w.heap.size) l A c) :
  Calls Tryz.prog 107 #[.slice A l.length c] w (OkT (prodT l) w):=by
 obtain⟨hv,h8,hpv⟩:=hok;obtain⟨V,hV⟩:∃V,V=w.alloc (.cells #[.int .i64 0,.string ⟨#[]⟩,.int .i64 0,.slice none 0 0] 24):=⟨_,rfl⟩;have hbV:Below w.heap.size w V:=by rw[hV];exact qab (Nat.le_refl _) _
 have hsV:V.heap.size=w.heap.size+1:=by rw[hV];simp
 have hbx:V.heap[w.heap.size]?=some (.cells #[.int .i64 0,.string ⟨#[]⟩,.int .i64 0,.slice none 0 0] 24 (0,0)):=by rw[hV];exact heap_alloc_new _ _
 have VA:=hdzz (qg5 l A c V hv ho (hrep.go hbV (by omega)));have hll:=hv.1;have HP8:Hid ((posP l).length+(negP l).length≤8):=hdzz (by rw[←List.length_append];exact h8);obtain⟨nl,hnl⟩:∃n,n=l.length:=⟨_,rfl⟩;rw[←hnl]at hll VA ⊢;have HNL:=hdzz hnl;have HVP:=hdzz hv;have HPV:=hdzz hpv;have HRW:=hdzz hrep;have HV:=hdzz hV;have HBX:=hdzz hbx;have HBV:=hdzz hbV;clear hV hbx hbV hrep hv ho h8 hpv hnl;have hlI:(nl:Int)≤200:=by omega
 go_enter Tryz.func107,Tryz.ntmps107
 go_wp2_with fail
 rw[←HV.out];clear HV;go_wp2_with fail
 refine VA.out.mono ?_;clear VA;rintro e w1 ⟨rfl,hb1⟩;have hs1:=hb1.size;have HT0:Hid (TAt w (.slice none 0 0) (.slice none 0 0) [] [] w1):=hdzz ⟨Two.nil _ _,HBV.out.trans (hb1.mono (by omega)),(hb1.block _ (by omega)).trans HBX.out,by omega⟩;clear hb1 HBX HBV;go_wp2_with fail
 go_loopw [5,6,20] (fun u5 u6 i wr=>∃(k:Nat) (ps ns:List It),k≤nl∧i=.int .i64 k∧Hid (TAt w u5 u6 ps ns wr)∧Hid (ps.map (·.1)=posP (l.take k))∧Hid (ns.map (·.1)=negP (l.take k))) (fun _ _ i _=>nl - (intOf i).toNat)
 case atStart=>exact⟨0,[],[],Nat.zero_le _,rfl,HT0.out,by rw[List.take_zero];rfl,by rw[List.take_zero];rfl⟩
 case round=>
  obtain⟨k,ps,ns,hk,rfl,HT,HP,HN⟩:=hrel;obtain⟨wo,hwo⟩:∃x,x=wr:=⟨_,rfl⟩;subst hwo;have i1:(0:Int)≤(k:Int):=Int.natCast_nonneg _;have hso:=HT.out.siz;by_cases hlt:k<nl
  ·have i2:(k:Int)<(nl:Int):=by omega
   have hkl:k<l.length:=by have:=HNL.out;omega
   obtain⟨b,off,rfl,hbB,hget⟩:=(HRW.out.mono (w':=wo) (P':=fun b=>b<w.heap.size) (fun _ h=>h) (fun p hp=>HT.out.bel.cell (by omega))).get (fun e=>by rw[e]at hkl;simp at hkl);obtain⟨A1,c1,h0,h1,h2,h3,h4,h5⟩:=hget k hkl;have HPT:=hdzz (pos_take l hkl);have HNT:=hdzz (neg_take l hkl);have hpl:=pos_le l (k+1);have hnl2:=neg_le l (k+1);have h8:=HP8.out;rw[HPT.out,List.length_append,List.length_replicate]at hpl;rw[HNT.out,List.length_append,List.length_replicate]at hnl2;have hvk:=HVP.out.2 _ (List.getElem_mem hkl);have hqs:=(qai hvk.1).2.1;have hpsl:ps.length=(posP (l.take k)).length:=by rw[←HP.out,List.length_map]
   have hnsl:ns.length=(negP (l.take k)).length:=by rw[←HN.out,List.length_map]
   obtain⟨x,hx⟩:∃x,x=l[k]:=⟨_,rfl⟩;rw[←hx]at h0 h1 h2 h3 h4 h5 HPT HNT hqs hpl hnl2;clear hx hget hvk;obtain⟨q,m⟩:=x;dsimp only at h0 h1 h2 h3 h4 h5 HPT HNT hqs hpl hnl2;have hm1:¬((8:Int)<m):=by omega
   have hm2:¬(m < -8):=by omega
   have hpsb:ps.length+m.toNat≤8:=by omega
   have hnsb:ns.length+(-m).toNat≤8:=by omega
   have hwm:IntKind.i64.wrap (-m) = -m:=by rw[IntKind.wrap_i64];omega
   clear hpl hnl2 h8 hpsl hnsl;obtain⟨X,hX⟩:∃X,X=wo.alloc (.cells #[.int .i64 q.kind,.string q.name,.int .i64 q.sort,.slice A1 q.kids.length c1,.int .i64 m] 163):=⟨_,rfl⟩;have hbX:Below wo.heap.size wo X:=by rw[hX];exact qab (Nat.le_refl _) _
   have hsX:X.heap.size=wo.heap.size+1:=by rw[hX];simp
   have hxX:X.heap[wo.heap.size]?=some (.cells #[.int .i64 q.kind,.string q.name,.int .i64 q.sort,.slice A1 q.kids.length c1,.int .i64 m] 163 (0,0)):=by rw[hX];exact heap_alloc_new wo _
   obtain⟨x0,x1,x2,x3,x4,xf⟩:=qdg hxX;have HX:=hdzz hX;have HTX:Hid (TAt w u5 u6 ps ns X):=hdzz ⟨HT.out.two.below hbX,HT.out.bel.trans (hbX.mono (by omega)),(hbX.block _ hso).trans HT.out.box,by omega⟩;have HBX:Hid (X.heap[wo.heap.size]?=some (.cells #[.int .i64 q.kind,.string q.name,.int .i64 q.sort,.slice A1 q.kids.length c1,.int .i64 m] 163 (0,0))∧u5.ownBlock≠some wo.heap.size∧u6.ownBlock≠some wo.heap.size):=hdzz ⟨hxX,fun e=>by have:=(HT.out.two.p.lt _ e).2;omega,fun e=>by have:=(HT.out.two.n.lt _ e).2;omega⟩;have HQ:Hid (∀Z,Below w.heap.size w Z→RepP Z (fun b=>b<w.heap.size) q A1 c1):=hdzz fun Z hZ=>RepP.mono (w:=wo) (fun _ h=>h) (fun p (hp:p.block<w.heap.size)=>(hZ.cell hp).trans (HT.out.bel.cell hp).symm) _ _ _ h5;obtain⟨B,hB⟩:∃B,B=wo.heap.size:=⟨_,rfl⟩
   rw[←hB]at x0 x1 x2 x3 x4 HBX;have hBX:B<X.heap.size:=by omega
   clear hX hbX hxX h5 HT;go_wp2_with fail
   rw[←HX.out];rw[←hB];have HBE:=hdzz hB;clear HX h0 h1 h2 h3 h4 hB;go_wp2_with fail
   clear x0 x1 x2 x3 x4 xf;go_loopw [5,35] (fun u5 i wr=>∃(j:Nat) (qs:List It),j≤m.toNat∧i=.int .i64 j∧Hid (TAt w u5 u6 qs ns wr)∧Hid (wr.heap[B]?=some (.cells #[.int .i64 q.kind,.string q.name,.int .i64 q.sort,.slice A1 q.kids.length c1,.int .i64 m] 163 (0,0))∧u5.ownBlock≠some B∧u6.ownBlock≠some B∧B<wr.heap.size)∧Hid (qs.map (·.1)=posP (l.take k)++List.replicate j q)∧Hid (qs.length=ps.length+j)) (fun _ i _=>m.toNat - (intOf i).toNat)
   case atStart=>exact⟨0,ps,Nat.zero_le _,rfl,HTX.out,⟨HBX.out.1,HBX.out.2.1,HBX.out.2.2,hBX⟩,by rw[List.replicate_zero,List.append_nil];exact HP.out,rfl⟩
   case round=>
    obtain⟨j,qs,hj,rfl,HT,HB,HM,HL⟩:=hrel;have j1:(0:Int)≤(j:Int):=Int.natCast_nonneg _;clear HTX HBX HP hBX;have hsr:=HT.out.siz;by_cases hjm:j<m.toNat
    ·have j2:(j:Int)<m:=by omega
     obtain⟨x0,x1,x2,x3,x4,xf⟩:=qdg HB.out.1;have CC:=qfh 1000000 q A1 c1 wr _ (by omega) (Nat.le_refl _) (fun b (h:b<w.heap.size)=>by omega) (HQ.out wr HT.out.bel);simp only[Tm.val]at CC;have CC:=hdzz CC;have HNEXT:Hid (posP (l.take k)++List.replicate j q++[q]=posP (l.take k)++List.replicate (j+1) q):=hdzz (by rw[List.append_assoc,List.replicate_succ']);clear xf;go_wp2_with fail
     refine CC.out.mono ?_;clear CC x0 x1 x2 x3 x4;rintro e w5 ⟨A5,c5,rfl,hrep5,hb5⟩;have hs5:=hb5.size;have h25:=HT.out.two.below hb5;obtain⟨g,c7,w7,hap,h27,hbl7,hold7,hs7,hg7⟩:=h25.push (by omega) (q,A5,c5) (RepP.mono (fun b h=>by
      obtain⟨h1,h2⟩:=h;exact⟨by omega,h2,fun e=>by have:=(HT.out.two.p.lt b e).2;omega,fun e=>by have:=(HT.out.two.n.lt b e).2;omega⟩) (fun _ _=>rfl) _ _ _ hrep5) (by have:=HL.out;omega)
     have HT7:Hid (TAt w (.slice (some ⟨g,0,none⟩) (qs.length+1) c7) u6 (qs++[(q,A5,c5)]) ns w7):=hdzz ⟨h27,hbl7 w _ (HT.out.bel.trans (hb5.mono (by omega))) (by omega),by
      rw[hold7 _ (by omega) (fun e=>by have:=(HT.out.two.p.lt _ e).1;omega),hb5.block _ (by omega)];exact HT.out.box,by omega⟩
     have HB7:Hid (w7.heap[B]?=some (.cells #[.int .i64 q.kind,.string q.name,.int .i64 q.sort,.slice A1 q.kids.length c1,.int .i64 m] 163 (0,0))∧(Value.slice (some ⟨g,0,none⟩) (qs.length+1) c7).ownBlock≠some B∧u6.ownBlock≠some B∧B<w7.heap.size):=hdzz ⟨by
       have:=HB.out.2.2.2;rw[hold7 _ (by omega) HB.out.2.1,hb5.block _ (by omega)];exact HB.out.1,fun e=>by
       have e:g=B:=Option.some.inj e;subst e;rcases hg7 with h|h
       ·exact HB.out.2.1 h
       ·have:=HB.out.2.2.2;omega,HB.out.2.2.1,by have:=HB.out.2.2.2;omega⟩
     dsimp only at hap;clear hrep5 hb5 h25 h27 hbl7 hold7 hg7;simp only[Tm.val];go_wp2_with (at_builtin;refine qag rfl _ _ rfl rfl rfl hap ?_)
     go_roundw
     case rel=>exact⟨j+1,qs++[(q,A5,c5)],by omega,by go_num,HT7.out,HB7.out,by rw[List.map_append,HM.out];exact HNEXT.out,by have:=HL.out;rw[List.length_append];show qs.length+1=_;omega⟩
     case measure=>simp[intOf];omega
    ·have hjm2:j=m.toNat:=by omega
     have j2:¬((j:Int)<m):=by omega
     rw[hjm2]at HM HL;clear hjm2 hj hjm;obtain⟨w4,hw4⟩:∃x,x=wr:=⟨_,rfl⟩;subst hw4;have HP2:=hdzz (HM.out.trans HPT.out.symm);obtain⟨x0,x1,x2,x3,x4,xf⟩:=qdg HB.out.1;clear HM HL HPT;go_wp2_with fail
     clear x0 x1 x2 x3 x4 xf;go_loopw [6,47] (fun u6 i wr=>∃(j:Nat) (rs:List It),j≤(-m).toNat∧i=.int .i64 j∧Hid (TAt w u5 u6 qs rs wr)∧Hid (wr.heap[B]?=some (.cells #[.int .i64 q.kind,.string q.name,.int .i64 q.sort,.slice A1 q.kids.length c1,.int .i64 m] 163 (0,0))∧u5.ownBlock≠some B∧u6.ownBlock≠some B∧B<wr.heap.size)∧Hid (rs.map (·.1)=negP (l.take k)++List.replicate j (.mk 3 nInv 0 [q]))∧Hid (rs.length=ns.length+j)) (fun _ i _=>(-m).toNat - (intOf i).toNat)
     case atStart=>exact⟨0,ns,Nat.zero_le _,rfl,HT.out,HB.out,by rw[List.replicate_zero,List.append_nil];exact HN.out,rfl⟩
     case round=>
      rename_i HT0' HB0'
      obtain⟨j,rs,hj,rfl,HT,HB,HM,HL⟩:=hrel;have j1:(0:Int)≤(j:Int):=Int.natCast_nonneg _;have hsr:=HT.out.siz;by_cases hjm:j<(-m).toNat
      ·have j2:(j:Int) < -m:=by omega
       obtain⟨x0,x1,x2,x3,x4,xf⟩:=qdg HB.out.1;have CC:=qfh 1000000 q A1 c1 wr _ (by omega) (Nat.le_refl _) (fun b (h:b<w.heap.size)=>by omega) (HQ.out wr HT.out.bel);simp only[Tm.val]at CC;have CC:=hdzz CC;have HNEXT:Hid (negP (l.take k)++List.replicate j (.mk 3 nInv 0 [q])++[.mk 3 nInv 0 [q]]=negP (l.take k)++List.replicate (j+1) (.mk 3 nInv 0 [q])):=hdzz (by rw[List.append_assoc,List.replicate_succ']);clear xf;go_wp2_with fail
       refine CC.out.mono ?_;clear CC x0 x1 x2 x3 x4;rintro e w5 ⟨A5,c5,rfl,hrep5,hb5⟩;have hs5:=hb5.size;obtain⟨Y,hY⟩:∃Y,Y=w5.alloc (.cells #[.int .i64 q.kind,.string q.name,.int .i64 q.sort,.slice A5 q.kids.length c5] 24):=⟨_,rfl⟩;have hbY:Below w5.heap.size w5 Y:=by rw[hY];exact qab (Nat.le_refl _) _
       have hsY:Y.heap.size=w5.heap.size+1:=by rw[hY];simp
       have hxY:Y.heap[w5.heap.size]?=some (.cells (itCells [(q,A5,c5)]).toArray 24 (0,0)):=by rw[hY];exact heap_alloc_new _ _
       have AP:=hdzz (qkz nInv (some ⟨w5.heap.size,0,none⟩) 1 1 Y);have hrepY:RepP Y (fun b=>wr.heap.size≤b∧b<Y.heap.size) (.mk 3 nInv 0 [q]) (some ⟨w5.heap.size,0,none⟩) 1:=by
        rw[qa3];refine⟨by decide,Nat.le_refl _,by unfold maxLen;omega,.inr ⟨w5.heap.size,0,rfl,⟨by omega,by omega⟩,?_⟩⟩;refine RepLP.of_its [(q,A5,c5)] _ 0 (fun j u hj=>?_) (fun x hx=>?_)
        ·rw[Nat.zero_add];unfold World.cell?;rw[hxY];simpa using hj
        ·rw[List.mem_singleton]at hx;subst hx;exact RepP.mono (fun b h=>⟨h.1,by omega⟩) (fun p h=>hbY.cell h.2) _ _ _ hrep5
       have HY:=hdzz hY;have H5Y:=hdzz (hb5.trans (hbY.mono (by omega)));have HRY:=hdzz hrepY;clear hY hbY hxY hrepY hrep5 hb5;simp only[nInv]at AP;simp only[Tm.val];go_wp2_with fail
       rw[←HY.out];clear HY;refine AP.out.mono ?_;clear AP;rintro e w6 ⟨rfl,hb6⟩;have hs6:=hb6.size;have h25:=HT.out.two.swap.below (H5Y.out.trans (hb6.mono (by omega)));obtain⟨g,c7,w7,hap,h27,hbl7,hold7,hs7,hg7⟩:=h25.push (by omega) (.mk 3 nInv 0 [q],some ⟨w5.heap.size,0,none⟩,1) (RepP.mono (fun b h=>by
        obtain⟨h1,h2⟩:=h;exact⟨by omega,by omega,fun e=>by have:=(HT.out.two.n.lt b e).2;omega,fun e=>by have:=(HT.out.two.p.lt b e).2;omega⟩) (fun p h=>hb6.cell (by omega)) _ _ _ HRY.out) (by have:=HL.out;omega)
       have HT7:Hid (TAt w u5 (.slice (some ⟨g,0,none⟩) (rs.length+1) c7) qs (rs++[(.mk 3 nInv 0 [q],some ⟨w5.heap.size,0,none⟩,1)]) w7):=hdzz ⟨h27.swap,hbl7 w _ (HT.out.bel.trans ((H5Y.out.trans (hb6.mono (by omega))).mono (by omega))) (by omega),by
        rw[hold7 _ (by omega) (fun e=>by have:=(HT.out.two.n.lt _ e).1;omega),hb6.block _ (by omega),H5Y.out.block _ (by omega)];exact HT.out.box,by omega⟩
       have HB7:Hid (w7.heap[B]?=some (.cells #[.int .i64 q.kind,.string q.name,.int .i64 q.sort,.slice A1 q.kids.length c1,.int .i64 m] 163 (0,0))∧u5.ownBlock≠some B∧(Value.slice (some ⟨g,0,none⟩) (rs.length+1) c7).ownBlock≠some B∧B<w7.heap.size):=hdzz ⟨by
         have:=HB.out.2.2.2;rw[hold7 _ (by omega) HB.out.2.2.1,hb6.block _ (by omega),H5Y.out.block _ (by omega)];exact HB.out.1,HB.out.2.1,fun e=>by
         have e:g=B:=Option.some.inj e;subst e;rcases hg7 with h|h
         ·exact HB.out.2.2.1 h
         ·have:=HB.out.2.2.2;omega,by have:=HB.out.2.2.2;omega⟩
       dsimp only[Tm.kind,Tm.name,Tm.sort,Tm.kids,nInv]at hap;clear hb6 h25 h27 hbl7 hold7 hg7;go_wp2_with (at_builtin;refine qag rfl _ _ rfl rfl rfl hap ?_)
       go_roundw
       case rel=>exact⟨j+1,rs++[((Tm.mk 3 nInv 0 [q],some ⟨w5.heap.size,0,none⟩,1):It)],by omega,by go_num,HT7.out,HB7.out,by rw[List.map_append,HM.out];exact HNEXT.out,by have:=HL.out;rw[List.length_append];show rs.length+1=_;omega⟩
       case measure=>simp[intOf];omega
      ·have hjm2:j=(-m).toNat:=by omega
       have j2:¬((j:Int) < -m):=by omega
       rw[hjm2]at HM;have HN2:=hdzz (HM.out.trans HNT.out.symm);clear hjm2 hj hjm;go_wp2_with fail
       go_roundw
       case rel=>exact⟨k+1,qs,rs,by omega,by go_num,HT.out,HP2.out,HN2.out⟩
       case measure=>simp[intOf];omega
  ·obtain rfl:k=nl:=by omega
   have hP:=HP.out;have hN:=HN.out;rw[HNL.out,List.take_length]at hP hN;obtain⟨Ap,cp,rfl,hSp⟩:=HT.out.two.p.toS (P:=fun b=>w.heap.size<b∧b<wo.heap.size) (fun b h1 h=>⟨by have:=h1.1;omega,h⟩) (fun b h1 h=>⟨by omega,h⟩);obtain⟨An,cn,rfl,hSn⟩:=HT.out.two.n.toS (P:=fun b=>w.heap.size<b∧b<wo.heap.size) (fun b h1 h=>⟨by have:=h1.1;omega,h⟩) (fun b h1 h=>⟨by omega,h⟩);rw[hP]at hSp;rw[hN]at hSn;have hlp:ps.length=(posP l).length:=by rw[←hP,List.length_map]
   have hln:ns.length=(negP l).length:=by rw[←hN,List.length_map]
   rw[hlp,hln];have h8:=HP8.out;obtain⟨X,hX⟩:∃X,X=wo.alloc (.cells #[.slice Ap (posP l).length cp,.slice An (negP l).length cn] 22):=⟨_,rfl⟩;have hbX:Below wo.heap.size wo X:=by rw[hX];exact qab (Nat.le_refl _) _
   have hsX:X.heap.size=wo.heap.size+1:=by rw[hX];simp
   have hxX:X.heap[wo.heap.size]?=some (.cells #[.slice Ap (posP l).length cp,.slice An (negP l).length cn] 22 (0,0)):=by rw[hX];exact heap_alloc_new wo _
   have CN:=hdzz (qnz (fun b=>w.heap.size<b∧b<X.heap.size) (posP l) (negP l) Ap An cp cn wo.heap.size X (by omega) (by omega) hxX (fun _ h=>h.2) (RepS.mono (fun b h=>⟨h.1,by omega⟩) (fun p hp=>hbX.cell hp.2) hSp) (RepS.mono (fun b h=>⟨h.1,by omega⟩) (fun p hp=>hbX.cell hp.2) hSn));have HX:=hdzz hX;have HBW:=hdzz (HT.out.bel.trans (hbX.mono (by omega)));have HZ:=hdzz ((hbX.block _ hso).trans HT.out.box);have hl8:(posP l++negP l).length≤8:=by rw[List.length_append];exact h8
   have hpr:prodT l=mulT (posP l++negP l):=rfl;rw[hpr]at HPV;have hres:Hid (∀e w',OkT (mulT (posP l++negP l)) w e w'→OkT (prodT l) w e w'):=hdzz fun e w' h=>by rw[hpr];exact h
   clear hX hbX hxX hSp hSn hlp hln hP hN HP HN HT h8 HP8 hpr;obtain⟨np,hnp⟩:∃n,n=(posP l).length:=⟨_,rfl⟩;obtain⟨nn,hnn⟩:∃n,n=(negP l).length:=⟨_,rfl⟩;rw[←hnp,←hnn]at HX ⊢;obtain⟨L,hL⟩:∃L,L=posP l++negP l:=⟨_,rfl⟩;rw[←hL]at CN HPV hl8 hres;clear hnp hnn hL;have HSZ:=hdzz (qai HPV.out);go_wp2_with fail
   rw[←HX.out];clear HX;refine CN.out.mono ?_;clear CN;rintro e w2 ⟨A2,c2,its,rfl,hrow,hm,hb2⟩;have hs2:=hb2.size;obtain⟨A2',c2',hv2,hS2⟩:=hrow.toS (P:=fun b=>w.heap.size<b∧b<w2.heap.size) (fun b h _=>by omega) (fun b h1 h=>⟨by omega,h⟩);injection hv2 with e1 e2 e3;subst e1 e3;rw[hm]at hS2;have HB2:=hdzz (HBW.out.trans (hb2.mono (by omega)));have HZ2:=hdzz ((hb2.block _ (by omega)).trans HZ.out);have HS2:=hdzz hS2;have hlI8:¬((8:Int)<(L.length:Int)):=by omega
   have AP:=hdzz (qkz nMul A2 L.length c2 w2);clear hrow hm hb2 hS2 e2 HBW HZ its;simp only[nMul]at AP;go_wp2_with fail
   refine AP.out.mono ?_;clear AP;rintro e w3 ⟨rfl,hb3⟩;have hs3:=hb3.size;have HB3:=hdzz (HB2.out.trans (hb3.mono (by omega)));have HZ3:=hdzz ((hb3.block _ (by omega)).trans HZ2.out);have HS3:=hdzz (RepS.mono (w':=w3) (P':=fun b=>w.heap.size<b∧b<w3.heap.size) (fun b h=>⟨h.1,by omega⟩) (fun p hp=>hb3.cell hp.2) HS2.out);clear hb3 HB2 HZ2 HS2;obtain⟨Y,hY⟩:∃Y,Y=w3.alloc (.cells #[.int .i64 3,.string ⟨#[109,117,108]⟩,.int .i64 0,.slice A2 L.length c2] 24):=⟨_,rfl⟩;have hbY:Below w3.heap.size w3 Y:=by rw[hY];exact qab (Nat.le_refl _) _
   have hsY:Y.heap.size=w3.heap.size+1:=by rw[hY];simp
   have hxY:Y.heap[w3.heap.size]?=some (qal (.mk 3 nMul 0 L) A2 c2):=by rw[hY];exact heap_alloc_new w3 _
   have HBY:=hdzz (HB3.out.trans (hbY.mono (by omega)));have HZY:=hdzz ((hbY.block _ (by omega)).trans HZ3.out);obtain⟨Bx,hBx⟩:∃B,B=w3.heap.size:=⟨_,rfl⟩;have HSY:=hdzz (RepS.mono (w':=Y) (P':=fun b=>w.heap.size<b∧b<Bx) (fun b h=>by omega) (fun p hp=>hbY.cell hp.2) HS3.out);have HXY:=hdzz hxY;have HY:=hdzz hY;rw[←hBx]at HXY;have hBxw:w.heap.size<Bx:=by omega
   have hBxY:Bx<Y.heap.size:=by omega
   clear hY hbY hxY HS3;obtain⟨x0,x1,x2,x3,xf⟩:=qaa HXY.out;have hset:∀(W:World) (a b c d:Value),W.heap[Bx]?=some (qal (.mk 3 nMul 0 L) A2 c2)→∃Z,Z=((((W.setCell ⟨Bx,0,none⟩ a).setCell ⟨Bx,1,none⟩ b).setCell ⟨Bx,2,none⟩ c).setCell ⟨Bx,3,none⟩ d)∧Z.heap[Bx]?=some (.cells #[a,b,c,d] 24 (0,0))∧Below Bx W Z∧Z.heap.size=W.heap.size∧∀p:Addr,p.block≠Bx→Z.cell? p=W.cell? p:=fun W a b c d hW=>by
    refine⟨_,rfl,?_,?_,by simp[World.setCell],fun p hp=>?_⟩
    ·simp[World.setCell,Array.getElem?_modify,hW,qal]
    ·iterate 4 refine Below.setCell ?_ (by exact Nat.le_refl _) _
     exact Below.refl _ _
    ·have hne:∀o,(⟨Bx,o,none⟩:Addr)≠p:=fun o e=>hp (by rw[←e]);rw[World.cell?_setCell_other _ _ _ _ (hne _),World.cell?_setCell_other _ _ _ _ (hne _),World.cell?_setCell_other _ _ _ _ (hne _),World.cell?_setCell_other _ _ _ _ (hne _)]
   have HSET:=hdzz hset;have HBE:=hdzz hBx;clear hset;rcases L with _|⟨a,_|⟨a2,r⟩⟩
   ·-- none
    have AP1:=hdzz (qkz nOne none 0 0 Y);simp only[nOne]at AP1;simp only[List.length_nil]at HY ⊢;clear hBx;go_wp2_with fail
    rw[←HBE.out,←HY.out];refine AP1.out.mono ?_;clear AP1 x0 x1 x2 x3 xf;rintro e w4 ⟨rfl,hb4⟩;have hs4:=hb4.size;have hx4:=(hb4.block Bx hBxY).trans HXY.out;obtain⟨x0,x1,x2,x3,xf⟩:=qaa hx4;obtain⟨Wt,hWt,hxt,hbt,hst,hct⟩:=HSET.out w4 (.int .i64 3) (.string ⟨#[111,110,101]⟩) (.int .i64 0) (.slice none 0 0) hx4;have HTW:=hdzz (HBY.out.trans ((hb4.mono (by omega)).trans (hbt.mono (by omega))));have HTZ:=hdzz ((hbt.block _ hBxw).trans ((hb4.block _ (by omega)).trans HZY.out));have HTR:Hid (RepP Wt (fun b=>w.heap.size<b∧b<Wt.heap.size) (.mk 3 nOne 0 []) none 0):=hdzz (by rw[qa3];exact⟨by decide,Nat.le_refl _,Nat.zero_le _,.inl rfl⟩);have HTB:Hid (Wt.heap[Bx]?=some (qal (.mk 3 nOne 0 []) none 0)):=hdzz hxt;have hres:Hid (∀e w',OkT (.mk 3 nOne 0 []) w e w'→OkT (prodT l) w e w'):=hdzz hres.out
    have HPV:Hid ((Tm.mk 3 nOne 0 []).valid=0):=hdzz HPV.out;have HSZ:=hdzz (qai HPV.out);have HWt:=hdzz hWt;clear hWt hxt hbt hct hb4 HSET HXY HBY HZY HSY hx4;go_wp2_with fail
    rw[←HWt.out];have VA:=qax (Tm.mk 3 nOne 0 []) none 0 Wt (by have:=HSZ.out.2.1;omega) (RepP.mono (fun b h=>h.2) (fun _ _=>rfl) _ _ _ HTR.out);rw[HPV.out]at VA;simp only[Tm.val]at VA;have VA:=hdzz VA;have hsW:w.heap.size<Wt.heap.size:=by have:=(sltz HTZ.out);omega
    have hsB:Bx<Wt.heap.size:=by have:=(sltz HTB.out);omega
    refine VA.out.mono ?_;clear VA x0 x1 x2 x3 xf;rintro e w5 ⟨rfl,hl5⟩;obtain⟨x0,x1,x2,x3,xf⟩:=qaa ((hl5.below.block Bx hsB).trans HTB.out);obtain⟨z0,z1,z2,z3,zf⟩:=qaa ((hl5.below.block _ hsW).trans HTZ.out);simp only[Tm.kind,Tm.name,Tm.sort,Tm.kids]at x0 x1 x2 x3;have HT5:=hdzz (RepP.mono (w':=w5) (P':=fun b=>w.heap.size<b∧b<w5.heap.size) (fun b h=>⟨h.1,by have:=hl5.size;omega⟩) (fun p h=>hl5.below.cell h.2) _ _ _ HTR.out);have HB5:=hdzz (HTW.out.trans (hl5.below.mono (by omega)));clear hl5;go_wp2_with fail
    refine bodyPost_ret (v:=.tuple #[Tm.val (Tm.mk 3 nOne 0 []) none 0,.int .i64 0]) ?_ rfl ?_
    ·simp[results,Tryz.results107,go_sem,z0,z1,z2,z3,Tm.val,Tm.kind,Tm.name,Tm.sort,Tm.kids]
    refine hres.out _ _ ⟨none,0,rfl,?_,?_⟩
    ·refine RepP.mono (fun b h=>?_) (fun p hp=>qao (by omega)) _ _ _ HT5.out;exact⟨by omega,by simpa[World.setCell]using h.2⟩
    ·iterate 4 refine Below.setCell ?_ (by exact Nat.le_refl _) _
     exact HB5.out
   ·-- one
    simp only[List.length_cons,List.length_nil,Nat.zero_add]at HY ⊢;obtain⟨bb,off,rfl,hbb,hcl⟩:∃bb off,A2=some ⟨bb,off,none⟩∧(w.heap.size<bb∧bb<Bx)∧RepLP Y (fun b=>w.heap.size<b∧b<Bx) [a] bb off:=by
     rcases HSY.out.2.2 with h|h
     ·cases h
     ·exact h
    rw[RepLP]at hcl;obtain⟨⟨Ar,cr,c0,c1,c2',c3,cR⟩,-⟩:=hcl;have hbb2:=hbb.2;have hx4:=HXY.out;obtain⟨Wt,hWt⟩:∃W,W=w3.alloc (qal a Ar cr):=⟨_,rfl⟩;have hbt:Below w3.heap.size w3 Wt:=by rw[hWt];exact qab (Nat.le_refl _) _
    have hst:Wt.heap.size=w3.heap.size+1:=by rw[hWt];simp
    have hxt:Wt.heap[Bx]?=some (qal a Ar cr):=by rw[hWt,hBx];exact heap_alloc_new w3 _
    have hct:∀p:Addr,p.block<Bx→Wt.cell? p=Y.cell? p:=fun p hp=>by
     rw[hbt.cell (by omega),HY.out];exact((qab (Nat.le_refl _) _).cell (by omega)).symm
    have HTW:=hdzz (HB3.out.trans (hbt.mono (by omega)));have HTZ:=hdzz ((hbt.block _ (by omega)).trans HZ3.out);have HTR:Hid (RepP Wt (fun b=>w.heap.size<b∧b<Wt.heap.size) a Ar cr):=hdzz (RepP.mono (fun b h=>⟨h.1,by omega⟩) (fun p h=>hct p h.2) _ _ _ cR);have HTB:Hid (Wt.heap[Bx]?=some (qal a Ar cr)):=hdzz hxt;have hres:Hid (∀e w',OkT a w e w'→OkT (prodT l) w e w'):=hdzz hres.out;have HPV:Hid (a.valid=0):=hdzz HPV.out;have HSZ:=hdzz (qai HPV.out);simp only[qal]at hWt;have HWt:=hdzz hWt;clear hBx hWt hxt hbt hct HSET HXY HBY HZY HSY hx4 cR x0 x1 x2 x3 xf;rw[HY.out]at c0 c1 c2' c3;go_wp2_with fail
    rw[←HWt.out,←HBE.out];clear c0 c1 c2' c3;have VA:=qax a Ar cr Wt (by have:=HSZ.out.2.1;omega) (RepP.mono (fun b h=>h.2) (fun _ _=>rfl) _ _ _ HTR.out);rw[HPV.out]at VA;simp only[Tm.val]at VA;have VA:=hdzz VA;have hsW:w.heap.size<Wt.heap.size:=by have:=(sltz HTZ.out);omega
    have hsB:Bx<Wt.heap.size:=by have:=(sltz HTB.out);omega
    refine VA.out.mono ?_;clear VA;rintro e w5 ⟨rfl,hl5⟩;obtain⟨x0,x1,x2,x3,xf⟩:=qaa ((hl5.below.block Bx hsB).trans HTB.out);obtain⟨z0,z1,z2,z3,zf⟩:=qaa ((hl5.below.block _ hsW).trans HTZ.out)
    skip
    have HT5:=hdzz (RepP.mono (w':=w5) (P':=fun b=>w.heap.size<b∧b<w5.heap.size) (fun b h=>⟨h.1,by have:=hl5.size;omega⟩) (fun p h=>hl5.below.cell h.2) _ _ _ HTR.out);have HB5:=hdzz (HTW.out.trans (hl5.below.mono (by omega)));clear hl5;go_wp2_with fail
    refine bodyPost_ret (v:=.tuple #[Tm.val a Ar cr,.int .i64 0]) ?_ rfl ?_
    ·simp[results,Tryz.results107,go_sem,z0,z1,z2,z3,Tm.val]
    refine hres.out _ _ ⟨Ar,cr,rfl,?_,?_⟩
    ·refine RepP.mono (fun b h=>?_) (fun p hp=>qao (by omega)) _ _ _ HT5.out;exact⟨by omega,by simpa[World.setCell]using h.2⟩
    ·iterate 4 refine Below.setCell ?_ (by exact Nat.le_refl _) _
     exact HB5.out
   ·-- a product
    obtain⟨n2,hn2⟩:∃n,n=(a::a2::r).length:=⟨_,rfl⟩;have hn2I:¬((n2:Int)=0):=by rw[hn2];simp;omega
    have hn2J:¬((n2:Int)=1):=by rw[hn2];simp;omega
    have HTR:Hid (RepP Y (fun b=>w.heap.size<b∧b<Y.heap.size) (.mk 3 nMul 0 (a::a2::r)) A2 c2):=hdzz (by
     rw[qa3];have h:=RepS.mono (w':=Y) (P':=fun b=>w.heap.size<b∧b<Y.heap.size) (fun b h=>⟨h.1,by omega⟩) (fun _ _=>rfl) HSY.out;exact⟨by decide,h.1,h.2.1,h.2.2⟩)
    have HTB:Hid (Y.heap[Bx]?=some (qal (.mk 3 nMul 0 (a::a2::r)) A2 c2)):=hdzz HXY.out;have hres:Hid (∀e w',OkT (.mk 3 nMul 0 (a::a2::r)) w e w'→OkT (prodT l) w e w'):=hdzz hres.out;have HPV:Hid ((Tm.mk 3 nMul 0 (a::a2::r)).valid=0):=hdzz HPV.out;have HSZ:=hdzz (qai HPV.out);have HTW:=hdzz HBY.out;have HTZ:=hdzz HZY.out;rw[←hn2]at HY ⊢;have HN2:=hdzz hn2;obtain⟨Wt,hWt⟩:∃x,x=Y:=⟨_,rfl⟩;subst hWt;clear hBx HSET HXY HBY HZY HSY hn2;go_wp2_with fail
    rw[←HBE.out,←HY.out];go_wp2_with fail
    rw[HN2.out];have VA:=qax (Tm.mk 3 nMul 0 (a::a2::r)) A2 c2 Wt (by have:=HSZ.out.2.1;omega) (RepP.mono (fun b h=>h.2) (fun _ _=>rfl) _ _ _ HTR.out);rw[HPV.out]at VA;simp only[Tm.val]at VA;have VA:=hdzz VA;have hsW:w.heap.size<Wt.heap.size:=by have:=(sltz HTZ.out);omega
    have hsB:Bx<Wt.heap.size:=by have:=(sltz HTB.out);omega
    refine VA.out.mono ?_;clear VA x0 x1 x2 x3 xf;rintro e w5 ⟨rfl,hl5⟩;obtain⟨x0,x1,x2,x3,xf⟩:=qaa ((hl5.below.block Bx hsB).trans HTB.out);obtain⟨z0,z1,z2,z3,zf⟩:=qaa ((hl5.below.block _ hsW).trans HTZ.out);simp only[Tm.kind,Tm.name,Tm.sort,Tm.kids]at x0 x1 x2 x3;have HT5:=hdzz (RepP.mono (w':=w5) (P':=fun b=>w.heap.size<b∧b<w5.heap.size) (fun b h=>⟨h.1,by have:=hl5.size;omega⟩) (fun p h=>hl5.below.cell h.2) _ _ _ HTR.out);have HB5:=hdzz (HTW.out.trans (hl5.below.mono (by omega)));clear hl5;go_wp2_with fail
    refine bodyPost_ret (v:=.tuple #[Tm.val (Tm.mk 3 nMul 0 (a::a2::r)) A2 c2,.int .i64 0]) ?_ rfl ?_
    ·simp[results,Tryz.results107,go_sem,z0,z1,z2,z3,Tm.val,Tm.kind,Tm.name,Tm.sort,Tm.kids]
    refine hres.out _ _ ⟨A2,c2,rfl,?_,?_⟩
    ·refine RepP.mono (fun b h=>?_) (fun p hp=>qao (by omega)) _ _ _ HT5.out;exact⟨by omega,by simpa[World.setCell]using h.2⟩
    ·iterate 4 refine Below.setCell ?_ (by exact Nat.le_refl _) _
     exact HB5.out
def OkN (Pb:Nat→Prop) (r:Tm) (w:World) (e:Ending) (w':World):Prop:=
 ∃A c,e=.returned (.tuple #[r.val A c,.int .i64 0])∧RepP w' (fun b=>Pb b∨w.heap.size≤b∧b<w'.heap.size) r A c∧Below w.heap.size w w'
theorem qcw {W:World} {B:Nat} {a b c d x y z u:Value} {T:TypeId} (h:W.heap[B]?=some (.cells #[x,y,z,u] T (0,0))) :
  ∃Z,Z=((((W.setCell ⟨B,0,none⟩ a).setCell ⟨B,1,none⟩ b).setCell ⟨B,2,none⟩ c).setCell ⟨B,3,none⟩ d)∧Z.heap[B]?=some (.cells #[a,b,c,d] T (0,0))∧Below B W Z∧Z.heap.size=W.heap.size∧(∀p:Addr,p.block≠B→Z.cell? p=W.cell? p)∧∀k,k≠B→Z.heap[k]?=W.heap[k]?:=by
 refine⟨_,rfl,?_,?_,by simp[World.setCell],fun p hp=>?_,fun k hk=>?_⟩
 ·simp[World.setCell,Array.getElem?_modify,h]
 ·iterate 4 refine Below.setCell ?_ (by exact Nat.le_refl _) _
  exact Below.refl _ _
 ·have hne:∀o,(⟨B,o,none⟩:Addr)≠p:=fun o e=>hp (by rw[←e]);rw[World.cell?_setCell_other _ _ _ _ (hne _),World.cell?_setCell_other _ _ _ _ (hne _),World.cell?_setCell_other _ _ _ _ (hne _),World.cell?_setCell_other _ _ _ _ (hne _)]
 ·iterate 4 rw[Below.heap_setCell _ _ _ _ (by exact hk)]
structure RsB (Pb:Nat→Prop) (w:World) (b e:Tm) (B E:Option Addr) (cb ce:Nat) (W:World):Prop where
 b1:W.heap[w.heap.size]?=some (qal b B cb)
 b2:W.heap[w.heap.size+1]?=some (qal e E ce)
 b3:W.heap[w.heap.size+1+1]?=some (.cells #[.int .i64 0,.string ⟨#[]⟩,.int .i64 0,.slice none 0 0] 24 (0,0))
 bel:Below w.heap.size w W
 rb:RepP W Pb b B cb
 le:∀b,Pb b→b<w.heap.size
theorem RsB.size {Pb:Nat→Prop} {w W:World} {b e:Tm} {B E:Option Addr} {cb ce:Nat} (h:RsB Pb w b e B E cb ce W):w.heap.size+1+1<W.heap.size:=(sltz h.b3)
theorem RsB.go {Pb:Nat→Prop} {w W Z:World} {b e:Tm} {B E:Option Addr} {cb ce:Nat} (h:RsB Pb w b e B E cb ce W) (hb:Below W.heap.size W Z):RsB Pb w b e B E cb ce Z:=by
 have hs:=h.size;have hle:=h.le;exact⟨(hb.block _ (by omega)).trans h.b1,(hb.block _ (by omega)).trans h.b2,(hb.block _ (by omega)).trans h.b3,h.bel.trans (hb.mono (by omega)),RepP.mono (fun _ h=>h) (fun p hp=>hb.cell (by have:=hle _ hp;omega)) _ _ _ h.rb,hle⟩
theorem qpn (b e:Tm) (B E:Option Addr) (cb ce:Nat) (w:World) (Pb:Nat→Prop) (hPb:∀b,Pb b→b<w.heap.size) (hok:ExpOK b e) (har:ArT b) (hrb:RepP w Pb b B cb) (hre:RepT w w.heap.size e E ce) :
  Calls Tryz.prog 108 #[b.val B cb,e.val E ce] w (OkN Pb (qbp b e) w):=by
 obtain⟨hofe,hexp,htm⟩:=hok;obtain⟨V,hV⟩:∃V,V=((w.alloc (qal b B cb)).alloc (qal e E ce)).alloc (.cells #[.int .i64 0,.string ⟨#[]⟩,.int .i64 0,.slice none 0 0] 24):=⟨_,rfl⟩;have s1:(w.alloc (qal b B cb)).heap.size=w.heap.size+1:=by simp
 have s2:((w.alloc (qal b B cb)).alloc (qal e E ce)).heap.size=w.heap.size+1+1:=by simp
 have hbV:Below w.heap.size w V:=by rw[hV];exact(((Below.refl _ _).alloc (Nat.le_refl _) _).alloc (by simp) _).alloc (by simp;omega) _
 have H0:Hid (RsB Pb w b e B E cb ce V):=hdzz (by
  refine⟨?_,?_,?_,hbV,RepP.mono (fun _ h=>h) (fun p h=>hbV.cell (hPb _ h)) _ _ _ hrb,hPb⟩
  ·rw[hV,Below.heap_alloc _ _ _ (by rw[s2];omega),Below.heap_alloc _ _ _ (by rw[s1];omega)];exact heap_alloc_new w _
  ·rw[hV,Below.heap_alloc _ _ _ (by rw[s2];omega)];have h:=heap_alloc_new (w.alloc (qal b B cb)) (qal e E ce);rw[s1]at h;exact h
  ·rw[hV];have h:=heap_alloc_new ((w.alloc (qal b B cb)).alloc (qal e E ce)) (.cells #[.int .i64 0,.string ⟨#[]⟩,.int .i64 0,.slice none 0 0] 24);rw[s2]at h;exact h)
 have hszV:=H0.out.size;have OE:=qio e E ce V hofe (hre.go hbV (by omega));obtain⟨res,hres⟩:∃r,r=qbp b e:=⟨_,rfl⟩;rw[←hres];rw[qbp]at hres;have HRES:=hdzz hres;have HEXP:=hdzz hexp;have HTM:=hdzz htm;have HOE:=hdzz (Okp.ofT e);obtain⟨pe,hpe⟩:∃p,p=ofT e:=⟨_,rfl⟩;have HPE:=hdzz hpe;rw[←hpe]at OE HOE HRES HEXP HTM;obtain⟨ne,hne⟩:∃n,n=pe.length:=⟨_,rfl⟩;have HNE:=hdzz hne;simp only[qal]at hV;simp only[Tm.val]at OE ⊢;have OE:=hdzz OE;have HV:=hdzz hV;obtain⟨x0,x1,x2,x3,xf⟩:=qaa H0.out.b1;obtain⟨y0,y1,y2,y3,yf⟩:=qaa H0.out.b2;clear s1 s2 hV hbV hrb hre hofe hexp htm hres hpe hne;go_enter Tryz.func108,Tryz.ntmps108
 go_wp2_with fail
 rw[←HV.out];clear HV;go_wp2_with fail
 refine OE.out.mono ?_;clear OE x0 x1 x2 x3 xf y0 y1 y2 y3 yf;rintro e w1 ⟨Ae,ca,rfl,hre1,hb1⟩;rw[←HNE.out];have H1:=hdzz (H0.out.go hb1);have HRE1:=hdzz hre1;have hs1:=hb1.size;clear hre1 hb1 H0;have IS:=qce b nExp B cb w1;obtain⟨x0,x1,x2,x3,xf⟩:=qaa H1.out.b1;by_cases hx:b.isA nExp
 case neg=>
  rw[decide_eq_false hx]at IS;simp only[Tm.val,nExp]at IS;have IS:=hdzz IS;have HRS:Hid (mkE b pe=res):=hdzz (by rw[HRES.out,Tm.baseE,if_neg hx,Tm.expoE,if_neg hx,qkm HOE.out.1]);have HTM2:Hid (pe≠[]→qo7 pe):=hdzz (by have h:=HTM.out;rw[Tm.expoE,if_neg hx,qkm HOE.out.1]at h;exact h);clear HRES HEXP hx;go_wp2_with fail
  refine IS.out.mono ?_;clear IS x0 x1 x2 x3 xf;rintro e w2 ⟨rfl,hl2⟩;have H0:=hdzz (H1.out.go hl2.below);have HRW:=hdzz (HRE1.out.mono (w':=w2) (P':=fun b=>V.heap.size≤b∧b<w2.heap.size) (fun b h=>⟨h.1,by have:=hl2.size;omega⟩) (fun p h=>hl2.below.cell h.2));have HOR:=HOE;obtain⟨W,hW⟩:∃x,x=w2:=⟨_,rfl⟩;subst hW;obtain⟨b0,hb0⟩:∃x,x=b:=⟨_,rfl⟩;subst hb0;obtain⟨r,hr⟩:∃x,x=pe:=⟨_,rfl⟩;subst hr;obtain⟨nr,hnr⟩:∃x,x=ne:=⟨_,rfl⟩;subst hnr;obtain⟨Ar,hAr⟩:∃x,x=Ae:=⟨_,rfl⟩;subst hAr;obtain⟨cr,hcr⟩:∃x,x=ca:=⟨_,rfl⟩;subst hcr;obtain⟨B0,hB0⟩:∃x,x=B:=⟨_,rfl⟩;subst hB0;obtain⟨c0,hc0⟩:∃x,x=cb:=⟨_,rfl⟩;subst hc0;have HNR:=HNE;clear hl2 H1 HRE1 HOE HNE;by_cases hnr:nr=0
  ·have hr0:r=[]:=List.eq_nil_of_length_eq_zero (by rw[←HNR.out];exact hnr);have hres2:b0=res:=by have:=HRS.out;rw[hr0,mkE,if_pos rfl]at this;exact this
   have hnI:((nr:Int)==0)=true:=by rw[hnr];rfl
   have HR2:=hdzz hres2;clear hnr hr0 hres2;obtain⟨x0,x1,x2,x3,xf⟩:=qaa H0.out.b1;obtain⟨z0,z1,z2,z3,zf⟩:=qaa H0.out.b3;go_wp2_with fail
   refine bodyPost_ret (v:=.tuple #[b0.val B0 c0,.int .i64 0]) ?_ rfl ?_
   ·simp[results,Tryz.results108,go_sem,z0,z1,z2,z3,Tm.val]
   rw[←HR2.out];refine⟨B0,c0,rfl,RepP.mono (fun b h=>.inl h) (fun p hp=>qao (by have:=hPb _ hp;omega)) _ _ _ H0.out.rb,?_⟩
   iterate 4 refine Below.setCell ?_ (by show _≤w.heap.size+1+1;omega) _
   exact H0.out.bel
  ·have hr0:r≠[]:=fun e=>hnr (by rw[HNR.out,e];rfl);have hnI:((nr:Int)==0)=false:=by rw[beq_eq_false_iff_ne];omega
   have hres2:.mk 3 nExp 0 [b0,prodT r]=res:=by have:=HRS.out;rw[mkE,if_neg hr0]at this;exact this
   have HR2:=hdzz hres2;have TM:=qe5 r Ar cr W (HTM2.out hr0) HOR.out (HRW.out.mono (fun _ h=>h.2) (fun _ _=>rfl));rw[←HNR.out]at TM;obtain⟨pr,hpr⟩:∃p,p=prodT r:=⟨_,rfl⟩;rw[←hpr]at TM HR2;clear hnr hr0 hres2 hpr;have TM:=hdzz TM;obtain⟨x0,x1,x2,x3,xf⟩:=qaa H0.out.b1;go_wp2_with fail
   refine TM.out.mono ?_;clear TM x0 x1 x2 x3 xf;rintro e w6 ⟨A6,c6,rfl,hr6,hb6⟩;have H6:=hdzz (H0.out.go hb6);have hs6:=hb6.size;have hs0:=H0.out.size;obtain⟨y0,y1,y2,y3,yf⟩:=qaa H6.out.b2;obtain⟨W7,hW7,hx7,hb7,hs7,hc7⟩:=qcw (W:=w6) (B:=w.heap.size+1) (a:=.int .i64 pr.kind) (b:=.string pr.name) (c:=.int .i64 pr.sort) (d:=.slice A6 pr.kids.length c6) H6.out.b2;have H7:Hid (RsB Pb w b0 pr B0 A6 c0 c6 W7):=hdzz ⟨(hc7.2 _ (by omega)).trans H6.out.b1,hx7,(hc7.2 _ (by omega)).trans H6.out.b3,H6.out.bel.trans (hb7.mono (by omega)),RepP.mono (fun _ h=>h) (fun p (h:Pb p.block)=>hc7.1 p (by have:=hPb _ h;omega)) _ _ _ H6.out.rb,hPb⟩;have HP7:=hdzz (RepP.mono (w':=W7) (P':=fun b=>w.heap.size+1+1<b∧b<W7.heap.size) (fun b h=>⟨by omega,by omega⟩) (fun p h=>hc7.1 p (by omega)) _ _ _ hr6)
   obtain⟨X,hX⟩:∃X,X=W7.alloc (.cells (itCells [((b0,B0,c0):It),(pr,A6,c6)]).toArray 24):=⟨_,rfl⟩;have hbX:Below W7.heap.size W7 X:=by rw[hX];exact qab (Nat.le_refl _) _
   have hsX:X.heap.size=W7.heap.size+1:=by rw[hX];simp
   have hxX:X.heap[W7.heap.size]?=some (.cells (itCells [((b0,B0,c0):It),(pr,A6,c6)]).toArray 24 (0,0)):=by rw[hX];exact heap_alloc_new _ _
   have HRX:Hid (RepP X (fun b=>(Pb b∨w.heap.size+1+1<b)∧b<X.heap.size) (.mk 3 nExp 0 [b0,pr]) (some ⟨W7.heap.size,0,none⟩) 2):=hdzz (by
    rw[qa3];have hs7':=H7.out.size;refine⟨by decide,Nat.le_refl _,by unfold maxLen;omega,.inr ⟨W7.heap.size,0,rfl,⟨.inr (by omega),by omega⟩,?_⟩⟩;refine RepLP.of_its [((b0,B0,c0):It),(pr,A6,c6)] _ 0 (fun j u hj=>?_) (fun x hx=>?_)
    ·rw[Nat.zero_add];unfold World.cell?;rw[hxX];simpa using hj
    ·simp only[List.mem_cons,List.not_mem_nil,or_false]at hx;rcases hx with rfl|rfl
     ·exact RepP.mono (w:=W7) (P:=Pb) (fun b h=>⟨.inl h,by have:=hPb _ h;omega⟩) (fun p h=>hbX.cell (by have:=hPb _ h;omega)) _ _ _ H7.out.rb
     ·exact RepP.mono (fun b h=>⟨.inr h.1,by have:=h.2;omega⟩) (fun p h=>hbX.cell h.2) _ _ _ HP7.out)
   have H8:=hdzz (H7.out.go hbX);have AP:=qam nExp (some ⟨W7.heap.size,0,none⟩) 2 2 X;simp only[nExp,hs7]at AP;have AP:=hdzz AP;have HSW7:=hdzz hs7;have HW7:=hdzz hW7;simp only[itCells,Tm.cells,List.cons_append,List.nil_append,List.append_nil]at hX;have HX:=hdzz hX;obtain⟨x0,x1,x2,x3,xf⟩:=qaa H6.out.b1;clear hr6 hb6 hW7 hx7 hb7 hc7 hX hbX hxX H6 HP7;simp only[Tm.val];go_wp2_with fail
   rw[←HW7.out,←HX.out];refine AP.out.mono ?_;clear AP x0 x1 x2 x3 xf;rintro e w9 ⟨rfl,hb9⟩;have H9:=hdzz (H8.out.go hb9);have HR9:=hdzz (RepP.mono (w':=w9) (P':=fun b=>(Pb b∨w.heap.size+1+1<b)∧b<w9.heap.size) (fun b h=>⟨h.1,by have:=hb9.size;omega⟩) (fun p h=>hb9.cell h.2) _ _ _ HRX.out);obtain⟨z0,z1,z2,z3,zf⟩:=qaa H9.out.b3;clear hb9 H8 H7;go_wp2_with fail
   refine bodyPost_ret (v:=.tuple #[Tm.val (.mk 3 nExp 0 [b0,pr]) (some ⟨w6.heap.size,0,none⟩) 2,.int .i64 0]) ?_ rfl ?_
   ·simp[results,Tryz.results108,go_sem,z0,z1,z2,z3,Tm.val,Tm.kind,Tm.name,Tm.sort,Tm.kids,nExp]
   rw[←HR2.out];refine⟨some ⟨w6.heap.size,0,none⟩,2,rfl,?_,?_⟩
   ·have h:=HR9.out;rw[HSW7.out]at h;exact RepP.mono (fun b h=>h.1.imp id fun h1=>⟨by omega,by have:=h.2;simp[World.setCell];omega⟩) (fun p hp=>qao (hp.1.elim (fun h1=>by have:=hPb _ h1;omega) (fun h1=>by omega))) _ _ _ h
   ·iterate 4 refine Below.setCell ?_ (by show _≤w.heap.size+1+1;omega) _
    exact H9.out.bel
 have hbl:b.kids.length=2:=(har.num hx).2.1 (by decide);obtain⟨hof1,hvp1,hvpe,hrp⟩:=HEXP.out hx;have hb1e:ofT (kidT b.kids 1)=b.expoE:=by rw[Tm.expoE,if_pos hx]
 rw[hb1e]at hvp1;have hok1:Okp b.expoE:=Okp.expo b;have HRS:Hid (mkE (kidT b.kids 0) (mulP b.expoE pe)=res):=hdzz (by rw[HRES.out,Tm.baseE,if_pos hx]);rw[decide_eq_true hx]at IS;simp only[Tm.val,nExp]at IS;have IS:=hdzz IS;have HBL:=hdzz hbl;clear HRES HEXP hx hbl;go_wp2_with fail
 refine IS.out.mono ?_;clear IS x0 x1 x2 x3 xf;rintro e w2 ⟨rfl,hl2⟩;have H2:=hdzz (H1.out.go hl2.below);have HRE2:=hdzz (HRE1.out.mono (w':=w2) (P':=fun b=>V.heap.size≤b∧b<w2.heap.size) (fun b h=>⟨h.1,by have:=hl2.size;omega⟩) (fun p h=>hl2.below.cell h.2));have hs12:=hl2.size;clear hl2 H1 HRE1;obtain⟨kb,ko,A1,c1,hke,hkb,k0,k1,k2,k3,k1r⟩:=qau H2.out.rb 1 (by have:=HBL.out;omega);obtain⟨kb',ko',A0,c0,hke0,-,j0,j1,j2,j3,k0r⟩:=qau H2.out.rb 0 (by have:=HBL.out;omega);have hkb:kb<w.heap.size:=hPb _ hkb;subst hke;injection hke0 with hke0;injection hke0 with e1 e2;subst e1 e2;rw[Nat.one_mul]at k0 k1 k2 k3;rw[Nat.zero_mul,Nat.add_zero]at j0 j1 j2 j3;have hsz2:=H2.out.size;have OF:=qio (kidT b.kids 1) A1 c1 w2 hof1 (RepP.mono (fun b (h:Pb b)=>by have:=hPb _ h;omega) (fun _ _=>rfl) _ _ _ k1r)
 rw[hb1e]at OF;obtain⟨u1,hu1⟩:∃u,u=kidT b.kids 1:=⟨_,rfl⟩;obtain⟨b0,hb0⟩:∃u,u=kidT b.kids 0:=⟨_,rfl⟩;rw[←hu1]at k0 k1 k2 k3 OF;rw[←hb0]at j0 j1 j2 j3 k0r HRS;obtain⟨q,hq⟩:∃q,q=b.expoE:=⟨_,rfl⟩;rw[←hq]at hvp1 hrp hok1 HRS HTM OF;simp only[Tm.val]at OF;have OF:=hdzz OF;have HK0:=hdzz k0r;have MU:Hid (∀(Z:World) (A A':Option Addr) (c c':Nat),RepW Z (fun b=>b<Z.heap.size) q A c→RepW Z (fun b=>b<Z.heap.size) pe A' c'→Calls Tryz.prog 138 #[.slice A q.length c,.slice A' pe.length c'] Z (OkW (mulP q pe) Z)):=hdzz fun Z A A' c c' h h'=>emul_any q pe A A' c c' Z hvp1 hok1 hvpe HOE.out hrp h h';have HOR:=hdzz (hok1.mul HOE.out);rw[←HNE.out]at MU;obtain⟨x0,x1,x2,x3,xf⟩:=qaa H2.out.b1;rw[HBL.out]at x3;clear hu1 hb0 hq hb1e k1r k0r hof1 hvp1 hvpe hrp hok1;go_wp2_with fail
 refine OF.out.mono ?_;clear OF x0 x1 x2 x3 xf k0 k1 k2 k3;rintro e w3 ⟨A3,c3,rfl,hr3,hb3⟩;have H3:=hdzz (H2.out.go hb3);have hs3:=hb3.size;have MU:=hdzz (MU.out w3 A3 Ae c3 ca (hr3.mono (fun _ h=>h.2) (fun _ _=>rfl)) (HRE2.out.mono (fun b h=>by omega) (fun p h=>hb3.cell h.2)));have HCL3:Hid (∀p:Addr,p.block<w.heap.size→w3.cell? p=w2.cell? p):=hdzz fun p hp=>hb3.cell (by omega);obtain⟨nq,hnq⟩:∃n,n=q.length:=⟨_,rfl⟩;rw[←hnq]at MU ⊢;obtain⟨r,hr⟩:∃r,r=mulP q pe:=⟨_,rfl⟩;rw[←hr]at MU HRS HTM HOR;clear hr3 hb3 H2 HRE2 hnq hr;go_wp2_with fail
 refine MU.out.mono ?_;clear MU;rintro e w4 ⟨Ar,cr,rfl,hr4,hb4⟩;have H4:=hdzz (H3.out.go hb4);have hs4:=hb4.size;have hsz3:=H3.out.size;have HCL4:Hid (∀p:Addr,p.block<w.heap.size→w4.cell? p=w2.cell? p):=hdzz fun p hp=>(hb4.cell (by omega)).trans (HCL3.out p hp);have HR4:=hdzz hr4;have j0:=(HCL4.out ⟨kb,ko,none⟩ hkb).trans j0;have j1:=(HCL4.out ⟨kb,ko+1,none⟩ hkb).trans j1;have j2:=(HCL4.out ⟨kb,ko+2,none⟩ hkb).trans j2;have j3:=(HCL4.out ⟨kb,ko+3,none⟩ hkb).trans j3;obtain⟨x0,x1,x2,x3,xf⟩:=qaa H4.out.b1;rw[HBL.out]at x3;obtain⟨nr,hnr⟩:∃n,n=r.length:=⟨_,rfl⟩;rw[←hnr];have HNR:=hdzz hnr;obtain⟨W,hW,hx5,hb5,hs5,hc5⟩:=qcw (W:=w4) (B:=w.heap.size) (a:=.int .i64 b0.kind) (b:=.string b0.name) (c:=.int .i64 b0.sort) (d:=.slice A0 b0.kids.length c0) H4.out.b1
 have H0:Hid (RsB Pb w b0 e A0 E c0 ce W):=hdzz ⟨hx5,(hc5.2 _ (by omega)).trans H4.out.b2,(hc5.2 _ (by omega)).trans H4.out.b3,H4.out.bel.trans (hb5.mono (Nat.le_refl _)),RepP.mono (w:=w2) (fun _ h=>h) (fun p (h:Pb p.block)=>(hc5.1 p (by have:=hPb _ h;omega)).trans (HCL4.out p (hPb _ h))) _ _ _ HK0.out,hPb⟩;have HRW:=hdzz (HR4.out.mono (w':=W) (P':=fun b=>V.heap.size≤b∧b<W.heap.size) (fun b h=>by omega) (fun p h=>hc5.1 p (by omega)));have HTM2:=HTM;have HW:=hdzz hW;obtain⟨B0,hB0⟩:∃x,x=A0:=⟨_,rfl⟩;subst hB0;clear hr4 hb4 H3 hW hx5 hb5 hc5 hnr;have hnrI:True:=trivial;go_upto_region 12 with fail
 rw[←HW.out];clear x0 x1 x2 x3 xf j0 j1 j2 j3 HW HCL3 HCL4 HR4;by_cases hnr:nr=0
 ·have hr0:r=[]:=List.eq_nil_of_length_eq_zero (by rw[←HNR.out];exact hnr);have hres2:b0=res:=by have:=HRS.out;rw[hr0,mkE,if_pos rfl]at this;exact this
  have hnI:((nr:Int)==0)=true:=by rw[hnr];rfl
  have HR2:=hdzz hres2;clear hnr hr0 hres2;obtain⟨x0,x1,x2,x3,xf⟩:=qaa H0.out.b1;obtain⟨z0,z1,z2,z3,zf⟩:=qaa H0.out.b3;go_wp2_with fail
  refine bodyPost_ret (v:=.tuple #[b0.val B0 c0,.int .i64 0]) ?_ rfl ?_
  ·simp[results,Tryz.results108,go_sem,z0,z1,z2,z3,Tm.val]
  rw[←HR2.out];refine⟨B0,c0,rfl,RepP.mono (fun b h=>.inl h) (fun p hp=>qao (by have:=hPb _ hp;omega)) _ _ _ H0.out.rb,?_⟩
  iterate 4 refine Below.setCell ?_ (by show _≤w.heap.size+1+1;omega) _
  exact H0.out.bel
 ·have hr0:r≠[]:=fun e=>hnr (by rw[HNR.out,e];rfl);have hnI:((nr:Int)==0)=false:=by rw[beq_eq_false_iff_ne];omega
  have hres2:.mk 3 nExp 0 [b0,prodT r]=res:=by have:=HRS.out;rw[mkE,if_neg hr0]at this;exact this
  have HR2:=hdzz hres2;have TM:=qe5 r Ar cr W (HTM2.out hr0) HOR.out (HRW.out.mono (fun _ h=>h.2) (fun _ _=>rfl));rw[←HNR.out]at TM;obtain⟨pr,hpr⟩:∃p,p=prodT r:=⟨_,rfl⟩;rw[←hpr]at TM HR2;clear hnr hr0 hres2 hpr;have TM:=hdzz TM;obtain⟨x0,x1,x2,x3,xf⟩:=qaa H0.out.b1;go_wp2_with fail
  refine TM.out.mono ?_;clear TM x0 x1 x2 x3 xf;rintro e w6 ⟨A6,c6,rfl,hr6,hb6⟩;have H6:=hdzz (H0.out.go hb6);have hs6:=hb6.size;have hs0:=H0.out.size;obtain⟨y0,y1,y2,y3,yf⟩:=qaa H6.out.b2;obtain⟨W7,hW7,hx7,hb7,hs7,hc7⟩:=qcw (W:=w6) (B:=w.heap.size+1) (a:=.int .i64 pr.kind) (b:=.string pr.name) (c:=.int .i64 pr.sort) (d:=.slice A6 pr.kids.length c6) H6.out.b2;have H7:Hid (RsB Pb w b0 pr B0 A6 c0 c6 W7):=hdzz ⟨(hc7.2 _ (by omega)).trans H6.out.b1,hx7,(hc7.2 _ (by omega)).trans H6.out.b3,H6.out.bel.trans (hb7.mono (by omega)),RepP.mono (fun _ h=>h) (fun p (h:Pb p.block)=>hc7.1 p (by have:=hPb _ h;omega)) _ _ _ H6.out.rb,hPb⟩;have HP7:=hdzz (RepP.mono (w':=W7) (P':=fun b=>w.heap.size+1+1<b∧b<W7.heap.size) (fun b h=>⟨by omega,by omega⟩) (fun p h=>hc7.1 p (by omega)) _ _ _ hr6)
  obtain⟨X,hX⟩:∃X,X=W7.alloc (.cells (itCells [((b0,B0,c0):It),(pr,A6,c6)]).toArray 24):=⟨_,rfl⟩;have hbX:Below W7.heap.size W7 X:=by rw[hX];exact qab (Nat.le_refl _) _
  have hsX:X.heap.size=W7.heap.size+1:=by rw[hX];simp
  have hxX:X.heap[W7.heap.size]?=some (.cells (itCells [((b0,B0,c0):It),(pr,A6,c6)]).toArray 24 (0,0)):=by rw[hX];exact heap_alloc_new _ _
  have HRX:Hid (RepP X (fun b=>(Pb b∨w.heap.size+1+1<b)∧b<X.heap.size) (.mk 3 nExp 0 [b0,pr]) (some ⟨W7.heap.size,0,none⟩) 2):=hdzz (by
   rw[qa3];have hs7':=H7.out.size;refine⟨by decide,Nat.le_refl _,by unfold maxLen;omega,.inr ⟨W7.heap.size,0,rfl,⟨.inr (by omega),by omega⟩,?_⟩⟩;refine RepLP.of_its [((b0,B0,c0):It),(pr,A6,c6)] _ 0 (fun j u hj=>?_) (fun x hx=>?_)
   ·rw[Nat.zero_add];unfold World.cell?;rw[hxX];simpa using hj
   ·simp only[List.mem_cons,List.not_mem_nil,or_false]at hx;rcases hx with rfl|rfl
    ·exact RepP.mono (w:=W7) (P:=Pb) (fun b h=>⟨.inl h,by have:=hPb _ h;omega⟩) (fun p h=>hbX.cell (by have:=hPb _ h;omega)) _ _ _ H7.out.rb
    ·exact RepP.mono (fun b h=>⟨.inr h.1,by have:=h.2;omega⟩) (fun p h=>hbX.cell h.2) _ _ _ HP7.out)
  have H8:=hdzz (H7.out.go hbX);have AP:=qam nExp (some ⟨W7.heap.size,0,none⟩) 2 2 X;simp only[nExp,hs7]at AP;have AP:=hdzz AP;have HSW7:=hdzz hs7;have HW7:=hdzz hW7;simp only[itCells,Tm.cells,List.cons_append,List.nil_append,List.append_nil]at hX;have HX:=hdzz hX;obtain⟨x0,x1,x2,x3,xf⟩:=qaa H6.out.b1;clear hr6 hb6 hW7 hx7 hb7 hc7 hX hbX hxX H6 HP7;simp only[Tm.val];go_wp2_with fail
  rw[←HW7.out,←HX.out];refine AP.out.mono ?_;clear AP x0 x1 x2 x3 xf;rintro e w9 ⟨rfl,hb9⟩;have H9:=hdzz (H8.out.go hb9);have HR9:=hdzz (RepP.mono (w':=w9) (P':=fun b=>(Pb b∨w.heap.size+1+1<b)∧b<w9.heap.size) (fun b h=>⟨h.1,by have:=hb9.size;omega⟩) (fun p h=>hb9.cell h.2) _ _ _ HRX.out);obtain⟨z0,z1,z2,z3,zf⟩:=qaa H9.out.b3;clear hb9 H8 H7;go_wp2_with fail
  refine bodyPost_ret (v:=.tuple #[Tm.val (.mk 3 nExp 0 [b0,pr]) (some ⟨w6.heap.size,0,none⟩) 2,.int .i64 0]) ?_ rfl ?_
  ·simp[results,Tryz.results108,go_sem,z0,z1,z2,z3,Tm.val,Tm.kind,Tm.name,Tm.sort,Tm.kids,nExp]
  rw[←HR2.out];refine⟨some ⟨w6.heap.size,0,none⟩,2,rfl,?_,?_⟩
  ·have h:=HR9.out;rw[HSW7.out]at h;exact RepP.mono (fun b h=>h.1.imp id fun h1=>⟨by omega,by have:=h.2;simp[World.setCell];omega⟩) (fun p hp=>qao (hp.1.elim (fun h1=>by have:=hPb _ h1;omega) (fun h1=>by omega))) _ _ _ h
  ·iterate 4 refine Below.setCell ?_ (by show _≤w.heap.size+1+1;omega) _
   exact H9.out.bel
structure OneT (w:World) (x:Tm) (A:Option Addr) (c:Nat) (V:World):Prop where
 lay:Lay w.heap.size w V
 one:V.heap[w.heap.size]?=some ((.cells #[.int .i64 x.kind,.string x.name,.int .i64 x.sort,.slice A x.kids.length c] 24))
theorem OneT.new (w:World) (x:Tm) (A:Option Addr) (c:Nat):OneT w x A c (w.alloc ((.cells #[.int .i64 x.kind,.string x.name,.int .i64 x.sort,.slice A x.kids.length c] 24))):=⟨(Lay.refl _ _).alloc (Nat.le_refl _) _,heap_alloc_new _ _⟩
theorem OneT.lt {w V:World} {x:Tm} {A:Option Addr} {c:Nat} (h:OneT w x A c V):w.heap.size<V.heap.size:=(sltz h.one)
theorem OneT.go {w V W:World} {x:Tm} {A:Option Addr} {c:Nat} (h:OneT w x A c V) (hl:Lay V.heap.size V W):OneT w x A c W:=
 ⟨h.lay.trans (hl.mono h.lay.size),(hl.below.block _ h.lt).trans h.one⟩
theorem any_drop {α:Type} (f:α→Bool) (l:List α) (k:Nat) (h:k<l.length):(l.drop k).any f=(f l[k] || (l.drop (k+1)).any f):=by
 rw[List.drop_eq_getElem_cons h,List.any_cons]
end Go.Proofs.YtjhjoiplpmjepaaGreat
namespace Go.Proofs.YtjhjoiplpmjepaaGreat
def mrgT:List Tm→List Tm→List Tm
 | [],b=>b
 | x::a,[]=>x::a
 | x::a,y::b=>if x.cmp y<0 then x::mrgT a (y::b)else if 0<x.cmp y then y::mrgT (x::a) b else mrgT a b
termination_by a b=>a.length+b.length
theorem qgh (b:List Tm):mrgT [] b=b:=by rw[mrgT]
theorem qif (a:List Tm):mrgT a []=a:=by cases a<;>rw[mrgT]
theorem qnp {x y:Tm} {a b:List Tm} (h:x.cmp y<0):mrgT (x::a) (y::b)=x::mrgT a (y::b):=by rw[mrgT,if_pos h]
theorem qnq {x y:Tm} {a b:List Tm} (h:0<x.cmp y):mrgT (x::a) (y::b)=y::mrgT (x::a) b:=by rw[mrgT,if_neg (by omega),if_pos h]
theorem qnr {x y:Tm} {a b:List Tm} (h:x.cmp y=0):mrgT (x::a) (y::b)=mrgT a b:=by rw[mrgT,if_neg (by omega),if_neg (by omega)]
theorem qj3 {x u:Tm} {a:List Tm} (h:Asc (x::a)) (hu:u∈a):x.cmp u<0:=(List.pairwise_cons.1 h).1 u hu
theorem qhy {x:Tm} {a:List Tm} (h:Asc (x::a)):Asc a:=(List.pairwise_cons.1 h).2
theorem qgt {x:Tm} {a:List Tm} (h:Asc (x::a)):x ∉ a:=fun e=>by have:=qj3 h e;rw[Tm.cmp_self]at this;omega
theorem qhm {x y:Tm} {b:List Tm} (h:Asc (y::b)) (hxy:x.cmp y<0):x ∉ y::b:=by
 intro e;rcases List.mem_cons.1 e with e|e
 ·subst e;rw[Tm.cmp_self]at hxy;omega
 ·have h1:=qj3 h e;have h2:=Tm.cmp_neg x y;omega
theorem mrg_spec:∀(n:Nat) (a b:List Tm),a.length+b.length≤n→Asc a→Asc b→Asc (mrgT a b)∧∀x,x∈mrgT a b↔((x∈a∧x ∉ b)∨(x ∉ a∧x∈b)):=by
 intro n
 induction n with
 | zero=>
  intro a b h ha hb;obtain rfl:a=[]:=List.eq_nil_of_length_eq_zero (by omega);obtain rfl:b=[]:=List.eq_nil_of_length_eq_zero (by omega);rw[qgh];exact⟨ha,by simp⟩
 | succ n ih=>
  intro a b h ha hb
  match a,b,h,ha,hb with
  | [],b,_,_,hb=>rw[qgh];exact⟨hb,by simp⟩
  | x::a,[],_,ha,_=>rw[qif];exact⟨ha,by simp⟩
  | x::a,y::b,h,ha,hb=>
   simp only[List.length_cons]at h;have hn:=Tm.cmp_neg x y;by_cases h1:x.cmp y<0
   ·rw[qnp h1];obtain⟨i1,i2⟩:=ih a (y::b) (by simp only[List.length_cons];omega) (qhy ha) hb;have hx:=qhm hb h1;refine⟨List.pairwise_cons.2 ⟨fun u hu=>?_,i1⟩,fun u=>?_⟩
    ·rcases (i2 u).1 hu with⟨h2,-⟩|⟨-,h2⟩
     ·exact qj3 ha h2
     ·rcases List.mem_cons.1 h2 with e|e
      ·subst e;exact h1
      ·have:=Tm.cmp_tri x y u;have h3:=qj3 hb e;unfold Tri at this;omega
    ·rw[List.mem_cons,i2 u,List.mem_cons (a:=u) (b:=x)];by_cases e:u=x
     ·subst e;simp[qgt ha,hx]
     ·simp[e]
   ·by_cases h2:0<x.cmp y
    ·rw[qnq h2];have h2':y.cmp x<0:=by omega
     obtain⟨i1,i2⟩:=ih (x::a) b (by simp only[List.length_cons];omega) ha (qhy hb);have hy:=qhm ha h2';refine⟨List.pairwise_cons.2 ⟨fun u hu=>?_,i1⟩,fun u=>?_⟩
     ·rcases (i2 u).1 hu with⟨h3,-⟩|⟨-,h3⟩
      ·rcases List.mem_cons.1 h3 with e|e
       ·subst e;exact h2'
       ·have:=Tm.cmp_tri y x u;have h4:=qj3 ha e;unfold Tri at this;omega
      ·exact qj3 hb h3
     ·rw[List.mem_cons,i2 u,List.mem_cons (a:=u) (b:=y)];by_cases e:u=y
      ·subst e;simp[qgt hb,hy]
      ·simp[e]
    ·have h0:x.cmp y=0:=by omega
     rw[qnr h0];have e:=Tm.cmp_zero.1 h0;subst e;obtain⟨i1,i2⟩:=ih a b (by omega) (qhy ha) (qhy hb);refine⟨i1,fun u=>?_⟩;rw[i2 u,List.mem_cons,List.mem_cons];by_cases e:u=x
     ·subst e;simp[qgt ha,qgt hb]
     ·simp[e]
theorem mrg_plus {a b:List Tm} (ha:Asc a) (hb:Asc b):mrgT a b=qfw a b:=by
 obtain⟨h1,h2⟩:=mrg_spec _ a b (Nat.le_refl _) ha hb;exact qdr h1 (qht b a ha) fun x=>by rw[h2 x,qd7 b a x (qct hb)]
theorem mrg_len:∀(n:Nat) (a b:List Tm),a.length+b.length≤n→(mrgT a b).length≤a.length+b.length:=by
 intro n
 induction n with
 | zero=>
  intro a b h;obtain rfl:a=[]:=List.eq_nil_of_length_eq_zero (by omega);rw[qgh];simp
 | succ n ih=>
  intro a b h
  match a,b,h with
  | [],b,_=>rw[qgh];simp
  | x::a,[],_=>rw[qif];simp
  | x::a,y::b,h=>
   simp only[List.length_cons]at h;by_cases h1:x.cmp y<0
   ·rw[qnp h1];have:=ih a (y::b) (by simp only[List.length_cons];omega);simp only[List.length_cons]at this ⊢;omega
   ·by_cases h2:0<x.cmp y
    ·rw[qnq h2];have:=ih (x::a) b (by simp only[List.length_cons];omega);simp only[List.length_cons]at this ⊢;omega
    ·rw[qnr (by omega)];have:=ih a b (by omega);simp only[List.length_cons];omega
theorem tog_len (t:Tm) (L:List Tm):(togT t L).length≤L.length+1:=by
 unfold togT;split
 ·exact Nat.le_succ_of_le (List.length_filter_le _ _)
 ·exact Tm.add_length t L
theorem qki:∀(b a:List Tm),(qfw a b).length≤a.length+b.length
 | [],a=>by simp[qfw]
 | t::r,a=>by
  have h1:=qki r (togT t a);have h2:=tog_len t a;show(qfw (togT t a) r).length≤_;simp only[List.length_cons];omega
mutual
theorem qkd:∀t:Tm,t.sumd.length≤t.size
 | .mk k n s l=>by
  rw[Tm.sumd,Tm.size]
  split
  ·simp
  ·split
   ·have:=qlk l [];simp at this;omega
   ·simp
theorem qlk:∀(l a:List Tm),(Tm.sumds l a).length≤a.length+Tm.sizes l
 | [],a=>by rw[Tm.sumds,Tm.sizes];omega
 | t::r,a=>by
  have h1:=qlk r (qfw a t.sumd);have h2:=qki t.sumd a;have h3:=qkd t;rw[Tm.sumds,Tm.sizes];omega
end
end Go.Proofs.YtjhjoiplpmjepaaGreat
