/- Tcol, Tof, Tmul, Tmul2, Tavoid, Tdes0, Ttwo, Tcat (joined by shake.py). -/
import Derived.Test.YtjhjoiplpmjepaaGreatL0
import Derived.Test.YtjhjoiplpmjepaaGreatL4
import Derived.Test.YtjhjoiplpmjepaaGreatL5
import Derived.Test.YtjhjoiplpmjepaaGreatL7
import Derived.Test.YtjhjoiplpmjepaaGreatL8
set_option maxRecDepth 100000
set_option linter.unusedVariables false
set_option linter.unusedSimpArgs false
set_option maxHeartbeats 16000000
namespace Go.Proofs.YtjhjoiplpmjepaaGreat
open Go.RowKit Go.Sort
def Coll (base:Nat) (l:List Pw) (w:World) (e:Ending) (w':World):Prop:=
 ∃v' jts,e=.returned (.tuple #[v',.bool true])∧RowW w' base (fun b=>base≤b) v' jts∧jts.map IW.pw=l∧Below base w w'
theorem arE_name {k s:Int} {n:ByteArray} {l:List Tm} (h:(Tm.mk k n s l).sym) (ha:(Tm.mk k n s l).arB=true):arE n l.length∧Tm.arBs l=true:=by
 rw[Tm.arB,if_pos h,Bool.and_eq_true,decide_eq_true_iff]at ha;exact ha
theorem arBs_get {l:List Tm} (h:Tm.arBs l=true):∀k (hk:k<l.length),l[k].arB=true:=by
 induction l with
 | nil=>intro k hk;simp at hk
 | cons t r ih=>
  rw[Tm.arBs,Bool.and_eq_true]at h;intro k hk
  cases k with
  | zero=>exact h.1
  | succ k=>exact ih h.2 k (by simpa using hk)
theorem qa4 {n:ByteArray} {L M:List UInt8} (h:(n.toList==L)=true) (hne:L≠M):(n.toList==M)=false:=by
 rw[beq_eq_false_iff_ne];rw[beq_iff_eq]at h;rw[h];exact hne
theorem qku (n:Nat):∀(t:Tm) (A:Option Addr) (c:Nat) (w:World) (base:Nat) (v:Value) (its:List IW) (sg:Int) (M L:Nat),t.size≤n→n≤10000→base≤w.heap.size→RepT w base t A c→RowW w base (fun b=>base≤b) v its→
  qbj (its.map IW.pw)→BdP M L (its.map IW.pw)→M+t.size≤10000000→L+t.size≤40000→(sg=1∨sg = -1)→t.arB=true→
  Calls Tryz.prog 134 #[v,t.val A c,.int .i64 sg] w (Coll base (colP t sg (its.map IW.pw)) w):=by
 induction n with
 | zero=>intro t _ _ _ _ _ _ _ _ _ h;have:=t.size_pos;omega
 | succ n ih=>
  intro t A c w base v its sg M L hn hb hbase hrep hrow hg hbd hM hL hsg har;obtain⟨tk,tn,ts,l⟩:=t;have htsz:(Tm.mk tk tn ts l).size≤1000000:=by omega
  obtain⟨V,hV⟩:∃V,V=w.alloc (.cells #[.int .i64 tk,.string tn,.int .i64 ts,.slice A l.length c] 24):=⟨_,rfl⟩;have hbV:Below w.heap.size w V:=by rw[hV];exact qad (Nat.le_refl _) _
  have hsV:V.heap.size=w.heap.size+1:=by rw[hV];simp
  have hbx:V.heap[w.heap.size]?=some (.cells #[.int .i64 tk,.string tn,.int .i64 ts,.slice A l.length c] 24 (0,0)):=by rw[hV];exact heap_alloc_new _ _
  have SY:=qmf (.mk tk tn ts l) A c V;obtain⟨r0,r1,r2,r3,rf⟩:=qaa hbx;have HV:=hdzz hV;have HBX:=hdzz hbx;have HBV:=hdzz hbV;clear hV hbx hbV;obtain⟨res,hres⟩:∃r,r=colP (.mk tk tn ts l) sg (its.map IW.pw):=⟨_,rfl⟩;rw[←hres];rw[colP]at hres;by_cases hs:(Tm.mk tk tn ts l).sym
  case neg=>
   rw[if_neg hs]at hres;rw[decide_eq_false hs]at SY;simp only[Tm.val,Tm.kind,Tm.name,Tm.sort,Tm.kids]at SY ⊢;have SY:=hdzz SY;have IN:Hid (∀X,Below V.heap.size V X→Calls Tryz.prog 169 #[v,.agg #[.int .i64 tk,.string tn,.int .i64 ts,.slice A l.length c,.int .i64 sg]] X (Inst base res X)):=hdzz fun X hX=>by
    have hWX:=HBV.out.trans (hX.mono (by omega));have h:=qh1 X base v its (.mk tk tn ts l) sg A c (hrow.below hWX) (by have:=hX.size;omega) hg (by have:=hbd.1;simp at this;omega) (fun x hx=>(hbd.2 _ (List.mem_map_of_mem hx)).1) (fun x hx=>by have:=(hbd.2 _ (List.mem_map_of_mem hx)).2;simp only[IW.pw]at this;omega) (by omega) htsz
     (RepP.mono (fun b h=>⟨by have:=hX.size;omega,fun e=>by have:=(hrow.lt b e).1;omega⟩) (fun p h=>hWX.cell (by omega)) _ _ _ hrep)
    rw[←hres]at h;exact h
   clear hres hrow hg hbd ih hrep;go_enter Tryz.func134,Tryz.ntmps134
   go_wp2_with fail
   rw[←HV.out];clear HV;go_wp2_with fail
   refine SY.out.mono ?_;clear SY r0 r1 r2 r3 rf;rintro e w1 ⟨rfl,hl1⟩;obtain⟨r0,r1,r2,r3,rf⟩:=qaa ((hl1.below.block _ (by omega)).trans HBX.out);have IN:=hdzz (IN.out w1 hl1.below);have HB1:=hdzz (HBV.out.trans (hl1.below.mono (by omega)));clear hl1;go_wp2_with fail
   refine IN.out.mono ?_;clear IN;rintro e w2 ⟨v',jts,rfl,hr2,hm2,hb2⟩;have HRES:Hid (Coll base res w (.returned (.tuple #[v',.bool true])) w2):=hdzz ⟨v',jts,rfl,hr2,hm2,(HB1.out.mono hbase).trans hb2⟩;clear hr2 hm2 hb2 r0 r1 r2 r3 rf;go_wp2_with fail
   go_ret2
   exact HRES.out
  rw[if_pos hs]at hres;rw[decide_eq_true hs]at SY;obtain⟨hare,hars⟩:=arE_name hs har;obtain⟨sg',hsg'⟩:∃s,s=if tn=nInv then -sg else sg:=⟨_,rfl⟩
  rw[←hsg']at hres;have hsg2:sg'=1∨sg' = -1:=by rw[hsg'];split<;>omega
  have hnm:tn=nMul∨tn=nInv∨tn=nOne:=hs.2;have N1:=qat (n:=tn) (c:=nMul) (L:=[109,117,108]) rfl;have N2:=qat (n:=tn) (c:=nInv) (L:=[105,110,118]) rfl;have N3:=qat (n:=tn) (c:=nOne) (L:=[111,110,101]) rfl;have hcase:((tn.toList==[109,117,108])=true∧(tn.toList==[105,110,118])=false∧(tn.toList==[111,110,101])=false∧¬((l.length:Int)<2)∧sg'=sg)∨
    ((tn.toList==[109,117,108])=false∧(tn.toList==[105,110,118])=true∧(tn.toList==[111,110,101])=false∧((l.length:Int) != 1)=false∧IntKind.i64.wrap (-sg)=sg')∨
    ((tn.toList==[109,117,108])=false∧(tn.toList==[105,110,118])=false∧(tn.toList==[111,110,101])=true∧((l.length:Int) != 0)=false∧sg'=sg):=by
   rcases hnm with h|h|h
   ·have h1:=N1.1 h;have h2:=hare.1 h;exact .inl ⟨h1,qa4 h1 (by decide),qa4 h1 (by decide),by omega,by rw[hsg',if_neg (fun e=>by rw[h]at e;exact absurd e (by decide))]⟩
   ·have h1:=N2.1 h;have h2:=hare.2.1 h;exact .inr (.inl ⟨qa4 h1 (by decide),h1,qa4 h1 (by decide),by rw[h2];rfl,by rw[hsg',if_pos h,IntKind.wrap_i64];omega⟩)
   ·have h1:=N3.1 h;have h2:=hare.2.2 h;exact .inr (.inr ⟨qa4 h1 (by decide),qa4 h1 (by decide),h1,by rw[h2];rfl,by rw[hsg',if_neg (fun e=>by rw[h]at e;exact absurd e (by decide))]⟩)
  have hlen:(l.length:Int)≤1000000:=by have:=Tm.length_le_sizes l;rw[Tm.size]at htsz;omega
  rw[qbh]at hrep;obtain⟨hr1,hr2,hr3,hr4⟩:=hrep;rw[Tm.size]at hn hM hL;simp only[Tm.val,Tm.kind,Tm.name,Tm.sort,Tm.kids]at SY ⊢;have SY:=hdzz SY;have HRES:=hdzz hres;have IH:=hdzz ih;have HROW:=hdzz hrow;have HG:=hdzz hg;have HBD:=hdzz hbd;have HARS:=hdzz hars;have HS2:=hdzz hsg2;have HSG:=hdzz hsg;clear hres ih hrow hg hbd hars hsg2 hsg' hnm N1 N2 N3 hare hs har hsg;rcases hcase with⟨q1,q2,q3,q4,q5⟩|⟨q1,q2,q3,q4,q5⟩|⟨q1,q2,q3,q4,q5⟩
  case' inl=>subst q5
  case' inr.inr=>subst q5
  all_goals
   go_enter Tryz.func134,Tryz.ntmps134
   go_wp2_with fail
   rw[←HV.out];clear HV;go_wp2_with fail
   refine SY.out.mono ?_;clear SY r0 r1 r2 r3 rf;rintro e w1 ⟨rfl,hl1⟩;have hs1:=hl1.below.size;obtain⟨r0,r1,r2,r3,rf⟩:=qaa ((hl1.below.block _ (by omega)).trans HBX.out);have HB1:=hdzz (HBV.out.trans (hl1.below.mono (by omega)));have HR1:=hdzz (HROW.out.below HB1.out);clear hl1;go_wp2_with fail
   clear r0 r1 r2 r3 rf;go_loopw [0,54] (fun u0 i wr=>∃(k:Nat) (jts:List IW),k≤l.length∧i=.int .i64 k∧Hid (RowW wr base (fun b=>base≤b) u0 jts)∧Hid (qbj (jts.map IW.pw)∧BdP (M+Tm.sizes (l.take k)) (L+Tm.sizes (l.take k)) (jts.map IW.pw))∧Hid (qdt (l.drop k) sg' (jts.map IW.pw)=res)∧Hid (Below base w wr)∧Hid (w.heap.size≤wr.heap.size)) (fun _ i _=>l.length - (intOf i).toNat)
   case atStart=>exact⟨0,its,Nat.zero_le _,rfl,HR1.out,⟨HG.out,HBD.out⟩,HRES.out.symm,HB1.out.mono hbase,HB1.out.size⟩
   case round=>
    obtain⟨k,jts,hk,rfl,HRW,HGB,HCO,HB,HSZ⟩:=hrel;have i1:(0:Int)≤(k:Int):=Int.natCast_nonneg _;by_cases hlt:k<l.length
    ·have i2:(k:Int)<(l.length:Int):=by omega
     rcases hr4 with rfl|⟨b,off,rfl,hbB,hl⟩
     ·simp at hlt
     obtain⟨A',cap',h0,h1,h2,h3,h5⟩:=(hl.below HB.out hbB).get k hlt;have hsg:=Tm.sizes_get l k hlt;have hst:=Tm.sizes_take_succ l k hlt;have hstl:=Tm.sizes_take_le l (k+1);have har:=arBs_get HARS.out k hlt;have hco:=HCO.out;rw[qky l sg' _ hlt]at hco;have HSZ1:=HSZ.out;have CON:Hid (∀X,Below wr.heap.size wr X→Calls Tryz.prog 134 #[u0,l[k].val A' cap',.int .i64 sg'] X (Coll base (colP l[k] sg' (jts.map IW.pw)) X)):=hdzz fun X hX=>
      IH.out l[k] A' cap' X base u0 jts sg' _ _ (by omega) (by omega) (by have:=hX.size;omega) (h5.below (hX.mono (by omega))) (HRW.out.below hX) HGB.out.1 HGB.out.2 (by omega) (by omega) HS2.out har
     have HNX:Hid (qbj (colP l[k] sg' (jts.map IW.pw))∧BdP (M+Tm.sizes (l.take (k+1))) (L+Tm.sizes (l.take (k+1))) (colP l[k] sg' (jts.map IW.pw))):=hdzz ⟨qhg l[k] (by have:=HS2.out;omega) HGB.out.1,by
      rw[hst,←Nat.add_assoc,←Nat.add_assoc];exact BdP.col l[k] (by omega) HS2.out HGB.out.2⟩
     clear h5 hl hsg hst hstl har;obtain⟨x,hx⟩:∃x,x=l[k]:=⟨_,rfl⟩;rw[←hx]at h0 h1 h2 h3 CON HNX hco;clear hx;have HCN:=hdzz hco;clear hco HCO;simp only[Tm.val]at CON;obtain⟨X,hX⟩:∃X,X=wr.alloc (.cells #[.int .i64 x.kind,.string x.name,.int .i64 x.sort,.slice A' x.kids.length cap'] 24):=⟨_,rfl⟩;have hbX:Below wr.heap.size wr X:=by rw[hX];exact qad (Nat.le_refl _) _
     have hxX:X.heap[wr.heap.size]?=some (.cells #[.int .i64 x.kind,.string x.name,.int .i64 x.sort,.slice A' x.kids.length cap'] 24 (0,0)):=by rw[hX];exact heap_alloc_new wr _
     have HX:=hdzz hX;have CON:=hdzz (CON.out X hbX);have HBX2:=hdzz (HB.out.trans (hbX.mono (by omega)));have hszX:=hbX.size;obtain⟨x0,x1,x2,x3,xf⟩:=qaa hxX;clear hX hbX hxX;go_wp2_with fail
     rw[←HX.out];clear HX h0 h1 h2 h3;go_wp2_with fail
     refine CON.out.mono ?_;clear CON x0 x1 x2 x3 xf;rintro e w2 ⟨v2,jt2,rfl,hr2,hm2,hb2⟩;have HR2:=hdzz hr2;have HB2:=hdzz (HBX2.out.trans hb2);have HS3:Hid (w.heap.size≤w2.heap.size):=hdzz (by have:=hb2.size;omega);have HM2:=hdzz hm2;clear hr2 hb2 hm2;go_wp2_with fail
     go_roundw
     case rel=>exact⟨k+1,jt2,by omega,by go_num,HR2.out,by rw[HM2.out];exact HNX.out,by rw[HM2.out];exact HCN.out,HB2.out,HS3.out⟩
     case measure=>simp[intOf];omega
    ·obtain rfl:k=l.length:=by omega
     have hco:=HCO.out;rw[List.drop_length,qdt]at hco;have HFIN:Hid (Coll base res w (.returned (.tuple #[u0,.bool true])) wr):=hdzz ⟨u0,jts,rfl,HRW.out,hco,HB.out⟩;clear hco HCO HRW;go_wp2_with fail
     go_ret2
     exact HFIN.out
def OkW (l:List Pw) (w:World) (e:Ending) (w':World):Prop:=
 ∃A c,e=.returned (.tuple #[.slice A l.length c,.int .i64 0])∧RepW w' (fun b=>w.heap.size≤b∧b<w'.heap.size) l A c∧Below w.heap.size w w'
theorem qh0 (t:Tm) (A:Option Addr) (c:Nat) (w:World) (hok:OfOK t) (hrep:RepT w w.heap.size t A c):Calls Tryz.prog 106 #[t.val A c] w (OkW (ofT t) w):=by
 obtain⟨hv,har,hlen⟩:=hok;have hsz:=(qap hv).2.1;obtain⟨V,hV⟩:∃V,V=w.alloc (qag t A c):=⟨_,rfl⟩;have hbV:Below w.heap.size w V:=by rw[hV];exact qad (Nat.le_refl _) _
 have hsV:V.heap.size=w.heap.size+1:=by rw[hV];simp
 have hbx:V.heap[w.heap.size]?=some (qag t A c):=by rw[hV];exact heap_alloc_new _ _
 have VA:=qb4 t A c V (by omega) (hrep.go hbV (by omega));rw[hv]at VA;have CO:Hid (∀X,Below V.heap.size V X→Calls Tryz.prog 134 #[.slice none 0 0,t.val A c,.int .i64 1] X (Coll X.heap.size (ofT t) X)):=hdzz fun X hX=>
  qku 10000 t A c X X.heap.size (.slice none 0 0) [] 1 0 0 (by omega) (Nat.le_refl _) (Nat.le_refl _) (hrep.go (hbV.trans (hX.mono (by omega))) (by have:=hX.size;omega)) (RowW.nil _ _ _) qbj.nil BdP.nil (by omega) (by omega) (.inl rfl) har
 obtain⟨res,hres⟩:∃r,r=ofT t:=⟨_,rfl⟩;rw[←hres]at hlen CO ⊢;clear hres;simp only[qag]at hV hbx;simp only[Tm.val]at VA CO ⊢;have VA:=hdzz VA;have HBX:=hdzz hbx;obtain⟨r0,r1,r2,r3,rf⟩:=qaa hbx;have HV:=hdzz hV;have HBV:=hdzz hbV;clear hV hbx hbV hrep hv har;go_enter Tryz.func106,Tryz.ntmps106
 go_wp2_with fail
 rw[←HV.out];clear HV;go_wp2_with fail
 refine VA.out.mono ?_;clear VA r0 r1 r2 r3 rf;rintro e w1 ⟨rfl,hl1⟩;have hs1:=hl1.below.size;have HB1:=hdzz (HBV.out.trans (hl1.below.mono (by omega)));have CO:=hdzz (CO.out w1 hl1.below);obtain⟨r0,r1,r2,r3,rf⟩:=qaa ((hl1.below.block _ (by omega)).trans HBX.out);clear hl1 HBX HBV;go_wp2_with fail
 refine CO.out.mono ?_;clear CO r0 r1 r2 r3 rf;rintro e w2 ⟨v',jts,rfl,hr2,hm2,hb2⟩;obtain⟨A2,c2,rfl,hW⟩:=hr2.toW (P:=fun b=>w.heap.size≤b∧b<w2.heap.size) (fun b h1 h=>⟨Nat.le_trans HB1.out.size h1,h⟩) (fun b h=>⟨Nat.le_trans HB1.out.size (hr2.lt b h).1,(hr2.lt b h).2⟩);rw[hm2]at hW;have hjl:jts.length=res.length:=by rw[←hm2];simp
 rw[hjl];have HW:=hdzz hW;have HB2:=hdzz (HB1.out.trans (hb2.mono (by have:=HB1.out.size;omega)));clear hr2 hm2 hb2 hW hjl HB1;have hlI:¬((200:Int)<(res.length:Int)):=by omega
 go_wp2_with fail
 go_ret2
 exact⟨A2,c2,rfl,HW.out,HB2.out⟩
def OwnW (l:List Pw) (w:World) (e:Ending) (w':World):Prop:=
 ∃v' jts,e=.returned v'∧RowW w' w.heap.size (fun b=>w.heap.size≤b) v' jts∧jts.map IW.pw=l∧Below w.heap.size w w'
attribute [local irreducible] qax
theorem qlz (l:List Pw) (A:Option Addr) (c:Nat) (w:World) (hlen:l.length≤40000) (hsz:∀p∈l,p.1.size≤1000000) (hrep:RepW w (fun b=>b<w.heap.size) l A c) :
  Calls Tryz.prog 170 #[.slice A l.length c] w (OwnW l w):=by
 have mixed:=mixz;obtain⟨nl,hnl⟩:∃n,n=l.length:=⟨_,rfl⟩;rw[←hnl]at hlen ⊢;have HNL:=hdzz hnl;have HSZ:=hdzz hsz;have HRW:=hdzz hrep;clear hnl hsz hrep;have hlI:(nl:Int)≤40000:=by omega
 go_enter Tryz.func170,Tryz.ntmps170
 go_wp2_with fail
 go_loopw [3,8] (fun u3 i wr=>∃(k:Nat) (jts:List IW),k≤nl∧i=.int .i64 k∧Hid (RowW wr w.heap.size (fun b=>w.heap.size≤b) u3 jts)∧Hid (jts.map IW.pw=l.take k)∧Hid (Below w.heap.size w wr)) (fun _ i _=>nl - (intOf i).toNat)
 case atStart=>exact⟨0,[],Nat.zero_le _,rfl,RowW.nil _ _ _,by rw[List.take_zero];rfl,Below.refl _ _⟩
 case round=>
  obtain⟨k,jts,hk,rfl,HR,HM,HB⟩:=hrel;have i1:(0:Int)≤(k:Int):=Int.natCast_nonneg _;have hsr:=HB.out.size;by_cases hlt:k<nl
  ·have i2:(k:Int)<(nl:Int):=by omega
   have hkl:k<l.length:=by have:=HNL.out;omega
   obtain⟨b,off,rfl,hbB,hget⟩:=(HRW.out.mono (w':=wr) (P':=fun b=>b<w.heap.size) (fun _ h=>h) (fun p hp=>HB.out.cell (by omega))).get (fun e=>by rw[e]at hkl;simp at hkl);obtain⟨A1,c1,h0,h1,h2,h3,h4,h5⟩:=hget k hkl;have hqs:=HSZ.out l[k] (List.getElem_mem hkl);have HTK:=hdzz (List.take_succ_eq_append_getElem hkl);have hjl:jts.length=k:=by have:=congrArg List.length HM.out;simpa[Nat.min_eq_left (Nat.le_of_lt hkl)]using this
   obtain⟨x,hx⟩:∃x,x=l[k]:=⟨_,rfl⟩;rw[←hx]at h0 h1 h2 h3 h4 h5 hqs HTK;clear hx hget;obtain⟨q,m⟩:=x;dsimp only at h0 h1 h2 h3 h4 h5 hqs;obtain⟨X,hX⟩:∃X,X=wr.alloc (.cells #[.int .i64 q.kind,.string q.name,.int .i64 q.sort,.slice A1 q.kids.length c1,.int .i64 m] 163):=⟨_,rfl⟩;have hbX:Below wr.heap.size wr X.drew:=by rw[hX];exact(qad (Nat.le_refl _) _).drew
   have hsX:X.drew.heap.size=wr.heap.size+1:=by rw[hX];simp
   have hxX:X.drew.heap[wr.heap.size]?=some (.cells #[.int .i64 q.kind,.string q.name,.int .i64 q.sort,.slice A1 q.kids.length c1,.int .i64 m] 163 (0,0)):=by rw[hX];exact heap_alloc_new wr _
   have HX:=hdzz hX;have CC:=qe7 1000000 q A1 c1 X.drew _ hqs (Nat.le_refl _) (fun b (h:b<w.heap.size)=>by omega) (RepP.mono (w:=wr) (w':=X.drew) (fun _ h=>h) (fun p h=>hbX.cell (by omega)) _ _ _ h5);simp only[Tm.val]at CC;have CC:=hdzz CC;have HRX:=hdzz (HR.out.below hbX);have HBX:=hdzz (HB.out.trans (hbX.mono hsr));clear hX hbX h5;go_wp2_with fail
   rw[←HX.out];clear HX h0 h1 h2 h3 h4;refine qaf (fun Y=>∀q,q<X.drew.heap.size→u3.ownBlock≠some q→Y.heap[q]?=X.drew.heap[q]?) (fun _=>True) [] (.held 0 (.held 1 (.held 2 (.held 4 (.held 5 (.op 3 (.held 6 (.op 7 (.op 8 (.held 9 .nil)))))))))) mixed (by kernel_rfl) ?_;generalize X.drew=D at *;obtain⟨x0,x1,x2,x3,x4,xf⟩:=qcd hxX;have hne:u3.ownBlock≠some wr.heap.size:=fun e=>by have:=(HR.out.lt _ e).2;omega
   refine stkz (u3) rfl rfl rfl (fun _ _ _ h=>h) (fun _ _ _=>rfl) (fun Y hY=>by
     (try simp only[Act.put]);go_simp) ?_
   refine stkz (.pointer (some ⟨wr.heap.size,0,none⟩)) rfl rfl rfl (fun _ _ _ h=>h) (fun _ _ _=>rfl) (fun Y hY=>by
     (try simp only[Act.put]);go_simp) ?_
   refine stkz (.agg #[.int .i64 q.kind,.string q.name,.int .i64 q.sort,.slice A1 q.kids.length c1]) rfl rfl rfl (fun _ _ _ h=>h) (fun _ _ _=>rfl) (fun Y hY=>by
     have z0:Y.cell? ⟨wr.heap.size,0,none⟩=_:=(World.cell?_of_block (hY wr.heap.size (by omega) hne)).trans x0;have z1:Y.cell? ⟨wr.heap.size,1,none⟩=_:=(World.cell?_of_block (hY wr.heap.size (by omega) hne)).trans x1;have z2:Y.cell? ⟨wr.heap.size,2,none⟩=_:=(World.cell?_of_block (hY wr.heap.size (by omega) hne)).trans x2;have z3:Y.cell? ⟨wr.heap.size,3,none⟩=_:=(World.cell?_of_block (hY wr.heap.size (by omega) hne)).trans x3
     (try simp only[Act.put]);go_simp) ?_
   refine stkz (.pointer (some ⟨wr.heap.size,4,none⟩)) rfl rfl rfl (fun _ _ _ h=>h) (fun _ _ _=>rfl) (fun Y hY=>by
     (try simp only[Act.put]);go_simp) ?_
   refine stkz (.int .i64 m) rfl rfl rfl (fun _ _ _ h=>h) (fun _ _ _=>rfl) (fun Y hY=>by
     have z4:Y.cell? ⟨wr.heap.size,4,none⟩=_:=(World.cell?_of_block (hY wr.heap.size (by omega) hne)).trans x4
     (try simp only[Act.put]);go_simp) ?_
   simp only[Act.put,fsa,fsb,fsc,fsd,fse,fsf];refine qae rfl rfl (fun K hK=>?_);go_wp2_with fail
   refine CC.out.mono ?_;clear CC x0 x1 x2 x3 x4 xf;rintro e w5 ⟨A5,c5,rfl,hrep5,hb5⟩;have hs5:=hb5.size;refine hK _ _ ⟨⟨fun _ q hq _=>hb5.block q (by omega),trivial⟩,?_⟩;clear hK K;have hrow5:=HRX.out.below hb5;have hrep5':RepP w5 (fun b=>w.heap.size≤b∧b<w5.heap.size∧u3.ownBlock≠some b) q A5 c5:=RepP.mono (fun b h=>by
    obtain⟨h1,h2⟩:=h;exact⟨by omega,h2,fun e=>by have:=(HRX.out.lt b e).2;omega⟩) (fun _ _=>rfl) _ _ _ hrep5
   obtain⟨g,c7,w7,hap,hr7,hbl7,hold7,hs7,-⟩:=RowW.more1 hrow5 (by omega) ((q,A5,c5),m) hrep5' (by omega);obtain⟨W6,hW6⟩:∃W6,W6=w5.alloc (.cells #[.int .i64 q.kind,.string q.name,.int .i64 q.sort,.slice A5 q.kids.length c5,.int .i64 m] 163):=⟨_,rfl⟩;dsimp only at hap;rw[←hW6]at hap;have hS6:∀q,q<D.heap.size→W6.heap[q]?=D.heap[q]?:=fun q hq=>by rw[hW6,Below.heap_alloc _ _ _ (by omega)];exact hb5.block q (by omega)
   have HS7:Hid (∀q,q<D.heap.size→u3.ownBlock≠some q→w7.heap[q]?=D.heap[q]?):=hdzz fun q hq hne=>(hold7 q (by omega) hne).trans (hb5.block q (by omega));have HR7:=hdzz hr7;have HB7:=hdzz (hbl7 w w.heap.size (HBX.out.trans (hb5.mono (by omega))) (Nat.le_refl _));have HS6:=hdzz hS6;clear hrow5 hrep5 hrep5' hr7 hbl7 hold7 hS6;simp only[Tm.val];refine stkz (.agg #[.int .i64 q.kind,.string q.name,.int .i64 q.sort,.slice A5 q.kids.length c5,.int .i64 m]) rfl rfl rfl (fun _ _ _ h=>h) (fun q hq _=>hb5.block q (by omega)) (fun Y hY=>by
     (try simp only[Act.put]);go_simp) ?_
   simp only[Act.put,fsa,fsb,fsc,fsd,fse,fsf];clear hb5;refine qae rfl rfl (fun K hK=>?_);go_wp2_with fail
   rw[←hW6];refine⟨⟨fun _ q hq _=>HS6.out q (by omega),trivial⟩,?_⟩;rw[hW6]at hap;rw[hW6];clear hW6;refine qae rfl rfl (fun K hK=>?_);refine qdh _ _ rfl rfl rfl (fun ty=>hap ty) ?_;refine hK _ _ ⟨⟨fun _ q hq hne=>HS7.out q (by omega) hne,trivial⟩,?_⟩;clear hK K hap;refine stkz (.slice (some ⟨g,0,none⟩) (jts.length+1) c7) rfl rfl rfl (fun _ _ _ h=>h) (fun q hq hne=>HS7.out q (by omega) hne) (fun Y hY=>by
     (try simp only[Act.put]);go_simp) ?_
   refine qar ?_;simp only[Act.put,fsa,fsb,fsc,fsd,fse,fsf];go_wp2_with fail
   go_roundw
   case rel=>exact⟨k+1,jts++[((q,A5,c5),m)],by omega,by go_num,HR7.out,by rw[List.map_append,HM.out,HTK.out];rfl,HB7.out⟩
   case measure=>simp[intOf];omega
  ·obtain rfl:k=nl:=by omega
   have HFIN:Hid (OwnW l w (.returned u3) wr):=hdzz ⟨u3,jts,rfl,HR.out,by rw[HM.out,HNL.out,List.take_length],HB.out⟩;clear HR HM;go_wp2_with fail
   go_ret
   exact HFIN.out
theorem res1_any (k s m:Int) (n:ByteArray) (A:Option Addr) (g c:Nat) (w:World) (hm:-1000≤m∧m≤1000):Calls Tryz.prog 185 #[.agg #[.int .i64 k,.string n,.int .i64 s,.slice A g c,.int .i64 m]] w fun e w'=>e=.returned (.bool false)∧Below w.heap.size w w':=by
 have h1:¬(m < -1000):=by omega
 have h2:¬((1000:Int)<m):=by omega
 obtain⟨V,hV⟩:∃V,V=w.alloc (.cells #[.int .i64 k,.string n,.int .i64 s,.slice A g c,.int .i64 m] 163):=⟨_,rfl⟩;have hbV:Below w.heap.size w V:=by rw[hV];exact qad (Nat.le_refl _) _
 have hbx:V.heap[w.heap.size]?=some (.cells #[.int .i64 k,.string n,.int .i64 s,.slice A g c,.int .i64 m] 163 (0,0)):=by rw[hV];exact heap_alloc_new _ _
 obtain⟨r0,r1,r2,r3,r4,rf⟩:=qcd hbx;have HV:=hdzz hV;have HB:=hdzz hbV;clear hV hbV hbx;go_enter Tryz.func185,Tryz.ntmps185
 go_wp2_with fail
 rw[←HV.out];go_wp2_with fail
 go_ret
 exact⟨rfl,HB.out⟩
theorem qnj (l:List Pw) (A:Option Addr) (c:Nat) (w:World) (hlen:l.length≤1000000) (hb:∀p∈l,-1000≤p.2∧p.2≤1000) (hrep:RepW w (fun b=>b<w.heap.size) l A c) :
  Calls Tryz.prog 189 #[.slice A l.length c,.func (.func 185) #[] #[]] w fun e w'=>e=.returned (.int .i64 (-1))∧Below w.heap.size w w':=by
 have eg:∀args w,(callFunc 185 args).run Tryz.prog w=.ok (.enter 185 args) w:=enters_of Tryz.func185 (by kernel_rfl) rfl;obtain⟨nl,hnl⟩:∃n,n=l.length:=⟨_,rfl⟩;rw[←hnl]at hlen ⊢;have HNL:=hdzz hnl;have HBD:=hdzz hb;have HRW:=hdzz hrep;clear hnl hb hrep;have hlI:(nl:Int)≤1000000:=by omega
 go_enter Tryz.func189,Tryz.ntmps189
 go_wp2_with fail
 go_loopw [5,8] (fun _ i wr=>∃k:Nat,k≤nl∧i=.int .i64 k∧Hid (Below w.heap.size w wr)) (fun _ i _=>nl - (intOf i).toNat)
 case atStart=>exact⟨0,Nat.zero_le _,rfl,Below.refl _ _⟩
 case round=>
  obtain⟨k,hk,rfl,HB⟩:=hrel;have i1:(0:Int)≤(k:Int):=Int.natCast_nonneg _;have hsr:=HB.out.size;by_cases hlt:k<nl
  ·have i2:(k:Int)<(nl:Int):=by omega
   have hkl:k<l.length:=by have:=HNL.out;omega
   obtain⟨b,off,rfl,hbB,hget⟩:=(HRW.out.mono (w':=wr) (P':=fun b=>b<w.heap.size) (fun _ h=>h) (fun p hp=>HB.out.cell (by omega))).get (fun e=>by rw[e]at hkl;simp at hkl);obtain⟨A1,c1,h0,h1,h2,h3,h4,h5⟩:=hget k hkl;have HC:=hdzz (res1_any l[k].1.kind l[k].1.sort l[k].2 l[k].1.name A1 l[k].1.kids.length c1 wr (HBD.out _ (List.getElem_mem hkl)));obtain⟨x,hx⟩:∃x,x=l[k]:=⟨_,rfl⟩;rw[←hx]at h0 h1 h2 h3 h4 HC;clear hx hget h5;go_wp2_with (go_at_fn 185;refine HC.out.mono ?_;rintro e w' ⟨rfl,hb'⟩)
   go_roundw
   case rel=>exact⟨k+1,by omega,by go_num,HB.out.trans (hb'.mono hsr)⟩
   case measure=>simp[intOf];omega
  ·obtain rfl:k=nl:=by omega
   go_wp2_with fail
   go_ret
   exact⟨rfl,HB.out⟩
theorem qly (l:List Pw) (A:Option Addr) (c:Nat) (w:World) (hr:RP l) (hrep:RepW w (fun b=>b<w.heap.size) l A c):Calls Tryz.prog 171 #[.slice A l.length c] w fun e w'=>e=.returned (.tuple #[.slice A l.length c,.int .i64 0])∧Below w.heap.size w w':=by
 have IX:Hid (Calls Tryz.prog 189 #[.slice A l.length c,.func (.func 185) #[] #[]] w fun e w'=>e=.returned (.int .i64 (-1))∧Below w.heap.size w w'):=hdzz (qnj l A c w (by have:=hr.1;omega) hr.2 hrep);have hl:=hr.1;have hlI:¬((200:Int)<(l.length:Int)):=by omega
 have CF:Hid (Calls Tryz.prog 184 #[.slice A l.length c,.func (.func 185) #[] #[]] w fun e w'=>e=.returned (.bool false)∧Below w.heap.size w w'):=hdzz (by
  clear hrep;go_enter Tryz.func184,Tryz.ntmps184
  go_wp2_with fail
  refine IX.out.mono ?_;rintro e w1 ⟨rfl,hb⟩;go_wp2_with fail
  go_ret
  exact⟨rfl,hb⟩)
 clear IX hrep;go_enter Tryz.func171,Tryz.ntmps171
 go_wp2_with fail
 refine CF.out.mono ?_;clear CF;rintro e w1 ⟨rfl,hb⟩;have HB:=hdzz hb;clear hb;go_wp2_with fail
 go_ret2
 exact⟨rfl,HB.out⟩
theorem qgs (l:List Pw) (A:Option Addr) (c:Nat) (w:World) (hv:VP l) (ho:Okp l) (hrep:RepW w (fun b=>b<w.heap.size) l A c) :
  Calls Tryz.prog 135 #[.slice A l.length c] w fun e w'=>e=.returned (.int .i64 0)∧Below w.heap.size w w':=by
 have mixed:=mixz;obtain⟨nl,hnl⟩:∃n,n=l.length:=⟨_,rfl⟩;have hlen:=hv.1;rw[←hnl]at hlen ⊢;have HNL:=hdzz hnl;have HV:=hdzz hv;have HO:=hdzz ho;have HRW:=hdzz hrep;clear hnl hv ho hrep;have hlI:¬((200:Int)<(nl:Int)):=by omega
 have hlJ:(nl:Int)≤200:=by omega
 go_enter Tryz.func135,Tryz.ntmps135
 go_wp2_with fail
 go_loopw [11] (fun i wr=>∃k:Nat,k≤nl∧i=.int .i64 k∧Hid (Below w.heap.size w wr)) (fun i _=>nl - (intOf i).toNat)
 case atStart=>exact⟨0,Nat.zero_le _,rfl,Below.refl _ _⟩
 case round=>
  obtain⟨k,hk,rfl,HB⟩:=hrel;have i1:(0:Int)≤(k:Int):=Int.natCast_nonneg _;have hsr:=HB.out.size;by_cases hlt:k<nl
  ·have i2:(k:Int)<(nl:Int):=by omega
   have hkl:k<l.length:=by have:=HNL.out;omega
   obtain⟨b,off,rfl,hbB,hget⟩:=(HRW.out.mono (w':=wr) (P':=fun b=>b<w.heap.size) (fun _ h=>h) (fun p hp=>HB.out.cell (by omega))).get (fun e=>by rw[e]at hkl;simp at hkl);obtain⟨A1,c1,h0,h1,h2,h3,h4,h5⟩:=hget k hkl;have hvk:=HV.out.2 l[k] (List.getElem_mem hkl);have hnk:=HO.out.2 l[k] (List.getElem_mem hkl);have h0k:=HO.out.1.2 l[k] (List.getElem_mem hkl);have hlt2:Hid (∀(h:0<k),(l[k - 1]'(by omega)).1.cmp l[k].1<0):=hdzz fun h=>good_lt HO.out.1 (by omega) hkl;obtain⟨x,hx⟩:∃x,x=l[k]:=⟨_,rfl⟩;rw[←hx]at h0 h1 h2 h3 h4 h5 hvk hnk h0k hlt2;clear hx;obtain⟨q,m⟩:=x;dsimp only at h0 h1 h2 h3 h4 h5 hvk hnk h0k hlt2;obtain⟨hv0,hm1,hm2⟩:=hvk;have hqs:=(qap hv0).2.1
   obtain⟨X,hX⟩:∃X,X=wr.alloc (.cells #[.int .i64 q.kind,.string q.name,.int .i64 q.sort,.slice A1 q.kids.length c1,.int .i64 m] 163):=⟨_,rfl⟩;have hbX:Below wr.heap.size wr X:=by rw[hX];exact qad (Nat.le_refl _) _
   have hsX:X.heap.size=wr.heap.size+1:=by rw[hX];simp
   have hxX:X.heap[wr.heap.size]?=some (.cells #[.int .i64 q.kind,.string q.name,.int .i64 q.sort,.slice A1 q.kids.length c1,.int .i64 m] 163 (0,0)):=by rw[hX];exact heap_alloc_new wr _
   obtain⟨x0,x1,x2,x3,x4,xf⟩:=qcd hxX;have HX:=hdzz hX;have hqX:RepP X (fun b=>b<w.heap.size) q A1 c1:=RepP.mono (fun _ h=>h) (fun p hp=>hbX.cell (by omega)) _ _ _ h5;have VA:=qb4 q A1 c1 X (by omega) (RepP.mono (fun b (h:b<w.heap.size)=>by omega) (fun _ _=>rfl) _ _ _ hqX);rw[hv0]at VA;simp only[Tm.val]at VA;have VA:=hdzz VA;have HBX:=hdzz hbX;have HXX:=hdzz hxX;have HQX:=hdzz hqX;have HGET:=hdzz hget;clear hX hbX hxX hqX h5 hget;go_wp2_with fail
   rw[←HX.out];clear HX h0 h1 h2 h3 h4;go_wp2_with fail
   refine VA.out.mono ?_;clear VA x0 x1 x2 x3 x4 xf;rintro e w2 ⟨rfl,hl2⟩;have hs2:=hl2.below.size;obtain⟨x0,x1,x2,x3,x4,xf⟩:=qcd ((hl2.below.block _ (by omega)).trans HXX.out);have SY:=qmf q A1 c1 w2;rw[decide_eq_false hnk]at SY;simp only[Tm.val]at SY;have SY:=hdzz SY;have H2:=hdzz hl2.below;clear hl2;go_wp2_with fail
   refine SY.out.mono ?_;clear SY x0 x1 x2 x3 x4 xf;rintro e w3 ⟨rfl,hl3⟩;have hs3:=hl3.below.size;have H3:=hdzz (H2.out.trans (hl3.below.mono (by omega)));have hxx:=(H3.out.block _ (by omega)).trans HXX.out;obtain⟨x0,x1,x2,x3,x4,xf⟩:=qcd hxx;clear hl3 H2;have g1:(m==0)=false:=by rw[beq_eq_false_iff_ne];exact h0k
   have g2:¬(m < -1000):=by omega
   have g3:¬((1000:Int)<m):=by omega
   clear h0k hm1 hm2 hnk hv0;go_wp2_with fail
   have HB3:=hdzz (HB.out.trans ((HBX.out.trans (H3.out.mono (by omega))).mono hsr));have y0:w3.drew.cell? ⟨wr.heap.size,0,none⟩=_:=x0;have y1:w3.drew.cell? ⟨wr.heap.size,1,none⟩=_:=x1;have y2:w3.drew.cell? ⟨wr.heap.size,2,none⟩=_:=x2;have y3:w3.drew.cell? ⟨wr.heap.size,3,none⟩=_:=x3;have hsD:wr.heap.size<w3.drew.heap.size:=by show _<w3.heap.size;omega
   have HBD:=hdzz HB3.out.drew;clear x0 x1 x2 x3 x4 xf hxx;rcases Nat.eq_zero_or_pos k with rfl|hkp
   ·refine qaf (fun Y=>Below w3.drew.heap.size w3.drew Y) (fun _=>True) [] (.held 0 (.held 1 (.held 2 (.held 3 (.held 4 (.held 5 (.held 6 (.held 7 (.held 8 (.held 9 (.held 10 (.held 11 (.held 12 (.held 13 (.held 14 .nil))))))))))))))) mixed (by kernel_rfl) ?_;generalize w3.drew=D at *;refine stkz (.int .i64 0) rfl rfl rfl (fun _ _ _ h=>h) (Below.refl _ _) (fun Y hY=>by
      (try simp only[Act.put]);go_simp) ?_
    refine stkz (.bool false) rfl rfl rfl (fun _ _ _ h=>h) (Below.refl _ _) (fun Y hY=>by
      (try simp only[Act.put]);go_simp) ?_
    refine stkz (.bool false) rfl rfl rfl (fun _ _ _ h=>h) (Below.refl _ _) (fun Y hY=>by
      (try simp only[Act.put]);go_simp) ?_
    refine qah rfl (by kernel_rfl) rfl (fun _ _ _ h=>h) (Below.refl _ _) trivial ?_;refine qah rfl (by kernel_rfl) rfl (fun _ _ _ h=>h) (Below.refl _ _) trivial ?_;refine qah rfl (by kernel_rfl) rfl (fun _ _ _ h=>h) (Below.refl _ _) trivial ?_;refine qah rfl (by kernel_rfl) rfl (fun _ _ _ h=>h) (Below.refl _ _) trivial ?_;refine qah rfl (by kernel_rfl) rfl (fun _ _ _ h=>h) (Below.refl _ _) trivial ?_;refine qah rfl (by kernel_rfl) rfl (fun _ _ _ h=>h) (Below.refl _ _) trivial ?_;refine qah rfl (by kernel_rfl) rfl (fun _ _ _ h=>h) (Below.refl _ _) trivial ?_;refine qah rfl (by kernel_rfl) rfl (fun _ _ _ h=>h) (Below.refl _ _) trivial ?_;refine qah rfl (by kernel_rfl) rfl (fun _ _ _ h=>h) (Below.refl _ _) trivial ?_;refine qah rfl (by kernel_rfl) rfl (fun _ _ _ h=>h) (Below.refl _ _) trivial ?_
    refine stkz (.bool false) rfl rfl rfl (fun _ _ _ h=>h) (Below.refl _ _) (fun Y hY=>by
      (try simp only[Act.put]);go_simp) ?_
    refine stkz (.bool false) rfl rfl rfl (fun _ _ _ h=>h) (Below.refl _ _) (fun Y hY=>by
      (try simp only[Act.put]);go_simp) ?_
    refine qar ?_;simp only[Act.put,fsa,fsb,fsc,fsd,fse,fsf];clear y0 y1 y2 y3;go_wp2_with fail
    go_roundw
    case rel=>exact⟨1,by omega,by go_num,HBD.out⟩
    case measure=>simp[intOf];omega
   ·have hpl:k - 1<l.length:=by omega
    obtain⟨Ap,cp,p0,p1,p2,p3,p4,p5⟩:=HGET.out (k - 1) hpl;have hcm:=hlt2.out hkp;have hps:=(qap (HV.out.2 l[k - 1] (List.getElem_mem hpl)).1).2.1;obtain⟨j,hj⟩:∃j,j=k - 1:=⟨_,rfl⟩;have hjI:(k:Int) - 1=(j:Int):=by omega
    have hwj:IntKind.i64.wrap (j:Int)=(j:Int):=by rw[IntKind.wrap_i64];omega
    obtain⟨pt,hpt⟩:∃x,x=l[k - 1].1:=⟨_,rfl⟩;rw[←hpt]at p0 p1 p2 p3 p5 hcm hps;rw[←hj]at p0 p1 p2 p3;have hjn:(j:Int)<(nl:Int):=by omega
    have hkI:(0:Int)<(k:Int):=by omega
    have hj0:(0:Int)≤(j:Int):=by omega
    have hjk:¬(nl≤j):=by omega
    have hbR3:Below wr.heap.size wr w3:=HBX.out.trans (H3.out.mono (by omega));have z0:w3.drew.cell? ⟨b,off+j*5,none⟩=_:=(hbR3.cell (p:=⟨b,off+j*5,none⟩) (by show b<_;omega)).trans p0;have z1:w3.drew.cell? ⟨b,off+j*5+1,none⟩=_:=(hbR3.cell (p:=⟨b,off+j*5+1,none⟩) (by show b<_;omega)).trans p1;have z2:w3.drew.cell? ⟨b,off+j*5+2,none⟩=_:=(hbR3.cell (p:=⟨b,off+j*5+2,none⟩) (by show b<_;omega)).trans p2;have z3:w3.drew.cell? ⟨b,off+j*5+3,none⟩=_:=(hbR3.cell (p:=⟨b,off+j*5+3,none⟩) (by show b<_;omega)).trans p3;have hbw:b<w3.drew.heap.size:=by show _<w3.heap.size;omega
    have CM:Hid (Calls Tryz.prog 53 #[pt.val Ap cp,q.val A1 c1] w3.drew fun e w'=>e=.returned (.int .i64 (pt.cmp q))∧Lay w3.drew.heap.size w3.drew w'):=hdzz
     (qef 1000000 pt q Ap A1 cp c1 w3.drew (by omega) (by omega) (by omega) (RepP.mono (w := wr) (w' := w3.drew) (fun b (h : b < w.heap.size) => by show _ < w3.heap.size; omega) (fun p (hp : p.block < w.heap.size) => hbR3.cell (by omega)) _ _ _ p5)
      (RepP.mono (w:=X) (w':=w3.drew) (fun b (h:b<w.heap.size)=>by show _<w3.heap.size;omega) (fun p (hp:p.block<w.heap.size)=>H3.out.cell (by omega)) _ _ _ HQX.out))
    obtain⟨r,hr⟩:∃r,r=pt.cmp q:=⟨_,rfl⟩;rw[←hr]at CM hcm;have hcr:¬(0≤r):=by omega
    clear hr hpt hj p0 p1 p2 p3 p4 p5 hbR3 hcm;simp only[Tm.val]at CM;refine qaf (fun Y=>Below w3.drew.heap.size w3.drew Y) (fun _=>True) [] (.held 0 (.held 1 (.held 2 (.held 3 (.held 4 (.held 5 (.held 6 (.held 7 (.held 8 (.held 9 (.held 10 (.op 11 (.held 12 (.held 13 (.held 14 .nil))))))))))))))) mixed (by kernel_rfl) ?_;generalize w3.drew=D at *;refine stkz (.int .i64 k) rfl rfl rfl (fun _ _ _ h=>h) (Below.refl _ _) (fun Y hY=>by
      (try simp only[Act.put]);go_simp) ?_
    refine stkz (.bool true) rfl rfl rfl (fun _ _ _ h=>h) (Below.refl _ _) (fun Y hY=>by
      (try simp only[Act.put]);go_simp) ?_
    refine stkz (.bool true) rfl rfl rfl (fun _ _ _ h=>h) (Below.refl _ _) (fun Y hY=>by
      (try simp only[Act.put]);go_simp) ?_
    refine qac (v:=.slice (some ⟨b,off,none⟩) nl c) rfl (by kernel_rfl) rfl (fun _ _ _ h=>h) (Below.refl _ _) trivial (fun Y hY hY2=>by
      (try simp only[Act.put]);go_simp) ?_
    refine qac (v:=.int .i64 k) rfl (by kernel_rfl) rfl (fun _ _ _ h=>h) (Below.refl _ _) trivial (fun Y hY hY2=>by
      (try simp only[Act.put]);go_simp) ?_
    refine qac (v:=.int .i64 j) rfl (by kernel_rfl) rfl (fun _ _ _ h=>h) (Below.refl _ _) trivial (fun Y hY hY2=>by
      (try simp only[Act.put]);go_simp) ?_
    refine qac (v:=.pointer (some ⟨b,off+j*5,none⟩)) rfl (by kernel_rfl) rfl (fun _ _ _ h=>h) (Below.refl _ _) trivial (fun Y hY hY2=>by
      (try simp only[Act.put]);go_simp) ?_
    refine qac (v:=.pointer (some ⟨b,off+j*5,none⟩)) rfl (by kernel_rfl) rfl (fun _ _ _ h=>h) (Below.refl _ _) trivial (fun Y hY hY2=>by
      (try simp only[Act.put]);go_simp) ?_
    simp only[Act.put,fsa,fsb,fsc,fsd,fse,fsf];refine qac (v:=.agg #[.int .i64 pt.kind,.string pt.name,.int .i64 pt.sort,.slice Ap pt.kids.length cp]) rfl (by kernel_rfl) rfl (fun _ _ _ h=>h) (Below.refl _ _) trivial (fun Y hY hY2=>by
      have a0:=sclz hY z0 (by omega);have a1:=sclz hY z1 (by omega);have a2:=sclz hY z2 (by omega);have a3:=sclz hY z3 (by omega)
      (try simp only[Act.put]);go_simp) ?_
    refine qac (v:=.pointer (some ⟨wr.heap.size,0,none⟩)) rfl (by kernel_rfl) rfl (fun _ _ _ h=>h) (Below.refl _ _) trivial (fun Y hY hY2=>by
      (try simp only[Act.put]);go_simp) ?_
    refine qac (v:=.agg #[.int .i64 q.kind,.string q.name,.int .i64 q.sort,.slice A1 q.kids.length c1]) rfl (by kernel_rfl) rfl (fun _ _ _ h=>h) (Below.refl _ _) trivial (fun Y hY hY2=>by
      have a0:=sclz hY y0 (by omega);have a1:=sclz hY y1 (by omega);have a2:=sclz hY y2 (by omega);have a3:=sclz hY y3 (by omega)
      (try simp only[Act.put]);go_simp) ?_
    simp only[Act.put,fsa,fsb,fsc,fsd,fse,fsf];clear y0 y1 y2 y3 z0 z1 z2 z3;refine qaz rfl (by kernel_rfl) (fun K hK=>?_);go_wp2_with fail
    refine CM.out.mono ?_;clear CM;rintro e w5 ⟨rfl,hl5⟩;refine hK _ _ ⟨⟨fun _=>hl5.below,trivial⟩,?_⟩;clear hK K;refine qac (v:=.bool false) rfl (by kernel_rfl) rfl (fun _ _ _ h=>h) hl5.below trivial (fun Y hY hY2=>by
      (try simp only[Act.put]);go_simp) ?_
    refine stkz (.bool false) rfl rfl rfl (fun _ _ _ h=>h) hl5.below (fun Y hY=>by
      (try simp only[Act.put]);go_simp) ?_
    refine stkz (.bool false) rfl rfl rfl (fun _ _ _ h=>h) hl5.below (fun Y hY=>by
      (try simp only[Act.put]);go_simp) ?_
    refine qar ?_;have HB5:=hdzz (HBD.out.trans (hl5.below.mono (by omega)));clear hl5;simp only[Act.put,fsa,fsb,fsc,fsd,fse,fsf];go_wp2_with fail
    go_roundw
    case rel=>exact⟨k+1,by omega,by go_num,HB5.out⟩
    case measure=>simp[intOf];omega
  ·obtain rfl:k=nl:=by omega
   go_wp2_with fail
   go_ret
   exact⟨rfl,HB.out⟩
theorem qhw (a b:List Pw) {k:Nat} (hk:k<b.length):mulP a (b.take (k+1))=insP b[k].1 b[k].2 (mulP a (b.take k)):=by
 unfold mulP;rw[List.take_succ_eq_append_getElem hk,List.foldl_append];rfl
theorem BdP.mul {M L:Nat} {a b:List Pw} (ha:BdP M L a) (hb:∀p∈b,p.1.size≤1000000∧-1000≤p.2∧p.2≤1000):∀k,k≤b.length→BdP (M+1000*k) (L+k) (mulP a (b.take k)):=by
 intro k
 induction k with
 | zero=>intro _;rw[List.take_zero];exact ha
 | succ k ih=>
  intro hk;have hkb:k<b.length:=by omega
  rw[qhw a b hkb];have h:=hb b[k] (List.getElem_mem hkb);exact(BdP.ins (K:=1000) h.1 (by omega) (ih (by omega))).more (by omega) (by omega)
theorem qf8 {a b:List Pw} (ha:qbj a) (hb:∀p∈b,p.2≠0) (k:Nat):qbj (mulP a (b.take k)):=qhd _ ha fun p hp=>hb p (List.mem_of_mem_take hp)
theorem emul_any (a b:List Pw) (A B:Option Addr) (c d:Nat) (w:World) (hva:VP a) (hoa:Okp a) (hvb:VP b) (hob:Okp b) (hr:RP (mulP a b)) (hra:RepW w (fun b=>b<w.heap.size) a A c) (hrb:RepW w (fun b=>b<w.heap.size) b B d) :
  Calls Tryz.prog 138 #[.slice A a.length c,.slice B b.length d] w (OkW (mulP a b) w):=by
 have V1:=hdzz (qgs a A c w hva hoa hra);have V2:Hid (∀X,Below w.heap.size w X→Calls Tryz.prog 135 #[.slice B b.length d] X fun e w'=>e=.returned (.int .i64 0)∧Below X.heap.size X w'):=hdzz fun X hX=>qgs b B d X hvb hob (hrb.go hX hX.size);have CP:Hid (∀X,Below w.heap.size w X→Calls Tryz.prog 170 #[.slice A a.length c] X (OwnW a X)):=hdzz fun X hX=>qlz a A c X (by have:=hva.1;omega) (fun p hp=>by have:=(qap (hva.2 p hp).1).2.1;omega) (hra.go hX hX.size)
 have RS:Hid (∀(X:World) (A':Option Addr) (c':Nat),RepW X (fun b=>b<X.heap.size) (mulP a b) A' c'→Calls Tryz.prog 171 #[.slice A' (mulP a b).length c'] X fun e w'=>e=.returned (.tuple #[.slice A' (mulP a b).length c',.int .i64 0])∧Below X.heap.size X w'):=hdzz fun X A' c' h=>qly _ A' c' X hr h;have HBD:Hid (∀k,k≤b.length→qbj (mulP a (b.take k))∧BdP (1000+1000*k) (200+k) (mulP a (b.take k))):=hdzz fun k hk=>⟨qf8 hoa.1 hob.1.2 k,BdP.mul ⟨hva.1,fun p hp=>by have h:=hva.2 p hp;have:=(qap h.1).2.1;omega⟩ (fun p hp=>by have h:=hvb.2 p hp;have:=(qap h.1).2.1;omega) k hk⟩;have HVB:=hdzz hvb;have HRB:=hdzz hrb;obtain⟨nb,hnb⟩:∃n,n=b.length:=⟨_,rfl⟩;have hlb:=hvb.1;rw[←hnb]at hlb V2 ⊢;have HNB:=hdzz hnb;obtain⟨na,hna⟩:∃n,n=a.length:=⟨_,rfl⟩
 rw[←hna]at V1 CP ⊢;obtain⟨res,hres⟩:∃r,r=mulP a b:=⟨_,rfl⟩;rw[←hres]at RS ⊢;have HRES:=hdzz hres;clear hva hoa hvb hob hr hra hrb hnb hna hres;have hlI:(nb:Int)≤200:=by omega
 go_enter Tryz.func138,Tryz.ntmps138
 go_wp2_with fail
 refine V1.out.mono ?_;clear V1;rintro e w1 ⟨rfl,hb1⟩;have V2:=hdzz (V2.out w1 hb1);have HB1:=hdzz hb1;clear hb1;go_wp2_with fail
 refine V2.out.mono ?_;clear V2;rintro e w2 ⟨rfl,hb2⟩;have HB2:=sbtz HB1 hb2;clear hb2 HB1;have CP:=hdzz (CP.out w2 HB2.out);go_wp2_with fail
 refine CP.out.mono ?_;clear CP;rintro e w3 ⟨v3,its,rfl,hrow3,hm3,hb3⟩;have hs2:=HB2.out.size;have HB3:=hdzz (HB2.out.trans (hb3.mono hs2));have HR3:=hdzz hrow3;have HM3:=hdzz hm3;have hs3:=hb3.size;clear hrow3 hm3 hb3;go_wp2_with fail
 go_loopw [8,25] (fun u8 i wr=>∃(k:Nat) (jts:List IW),k≤nb∧i=.int .i64 k∧Hid (RowW wr w2.heap.size (fun b=>w2.heap.size≤b) u8 jts)∧Hid (jts.map IW.pw=mulP a (b.take k))∧Hid (Below w2.heap.size w3 wr)) (fun _ i _=>nb - (intOf i).toNat)
 case atStart=>exact⟨0,its,Nat.zero_le _,rfl,HR3.out,HM3.out,Below.refl _ _⟩
 case round=>
  obtain⟨k,jts,hk,rfl,HR,HM,HB⟩:=hrel;have i1:(0:Int)≤(k:Int):=Int.natCast_nonneg _;have hsr:=HB.out.size;have HBW:=hdzz (HB3.out.trans (HB.out.mono hs2));by_cases hlt:k<nb
  ·have i2:(k:Int)<(nb:Int):=by omega
   have hkl:k<b.length:=by have:=HNB.out;omega
   obtain⟨bb,off,rfl,hbB,hget⟩:=(HRB.out.mono (w':=wr) (P':=fun b=>b<w.heap.size) (fun _ h=>h) (fun p hp=>HBW.out.cell (by omega))).get (fun e=>by rw[e]at hkl;simp at hkl);obtain⟨A1,c1,h0,h1,h2,h3,h4,h5⟩:=hget k hkl;have hbk:=HBD.out k (by omega);have hvk:=HVB.out.2 _ (List.getElem_mem hkl);have HNX:=hdzz (qhw a b hkl);obtain⟨x,hx⟩:∃x,x=b[k]:=⟨_,rfl⟩;rw[←hx]at h0 h1 h2 h3 h4 h5 hvk HNX;clear hx hget;obtain⟨q,m⟩:=x;dsimp only at h0 h1 h2 h3 h4 h5 hvk HNX;rw[←HM.out]at hbk HNX;have hqs:=(qap hvk.1).2.1;obtain⟨X,hX⟩:∃X,X=wr.alloc (.cells #[.int .i64 q.kind,.string q.name,.int .i64 q.sort,.slice A1 q.kids.length c1,.int .i64 m] 163):=⟨_,rfl⟩;have hbX:Below wr.heap.size wr X:=by rw[hX];exact qad (Nat.le_refl _) _
   have hxX:X.heap[wr.heap.size]?=some (.cells #[.int .i64 q.kind,.string q.name,.int .i64 q.sort,.slice A1 q.kids.length c1,.int .i64 m] 163 (0,0)):=by rw[hX];exact heap_alloc_new wr _
   obtain⟨x0,x1,x2,x3,x4,xf⟩:=qcd hxX;have hbs:=hbX.size;have IN:=qh1 X w2.heap.size u8 jts q m A1 c1 (HR.out.below hbX) (by omega) hbk.1 (by have:=hbk.2.1;simp at this;omega) (fun x hx=>(hbk.2.2 _ (List.mem_map_of_mem hx)).1) (fun x hx=>by have:=(hbk.2.2 _ (List.mem_map_of_mem hx)).2;simp only[IW.pw]at this;omega) (by omega) (by omega)
    (RepP.mono (w:=wr) (fun b (h:b<w.heap.size)=>⟨by omega,fun e=>by have:=(HR.out.lt b e).1;omega⟩) (fun p (h:p.block<w.heap.size)=>hbX.cell (by omega)) _ _ _ h5)
   simp only[pval]at IN;have IN:=hdzz IN;have HX:=hdzz hX;have HBX:=hdzz (HB.out.trans (hbX.mono (by omega)));clear hX hbX hxX h5 hbk hvk;go_wp2_with fail
   rw[←HX.out];clear HX h0 h1 h2 h3 h4;go_wp2_with fail
   refine IN.out.mono ?_;clear IN x0 x1 x2 x3 x4 xf;rintro e w4 ⟨v4,jt4,rfl,hr4,hm4,hb4⟩;have HR4:=hdzz hr4;have HM4:=hdzz (hm4.trans HNX.out.symm);have HB4:=hdzz (HBX.out.trans hb4);clear hr4 hm4 hb4;go_wp2_with fail
   go_roundw
   case rel=>exact⟨k+1,jt4,by omega,by go_num,HR4.out,HM4.out,HB4.out⟩
   case measure=>simp[intOf];omega
  ·obtain rfl:k=nb:=by omega
   have hm:jts.map IW.pw=res:=by rw[HM.out,HNB.out,List.take_length,HRES.out]
   obtain⟨A2,c2,rfl,hW⟩:=HR.out.toW (P:=fun b=>w.heap.size≤b∧b<wr.heap.size) (fun b h1 h=>⟨by omega,h⟩) (fun b h=>by have:=HR.out.lt b h;omega);rw[hm]at hW;have HWF:=hdzz hW;have hjl:jts.length=res.length:=by rw[←hm];simp
   have RS:=hdzz (RS.out wr A2 c2 (hW.mono (fun _ h=>h.2) (fun _ _=>rfl)));rw[hjl];clear hm hW HR HM hjl;go_wp2_with fail
   refine RS.out.mono ?_;clear RS;rintro e w5 ⟨rfl,hb5⟩;have HW5:=hdzz (HWF.out.mono (w':=w5) (P':=fun b=>w.heap.size≤b∧b<w5.heap.size) (fun b h=>⟨h.1,by have:=hb5.size;omega⟩) (fun p h=>hb5.cell h.2));have HB5:=sbtz HBW hb5;clear hb5;go_wp2_with fail
   go_ret2
   exact⟨A2,c2,rfl,HW5.out,HB5.out⟩
theorem qaq {W:World} {B:Nat} {x y z u:Value} {q:Addr} (hq:q.block≠B) :
  ((((W.setCell ⟨B,0,none⟩ x).setCell ⟨B,1,none⟩ y).setCell ⟨B,2,none⟩ z).setCell ⟨B,3,none⟩ u).cell? q=W.cell? q:=by
 have hne:∀o,(⟨B,o,none⟩:Addr)≠q:=fun o e=>hq (by rw[←e]);rw[World.cell?_setCell_other _ _ _ _ (hne _),World.cell?_setCell_other _ _ _ _ (hne _),World.cell?_setCell_other _ _ _ _ (hne _),World.cell?_setCell_other _ _ _ _ (hne _)]
theorem qft (t u:Tm) (A A':Option Addr) (c c':Nat) (w:World) (ht:t.size≤1000000) (hu:u.size≤1000000) (hrep:RepT w w.heap.size t A c) (hrep':RepT w w.heap.size u A' c') :
  Calls Tryz.prog 40 #[t.val A c,u.val A' c'] w fun e w'=>e=.returned (.bool (t.same u))∧Lay w.heap.size w w':=by
 have hL:Lay w.heap.size w ((w.alloc (.cells #[.int .i64 t.kind,.string t.name,.int .i64 t.sort,.slice A t.kids.length c] 24)).alloc (.cells #[.int .i64 u.kind,.string u.name,.int .i64 u.sort,.slice A' u.kids.length c'] 24)):=
  ((Lay.refl _ _).alloc (Nat.le_refl _) _).alloc (by simp) _
 have HC:=hdzz (qef 1000000 t u A A' c c' _ ht (by omega) hu (hrep.go hL.below hL.size) (hrep'.go hL.below hL.size));have e:t.same u=(t.cmp u==0):=by unfold Tm.same;rw[Bool.eq_iff_iff];simp
 rw[e];generalize t.cmp u=r at *;simp only[Tm.val]at HC ⊢;go_enter Tryz.func40,Tryz.ntmps40
 go_wp2_with fail
 refine HC.out.mono ?_;rintro e w' ⟨rfl,hl⟩;go_wp2_with fail
 go_ret
 exact⟨rfl,hL.trans (hl.mono hL.size)⟩
theorem qav (n:ByteArray) (A:Option Addr) (k c:Nat) (w:World):Calls Tryz.prog 61 #[.string n,.slice A k c] w fun e w'=>e=.returned (.agg #[.int .i64 3,.string n,.int .i64 0,.slice A k c])∧Below w.heap.size w w':=by
 go_enter Tryz.func61,Tryz.ntmps61
 go_wp2_with fail
 have hx:=heap_alloc_new w (.cells #[.int .i64 3,.string n,.int .i64 0,.slice A k c] 24);obtain⟨r0,r1,r2,r3,rf⟩:=qaa hx;refine bodyPost_ret (v:=.agg #[.int .i64 3,.string n,.int .i64 0,.slice A k c]) ?_ rfl ?_
 ·simp[results,Tryz.results61,go_sem,r0,r1,r2,r3]
 exact⟨rfl,qad (Nat.le_refl _) _⟩
def OkR (Pb:Nat→Prop) (r:Tm) (w:World) (e:Ending) (w':World):Prop:=∃A c,e=.returned (r.val A c)∧RepP w' (fun b=>Pb b∨w.heap.size≤b∧b<w'.heap.size) r A c∧Below w.heap.size w w'
structure DstB (Pb:Nat→Prop) (w:World) (n:ByteArray) (l:List Tm) (A:Option Addr) (c:Nat) (a k:Tm) (Aa Ak:Option Addr) (ca ck:Nat) (W:World):Prop where
 b1:W.heap[w.heap.size]?=some (qag (.mk 3 n 0 l) A c)
 b2:W.heap[w.heap.size+1]?=some (.cells #[.int .i64 0,.string ⟨#[]⟩,.int .i64 0,.slice none 0 0] 24 (0,0))
 b3:W.heap[w.heap.size+1+1]?=some (qag a Aa ca)
 b4:W.heap[w.heap.size+1+1+1]?=some (qag k Ak ck)
 bel:Below w.heap.size w W
 ra:RepP W Pb a Aa ca
 rk:RepP W Pb k Ak ck
 rt:RepP W Pb (.mk 3 n 0 l) A c
 le:∀b,Pb b→b<w.heap.size
theorem DstB.size {Pb:Nat→Prop} {w W:World} {n:ByteArray} {l:List Tm} {A:Option Addr} {c:Nat} {a k:Tm} {Aa Ak:Option Addr} {ca ck:Nat} (h:DstB Pb w n l A c a k Aa Ak ca ck W):w.heap.size+1+1+1<W.heap.size:=(sltz h.b4)
theorem DstB.go {Pb:Nat→Prop} {w W Z:World} {n:ByteArray} {l:List Tm} {A:Option Addr} {c:Nat} {a k:Tm} {Aa Ak:Option Addr} {ca ck:Nat} (h:DstB Pb w n l A c a k Aa Ak ca ck W) (hb:Below W.heap.size W Z):DstB Pb w n l A c a k Aa Ak ca ck Z:=by
 have hs:=h.size;have hle:=h.le;exact⟨(hb.block _ (by omega)).trans h.b1,(hb.block _ (by omega)).trans h.b2,(hb.block _ (by omega)).trans h.b3,(hb.block _ (by omega)).trans h.b4,h.bel.trans (hb.mono (by omega)),
  RepP.mono (fun _ h=>h) (fun p hp=>hb.cell (by have:=hle _ hp;omega)) _ _ _ h.ra,RepP.mono (fun _ h=>h) (fun p hp=>hb.cell (by have:=hle _ hp;omega)) _ _ _ h.rk,RepP.mono (fun _ h=>h) (fun p hp=>hb.cell (by have:=hle _ hp;omega)) _ _ _ h.rt,hle⟩
theorem qal {W:World} {P:Nat→Prop} {t:Tm} {A:Option Addr} {c:Nat} (h:RepP W P t A c) (i:Nat) (hi:i<t.kids.length):∃b off A' c',A=some ⟨b,off,none⟩∧P b∧
  W.cell? ⟨b,off+i*4,none⟩=some (.int .i64 (kidT t.kids i).kind)∧W.cell? ⟨b,off+i*4+1,none⟩=some (.string (kidT t.kids i).name)∧W.cell? ⟨b,off+i*4+2,none⟩=some (.int .i64 (kidT t.kids i).sort)∧W.cell? ⟨b,off+i*4+3,none⟩=some (.slice A' (kidT t.kids i).kids.length c')∧RepP W P (kidT t.kids i) A' c':=by
 obtain⟨k,n,s,l⟩:=t;have hi:i<l.length:=hi;have e:kidT (Tm.mk k n s l).kids i=l[i]:=by show kidT l i=_;unfold kidT;rw[List.getElem?_eq_getElem hi];rfl
 rw[e];rw[RepP_mk]at h;rcases h.2.2.2 with h|⟨b,off,rfl,hb,hl⟩
 ·rw[h]at hi;simp at hi
 ·obtain⟨A',c',h0,h1,h2,h3,h4⟩:=RepLP.get hl i hi;exact⟨b,off,A',c',rfl,hb,h0,h1,h2,h3,h4⟩
theorem qdo {w:World} {base:Nat} {F:Nat→Prop} {v:Value} {its:List It} (hrow:RowT w base F v its) (hbase:base≤w.heap.size) (X:It) (hX:RepP w (fun b=>F b∧b<w.heap.size∧v.ownBlock≠some b) X.1 X.2.1 X.2.2) (hlen:its.length+1≤100000000) :
  ∃g c' w',(∀ty,(Builtin.append_ #[22,22] ty #[v,.slice (some ⟨w.heap.size,0,none⟩) 1 1]).run Tryz.prog (w.alloc (.cells #[.int .i64 X.1.kind,.string X.1.name,.int .i64 X.1.sort,.slice X.2.1 X.1.kids.length X.2.2] 24))=.ok (.slice (some ⟨g,0,none⟩) (its.length+1) c') w')∧
   RowT w' base F (.slice (some ⟨g,0,none⟩) (its.length+1) c') (its++[X])∧(∀W0 B0,Below B0 W0 w→B0≤base→Below B0 W0 w')∧(∀k,k<w.heap.size→v.ownBlock≠some k→w'.heap[k]?=w.heap[k]?)∧w.heap.size≤w'.heap.size∧(v.ownBlock=some g∨w.heap.size≤g):=by
 obtain⟨W6,hW6⟩:∃W6,W6=w.alloc (.cells #[.int .i64 X.1.kind,.string X.1.name,.int .i64 X.1.sort,.slice X.2.1 X.1.kids.length X.2.2] 24):=⟨_,rfl⟩;have hb6:Below w.heap.size w W6:=by rw[hW6];exact qad (Nat.le_refl _) _
 have hs6:W6.heap.size=w.heap.size+1:=by rw[hW6];simp
 have hx6:W6.heap[w.heap.size]?=some (.cells (itCells [X]).toArray 24 (0,0)):=by rw[hW6];exact heap_alloc_new _ _
 have key:RepP W6 (fun b=>F b∧b<W6.heap.size∧v.ownBlock≠some b) X.1 X.2.1 X.2.2:=
  RepP.mono (fun b hb=>⟨hb.1,by have:=hb.2.1;omega,hb.2.2⟩) (fun p hp=>hb6.cell hp.2.1) _ _ _ hX
 obtain⟨i0,hi0,hz0,hz1,hz2⟩:=info_parts qcv;have hrow6:=hrow.below hb6;obtain⟨g,cap,w',h1,h2,h3,h4,h5⟩:=run_append_lies (P:=Tryz.prog) W6 22 0 base 24 i0 _ 4 56 Tryz.underlying22 hi0 hz0 hz1 hz2 rfl (by omega) v its.length (itCells its) hrow6.own ⟨w.heap.size,0,none⟩ 1 1 (itCells [X]) (qb2 _)
  (fun j u hu=>by
   have e:(⟨w.heap.size,0,none⟩:Addr).add j=⟨w.heap.size,j,none⟩:=by unfold Addr.add;split<;>simp_all
   rw[e,cell_of_row W6 w.heap.size j _ _ _ hx6];simpa using hu) (qb8 [X]) (by omega) (by unfold maxLen;omega) (by omega) (by omega) W6.heap.size rfl
 have hsz:=h3.size;have hb1:∀ty,(Builtin.append_ #[22,22] ty #[v,.slice (some ⟨w.heap.size,0,none⟩) 1 1]).run Tryz.prog W6=.ok (.slice (some ⟨g,0,none⟩) (its.length+1) cap) w':=fun ty=>h1;rw[hW6]at hb1;refine⟨g,cap,w',hb1,qf1 hrow6 key (by simpa[itCells]using h2) h3 (h4.imp id fun h=>by omega),fun W0 B0 hB hB0=>?_,fun k hk hne=>?_,by omega,h4.imp id (fun h=>by omega)⟩
 ·have hbs:=hB.size;exact(hB.trans (hb6.mono (by omega))).grown h3 (by omega) (fun j e=>by have:=(hrow.lt _ e).1;omega)
 ·rw[h3.block k (by omega) (fun e=>hne e.symm)];exact hb6.block k hk
structure Two (w:World) (base:Nat) (v u:Value) (ps ns:List It):Prop where
 p:RowT w base (fun b=>base≤b∧u.ownBlock≠some b) v ps
 n:RowT w base (fun b=>base≤b∧v.ownBlock≠some b) u ns
 ne:∀k,v.ownBlock=some k→u.ownBlock≠some k
theorem Two.nil (w:World) (base:Nat):Two w base (.slice none 0 0) (.slice none 0 0) [] []:=⟨RowT.nil _ _ _,RowT.nil _ _ _,fun k h=>by cases h⟩
theorem Two.swap {w:World} {base:Nat} {v u:Value} {ps ns:List It} (h:Two w base v u ps ns):Two w base u v ns ps:=⟨h.n,h.p,fun k h1 h2=>h.ne k h2 h1⟩
theorem Two.below {w w':World} {base:Nat} {v u:Value} {ps ns:List It} (h:Two w base v u ps ns) (hb:Below w.heap.size w w'):Two w' base v u ps ns:=⟨h.p.below hb,h.n.below hb,h.ne⟩
theorem qkb {w:World} {base:Nat} {F F':Nat→Prop} {v:Value} {its:List It} (h:RowT w base F v its) (hF:∀b,F b→b<w.heap.size→v.ownBlock≠some b→F' b):RowT w base F' v its:=
 ⟨h.own,fun x hx=>RepP.mono (fun b ⟨h1,h2,h3⟩=>⟨hF b h1 h2 h3,h2,h3⟩) (fun _ _=>rfl) _ _ _ (h.reps x hx)⟩
theorem Two.push {w:World} {base:Nat} {v u:Value} {ps ns:List It} (h:Two w base v u ps ns) (hbase:base≤w.heap.size) (X:It) (hX:RepP w (fun b=>base≤b∧b<w.heap.size∧v.ownBlock≠some b∧u.ownBlock≠some b) X.1 X.2.1 X.2.2) (hlen:ps.length+1≤100000000) :
  ∃g c' w',(∀ty,(Builtin.append_ #[22,22] ty #[v,.slice (some ⟨w.heap.size,0,none⟩) 1 1]).run Tryz.prog (w.alloc (.cells #[.int .i64 X.1.kind,.string X.1.name,.int .i64 X.1.sort,.slice X.2.1 X.1.kids.length X.2.2] 24))=.ok (.slice (some ⟨g,0,none⟩) (ps.length+1) c') w')∧
   Two w' base (.slice (some ⟨g,0,none⟩) (ps.length+1) c') u (ps++[X]) ns∧(∀W0 B0,Below B0 W0 w→B0≤base→Below B0 W0 w')∧(∀k,k<w.heap.size→v.ownBlock≠some k→w'.heap[k]?=w.heap[k]?)∧w.heap.size≤w'.heap.size∧(v.ownBlock=some g∨w.heap.size≤g):=by
 obtain⟨g,c',w',h1,h2,h3,h4,h5,h6⟩:=qdo h.p hbase X (RepP.mono (fun b hb=>⟨⟨hb.1,hb.2.2.2⟩,hb.2.1,hb.2.2.1⟩) (fun _ _=>rfl) _ _ _ hX) hlen;have hn:RowT w' base (fun b=>base≤b∧v.ownBlock≠some b) u ns:=h.n.keep h5 (fun b hb hor=>h4 b hb (fun e=>by
  rcases hor with hor|hor
  ·exact hor.2 e
  ·exact h.ne b e hor))
 refine⟨g,c',w',h1,⟨h2,?_,fun k hk hu=>?_⟩,h3,h4,h5,h6⟩
 ·-- the other row's terms lie as they lay
  have hno:∀b,b<w.heap.size→v.ownBlock≠some b→(Value.slice (some ⟨g,0,none⟩) (ps.length+1) c').ownBlock≠some b:=fun b hb hne e=>by
   have e:g=b:=Option.some.inj e;subst e;rcases h6 with h|h
   ·exact hne h
   ·omega
  refine⟨hn.own,fun x hx=>?_⟩;refine RepP.mono (fun b hb=>?_) (fun p hp=>World.cell?_of_block (h4 p.block hp.2.1 hp.1.2)) _ _ _ (h.n.reps x hx);exact⟨⟨hb.1.1,hno b hb.2.1 hb.1.2⟩,by omega,hb.2.2⟩
 ·have e:g=k:=Option.some.inj hk;subst e;rcases h6 with h|h
  ·exact absurd hu (‹Two w base v u ps ns›.ne g h)
  ·have:=(‹Two w base v u ps ns›.n.lt g hu).2;omega
theorem qin {w:World} {base:Nat} {v:Value} {its:List It} {F:Nat→Prop} (hrow:RowT w base F v its) (hB:∀b,F b→b<base) (hbase:base≤w.heap.size) {l:List Tm} {A:Option Addr} {c:Nat} (hS:RepS w F l A c) (hlen:its.length+l.length≤100000000) :
  ∃A' c' w' it2,it2.map (·.1)=l∧(∀ty,(Builtin.append_ #[22,22] ty #[v,.slice A l.length c]).run Tryz.prog w=.ok (.slice A' (its.length+l.length) c') w')∧
   RowT w' base F (.slice A' (its.length+l.length) c') (its++it2)∧(∀W0 B0,Below B0 W0 w→B0≤base→Below B0 W0 w'):=by
 have grown:∀{w1:World},w.grownBy w1 v.ownBlock→∀W0 B0,Below B0 W0 w→B0≤base→Below B0 W0 w1:=fun hg W0 B0 hb hB0=>
  qaw hb (by omega) hg (fun k hk=>by have:=(hrow.lt k hk).1;omega)
 rcases hS.2.2 with h|⟨b,off,rfl,hbB,hl⟩
 ·subst h;have hc0:∀ty,(Builtin.append_ #[22,22] ty #[v,.slice A 0 c]).run Tryz.prog w=.ok v w:=fun ty=>qg5 hrow.own A c ty;rcases hrow.own.2 with⟨hv,h0⟩|⟨g,cap,cur,hv,_⟩
  ·refine⟨none,0,w,[],rfl,fun ty=>?_,?_,fun _ _ h _=>h⟩
   ·rw[hv]at hc0;rw[hv,h0];exact hc0 ty
   ·rw[hv]at hrow;rw[List.append_nil,h0];exact hrow
  ·refine⟨some ⟨g,0,none⟩,cap,w,[],rfl,fun ty=>?_,?_,fun _ _ h _=>h⟩
   ·have h2:=hc0 ty;rw[hv]at h2;rw[hv];exact h2
   ·rw[hv]at hrow;rw[List.append_nil];exact hrow
 ·obtain⟨it2,hm,hc,hr⟩:=RepLP.its l b off hl;have hl2:l.length=it2.length:=by rw[←hm,List.length_map]
  obtain⟨A',c',w',h1,h2,h3,-⟩:=hrow.more hB hbase b off c l.length it2 hl2 hc hr hlen;exact⟨A',c',w',it2,hm,h1,h2,grown h3⟩
def CattedP (P:Nat→Prop) (L:List Tm) (w:World) (e:Ending) (w':World):Prop:=
 ∃A c its,e=.returned (.slice A L.length c)∧RowT w' w.heap.size P (.slice A L.length c) its∧its.map (·.1)=L∧Below w.heap.size w w'
theorem ql0 (P:Nat→Prop) (l m:List Tm) (A0 A1:Option Addr) (c0 c1 sb:Nat) (w:World) (hl:l.length≤100000) (hm:m.length≤100000)
  (hx:w.heap[sb]?=some (.cells #[.slice A0 l.length c0,.slice A1 m.length c1] 22 (0,0))) (hP:∀b,P b→b<w.heap.size) (h0:RepS w P l A0 c0) (h1:RepS w P m A1 c1) :
  Calls Tryz.prog 81 #[.slice (some ⟨sb,0,none⟩) 2 2] w (CattedP P (l++m) w):=by
 have hsb:=(sltz hx);have x0:w.cell? ⟨sb,0,none⟩=some (.slice A0 l.length c0):=by simp[World.cell?,hx]
 have x1:w.cell? ⟨sb,1,none⟩=some (.slice A1 m.length c1):=by simp[World.cell?,hx]
 have GR:=qme (l.length+m.length) (by omega) w;rw[show((l.length+m.length:Nat):Int)=(l.length:Int)+(m.length:Int)by omega]at GR;have GR:=hdzz GR;have H0:=hdzz h0;clear h0;have H1:=hdzz h1;clear h1;have i1:(0:Int)≤(l.length:Int):=by omega
 have i2:(0:Int)≤(m.length:Int):=by omega
 have i3:¬((l.length:Int)<0):=by omega
 have i4:¬((l.length:Int)+(m.length:Int)<0):=by omega
 go_enter Tryz.func81,Tryz.ntmps81
 go_wp2_with fail
 refine wp_loop_rounds 3 ?_;rw[rounds_succ];go_wp2_with fail
 rw[rounds_succ];go_wp2_with fail
 rw[rounds_succ];go_wp2_with fail
 refine GR.out.mono ?_;clear GR x0 x1;rintro e w1 ⟨A,c,rfl,hrow,hb⟩;have hrow':RowT w1 w.heap.size P (.slice A 0 c) []:=⟨hrow.own,by simp⟩;have up:∀{Z:World} {t:List Tm} {T:Option Addr} {k:Nat},Below w.heap.size w Z→RepS w P t T k→RepS Z P t T k:=fun hZ h=>RepS.mono (fun _ h=>h) (fun p hp=>hZ.cell (hP _ hp)) h;obtain⟨A2,c2,w2,it2,hm2,hap1,hrow2,hg2⟩:=qin hrow' hP hb.size (up hb H0.out) (by simp;omega);have hb2:=hg2 _ _ hb (Nat.le_refl _);simp only[List.length_nil,Nat.zero_add,List.nil_append]at hap1 hrow2;have hl2:it2.length=l.length:=by rw[←hm2,List.length_map]
 rw[←hl2]at hrow2;obtain⟨A3,c3,w3,it3,hm3,hap2,hrow3,hg3⟩:=qin hrow2 hP hb2.size (up hb2 H1.out) (by omega);have hb3:=hg3 _ _ hb2 (Nat.le_refl _);rw[hl2]at hap2 hrow3;have x0:w1.cell? ⟨sb,0,none⟩=some (.slice A0 l.length c0):=by rw[hb.cell (show sb<_ from hsb)];simp[World.cell?,hx]
 have x1:w2.cell? ⟨sb,1,none⟩=some (.slice A1 m.length c1):=by rw[hb2.cell (show sb<_ from hsb)];simp[World.cell?,hx]
 have HROW:=hdzz hrow3;clear hrow3 hrow2 hrow' hrow hg2 hg3;have HB:=hdzz hb3;clear hb3 hb2 hb;have HM:Hid ((it2++it3).map (·.1)=l++m):=by show _=_;rw[List.map_append,hm2,hm3]
 clear hm2 hm3 hl2 hx up i1 i2 i3 i4;go_wp2_with fail
 refine wp_loop_rounds 3 ?_;rw[rounds_succ];go_wp2_with (at_builtin;refine qab rfl _ _ rfl rfl rfl hap1 ?_)
 rw[rounds_succ];go_wp2_with (at_builtin;refine qab rfl _ _ rfl rfl rfl hap2 ?_)
 rw[rounds_succ];go_wp2_with fail
 go_ret
 exact⟨A3,c3,it2++it3,by rw[List.length_append];rfl,by rw[List.length_append];exact HROW.out,HM.out,HB.out⟩
end Go.Proofs.YtjhjoiplpmjepaaGreat
