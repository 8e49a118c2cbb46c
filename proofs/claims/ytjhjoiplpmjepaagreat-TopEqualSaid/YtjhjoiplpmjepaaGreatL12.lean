/- Trsumm, Tsumw, Ge, Trsum (joined by shake.py). -/
import Derived.Test.YtjhjoiplpmjepaaGreatL0
import Derived.Test.YtjhjoiplpmjepaaGreatL3
import Derived.Test.YtjhjoiplpmjepaaGreatL4
import Derived.Test.YtjhjoiplpmjepaaGreatL10
import Derived.Test.YtjhjoiplpmjepaaGreatL11
set_option maxRecDepth 100000
set_option linter.unusedVariables false
set_option linter.unusedSimpArgs false
set_option maxHeartbeats 16000000
namespace Go.Proofs.YtjhjoiplpmjepaaGreat
open Go.RowKit Go.Sort
theorem row_one {w:World} {base:Nat} {P:Nat→Prop} (X:It) (hP:∀b,P b→b<base) (hb:base≤w.heap.size) (hX:RepP w P X.1 X.2.1 X.2.2) :
  RowT (w.alloc (.cells #[.int .i64 X.1.kind,.string X.1.name,.int .i64 X.1.sort,.slice X.2.1 X.1.kids.length X.2.2] 24)) base P (.slice (some ⟨w.heap.size,0,none⟩) 1 1) [X]:=RowT.lit1 X hb hP hX
theorem qjc (n:Nat):∀(t:Tm) (A:Option Addr) (c:Nat) (w:World) (P:Nat→Prop),t.size≤n→n≤400000→(∀b,P b→b<w.heap.size)→RepP w P t A c→Calls Tryz.prog 22 #[t.val A c] w (ql5 w P t.sumd):=by
 induction n with
 | zero=>intro t _ _ _ _ h;have:=t.size_pos;omega
 | succ n ih=>
  intro t A c w P hn hb hP hrep;obtain⟨V,hV⟩:∃V,V=w.alloc (qag t A c):=⟨_,rfl⟩;have hbV:Below w.heap.size w V:=by rw[hV];exact qad (Nat.le_refl _) _
  have hsV:V.heap.size=w.heap.size+1:=by rw[hV];simp
  have hbx:V.heap[w.heap.size]?=some (qag t A c):=by rw[hV];exact heap_alloc_new _ _
  have hrV:RepP V P t A c:=RepP.mono (fun _ h=>h) (fun p hp=>hbV.cell (hP _ hp)) _ _ _ hrep;obtain⟨tk,tn,ts,l⟩:=t;obtain⟨res,hres⟩:∃r,r=(Tm.mk tk tn ts l).sumd:=⟨_,rfl⟩;rw[←hres];rw[Tm.sumd]at hres;have N1:=qat (n:=tn) (c:=qch) (L:=[122,101,114,111]) rfl;have N2:=qat (n:=tn) (c:=nXor) (L:=[120,111,114]) rfl;simp only[qag,Tm.kind,Tm.name,Tm.sort,Tm.kids]at hV hbx;simp only[Tm.val,Tm.kind,Tm.name,Tm.sort,Tm.kids];obtain⟨r0,r1,r2,r3,rf⟩:=qaa hbx;have hcase:(((tk==3)=false∨((tk==3)=true∧(tn.toList==[122,101,114,111])=true∧((l.length:Int)==0)=false∧(tn.toList==[120,111,114])=false)∨((tk==3)=true∧(tn.toList==[122,101,114,111])=false∧(tn.toList==[120,111,114])=false))∧res=[.mk tk tn ts l])∨
    ((tk==3)=true∧(tn.toList==[122,101,114,111])=true∧((l.length:Int)==0)=true∧res=[])∨((tk==3)=true∧(tn.toList==[122,101,114,111])=false∧(tn.toList==[120,111,114])=true∧res=Tm.sumds l []):=by
   by_cases hk:tk=3
   ·have hk':(tk==3)=true:=by rw[hk];rfl
    by_cases hz:tn=qch
    ·have h1:=N1.1 hz;have h2:(tn.toList==[120,111,114])=false:=by
      rw[beq_eq_false_iff_ne];rw[beq_iff_eq]at h1;rw[h1];decide
     have hx:tn≠nXor:=fun e=>by rw[e]at hz;exact absurd hz (by decide)
     by_cases hl:l=[]
     ·exact .inr (.inl ⟨hk',h1,by rw[hl];rfl,by rw[hres,if_pos ⟨hk,hz,hl⟩]⟩)
     ·refine .inl ⟨.inr (.inl ⟨hk',h1,?_,h2⟩),by rw[hres,if_neg (fun e=>hl e.2.2),if_neg (fun e=>hx e.2)]⟩;rw[beq_eq_false_iff_ne];have:=List.length_pos_iff.2 hl;omega
    ·have h1:(tn.toList==[122,101,114,111])=false:=by rw[←Bool.not_eq_true];exact fun e=>hz (N1.2 e)
     by_cases hx:tn=nXor
     ·exact .inr (.inr ⟨hk',h1,N2.1 hx,by rw[hres,if_neg (fun e=>hz e.2.1),if_pos ⟨hk,hx⟩]⟩)
     ·have h2:(tn.toList==[120,111,114])=false:=by rw[←Bool.not_eq_true];exact fun e=>hx (N2.2 e)
      exact .inl ⟨.inr (.inr ⟨hk',h1,h2⟩),by rw[hres,if_neg (fun e=>hz e.2.1),if_neg (fun e=>hx e.2)]⟩
   ·exact .inl ⟨.inl (by rw[beq_eq_false_iff_ne];exact hk),by rw[hres,if_neg (fun e=>hk e.1),if_neg (fun e=>hk e.1)]⟩
  clear hres N1 N2;have HRV:=hdzz hrV;have HBX:=hdzz hbx;have HBV:=hdzz hbV;have HSV:=hdzz hsV;have HP:=hdzz hP;have hlen:(l.length:Int)≤1000000:=by have:=Tm.length_le_sizes l;rw[Tm.size]at hn;omega
  rcases hcase with⟨hc,hr⟩|⟨q1,q2,q3,hr⟩|⟨q1,q2,q3,hr⟩
  ·subst hr;obtain⟨W2,hW2⟩:∃W,W=V.alloc (.cells #[.int .i64 tk,.string tn,.int .i64 ts,.slice A l.length c] 24):=⟨_,rfl⟩;have HOK:Hid (ql5 w P [.mk tk tn ts l] (.returned (.slice (some ⟨V.heap.size,0,none⟩) 1 1)) W2):=hdzz (by
    have hb2:Below V.heap.size V W2:=by rw[hW2];exact qad (Nat.le_refl _) _
    have hrow:=row_one (w:=V) (base:=w.heap.size) (P:=P) (.mk tk tn ts l,A,c) hP (by omega) HRV.out;simp only[Tm.kind,Tm.name,Tm.sort,Tm.kids]at hrow;rw[←hW2]at hrow;exact⟨_,1,1,_,rfl,rfl,hrow,HBV.out.trans (hb2.mono (by omega)),rfl⟩)
   have HV:=hdzz hV;have HW2:=hdzz hW2;clear hV hW2 hbx hbV hrV hrep ih hsV hP;rcases hc with q1|⟨q1,q2,q3,q4⟩|⟨q1,q2,q3⟩
   all_goals
    (try have q7:(tk != 3)=true:=by simpa using q1)
    (try have q7:(tk != 3)=false:=by simpa using q1)
    (try have q5:(tn.toList != [120,111,114])=true:=by simpa using q4)
    (try have q6:(tn.toList != [120,111,114])=true:=by simpa using q3)
    go_enter Tryz.func22,Tryz.ntmps22
    go_upto_region 1 with fail
    rw[←HV.out];go_wp2_with fail
    go_ret
    rw[←HW2.out];exact HOK.out
  ·subst hr;have HV:=hdzz hV;clear hV hbx hbV hrV hrep ih hP;go_enter Tryz.func22,Tryz.ntmps22
   go_upto_region 1 with fail
   rw[←HV.out];go_wp2_with fail
   go_ret
   exact⟨none,0,0,[],rfl,rfl,RowT.nil _ _ _,HBV.out,rfl⟩
  ·have HRES:=hdzz hr;have HV:=hdzz hV;have IH:=hdzz ih;rw[Tm.size]at hn;have q4:(tn.toList != [120,111,114])=false:=by simpa using q3
   have q7:(tk != 3)=false:=by simpa using q1
   clear hr hV hbx hbV hrV hrep ih hP;go_enter Tryz.func22,Tryz.ntmps22
   go_upto_region 1 with fail
   rw[←HV.out];go_wp2_with fail
   clear r0 r1 r2 r3 rf;go_loopw [3,4] (fun u3 i wr=>∃(k m c:Nat) (A':Option Addr) (its:List It),k≤l.length∧i=.int .i64 k∧u3=.slice A' m c∧Hid (m=its.length)∧Hid (m≤Tm.sizes (l.take k))∧Hid (∀x∈its,x.1.size≤400000)∧Hid (RowT wr w.heap.size P (.slice A' m c) its)∧Hid (Tm.sumds (l.drop k) (its.map (·.1))=res)∧Hid (Below V.heap.size V wr)) (fun _ i _=>l.length - (intOf i).toNat)
   case atStart=>exact⟨0,0,0,none,[],Nat.zero_le _,rfl,rfl,rfl,Nat.zero_le _,by simp[Hid],RowT.nil _ _ _,HRES.out.symm,Below.refl _ _⟩
   case round=>
    obtain⟨k,m,c',A0,its,hk,rfl,rfl,HM,HMK,HSZ,HR,HCO,HB⟩:=hrel;have i1:(0:Int)≤(k:Int):=Int.natCast_nonneg _;have hsr:=HB.out.size;have HBR:=hdzz (HBV.out.trans (HB.out.mono (by have:=HSV.out;omega)));obtain⟨r0,r1,r2,r3,rf⟩:=qaa ((HB.out.block _ (by have:=HSV.out;omega)).trans HBX.out);by_cases hlt:k<l.length
    ·have i2:(k:Int)<(l.length:Int):=by omega
     obtain⟨b,off,rfl,hbB,hl⟩:∃b off,A=some ⟨b,off,none⟩∧P b∧RepLP V P l b off:=by
      have h:=HRV.out;rw[RepP_mk]at h;rcases h.2.2.2 with h|h
      ·rw[h]at hlt;simp at hlt
      ·exact h
     have hbs:=HP.out b hbB;have hws:=HSV.out;obtain⟨A',cap',h0,h1,h2,h3,h5⟩:=RepLP.get (RepLP.mono (w':=wr) (P:=P) (P':=P) (fun _ h=>h) (fun p hp=>HB.out.cell (by have:=HP.out _ hp;omega)) _ _ _ hbB hl) k hlt;have hsg:=Tm.sizes_get l k hlt;have hst:=Tm.sizes_take_succ l k hlt;have hstl:=Tm.sizes_take_le l (k+1);have hco:=HCO.out;rw[qez l _ hlt]at hco;have hsl:=qfx l[k];have hss:=qep l[k];have CON:=IH.out l[k] A' cap' wr P (by omega) (by omega) (fun b h=>by have:=HP.out b h;omega) h5;obtain⟨x,hx⟩:∃x,x=l[k]:=⟨_,rfl⟩;rw[←hx]at h0 h1 h2 h3 hco hsl hss CON hst hsg;clear hx hl h5;have HSL:=hdzz hsl;have HSS:=hdzz hss;have HST:=hdzz hst;have HSG:Hid (x.size≤400000∧Tm.sizes (l.take (k+1))≤400000):=hdzz ⟨by omega,by omega⟩;have HCN:=hdzz hco;simp only[Tm.val]at CON;have CON:=hdzz CON
     clear hsl hss hst hstl hsg hco HCO;go_wp2_with fail
     refine CON.out.mono ?_;clear CON h0 h1 h2 h3 r0 r1 r2 r3 rf;rintro e w2 ⟨A2,c2,n2,it2,rfl,hn2,hr2,hb2,hm2⟩;have hs2:=hb2.size;have HB2:=hdzz (HB.out.trans (hb2.mono (by omega)));have hlen2:it2.length=n2:=by rw[hn2,←hm2,List.length_map]
     have PL:=qj9 its it2 w.heap.size wr.heap.size A0 A2 m n2 c' c2 w2 P (fun b h=>by have:=HP.out b h;have:=HBR.out.size;omega) (HR.out.below hb2) hr2 (by have:=HMK.out;have:=HSG.out.2;have:=HST.out;omega) (by have:=HSL.out;have:=HSG.out.1;omega) (fun x hx=>by have:=HSZ.out x hx;omega) (fun y hy=>by
      have h:y.1∈x.sumd:=by rw[←hm2];exact List.mem_map_of_mem hy
      have:=HSS.out _ h;have:=HSG.out.1;omega)
     rw[hm2]at PL;obtain⟨sl,hsl⟩:∃s,s=qc4 (its.map (·.1)) x.sumd:=⟨_,rfl⟩;have HPL:Hid (sl.length≤Tm.sizes (l.take (k+1))):=hdzz (by
      have h:=qhb x.sumd (its.map (·.1));rw[←hsl,List.length_map,←HM.out]at h;have:=HMK.out;have:=HST.out;have:=HSL.out;omega)
     have HPS:Hid (∀y∈sl,y.size≤400000):=hdzz fun y hy=>by
      rw[hsl]at hy;rcases (qdj x.sumd _ y (qcb (qcw x))).1 hy with⟨h,-⟩|⟨-,h⟩
      ·obtain⟨z,hz,rfl⟩:=List.mem_map.1 h;exact HSZ.out z hz
      ·have:=HSS.out y h;have:=HSG.out.1;omega
     rw[←hsl]at PL;have HCN2:Hid (Tm.sumds (l.drop (k+1)) sl=res):=hdzz (by rw[hsl];exact HCN.out);have PL:=hdzz PL;clear hr2 hb2 hn2 hm2 hlen2 hsl HCN HR HM HMK HSZ;go_wp2_with fail
     refine PL.out.mono ?_;clear PL;rintro e w3 ⟨A3,c3,n3,it3,rfl,hn3,hr3,hb3,hm3⟩;have HB3:=hdzz (HB2.out.trans (hb3.mono (by omega)));have HR3:=hdzz (hr3.loosen (show w.heap.size≤w2.heap.size by have:=HBR.out.size;omega) (fun _ h=>h));have HM3:=hdzz hm3;have HN3:=hdzz hn3;clear hr3 hb3 hm3 hn3 hs2;go_wp2_with fail
     go_roundw
     case rel=>exact⟨k+1,n3,c3,A3,it3,by omega,by go_num,rfl,HR3.out.len,(by have h:=HN3.out;have h2:=HPL.out;show n3≤_;omega),(fun y hy=>HPS.out y.1 (by rw[←HM3.out];exact List.mem_map_of_mem hy)),HR3.out,(by rw[HM3.out];exact HCN2.out),HB3.out⟩
     case measure=>simp[intOf];omega
    ·obtain rfl:k=l.length:=by omega
     have hr:its.map (·.1)=res:=by have h:=HCO.out;rw[List.drop_length]at h;exact h
     have HRS:=hdzz hr;clear hr;go_wp2_with fail
     go_ret
     exact⟨A0,c',m,its,rfl,(by rw[←HRS.out,List.length_map];exact HM.out),HR.out,HBR.out,HRS.out⟩
theorem qmm (l:List Tm) (A:Option Addr) (c:Nat) (w:World) (hlen:l.length≤200) (hv:∀t∈l,t.valid=0) (hrep:RepS w (fun b=>b<w.heap.size) l A c) :
  Calls Tryz.prog 44 #[.slice A l.length c,.slice none 0 0] w fun e w'=>e=.returned (.int .i64 0)∧Below w.heap.size w w':=by
 obtain⟨X,hX⟩:∃X,X=w.alloc (.cells #[.slice A l.length c,.slice none 0 0] 22):=⟨_,rfl⟩;have hbX:Below w.heap.size w X:=by rw[hX];exact qad (Nat.le_refl _) _
 have hsX:X.heap.size=w.heap.size+1:=by rw[hX];simp
 have hxX:X.heap[w.heap.size]?=some (.cells #[.slice A l.length c,.slice none 0 0] 22 (0,0)):=by rw[hX];exact heap_alloc_new w _
 have CN:=qnm l [] A none c 0 w.heap.size X (by omega) (by simp) hxX (RepS.mono (fun b (h:b<w.heap.size)=>by omega) (fun p hp=>hbX.cell hp) hrep) ⟨Nat.le_refl _,Nat.zero_le _,.inl rfl⟩;rw[List.append_nil]at CN;obtain⟨nl,hnl⟩:∃n,n=l.length:=⟨_,rfl⟩;rw[←hnl]at hlen ⊢;rw[←hnl]at hX;have HNL:=hdzz hnl;have CN:=hdzz CN;have HX:=hdzz hX;have HBX:=hdzz hbX;have HV:=hdzz hv;clear hX hbX hxX hrep hv hnl;have hlI:¬((200:Int)<(nl:Int)):=by omega
 have hlJ:(nl:Int)≤200:=by omega
 go_enter Tryz.func44,Tryz.ntmps44
 go_wp2_with fail
 rw[←HX.out];clear HX;refine CN.out.mono ?_;clear CN;rintro e w2 ⟨A2,c2,its,rfl,hrow,hm,hb2⟩;have hs2:=hb2.size;obtain⟨A2',c2',hv2,hS2⟩:=hrow.toS (P:=fun b=>b<w2.heap.size) (fun b h _=>by omega) (fun b _ h=>h);injection hv2 with e1 e2 e3;subst e1 e3;rw[hm]at hS2;rw[←HNL.out];have HB2:=hdzz (HBX.out.trans (hb2.mono (by omega)));have HS2:=hdzz hS2;clear hrow hm hb2 hS2 e2 its;go_wp2_with fail
 go_loopw [16] (fun i wr=>∃k:Nat,k≤nl∧i=.int .i64 k∧Hid (Below w2.heap.size w2 wr)) (fun i _=>nl - (intOf i).toNat)
 case atStart=>exact⟨0,Nat.zero_le _,rfl,Below.refl _ _⟩
 case round=>
  obtain⟨k,hk,rfl,HB⟩:=hrel;have i1:(0:Int)≤(k:Int):=Int.natCast_nonneg _;have hsr:=HB.out.size;by_cases hlt:k<nl
  ·have i2:(k:Int)<(nl:Int):=by omega
   have hkl:k<l.length:=by have:=HNL.out;omega
   obtain⟨b,off,rfl,hbB,hl⟩:∃b off,A2=some ⟨b,off,none⟩∧b<w2.heap.size∧RepLP w2 (fun b=>b<w2.heap.size) l b off:=by
    rcases HS2.out.2.2 with h|h
    ·rw[h]at hkl;simp at hkl
    ·exact h
   obtain⟨A',cap',h0,h1,h2,h3,h5⟩:=RepLP.get (RepLP.mono (w':=wr) (P:=fun b=>b<w2.heap.size) (P':=fun b=>b<w2.heap.size) (fun _ h=>h) (fun p (hp:p.block<w2.heap.size)=>HB.out.cell hp) _ _ _ hbB hl) k hkl;have hv0:=HV.out l[k] (List.getElem_mem hkl);obtain⟨x,hx⟩:∃x,x=l[k]:=⟨_,rfl⟩;rw[←hx]at h0 h1 h2 h3 h5 hv0;clear hx hl;have hqs:=(qap hv0).2.1;obtain⟨Y,hY⟩:∃X,X=wr.alloc (.cells #[.int .i64 x.kind,.string x.name,.int .i64 x.sort,.slice A' x.kids.length cap'] 24):=⟨_,rfl⟩;have hbY:Below wr.heap.size wr Y:=by rw[hY];exact qad (Nat.le_refl _) _
   have hxY:Y.heap[wr.heap.size]?=some (.cells #[.int .i64 x.kind,.string x.name,.int .i64 x.sort,.slice A' x.kids.length cap'] 24 (0,0)):=by rw[hY];exact heap_alloc_new wr _
   obtain⟨x0,x1,x2,x3,xf⟩:=qaa hxY;have hsY:=hbY.size;have VA:=qb4 x A' cap' Y (by omega) (RepP.mono (w:=wr) (fun b (h:b<w2.heap.size)=>by omega) (fun p (h:p.block<w2.heap.size)=>hbY.cell (by omega)) _ _ _ h5);rw[hv0]at VA;simp only[Tm.val]at VA;have VA:=hdzz VA;have HY:=hdzz hY;have HBY:=hdzz (HB.out.trans (hbY.mono hsr));clear hY hbY hxY h5 hv0;go_wp2_with fail
   rw[←HY.out];clear HY h0 h1 h2 h3;go_wp2_with fail
   refine VA.out.mono ?_;clear VA x0 x1 x2 x3 xf;rintro e w3 ⟨rfl,hl3⟩;have HB3:=hdzz (HBY.out.trans (hl3.below.mono (by omega)));clear hl3;go_wp2_with fail
   go_roundw
   case rel=>exact⟨k+1,by omega,by go_num,HB3.out⟩
   case measure=>simp[intOf];omega
  ·obtain rfl:k=nl:=by omega
   go_wp2_with fail
   go_ret
   exact⟨rfl,HB2.out.trans (HB.out.mono (by have:=HB2.out.size;omega))⟩
theorem xorT_two (p q:Tm) (r:List Tm):xorT (p::q::r)=.mk 3 nXor 0 (p::q::r):=rfl
theorem qmn {a:List Tm} (h:(xorT a).size≤400):Tm.sizes a≤400:=by
 rcases a with _|⟨p,_|⟨q,r⟩⟩
 ·rw[Tm.sizes];omega
 ·rw[Tm.sizes,Tm.sizes];exact h
 ·rw[xorT_two,Tm.size]at h;omega
theorem xsum_any (l:List Tm) (A:Option Addr) (c:Nat) (w:World) (hlen:l.length≤200) (hv:∀t∈l,t.valid=0) (hpv:(xorT (Tm.sumds l [])).valid=0) (hsz:Tm.sizes l≤39000) (hrep:RepS w (fun b=>b<w.heap.size) l A c) :
  Calls Tryz.prog 105 #[.slice A l.length c] w (OkT (xorT (Tm.sumds l [])) w):=by
 obtain⟨V,hV⟩:∃V,V=w.alloc (.cells #[.int .i64 0,.string ⟨#[]⟩,.int .i64 0,.slice none 0 0] 24):=⟨_,rfl⟩;have hbV:Below w.heap.size w V:=by rw[hV];exact qad (Nat.le_refl _) _
 have hsV:V.heap.size=w.heap.size+1:=by rw[hV];simp
 have hbx:V.heap[w.heap.size]?=some (.cells #[.int .i64 0,.string ⟨#[]⟩,.int .i64 0,.slice none 0 0] 24 (0,0)):=by rw[hV];exact heap_alloc_new _ _
 have hrV:RepS V (fun b=>b<V.heap.size) l A c:=RepS.mono (fun b (h:b<w.heap.size)=>by omega) (fun p h=>hbV.cell h) hrep;have RI:=hdzz (qmm l A c V hlen hv hrV);obtain⟨nl,hnl⟩:∃n,n=l.length:=⟨_,rfl⟩;rw[←hnl]at hlen RI ⊢;obtain⟨L,hL⟩:∃L,L=Tm.sumds l []:=⟨_,rfl⟩;rw[←hL]at hpv ⊢;have HNL:=hdzz hnl;have HL:=hdzz hL;have HPV:=hdzz hpv;have HRV:=hdzz hrV;have HV:=hdzz hV;have HBX:=hdzz hbx;have HBV:=hdzz hbV;clear hV hbx hbV hrep hrV hv hpv hnl hL;have hlJ:(nl:Int)≤200:=by omega
 go_enter Tryz.func105,Tryz.ntmps105
 go_wp2_with fail
 rw[←HV.out];clear HV;go_wp2_with fail
 refine RI.out.mono ?_;clear RI;rintro e w1 ⟨rfl,hb1⟩;have hs1:=hb1.size;have HB1:=hdzz (HBV.out.trans (hb1.mono (by omega)));have HZ1:=hdzz ((hb1.block _ (by omega)).trans HBX.out);have HR1:=hdzz (RepS.mono (w':=w1) (P':=fun b=>b<V.heap.size) (fun _ h=>h) (fun p h=>hb1.cell h) HRV.out);clear hb1 HBV HBX HRV;go_wp2_with fail
 go_loopw [5,17] (fun u5 i wr=>∃(k:Nat) (a:List Tm) (Aa:Option Addr) (ca na:Nat),k≤nl∧i=.int .i64 k∧u5=.slice Aa na ca∧Hid (na=a.length)∧Hid (SumB (Tm.sizes (l.take k)) a)∧Hid (RepS wr (fun b=>b<wr.heap.size) a Aa ca)∧Hid (Tm.sumds (l.drop k) a=L)∧Hid (Below w1.heap.size w1 wr)) (fun _ i _=>nl - (intOf i).toNat)
 case atStart=>exact⟨0,[],none,0,0,Nat.zero_le _,rfl,rfl,rfl,SumB.nil,⟨Nat.le_refl _,Nat.zero_le _,.inl rfl⟩,HL.out.symm,Below.refl _ _⟩
 case round=>
  obtain⟨k,a,Aa,ca,na,hk,rfl,rfl,HNA,HSB,HRA,HCO,HB⟩:=hrel;have i1:(0:Int)≤(k:Int):=Int.natCast_nonneg _;have hsr:=HB.out.size;by_cases hlt:k<nl
  ·have i2:(k:Int)<(nl:Int):=by omega
   have hkl:k<l.length:=by have:=HNL.out;omega
   obtain⟨b,off,rfl,hbB,hl⟩:∃b off,A=some ⟨b,off,none⟩∧b<V.heap.size∧RepLP w1 (fun b=>b<V.heap.size) l b off:=by
    rcases HR1.out.2.2 with h|h
    ·rw[h]at hkl;simp at hkl
    ·exact h
   obtain⟨A',cap',h0,h1,h2,h3,h5⟩:=RepLP.get (RepLP.mono (w':=wr) (P:=fun b=>b<V.heap.size) (P':=fun b=>b<V.heap.size) (fun _ h=>h) (fun p (hp:p.block<V.heap.size)=>HB.out.cell (by omega)) _ _ _ hbB hl) k hkl;have hsg:=Tm.sizes_get l k hkl;have hst:=Tm.sizes_take_succ l k hkl;have hstl:=Tm.sizes_take_le l (k+1);have hco:=HCO.out;rw[qez l a hkl]at hco;have hnx:=HSB.out.plus (t:=l[k]) (by omega);rw[←hst]at hnx;obtain⟨x,hx⟩:∃x,x=l[k]:=⟨_,rfl⟩;rw[←hx]at h0 h1 h2 h3 h5 hco hnx hsg hst;clear hx hl;have HCN:=hdzz hco;have HNX:=hdzz hnx;obtain⟨X,hX⟩:∃X,X=wr.alloc (.cells #[.int .i64 x.kind,.string x.name,.int .i64 x.sort,.slice A' x.kids.length cap'] 24):=⟨_,rfl⟩;have hbX:Below wr.heap.size wr X:=by rw[hX];exact qad (Nat.le_refl _) _
   have hxX:X.heap[wr.heap.size]?=some (.cells #[.int .i64 x.kind,.string x.name,.int .i64 x.sort,.slice A' x.kids.length cap'] 24 (0,0)):=by rw[hX];exact heap_alloc_new wr _
   obtain⟨x0,x1,x2,x3,xf⟩:=qaa hxX;have hszX:=hbX.size;have CON:=qi6 40000 x A' cap' X (by omega) (Nat.le_refl _) (RepP.mono (w:=wr) (fun b (h:b<V.heap.size)=>by omega) (fun p (h:p.block<V.heap.size)=>hbX.cell (by omega)) _ _ _ h5);have PL:Hid (∀(Z:World) (B:Option Addr) (d:Nat),Below X.heap.size X Z→RepS Z (fun b=>b<Z.heap.size) x.sumd B d→Calls Tryz.prog 94 #[.slice Aa a.length ca,.slice B x.sumd.length d] Z (OkL (qc4 a x.sumd) Z)):=hdzz fun Z B d hZ hr=>
    qis HSB.out (by omega) (by omega) Aa B ca d Z (RepS.mono (w:=wr) (P:=fun b=>b<wr.heap.size) (fun b h=>by have:=hZ.size;omega) (fun p h=>(hZ.cell (by omega)).trans (hbX.cell h)) HRA.out) hr
   rw[←HNA.out]at PL;simp only[Tm.val]at CON;have CON:=hdzz CON;have HX:=hdzz hX;have HBX2:=hdzz (HB.out.trans (hbX.mono hsr));obtain⟨sl,hsl⟩:∃s,s=x.sumd:=⟨_,rfl⟩;rw[←hsl]at CON PL HCN HNX;clear hX hbX hxX hco hnx hsg hst hstl h5 hsl HRA HSB HNA;go_wp2_with fail
   rw[←HX.out];clear HX h0 h1 h2 h3;go_wp2_with fail
   refine CON.out.mono ?_;clear CON x0 x1 x2 x3 xf;rintro e w2 ⟨A2,c2,rfl,hr2,hb2⟩;have PL:=hdzz (PL.out w2 A2 c2 hb2 hr2);have HB2:=hdzz (HBX2.out.trans (hb2.mono (by omega)));have HS2:=hdzz hb2.size;clear hr2 hb2;go_wp2_with fail
   refine PL.out.mono ?_;clear PL;rintro e w3 ⟨A3,c3,rfl,hr3,hb3⟩;have HR3:=hdzz hr3;have HB3:=hdzz (HB2.out.trans (hb3.mono (by have:=HS2.out;omega)));clear hr3 hb3;go_wp2_with fail
   go_roundw
   case rel=>exact⟨k+1,_,A3,c3,_,by omega,by go_num,rfl,rfl,HNX.out,HR3.out,HCN.out,HB3.out⟩
   case measure=>simp[intOf];omega
  ·obtain rfl:k=nl:=by omega
   have hco:=HCO.out;rw[HNL.out,List.drop_length,Tm.sumds]at hco;subst hco;have hsb:=HSB.out;have hL8:=qmn (qap HPV.out).2.1;have OW:=xown_any 1000 a Aa ca wr (by omega) (by omega) HRA.out;rw[←HNA.out]at OW;have OW:=hdzz OW;have HBW:=hdzz (HB1.out.trans (HB.out.mono (by have:=HB1.out.size;omega)));have HZW:=hdzz ((HB.out.block _ (by omega)).trans HZ1.out);have HSZ:=hdzz (qap HPV.out);have hres:Hid (∀e w',OkT (xorT a) w e w'→OkT (xorT a) w e w'):=hdzz fun e w' h=>h;have hws:w.heap.size<wr.heap.size:=by omega
   clear hsb hL8 HRA HCO HSB HB HB1 HZ1 HL;go_wp2_with fail
   refine OW.out.mono ?_;clear OW;rintro e w4 ⟨A4,c4,rfl,hr4,hb4⟩;have hs4:=hb4.size;have HR4:=hdzz hr4;have HB4:=hdzz (HBW.out.trans (hb4.mono (by omega)));have HZ4:=hdzz ((hb4.block _ hws).trans HZW.out);obtain⟨Bx,hBx⟩:∃B,B=w4.heap.size:=⟨_,rfl⟩;have HBE:=hdzz hBx;have hBxw:w.heap.size<Bx:=by omega
   have HMK:Hid (∀(r:Tm) (A:Option Addr) (c:Nat),RepP w4 (fun b=>wr.heap.size≤b∧b<w4.heap.size) r A c→∃Wt,Wt=w4.alloc (qag r A c)∧Hid (Wt.heap[Bx]?=some (qag r A c))∧Hid (RepP Wt (fun b=>w.heap.size<b∧b<Wt.heap.size) r A c)∧Hid (Below w.heap.size w Wt)∧Hid (Wt.heap[w.heap.size]?=some (.cells #[.int .i64 0,.string ⟨#[]⟩,.int .i64 0,.slice none 0 0] 24 (0,0)))):=hdzz fun r A c h=>by
    have hb:Below w4.heap.size w4 (w4.alloc (qag r A c)):=qad (Nat.le_refl _) _;exact⟨_,rfl,by rw[HBE.out];exact heap_alloc_new _ _,RepP.mono (fun b h=>⟨by omega,by simp;omega⟩) (fun p h=>hb.cell h.2) _ _ _ h,HB4.out.trans (hb.mono (by omega)),(hb.block _ (by omega)).trans HZ4.out⟩
   clear hr4 hb4 HBW HZW hBx;rcases a with _|⟨a,_|⟨a2,r⟩⟩
   ·have HPV:Hid ((Tm.mk 3 qch 0 []).valid=0):=hdzz HPV.out;have HSZ:=hdzz (qap HPV.out);have hres:Hid (∀e w',OkT (.mk 3 qch 0 []) w e w'→OkT (xorT []) w e w'):=hdzz hres.out;obtain⟨Wt,hWt,HTB,HTR,HTW,HTZ⟩:=HMK.out (.mk 3 qch 0 []) none 0 (by rw[RepP_mk];exact⟨by decide,Nat.le_refl _,Nat.zero_le _,.inl rfl⟩);simp only[qag,Tm.kind,Tm.name,Tm.sort,Tm.kids,List.length_nil,qch]at hWt;have HWt:=hdzz hWt;clear hWt HMK;simp only[List.length_nil];go_wp2_with fail
    rw[←HWt.out,←HBE.out];have VA:=qb4 (Tm.mk 3 qch 0 []) none 0 Wt (by have:=HSZ.out.2.1;omega) (RepP.mono (fun b h=>h.2) (fun _ _=>rfl) _ _ _ HTR.out);rw[HPV.out]at VA;simp only[Tm.val]at VA;have VA:=hdzz VA;have hsW:w.heap.size<Wt.heap.size:=by have:=(sltz HTZ.out);omega
    have hsB:Bx<Wt.heap.size:=by have:=(sltz HTB.out);omega
    refine VA.out.mono ?_;clear VA;rintro e w5 ⟨rfl,hl5⟩;obtain⟨x0,x1,x2,x3,xf⟩:=qaa ((hl5.below.block Bx hsB).trans HTB.out);obtain⟨z0,z1,z2,z3,zf⟩:=qaa ((hl5.below.block _ hsW).trans HTZ.out);simp only[Tm.kind,Tm.name,Tm.sort,Tm.kids]at x0 x1 x2 x3;have HT5:=hdzz (RepP.mono (w':=w5) (P':=fun b=>w.heap.size<b∧b<w5.heap.size) (fun b h=>⟨h.1,by have:=hl5.size;omega⟩) (fun p h=>hl5.below.cell h.2) _ _ _ HTR.out);have HB5:=hdzz (HTW.out.trans (hl5.below.mono (by omega)));clear hl5;go_wp2_with fail
    refine bodyPost_ret (v:=.tuple #[Tm.val (Tm.mk 3 qch 0 []) none 0,.int .i64 0]) ?_ rfl ?_
    ·simp[results,Tryz.results105,go_sem,z0,z1,z2,z3,Tm.val,Tm.kind,Tm.name,Tm.sort,Tm.kids]
    refine hres.out _ _ ⟨none,0,rfl,?_,?_⟩
    ·refine RepP.mono (fun b h=>?_) (fun p hp=>qaq (by omega)) _ _ _ HT5.out;exact⟨by omega,by simpa[World.setCell]using h.2⟩
    ·iterate 4 refine Below.setCell ?_ (by exact Nat.le_refl _) _
     exact HB5.out
   ·have HPV:Hid (a.valid=0):=hdzz HPV.out;have HSZ:=hdzz (qap HPV.out);have hres:Hid (∀e w',OkT a w e w'→OkT (xorT [a]) w e w'):=hdzz hres.out;obtain⟨bb,off,rfl,hbb,hcl⟩:∃bb off,A4=some ⟨bb,off,none⟩∧(wr.heap.size≤bb∧bb<w4.heap.size)∧RepLP w4 (fun b=>wr.heap.size≤b∧b<w4.heap.size) [a] bb off:=by
     rcases HR4.out.2.2 with h|h
     ·cases h
     ·exact h
    rw[RepLP]at hcl;obtain⟨⟨Ar,cr,c0,c1,c2',c3,cR⟩,-⟩:=hcl;obtain⟨Wt,hWt,HTB,HTR,HTW,HTZ⟩:=HMK.out a Ar cr cR;simp only[qag]at hWt;have HWt:=hdzz hWt;have d0:=((qad (Nat.le_refl w4.heap.size) (.cells #[.int .i64 0,.string ⟨#[]⟩,.int .i64 0,.slice none 0 0] 24)).cell (p:=⟨bb,off,none⟩) hbb.2).trans c0;have d1:=((qad (Nat.le_refl w4.heap.size) (.cells #[.int .i64 0,.string ⟨#[]⟩,.int .i64 0,.slice none 0 0] 24)).cell (p:=⟨bb,off+1,none⟩) hbb.2).trans c1;have d2:=((qad (Nat.le_refl w4.heap.size) (.cells #[.int .i64 0,.string ⟨#[]⟩,.int .i64 0,.slice none 0 0] 24)).cell (p:=⟨bb,off+2,none⟩) hbb.2).trans c2'
    have d3:=((qad (Nat.le_refl w4.heap.size) (.cells #[.int .i64 0,.string ⟨#[]⟩,.int .i64 0,.slice none 0 0] 24)).cell (p:=⟨bb,off+3,none⟩) hbb.2).trans c3;clear hWt HMK cR c0 c1 c2' c3;simp only[List.length_cons,List.length_nil,Nat.zero_add];go_wp2_with fail
    rw[←HWt.out,←HBE.out];clear d0 d1 d2 d3;have VA:=qb4 a Ar cr Wt (by have:=HSZ.out.2.1;omega) (RepP.mono (fun b h=>h.2) (fun _ _=>rfl) _ _ _ HTR.out);rw[HPV.out]at VA;simp only[Tm.val]at VA;have VA:=hdzz VA;have hsW:w.heap.size<Wt.heap.size:=by have:=(sltz HTZ.out);omega
    have hsB:Bx<Wt.heap.size:=by have:=(sltz HTB.out);omega
    refine VA.out.mono ?_;clear VA;rintro e w5 ⟨rfl,hl5⟩;obtain⟨x0,x1,x2,x3,xf⟩:=qaa ((hl5.below.block Bx hsB).trans HTB.out);obtain⟨z0,z1,z2,z3,zf⟩:=qaa ((hl5.below.block _ hsW).trans HTZ.out)
    skip
    have HT5:=hdzz (RepP.mono (w':=w5) (P':=fun b=>w.heap.size<b∧b<w5.heap.size) (fun b h=>⟨h.1,by have:=hl5.size;omega⟩) (fun p h=>hl5.below.cell h.2) _ _ _ HTR.out);have HB5:=hdzz (HTW.out.trans (hl5.below.mono (by omega)));clear hl5;go_wp2_with fail
    refine bodyPost_ret (v:=.tuple #[Tm.val a Ar cr,.int .i64 0]) ?_ rfl ?_
    ·simp[results,Tryz.results105,go_sem,z0,z1,z2,z3,Tm.val]
    refine hres.out _ _ ⟨Ar,cr,rfl,?_,?_⟩
    ·refine RepP.mono (fun b h=>?_) (fun p hp=>qaq (by omega)) _ _ _ HT5.out;exact⟨by omega,by simpa[World.setCell]using h.2⟩
    ·iterate 4 refine Below.setCell ?_ (by exact Nat.le_refl _) _
     exact HB5.out
   ·have HPV:Hid ((Tm.mk 3 nXor 0 (a::a2::r)).valid=0):=hdzz HPV.out;have HSZ:=hdzz (qap HPV.out);have hres:Hid (∀e w',OkT (.mk 3 nXor 0 (a::a2::r)) w e w'→OkT (xorT (a::a2::r)) w e w'):=hdzz hres.out;obtain⟨Wt,hWt,HTB,HTR,HTW,HTZ⟩:=HMK.out (.mk 3 nXor 0 (a::a2::r)) A4 c4 (by rw[RepP_mk];exact⟨by decide,HR4.out.1,HR4.out.2.1,HR4.out.2.2⟩);obtain⟨n2,hn2⟩:∃n,n=(a::a2::r).length:=⟨_,rfl⟩;have hn2I:¬((n2:Int)=0):=by rw[hn2];simp;omega
    have hn2J:¬((n2:Int)=1):=by rw[hn2];simp;omega
    have hn0:((n2:Int)==0)=false:=by rw[beq_eq_false_iff_ne];exact hn2I
    have hn1:((n2:Int)==1)=false:=by rw[beq_eq_false_iff_ne];exact hn2J
    simp only[qag,Tm.kind,Tm.name,Tm.sort,Tm.kids,nXor]at hWt;rw[←hn2]at hWt ⊢;have HWt:=hdzz hWt;have HN2:=hdzz hn2;clear hWt HMK hn2;go_wp2_with fail
    rw[←HWt.out,←HBE.out,HN2.out];have VA:=qb4 (Tm.mk 3 nXor 0 (a::a2::r)) A4 c4 Wt (by have:=HSZ.out.2.1;omega) (RepP.mono (fun b h=>h.2) (fun _ _=>rfl) _ _ _ HTR.out);rw[HPV.out]at VA;simp only[Tm.val]at VA;have VA:=hdzz VA;have hsW:w.heap.size<Wt.heap.size:=by have:=(sltz HTZ.out);omega
    have hsB:Bx<Wt.heap.size:=by have:=(sltz HTB.out);omega
    refine VA.out.mono ?_;clear VA;rintro e w5 ⟨rfl,hl5⟩;obtain⟨x0,x1,x2,x3,xf⟩:=qaa ((hl5.below.block Bx hsB).trans HTB.out);obtain⟨z0,z1,z2,z3,zf⟩:=qaa ((hl5.below.block _ hsW).trans HTZ.out);simp only[Tm.kind,Tm.name,Tm.sort,Tm.kids]at x0 x1 x2 x3;have HT5:=hdzz (RepP.mono (w':=w5) (P':=fun b=>w.heap.size<b∧b<w5.heap.size) (fun b h=>⟨h.1,by have:=hl5.size;omega⟩) (fun p h=>hl5.below.cell h.2) _ _ _ HTR.out);have HB5:=hdzz (HTW.out.trans (hl5.below.mono (by omega)));clear hl5;go_wp2_with fail
    refine bodyPost_ret (v:=.tuple #[Tm.val (Tm.mk 3 nXor 0 (a::a2::r)) A4 c4,.int .i64 0]) ?_ rfl ?_
    ·simp[results,Tryz.results105,go_sem,z0,z1,z2,z3,Tm.val,Tm.kind,Tm.name,Tm.sort,Tm.kids]
    refine hres.out _ _ ⟨A4,c4,rfl,?_,?_⟩
    ·refine RepP.mono (fun b h=>?_) (fun p hp=>qaq (by omega)) _ _ _ HT5.out;exact⟨by omega,by simpa[World.setCell]using h.2⟩
    ·iterate 4 refine Below.setCell ?_ (by exact Nat.le_refl _) _
     exact HB5.out
end Go.Proofs.YtjhjoiplpmjepaaGreat
namespace Go.Proofs.YtjhjoiplpmjepaaGreat
open Go.RowKit
open Go.RowKit
def digI (c:Int):Bool:=decide (48≤c∧c≤57)
theorem letter_0 (c:Int) (w:World) (h:c≤64):Calls Tryz.prog 140 #[.int .u8 c] w fun e w'=>e=.returned (.bool (qbi c))∧w'=w:=by
 have hp:(qbi c)=false:=by unfold qbi;simp;omega
 rw[hp];have a0:decide (97≤c)=false:=decide_eq_false (by omega);have a1:decide (c≤122)=true:=decide_eq_true (by omega);have a2:decide (65≤c)=false:=decide_eq_false (by omega);have a3:decide (c≤90)=true:=decide_eq_true (by omega);clear hp h;go_enter Tryz.func140,Tryz.ntmps140
 go_wp2_with fail
 go_ret
 exact⟨rfl,rfl⟩
theorem letter_65 (c:Int) (w:World) (h:65≤c∧c≤90):Calls Tryz.prog 140 #[.int .u8 c] w fun e w'=>e=.returned (.bool (qbi c))∧w'=w:=by
 have hp:(qbi c)=true:=by unfold qbi;simp;omega
 rw[hp];have a0:decide (97≤c)=false:=decide_eq_false (by omega);have a1:decide (c≤122)=true:=decide_eq_true (by omega);have a2:decide (65≤c)=true:=decide_eq_true (by omega);have a3:decide (c≤90)=true:=decide_eq_true (by omega);clear hp h;go_enter Tryz.func140,Tryz.ntmps140
 go_wp2_with fail
 go_ret
 exact⟨rfl,rfl⟩
theorem letter_91 (c:Int) (w:World) (h:91≤c∧c≤96):Calls Tryz.prog 140 #[.int .u8 c] w fun e w'=>e=.returned (.bool (qbi c))∧w'=w:=by
 have hp:(qbi c)=false:=by unfold qbi;simp;omega
 rw[hp];have a0:decide (97≤c)=false:=decide_eq_false (by omega);have a1:decide (c≤122)=true:=decide_eq_true (by omega);have a2:decide (65≤c)=true:=decide_eq_true (by omega);have a3:decide (c≤90)=false:=decide_eq_false (by omega);clear hp h;go_enter Tryz.func140,Tryz.ntmps140
 go_wp2_with fail
 go_ret
 exact⟨rfl,rfl⟩
theorem letter_97 (c:Int) (w:World) (h:97≤c∧c≤122):Calls Tryz.prog 140 #[.int .u8 c] w fun e w'=>e=.returned (.bool (qbi c))∧w'=w:=by
 have hp:(qbi c)=true:=by unfold qbi;simp;omega
 rw[hp];have a0:decide (97≤c)=true:=decide_eq_true (by omega);have a1:decide (c≤122)=true:=decide_eq_true (by omega);have a2:decide (65≤c)=true:=decide_eq_true (by omega);have a3:decide (c≤90)=false:=decide_eq_false (by omega);clear hp h;go_enter Tryz.func140,Tryz.ntmps140
 go_wp2_with fail
 go_ret
 exact⟨rfl,rfl⟩
theorem qng (c:Int) (w:World) (h:123≤c):Calls Tryz.prog 140 #[.int .u8 c] w fun e w'=>e=.returned (.bool (qbi c))∧w'=w:=by
 have hp:(qbi c)=false:=by unfold qbi;simp;omega
 rw[hp];have a0:decide (97≤c)=true:=decide_eq_true (by omega);have a1:decide (c≤122)=false:=decide_eq_false (by omega);have a2:decide (65≤c)=true:=decide_eq_true (by omega);have a3:decide (c≤90)=false:=decide_eq_false (by omega);clear hp h;go_enter Tryz.func140,Tryz.ntmps140
 go_wp2_with fail
 go_ret
 exact⟨rfl,rfl⟩
theorem qiz (c:Int) (w:World):Calls Tryz.prog 140 #[.int .u8 c] w fun e w'=>e=.returned (.bool (qbi c))∧w'=w:=by
 by_cases h0:c≤64
 ·exact letter_0 c w (by omega)
 by_cases h65:c≤90
 ·exact letter_65 c w (by omega)
 by_cases h91:c≤96
 ·exact letter_91 c w (by omega)
 by_cases h97:c≤122
 ·exact letter_97 c w (by omega)
 exact qng c w (by omega)
theorem digit_0 (c:Int) (w:World) (h:c≤47):Calls Tryz.prog 141 #[.int .u8 c] w fun e w'=>e=.returned (.bool (digI c))∧w'=w:=by
 have hp:(digI c)=false:=by unfold digI;simp;omega
 rw[hp];have a0:decide (48≤c)=false:=decide_eq_false (by omega);have a1:decide (c≤57)=true:=decide_eq_true (by omega);clear hp h;go_enter Tryz.func141,Tryz.ntmps141
 go_wp2_with fail
 go_ret
 exact⟨rfl,rfl⟩
theorem digit_48 (c:Int) (w:World) (h:48≤c∧c≤57):Calls Tryz.prog 141 #[.int .u8 c] w fun e w'=>e=.returned (.bool (digI c))∧w'=w:=by
 have hp:(digI c)=true:=by unfold digI;simp;omega
 rw[hp];have a0:decide (48≤c)=true:=decide_eq_true (by omega);have a1:decide (c≤57)=true:=decide_eq_true (by omega);clear hp h;go_enter Tryz.func141,Tryz.ntmps141
 go_wp2_with fail
 go_ret
 exact⟨rfl,rfl⟩
theorem digit_58 (c:Int) (w:World) (h:58≤c):Calls Tryz.prog 141 #[.int .u8 c] w fun e w'=>e=.returned (.bool (digI c))∧w'=w:=by
 have hp:(digI c)=false:=by unfold digI;simp;omega
 rw[hp];have a0:decide (48≤c)=true:=decide_eq_true (by omega);have a1:decide (c≤57)=false:=decide_eq_false (by omega);clear hp h;go_enter Tryz.func141,Tryz.ntmps141
 go_wp2_with fail
 go_ret
 exact⟨rfl,rfl⟩
theorem qkv (c:Int) (w:World):Calls Tryz.prog 141 #[.int .u8 c] w fun e w'=>e=.returned (.bool (digI c))∧w'=w:=by
 by_cases h0:c≤47
 ·exact digit_0 c w (by omega)
 by_cases h48:c≤57
 ·exact digit_48 c w (by omega)
 exact digit_58 c w (by omega)
theorem qiw (c:Int):(qbb c=true∧qbi c=true)∨(qbb c=true∧qbi c=false∧digI c=true)∨(qbb c=true∧qbi c=false∧digI c=false∧(c==95)=true∧(c != 95)=false)∨
  (qbb c=true∧qbi c=false∧digI c=false∧(c==95)=false∧(c==35)=true∧(c != 95)=true∧(c != 35)=false)∨(qbb c=false∧qbi c=false∧digI c=false∧(c==95)=false∧(c==35)=false∧(c != 95)=true∧(c != 35)=true):=by
 have e:qbb c=(qbi c || digI c || (c==95) || (c==35)):=by
  unfold qbb qbi digI;simp only[Bool.or_assoc]
 rw[e];unfold bne;cases qbi c<;>cases digI c<;>cases (c==95)<;>cases (c==35)<;>simp
theorem qco (s:ByteArray) (w:World) (hs:s.size≤maxLen):Calls Tryz.prog 112 #[.string s] w fun e w'=>e=.returned (.bool (qbf s.data.toList))∧w'=w:=by
 obtain⟨l,hl⟩:∃l,l=s.data.toList:=⟨_,rfl⟩;have hsz:s.size=l.length:=by rw[hl];exact qaj s
 have hat:∀k,(h:k<l.length)→∃h':k<s.size,s[k]=l[k]:=fun k h=>⟨by omega,by subst hl;rfl⟩;rw[←hl];clear hl;have LE:=hdzz qiz;have DI:=hdzz qkv;have HAT:=hdzz hat;clear hat;unfold maxLen at hs;obtain⟨r,hr⟩:∃r,r=qbf l:=⟨_,rfl⟩;rw[←hr];have HRR:=hdzz hr;clear hr;by_cases h0:l=[]
 ·have e:r=false:=by rw[HRR.out];exact qbe (.inr (.inl h0))
  subst e;have hd:decide ((l.length:Int)=0)=true:=decide_eq_true (by rw[h0];rfl);have hd':((l.length:Int)==0)=true:=by rw[h0];rfl
  clear h0 HAT HRR;go_enter Tryz.func112,Tryz.ntmps112
  go_wp2_with fail
  go_ret
  exact⟨rfl,rfl⟩
 ·have hpos:0<l.length:=List.length_pos_iff.2 h0;have hz:decide ((l.length:Int)=0)=false:=decide_eq_false (by omega);have hz':((l.length:Int)==0)=false:=by rw[beq_eq_false_iff_ne];omega
  obtain⟨hps,hb0⟩:=HAT.out 0 hpos;by_cases h24:24<l.length
  ·have e:r=false:=by rw[HRR.out];exact qbe (.inl h24)
   subst e;clear HAT HRR;have hd:decide (24<(l.length:Int))=true:=decide_eq_true (by omega);go_enter Tryz.func112,Tryz.ntmps112
   go_wp2_with fail
   go_ret
   exact⟨rfl,rfl⟩
  ·have hd:decide (24<(l.length:Int))=false:=decide_eq_false (by omega);obtain⟨b0,hb⟩:∃b0,b0=l[0]:=⟨_,rfl⟩;rw[←hb]at hb0;have HB:=hdzz hb;clear hb
   cases hp:qbi (b0.toNat:Int)with
   | false=>
    have e:r=false:=by rw[HRR.out];exact qbe (.inr (.inr (.inl ⟨hpos,by rw[←HB.out];exact hp⟩)))
    subst e;clear HAT HRR;go_enter Tryz.func112,Tryz.ntmps112
    go_wp2_with (first|(go_at_call 140;refine(LE.out _ _).mono ?_;rintro e w1 ⟨rfl,rfl⟩)|(go_at_call 141;refine(DI.out _ _).mono ?_;rintro e w1 ⟨rfl,rfl⟩))
    go_ret
    exact⟨rfl,rfl⟩
   | true=>
    have HST:=hdzz hp;go_enter Tryz.func112,Tryz.ntmps112
    go_wp2_with (first|(go_at_call 140;refine(LE.out _ _).mono ?_;rintro e w1 ⟨rfl,rfl⟩)|(go_at_call 141;refine(DI.out _ _).mono ?_;rintro e w1 ⟨rfl,rfl⟩))
    go_loopw [3] (fun i wr=>∃k:Nat,k≤l.length∧i=.int .i64 k∧Hid (∀j,(h:j<l.length)→j<k→qa1 l[j]=true)∧wr=w1) (fun i _=>l.length - (intOf i).toNat)
    case atStart=>exact⟨0,Nat.zero_le _,rfl,fun j _ h=>absurd h (Nat.not_lt_zero j),rfl⟩
    case round=>
     obtain⟨k,hk,rfl,HK,rfl⟩:=hrel;clear hp;by_cases hlt:k<l.length
     ·obtain⟨hks,hbk⟩:=HAT.out k hlt;obtain⟨bk,hbk'⟩:∃bk,bk=l[k]:=⟨_,rfl⟩;rw[←hbk']at hbk;have HBK:=hdzz hbk';clear hbk';have yes:Hid (qbb (bk.toNat:Int)=true→∀j,(h:j<l.length)→j<k+1→qa1 l[j]=true):=fun hpk j hj hjk=>by
       by_cases e:j=k
       ·subst e;rw[←HBK.out];exact hpk
       ·exact HK.out j hj (by omega)
      rcases qiw (bk.toNat:Int)with⟨p,c1⟩|⟨p,c1,c2⟩|⟨p,c1,c2,c3,n3⟩|⟨p,c1,c2,c3,c4,n3,n4⟩|⟨p,c1,c2,c3,c4,n3,n4⟩
      iterate 4
       ·have HP:=hdzz p;clear p;go_wp2_with (first|(go_at_call 140;refine(LE.out _ _).mono ?_;rintro e w1 ⟨rfl,rfl⟩)|(go_at_call 141;refine(DI.out _ _).mono ?_;rintro e w1 ⟨rfl,rfl⟩))
        go_roundw
        case rel=>exact⟨k+1,by omega,by go_num,yes.out HP.out,trivial⟩
        case measure=>simp[intOf];omega
      ·have hr0:=hdzz (HRR.out.trans (qbe (l:=l) (.inr (.inr (.inr ⟨l[k],List.getElem_mem _,by rw[←HBK.out];exact p⟩)))));clear p;go_wp2_with (first|(go_at_call 140;refine(LE.out _ _).mono ?_;rintro e w1 ⟨rfl,rfl⟩)|(go_at_call 141;refine(DI.out _ _).mono ?_;rintro e w1 ⟨rfl,rfl⟩))
       go_ret
       exact⟨by rw[hr0.out];rfl,rfl⟩
     ·obtain rfl:k=l.length:=by omega
      have hr1:=hdzz (HRR.out.trans (qix (l:=l) (by omega) hpos (by rw[←HB.out];exact HST.out) (fun j hj=>HK.out j hj hj)));go_wp2_with fail
      go_ret
      exact⟨by rw[hr1.out];rfl,rfl⟩
theorem qdp (s:ByteArray) (w:World) (hs:s.size≤1000000000):Calls Tryz.prog 111 #[.string s] w fun e w'=>∃x:ByteArray,e=.returned (.string x)∧x.data.toList=s.data.toList.takeWhile qa1∧x.size=wlen s.data.toList∧w'=w:=by
 obtain⟨l,hl⟩:∃l,l=s.data.toList:=⟨_,rfl⟩;have hsz:s.size=l.length:=by rw[hl];exact qaj s
 have hat:∀k,(h:k<l.length)→∃h':k<s.size,s[k]=l[k]:=fun k h=>⟨by omega,by subst hl;rfl⟩;have hex:∀k,k≤s.size→(s.extract 0 k).data.toList=l.take k:=fun k hk=>by rw[qev,hl];simp
 have hxs:∀k,k≤s.size→(s.extract 0 k).size=k:=fun k hk=>by simp;omega
 rw[←hl];clear hl;have LE:=hdzz qiz;have DI:=hdzz qkv;have HAT:=hdzz hat;clear hat;have HEX:=hdzz hex;clear hex;have HXS:=hdzz hxs;clear hxs;go_enter Tryz.func111,Tryz.ntmps111
 go_wp2_with fail
 go_loopw [3] (fun i wr=>∃k:Nat,k≤l.length∧i=.int .i64 k∧Hid (∀j,(h:j<l.length)→j<k→qa1 l[j]=true)∧wr=w) (fun i _=>l.length - (intOf i).toNat)
 case atStart=>exact⟨0,Nat.zero_le _,rfl,fun j _ h=>absurd h (Nat.not_lt_zero j),rfl⟩
 case round=>
  obtain⟨k,hk,rfl,HK,rfl⟩:=hrel;have stop:Hid ((∀h:k<l.length,qa1 l[k]=false)→(s.extract 0 k).data.toList=l.takeWhile qa1∧(s.extract 0 k).size=wlen l):=fun h=>by
   obtain⟨e1,-⟩:=qgx l k hk (fun j hj hjk=>HK.out j hj hjk) h;refine⟨by rw[HEX.out k (by omega),e1],?_⟩;unfold wlen;rw[HXS.out k (by omega),e1,List.length_take];omega
  have hks':k≤s.size:=by omega
  by_cases hlt:k<l.length
  ·obtain⟨hks,hbk⟩:=HAT.out k hlt;obtain⟨bk,hbk'⟩:∃bk,bk=l[k]:=⟨_,rfl⟩;rw[←hbk']at hbk;have HBK:=hdzz hbk';clear hbk';have yes:Hid (qbb (bk.toNat:Int)=true→∀j,(h:j<l.length)→j<k+1→qa1 l[j]=true):=fun hpk j hj hjk=>by
    by_cases e:j=k
    ·subst e;rw[←HBK.out];exact hpk
    ·exact HK.out j hj (by omega)
   rcases qiw (bk.toNat:Int)with⟨p,c1⟩|⟨p,c1,c2⟩|⟨p,c1,c2,c3,n3⟩|⟨p,c1,c2,c3,c4,n3,n4⟩|⟨p,c1,c2,c3,c4,n3,n4⟩
   iterate 4
    ·have HP:=hdzz p;clear p;go_wp2_with (first|(go_at_call 140;refine(LE.out _ _).mono ?_;rintro e w1 ⟨rfl,rfl⟩)|(go_at_call 141;refine(DI.out _ _).mono ?_;rintro e w1 ⟨rfl,rfl⟩))
     go_roundw
     case rel=>exact⟨k+1,by omega,by go_num,yes.out HP.out,trivial⟩
     case measure=>simp[intOf];omega
   ·have hend:=hdzz (stop.out (fun h=>by rw[←HBK.out];exact p));clear p stop yes;go_wp2_with (first|(go_at_call 140;refine(LE.out _ _).mono ?_;rintro e w1 ⟨rfl,rfl⟩)|(go_at_call 141;refine(DI.out _ _).mono ?_;rintro e w1 ⟨rfl,rfl⟩))
    go_ret
    exact⟨_,rfl,hend.out.1,hend.out.2,rfl⟩
  ·have hend:=hdzz (stop.out (fun h=>absurd h hlt));obtain rfl:k=l.length:=by omega
   clear stop;go_wp2_with fail
   go_ret
   exact⟨_,rfl,hend.out.1,hend.out.2,rfl⟩
def qg6 (k s:Int) (nm:ByteArray) (m:Nat):Int:=
 if (k≠1∧k≠2∧k≠3)∨s<0∨5<s∨(k≠1∧k≠2∧s≠0)∨((k=1∨k=2)∧m≠0)then 1 else if qbf nm.data.toList=false then 2 else if 8<m then 3 else 0
theorem Tm.check_node (t:Tm):t.check=if qg6 t.kind t.sort t.name t.kids.length≠0 then qg6 t.kind t.sort t.name t.kids.length else Tm.checks t.kids:=by
 obtain⟨k,n,s,l⟩:=t;show(Tm.mk k n s l).check=if qg6 k s n l.length≠0 then qg6 k s n l.length else Tm.checks l
 rw[Tm.check];obtain⟨N,hN⟩:∃N,N=qg6 k s n l.length:=⟨_,rfl⟩;rw[←hN];unfold qg6 at hN;by_cases h1:k=1∨k=2
 ·rw[if_pos h1];by_cases h2:s<0∨5<s∨l≠[]
  ·have e:N=1:=hN.trans (if_pos (by
    rcases h2 with h|h|h
    ·exact .inr (.inl h)
    ·exact .inr (.inr (.inl h))
    ·exact .inr (.inr (.inr (.inr ⟨h1,fun e=>h (List.length_eq_zero_iff.1 e)⟩)))))
   subst e;rw[if_pos h2];rfl
  ·have hl:l=[]:=Classical.byContradiction fun h=>h2 (.inr (.inr h));subst hl;rw[if_neg h2];have hN:=hN.trans (if_neg (by simp only[List.length_nil];intro h;exact h2 (by omega)));by_cases h3:qbf n.data.toList=false
   ·have e:N=2:=hN.trans (if_pos h3);subst e;rw[if_pos h3];rfl
   ·have e:N=0:=hN.trans ((if_neg h3).trans (if_neg (by simp)));subst e;rw[if_neg h3];rfl
 ·rw[if_neg h1];by_cases h3:k=3
  ·rw[if_pos h3];by_cases h4:s≠0
   ·have e:N=1:=hN.trans (if_pos (by omega));subst e;rw[if_pos h4];rfl
   ·rw[if_neg h4];have hN:=hN.trans (if_neg (by omega));by_cases h5:qbf n.data.toList=false
    ·have e:N=2:=hN.trans (if_pos h5);subst e;rw[if_pos h5];rfl
    ·rw[if_neg h5];have hN:=hN.trans (if_neg h5);by_cases h6:8<l.length
     ·have e:N=3:=hN.trans (if_pos h6);subst e;rw[if_pos h6];rfl
     ·have e:N=0:=hN.trans (if_neg h6);subst e;rw[if_neg h6];rfl
  ·have e:N=1:=hN.trans (if_pos (by omega));subst e;rw[if_neg h3];rfl
theorem rnode_any (k s:Int) (nm:ByteArray) (m:Nat) (A:Option Addr) (cap:Nat) (w:World) (hn:nm.size≤maxLen) (hm:m≤maxLen) :
  Calls Tryz.prog 121 #[.agg #[.int .i64 k,.string nm,.int .i64 s,.slice A m cap]] w fun e w'=>e=.returned (.int .i64 (qg6 k s nm m))∧Lay w.heap.size w w':=by
 have NA:=hdzz fun w=>qco nm w hn;unfold maxLen at hn hm;have hlay:Hid (Lay w.heap.size w (w.alloc (.cells #[.int .i64 k,.string nm,.int .i64 s,.slice A m cap] 24))):=(Lay.refl _ _).alloc (Nat.le_refl _) _;obtain⟨r,hr⟩:∃r,r=qg6 k s nm m:=⟨_,rfl⟩;obtain⟨nb,hnb⟩:∃nb,nb=qbf nm.data.toList:=⟨_,rfl⟩;rw[←hr];rw[←hnb]at NA;unfold qg6 at hr;rw[←hnb]at hr;clear hnb;have HRR:=hdzz hr;clear hr;by_cases k1:k=1
 ·subst k1;by_cases s0:s<0
  ·skip
   have hv:r=1:=HRR.out.trans (if_pos (by omega));have q0:decide (s<0)=true:=decide_eq_true (by omega);clear HRR;subst hv;go_enter Tryz.func121,Tryz.ntmps121
   go_wp2_with (go_at_call 112;refine(NA.out _).mono ?_;rintro e w1 ⟨rfl,rfl⟩)
   go_ret
   exact⟨rfl,hlay.out⟩
  by_cases s5:5<s
  ·skip
   have hv:r=1:=HRR.out.trans (if_pos (by omega));have q0:decide (s<0)=false:=decide_eq_false (by omega);have q1:decide (5<s)=true:=decide_eq_true (by omega);clear HRR;subst hv;go_enter Tryz.func121,Tryz.ntmps121
   go_wp2_with (go_at_call 112;refine(NA.out _).mono ?_;rintro e w1 ⟨rfl,rfl⟩)
   go_ret
   exact⟨rfl,hlay.out⟩
  by_cases m0:m≠0
  ·skip
   have hv:r=1:=HRR.out.trans (if_pos (by omega));have q0:decide (s<0)=false:=decide_eq_false (by omega);have q1:decide (5<s)=false:=decide_eq_false (by omega);have q2:decide (0<(m:Int))=true:=decide_eq_true (by omega);clear HRR;subst hv;go_enter Tryz.func121,Tryz.ntmps121
   go_wp2_with (go_at_call 112;refine(NA.out _).mono ?_;rintro e w1 ⟨rfl,rfl⟩)
   go_ret
   exact⟨rfl,hlay.out⟩
  cases nb with
  | false=>
   have hv:r=2:=HRR.out.trans ((if_neg (by omega)).trans (if_pos rfl));have q0:decide (s<0)=false:=decide_eq_false (by omega);have q1:decide (5<s)=false:=decide_eq_false (by omega);have q2:decide (0<(m:Int))=false:=decide_eq_false (by omega);clear HRR;subst hv;go_enter Tryz.func121,Tryz.ntmps121
   go_wp2_with (go_at_call 112;refine(NA.out _).mono ?_;rintro e w1 ⟨rfl,rfl⟩)
   go_ret
   exact⟨rfl,hlay.out⟩
  | true=>
   have hv:r=0:=HRR.out.trans ((if_neg (by omega)).trans ((if_neg (by decide)).trans (if_neg (by omega))));have q0:decide (s<0)=false:=decide_eq_false (by omega);have q1:decide (5<s)=false:=decide_eq_false (by omega);have q2:decide (0<(m:Int))=false:=decide_eq_false (by omega);have q3:decide (8<(m:Int))=false:=decide_eq_false (by omega);clear HRR;subst hv;go_enter Tryz.func121,Tryz.ntmps121
   go_wp2_with (go_at_call 112;refine(NA.out _).mono ?_;rintro e w1 ⟨rfl,rfl⟩)
   go_ret
   exact⟨rfl,hlay.out⟩
 by_cases k2:k=2
 ·subst k2;by_cases s0:s<0
  ·skip
   have hv:r=1:=HRR.out.trans (if_pos (by omega));have q0:decide (s<0)=true:=decide_eq_true (by omega);clear HRR;subst hv;go_enter Tryz.func121,Tryz.ntmps121
   go_wp2_with (go_at_call 112;refine(NA.out _).mono ?_;rintro e w1 ⟨rfl,rfl⟩)
   go_ret
   exact⟨rfl,hlay.out⟩
  by_cases s5:5<s
  ·skip
   have hv:r=1:=HRR.out.trans (if_pos (by omega));have q0:decide (s<0)=false:=decide_eq_false (by omega);have q1:decide (5<s)=true:=decide_eq_true (by omega);clear HRR;subst hv;go_enter Tryz.func121,Tryz.ntmps121
   go_wp2_with (go_at_call 112;refine(NA.out _).mono ?_;rintro e w1 ⟨rfl,rfl⟩)
   go_ret
   exact⟨rfl,hlay.out⟩
  by_cases m0:m≠0
  ·skip
   have hv:r=1:=HRR.out.trans (if_pos (by omega));have q0:decide (s<0)=false:=decide_eq_false (by omega);have q1:decide (5<s)=false:=decide_eq_false (by omega);have q2:decide (0<(m:Int))=true:=decide_eq_true (by omega);clear HRR;subst hv;go_enter Tryz.func121,Tryz.ntmps121
   go_wp2_with (go_at_call 112;refine(NA.out _).mono ?_;rintro e w1 ⟨rfl,rfl⟩)
   go_ret
   exact⟨rfl,hlay.out⟩
  cases nb with
  | false=>
   have hv:r=2:=HRR.out.trans ((if_neg (by omega)).trans (if_pos rfl));have q0:decide (s<0)=false:=decide_eq_false (by omega);have q1:decide (5<s)=false:=decide_eq_false (by omega);have q2:decide (0<(m:Int))=false:=decide_eq_false (by omega);clear HRR;subst hv;go_enter Tryz.func121,Tryz.ntmps121
   go_wp2_with (go_at_call 112;refine(NA.out _).mono ?_;rintro e w1 ⟨rfl,rfl⟩)
   go_ret
   exact⟨rfl,hlay.out⟩
  | true=>
   have hv:r=0:=HRR.out.trans ((if_neg (by omega)).trans ((if_neg (by decide)).trans (if_neg (by omega))));have q0:decide (s<0)=false:=decide_eq_false (by omega);have q1:decide (5<s)=false:=decide_eq_false (by omega);have q2:decide (0<(m:Int))=false:=decide_eq_false (by omega);have q3:decide (8<(m:Int))=false:=decide_eq_false (by omega);clear HRR;subst hv;go_enter Tryz.func121,Tryz.ntmps121
   go_wp2_with (go_at_call 112;refine(NA.out _).mono ?_;rintro e w1 ⟨rfl,rfl⟩)
   go_ret
   exact⟨rfl,hlay.out⟩
 by_cases k3:k=3
 ·subst k3;by_cases s0:s<0
  ·skip
   have hv:r=1:=HRR.out.trans (if_pos (by omega));have q0:decide (s<0)=true:=decide_eq_true (by omega);clear HRR;subst hv;go_enter Tryz.func121,Tryz.ntmps121
   go_wp2_with (go_at_call 112;refine(NA.out _).mono ?_;rintro e w1 ⟨rfl,rfl⟩)
   go_ret
   exact⟨rfl,hlay.out⟩
  by_cases s5:5<s
  ·skip
   have hv:r=1:=HRR.out.trans (if_pos (by omega));have q0:decide (s<0)=false:=decide_eq_false (by omega);have q1:decide (5<s)=true:=decide_eq_true (by omega);clear HRR;subst hv;go_enter Tryz.func121,Tryz.ntmps121
   go_wp2_with (go_at_call 112;refine(NA.out _).mono ?_;rintro e w1 ⟨rfl,rfl⟩)
   go_ret
   exact⟨rfl,hlay.out⟩
  by_cases s1:s≠0
  ·skip
   have hv:r=1:=HRR.out.trans (if_pos (by omega));have q0:decide (s<0)=false:=decide_eq_false (by omega);have q1:decide (5<s)=false:=decide_eq_false (by omega);have q2:(s==0)=false:=by rw[beq_eq_false_iff_ne];omega
   have q3:(s != 0)=true:=by simp;omega
   clear HRR;subst hv;go_enter Tryz.func121,Tryz.ntmps121
   go_wp2_with (go_at_call 112;refine(NA.out _).mono ?_;rintro e w1 ⟨rfl,rfl⟩)
   go_ret
   exact⟨rfl,hlay.out⟩
  obtain rfl:s=0:=by omega
  cases nb with
  | false=>
   have hv:r=2:=HRR.out.trans ((if_neg (by omega)).trans (if_pos rfl));clear HRR;subst hv;go_enter Tryz.func121,Tryz.ntmps121
   go_wp2_with (go_at_call 112;refine(NA.out _).mono ?_;rintro e w1 ⟨rfl,rfl⟩)
   go_ret
   exact⟨rfl,hlay.out⟩
  | true=>
   by_cases m8:8<m
   ·skip
    have hv:r=3:=HRR.out.trans ((if_neg (by omega)).trans ((if_neg (by decide)).trans (if_pos m8)));have q0:decide (8<(m:Int))=true:=decide_eq_true (by omega);clear HRR;subst hv;go_enter Tryz.func121,Tryz.ntmps121
    go_wp2_with (go_at_call 112;refine(NA.out _).mono ?_;rintro e w1 ⟨rfl,rfl⟩)
    go_ret
    exact⟨rfl,hlay.out⟩
   ·skip
    have hv:r=0:=HRR.out.trans ((if_neg (by omega)).trans ((if_neg (by decide)).trans (if_neg m8)));have q0:decide (8<(m:Int))=false:=decide_eq_false (by omega);clear HRR;subst hv;go_enter Tryz.func121,Tryz.ntmps121
    go_wp2_with (go_at_call 112;refine(NA.out _).mono ?_;rintro e w1 ⟨rfl,rfl⟩)
    go_ret
    exact⟨rfl,hlay.out⟩
 have hv:r=1:=HRR.out.trans (if_pos (by omega));have q0:(k==1)=false:=by rw[beq_eq_false_iff_ne];omega
 have q1:(k != 1)=true:=by simp;omega
 have q2:(k==2)=false:=by rw[beq_eq_false_iff_ne];omega
 have q3:(k != 2)=true:=by simp;omega
 have q4:(k==3)=false:=by rw[beq_eq_false_iff_ne];omega
 have q5:(k != 3)=true:=by simp;omega
 clear HRR;subst hv;go_enter Tryz.func121,Tryz.ntmps121
 go_wp2_with (go_at_call 112;refine(NA.out _).mono ?_;rintro e w1 ⟨rfl,rfl⟩)
 go_ret
 exact⟨rfl,hlay.out⟩
theorem qm1 (n:Nat):∀(t:Tm) (A:Option Addr) (cap:Nat) (w:World),t.size≤n→n≤1000000→RepT w w.heap.size t A cap→
  Calls Tryz.prog 78 #[t.val A cap] w fun e w'=>e=.returned (.int .i64 t.check)∧Lay w.heap.size w w':=by
 induction n with
 | zero=>intro t _ _ _ h;have:=t.size_pos;omega
 | succ n ih=>
  intro t A cap w hn hb hrep;obtain⟨tk,tn,ts,l⟩:=t;have hck:(Tm.mk tk tn ts l).check=if qg6 tk ts tn l.length≠0 then qg6 tk ts tn l.length else Tm.checks l:=Tm.check_node _
  rw[Tm.size]at hn;rw[qbh]at hrep;obtain⟨hr1,hr2,hr3,hr4⟩:=hrep;simp only[Tm.val,Tm.kind,Tm.name,Tm.sort,Tm.kids];obtain⟨ck,hckk⟩:∃c,c=(Tm.mk tk tn ts l).check:=⟨_,rfl⟩;rw[←hckk]at hck ⊢;clear hckk;obtain⟨V,hV⟩:∃V,V=w.alloc (.cells #[.int .i64 tk,.string tn,.int .i64 ts,.slice A l.length cap] 24):=⟨_,rfl⟩;have hND:=rnode_any tk ts tn l.length A cap V hr1 (Nat.le_trans hr2 hr3);obtain⟨nd,hnd⟩:∃c,c=qg6 tk ts tn l.length:=⟨_,rfl⟩;rw[←hnd]at hND hck;clear hnd;have HND:=hdzz hND;clear hND;have HCK:=hdzz hck;clear hck;unfold maxLen at hr1 hr3;have hls:=Tm.length_le_sizes l;have hlv:Lay w.heap.size w V:=by rw[hV];exact(Lay.refl _ _).alloc (Nat.le_refl _) _
  have hbx0:V.heap[w.heap.size]?=some (.cells #[.int .i64 tk,.string tn,.int .i64 ts,.slice A l.length cap] 24 (0,0)):=by rw[hV];exact heap_alloc_new _ _
  have HV:=hdzz hV;clear hV;have HLV:=hdzz hlv;clear hlv;have HBX:=hdzz hbx0;clear hbx0;go_enter Tryz.func78,Tryz.ntmps78
  go_wp2_with fail
  rw[←HV.out];clear HV;refine HND.out.mono ?_;clear HND;rintro e w1 ⟨rfl,hl1⟩;have hlt1:w.heap.size<V.heap.size:=(sltz HBX.out);have hL1:Lay w.heap.size w w1:=HLV.out.trans (hl1.mono (by omega));have hbx:w1.heap[w.heap.size]?=some (.cells #[.int .i64 tk,.string tn,.int .i64 ts,.slice A l.length cap] 24 (0,0)):=(hl1.below.block _ hlt1).trans HBX.out;have hlt2:w.heap.size<w1.heap.size:=(sltz hbx);have HB:=hdzz (qaa hbx);clear hbx hl1 hlt1 HBX HLV;have HL1:=hdzz hL1;clear hL1;by_cases h0:nd=0
  ·subst h0;have hv:=HCK.out.trans (if_neg (by simp));clear HCK;have HVL:=hdzz hv;clear hv;obtain⟨r0,r1,r2,r3,rf⟩:=HB.out;go_wp2_with fail
   clear r0 r1 r2 r3 rf;go_loopw [4] (fun i wr=>∃k:Nat,k≤l.length∧i=.int .i64 k∧Hid (ck=Tm.checks (l.drop k))∧Hid (Lay w1.heap.size w1 wr)) (fun i _=>l.length - (intOf i).toNat)
   case atStart=>exact⟨0,Nat.zero_le _,rfl,by rw[List.drop_zero];exact HVL,Lay.refl _ _⟩
   case round=>
    obtain⟨k,hk,rfl,HC,HLR⟩:=hrel;have i1:(0:Int)≤(k:Int):=Int.natCast_nonneg _;have hL:Hid (Lay w.heap.size w wr):=HL1.out.trans (HLR.out.mono (by omega));have hbx:wr.cell? ⟨w.heap.size,3,none⟩=some (.slice A l.length cap):=by rw[HLR.out.below.cell (by exact hlt2)];exact HB.out.2.2.2.1
    by_cases hlt:k<l.length
    ·have i2:(k:Int)<(l.length:Int):=by omega
     rcases hr4 with rfl|⟨b,off,rfl,hbB,hl⟩
     ·simp at hlt
     obtain⟨A',cap',h0,h1,h2,h3,h5⟩:=(hl.below hL.out.below hbB).get k hlt;have hsg:=Tm.sizes_get l k hlt;have hcs:=Tm.checks_drop l k hlt;rw[←HC.out]at hcs;have HC2:=hdzz hcs;clear hcs HC;have CON:=hdzz (ih l[k] A' cap' wr (by omega) (by omega) (h5.go (Below.refl _ _) (by have:=hL.out.size;omega)));simp only[Tm.val]at CON;clear h5 hl;obtain⟨cv,hcv⟩:∃c,c=l[k].check:=⟨_,rfl⟩;rw[←hcv]at CON HC2;clear hcv;go_wp2_with fail
     refine CON.out.mono ?_;clear CON h0 h1 h2 h3;rintro e w2 ⟨rfl,hl2⟩;have hL2:Hid (Lay w1.heap.size w1 w2):=HLR.out.trans (hl2.mono HLR.out.size);have hL3:Hid (Lay w.heap.size w w2):=hL.out.trans (hl2.mono hL.out.size);clear hl2 HLR hL;by_cases hz:cv=0
     ·subst hz;have HC3:=hdzz (HC2.out.trans (if_neg (by simp)));clear HC2;go_wp2_with fail
      go_roundw
      case rel=>exact⟨k+1,by omega,by go_num,HC3,hL2⟩
      case measure=>simp[intOf];omega
     ·have hc4:ck=cv:=HC2.out.trans (if_pos hz);subst hc4;have q:(ck==0)=false:=by rw[beq_eq_false_iff_ne];exact hz
      have q':(ck != 0)=true:=by simp[hz]
      clear HC2;go_wp2_with fail
      go_ret
      exact⟨rfl,hL3.out⟩
    ·obtain rfl:k=l.length:=by omega
     have hz:ck=0:=by rw[HC.out,List.drop_length];rfl
     subst hz;go_wp2_with fail
     go_ret
     exact⟨rfl,hL.out⟩
  ·have hc4:ck=nd:=HCK.out.trans (if_pos h0);subst hc4;have q:(ck==0)=false:=by rw[beq_eq_false_iff_ne];exact h0
   have q':(ck != 0)=true:=by simp[h0]
   clear HCK HB;go_wp2_with fail
   go_ret
   exact⟨rfl,HL1.out⟩
theorem qbr (t:Tm) (A:Option Addr) (cap:Nat) (w:World) (hn:t.size≤1000000) (hrep:RepT w w.heap.size t A cap) :
  Calls Tryz.prog 38 #[t.val A cap] w fun e w'=>e=.returned (.int .i64 t.valid)∧Lay w.heap.size w w':=by
 obtain⟨V,hV⟩:∃V,V=w.alloc (.cells #[.int .i64 t.kind,.string t.name,.int .i64 t.sort,.slice A t.kids.length cap] 24):=⟨_,rfl⟩;have hlv:Lay w.heap.size w V:=by rw[hV];exact(Lay.refl _ _).alloc (Nat.le_refl _) _
 have hbx0:V.heap[w.heap.size]?=some (.cells #[.int .i64 t.kind,.string t.name,.int .i64 t.sort,.slice A t.kids.length cap] 24 (0,0)):=by rw[hV];exact heap_alloc_new _ _
 have hsv:V.heap.size=w.heap.size+1:=by rw[hV];simp
 have NOD:Hid (∀Y,Lay w.heap.size w Y→Calls Tryz.prog 78 #[.agg #[.int .i64 t.kind,.string t.name,.int .i64 t.sort,.slice A t.kids.length cap]] Y fun e w'=>e=.returned (.int .i64 t.check)∧Lay Y.heap.size Y w'):=fun Y h=>
  qm1 1000000 t A cap Y hn (Nat.le_refl _) (hrep.go h.below h.size)
 have SIZ:Hid (∀Y,Lay w.heap.size w Y→Calls Tryz.prog 15 #[.agg #[.int .i64 t.kind,.string t.name,.int .i64 t.sort,.slice A t.kids.length cap]] Y fun e w'=>e=.returned (.int .i64 t.size)∧Lay Y.heap.size Y w'):=fun Y h=>
  qf0 1000000 t A cap Y hn (Nat.le_refl _) (hrep.go h.below h.size)
 have DEP:Hid (∀Y,Lay w.heap.size w Y→Calls Tryz.prog 8 #[.agg #[.int .i64 t.kind,.string t.name,.int .i64 t.sort,.slice A t.kids.length cap]] Y fun e w'=>e=.returned (.int .i64 t.depth)∧Lay Y.heap.size Y w'):=fun Y h=>
  qgk 1000000 t A cap Y hn (Nat.le_refl _) (hrep.go h.below h.size)
 clear hrep;simp only[Tm.val];obtain⟨v,hv⟩:∃v,v=t.valid:=⟨_,rfl⟩;rw[←hv];unfold Tm.valid at hv;obtain⟨c,hc⟩:∃c,c=t.check:=⟨_,rfl⟩;rw[←hc]at NOD hv;clear hc;have HVV:=hdzz hv;clear hv;have HV:=hdzz hV;clear hV;have HLV:=hdzz hlv;clear hlv;have HBX:=hdzz hbx0;clear hbx0;have CON:=hdzz (NOD.out V HLV.out);clear NOD;go_enter Tryz.func38,Tryz.ntmps38
 go_wp2_with fail
 rw[←HV.out];clear HV;refine CON.out.mono ?_;clear CON;rintro e w1 ⟨rfl,hl1⟩;have hL1:Lay w.heap.size w w1:=HLV.out.trans (hl1.mono (by omega));have hbx:w1.heap[w.heap.size]?=some (.cells #[.int .i64 t.kind,.string t.name,.int .i64 t.sort,.slice A t.kids.length cap] 24 (0,0)):=(hl1.below.block _ (by omega)).trans HBX.out;clear HLV HBX hl1;have HB1:=hdzz hbx;clear hbx;have HL1:=hdzz hL1;clear hL1;by_cases h0:c=0
 ·subst h0;have hv:=HVV.out.trans (if_neg (by simp));clear HVV;have HVV:=hdzz hv;clear hv;obtain⟨r0,r1,r2,r3,-⟩:=qaa HB1.out;have CON:=hdzz (SIZ.out w1 HL1.out);clear SIZ;have hlt:=(sltz HB1.out);go_wp2_with fail
  refine CON.out.mono ?_;clear CON r0 r1 r2 r3;rintro e w2 ⟨rfl,hl2⟩;have hbx:=(hl2.below.block _ hlt).trans HB1.out;have hL2:=HL1.out.trans (hl2.mono HL1.out.size);clear HL1 HB1 hlt hl2;have HL2:=hdzz hL2;clear hL2;obtain⟨r0,r1,r2,r3,-⟩:=qaa hbx;have hlt:=(sltz hbx);clear hbx;by_cases h4:400<t.size
  ·have q:decide (400<(t.size:Int))=true:=decide_eq_true (by omega);have hv:=HVV.out.trans (if_pos (.inl h4));subst hv;clear HVV;go_wp2_with fail
   go_ret
   exact⟨rfl,HL2.out⟩
  ·have q:decide (400<(t.size:Int))=false:=decide_eq_false (by omega);have CON:=hdzz (DEP.out w2 HL2.out);clear DEP;go_wp2_with fail
   refine CON.out.mono ?_;clear CON r0 r1 r2 r3;rintro e w3 ⟨rfl,hl3⟩;have HL3:=hdzz (HL2.out.trans (hl3.mono HL2.out.size));clear HL2 hl3;by_cases h5:40<t.depth
   ·have q2:decide (40<(t.depth:Int))=true:=decide_eq_true (by omega);have hv:=HVV.out.trans (if_pos (.inr h5));subst hv;clear HVV;go_wp2_with fail
    go_ret
    exact⟨rfl,HL3.out⟩
   ·have q2:decide (40<(t.depth:Int))=false:=decide_eq_false (by omega);have hv:=HVV.out.trans (if_neg (by omega));subst hv;clear HVV;go_wp2_with fail
    go_ret
    exact⟨rfl,HL3.out⟩
 ·have hv:v=c:=HVV.out.trans (if_pos h0);subst hv;have q:(v==0)=false:=by rw[beq_eq_false_iff_ne];exact h0
  have q':(v != 0)=true:=by simp[h0]
  clear HVV SIZ DEP;go_wp2_with fail
  go_ret
  exact⟨rfl,HL1.out⟩
end Go.Proofs.YtjhjoiplpmjepaaGreat
namespace Go.Proofs.YtjhjoiplpmjepaaGreat
open Go.RowKit Go.Sort
theorem qld (l:List Tm) (Ar A:Option Addr) (cr c:Nat) (t:Tm) (w:World) (hl:l.length≤1000000) (hsl:∀x∈l,x.size≤1000000) (ht:t.size≤1000000) (htv:t.valid=0) (hrl:RepS w (fun b=>b<w.heap.size) l Ar cr) (hrt:RepT w w.heap.size t A c) :
  Calls Tryz.prog 115 #[.slice Ar l.length cr,t.val A c] w fun e w'=>∃v:Int,e=.returned (.int .i64 v)∧(v=0→l.length≤200∧∀x∈l,x.valid=0)∧Below w.heap.size w w':=by
 obtain⟨V,hV⟩:∃V,V=w.alloc (qag t A c):=⟨_,rfl⟩;have hbV:Below w.heap.size w V:=by rw[hV];exact qad (Nat.le_refl _) _
 have hsV:V.heap.size=w.heap.size+1:=by rw[hV];simp
 have hbx:V.heap[w.heap.size]?=some (qag t A c):=by rw[hV];exact heap_alloc_new _ _
 have VT:Hid (∀X,Below V.heap.size V X→Calls Tryz.prog 38 #[t.val A c] X fun e w'=>e=.returned (.int .i64 0)∧Lay X.heap.size X w'):=hdzz fun X hX=>by
  have h:=qbr t A c X ht (hrt.go (hbV.trans (hX.mono (by omega))) (by have:=hX.size;omega));rw[htv]at h;exact h
 obtain⟨nl,hnl⟩:∃k,k=l.length:=⟨_,rfl⟩;rw[←hnl]at hl ⊢;have hlI:(nl:Int)≤1000000:=by omega
 simp only[qag]at hV hbx;simp only[Tm.val]at VT ⊢;have HNL:=hdzz hnl;have HSL:=hdzz hsl;have HRL:=hdzz hrl;have HBV:=hdzz hbV;have HSV:=hdzz hsV;have HBX:=hdzz hbx;have HV:=hdzz hV;clear hnl hsl hrl hbV hsV hbx hV hrt htv;by_cases h2:nl≤200
 case neg=>
  have h2I:(200:Int)<(nl:Int):=by omega
  clear h2;go_enter Tryz.func115,Tryz.ntmps115
  go_upto_region 1 with fail
  rw[←HV.out];go_wp2_with fail
  go_ret
  exact⟨3,rfl,fun h=>absurd h (by decide),HBV.out⟩
 have h2I:¬((200:Int)<(nl:Int)):=by omega
 have H2:=hdzz h2;clear h2;go_enter Tryz.func115,Tryz.ntmps115
 go_upto_region 1 with fail
 rw[←HV.out];go_wp2_with fail
 go_loopw [5] (fun i wr=>∃(k:Nat),k≤nl∧i=.int .i64 k∧Hid (∀x∈l.take k,x.valid=0)∧Hid (Below V.heap.size V wr)) (fun i _=>nl - (intOf i).toNat)
 case atStart=>exact⟨0,Nat.zero_le _,rfl,(by simp[Hid]),Below.refl _ _⟩
 case round=>
  obtain⟨k,hk,rfl,HA,HB⟩:=hrel;have i1:(0:Int)≤(k:Int):=Int.natCast_nonneg _;have hsr:=HB.out.size;have HBR:=hdzz (HBV.out.trans (HB.out.mono (by have:=HSV.out;omega)));by_cases hlt:k<nl
  ·have i2:(k:Int)<(nl:Int):=by omega
   have hkl:k<l.length:=by have:=HNL.out;omega
   obtain⟨b,off,rfl,hbB,hll⟩:∃b off,Ar=some ⟨b,off,none⟩∧b<w.heap.size∧RepLP w (fun b=>b<w.heap.size) l b off:=by
    rcases HRL.out.2.2 with h|h
    ·rw[h]at hkl;simp at hkl
    ·exact h
   obtain⟨A',c',h0,h1,h2,h3,h5⟩:=RepLP.get (RepLP.mono (w':=wr) (P:=fun b=>b<w.heap.size) (P':=fun b=>b<w.heap.size) (fun _ h=>h) (fun p hp=>HBR.out.cell hp) _ _ _ hbB hll) k hkl;have hws:=HSV.out;have VA:=qbr l[k] A' c' wr (HSL.out _ (List.getElem_mem hkl)) (RepP.mono (fun b (h:b<w.heap.size)=>by omega) (fun _ _=>rfl) _ _ _ h5);have hall:l[k].valid=0→∀x∈l.take (k+1),x.valid=0:=fun e x hx=>by
    rw[List.take_succ_eq_append_getElem hkl]at hx;rcases List.mem_append.1 hx with hx|hx
    ·exact HA.out x hx
    ·rw[List.mem_singleton.1 hx];exact e
   obtain⟨x,hx⟩:∃x,x=l[k]:=⟨_,rfl⟩;rw[←hx]at h0 h1 h2 h3 VA hall;obtain⟨vl,hvl⟩:∃v,v=x.valid:=⟨_,rfl⟩;rw[←hvl]at VA hall;simp only[Tm.val]at VA;have VA:=hdzz VA;have HALL:=hdzz hall;clear hx hvl hall h5 hll hkl hws;go_wp2_with fail
   refine VA.out.mono ?_;clear VA h0 h1 h2 h3;rintro e w1 ⟨rfl,hl1⟩;have HB1:=hdzz (HB.out.trans (hl1.below.mono hsr));clear hl1;by_cases hv:vl=0
   ·subst hv;go_wp2_with fail
    go_roundw
    case rel=>exact⟨k+1,by omega,by go_num,HALL.out (by trivial),HB1.out⟩
    case measure=>simp[intOf];omega
   ·have q:(vl==0)=false:=by rw[beq_eq_false_iff_ne];exact hv
    have q':(vl != 0)=true:=by simp[hv]
    have HNV:=hdzz hv;clear hv;go_wp2_with fail
    go_ret
    exact⟨vl,rfl,fun e=>absurd e HNV.out,HBV.out.trans (HB1.out.mono (by have:=HSV.out;omega))⟩
  ·obtain rfl:k=nl:=by omega
   obtain⟨r0,r1,r2,r3,rf⟩:=qaa ((HB.out.block _ (by have:=HSV.out;omega)).trans HBX.out);have VT:=hdzz (VT.out wr HB.out);go_wp2_with fail
   refine VT.out.mono ?_;clear VT r0 r1 r2 r3 rf;rintro e w1 ⟨rfl,hl1⟩;have HB1:=sbtz HBR hl1.below;clear hl1;go_wp2_with fail
   go_ret
   exact⟨0,rfl,fun _=>⟨by have:=HNL.out;have:=H2.out;omega,fun x hx=>HA.out x (by rw[HNL.out,List.take_length];exact hx)⟩,HB1.out⟩
def TmP (P:Nat→Prop) (r:Tm) (w:World) (e:Ending) (w':World):Prop:=
 ∃A c,e=.returned (r.val A c)∧RepP w' (fun b=>P b∨w.heap.size≤b∧b<w'.heap.size) r A c∧Below w.heap.size w w'
theorem qi7 {P:Nat→Prop} {r:Tm} {w Y:World} {B:Nat} {x y z u:Value} {A:Option Addr} {c:Nat} (hB:Below w.heap.size w Y) (hP:∀b,P b→b<w.heap.size) (hb:w.heap.size≤B) (hr:RepP Y (fun b=>(P b∨w.heap.size≤b∧b≠B)∧b<Y.heap.size) r A c) :
  TmP P r w (.returned (r.val A c)) ((((Y.setCell ⟨B,0,none⟩ x).setCell ⟨B,1,none⟩ y).setCell ⟨B,2,none⟩ z).setCell ⟨B,3,none⟩ u):=by
 refine⟨A,c,rfl,RepP.mono (fun b h=>h.1.imp id fun h1=>⟨h1.1,by have:=h.2;simp[World.setCell];omega⟩) (fun p hp=>qaq (hp.1.elim (fun h1=>by have:=hP _ h1;omega) (fun h1=>h1.2))) _ _ _ hr,?_⟩
 iterate 4 refine Below.setCell ?_ hb _
 exact hB
theorem qmx (its:List It) (base:Nat) (A:Option Addr) (n c:Nat) (w:World) (P:Nat→Prop) (hP:∀b,P b→b<w.heap.size) (hl:n≤400000) (hrow:RowT w base P (.slice A n c) its) :
  Calls Tryz.prog 117 #[.slice A n c] w (TmP P (xorT (its.map (·.1))) w):=by
 obtain⟨V,hV⟩:∃V,V=w.alloc (.cells #[.int .i64 0,.string ⟨#[]⟩,.int .i64 0,.slice none 0 0] 24):=⟨_,rfl⟩;have hbV:Below w.heap.size w V:=by rw[hV];exact qad (Nat.le_refl _) _
 have hsV:V.heap.size=w.heap.size+1:=by rw[hV];simp
 have hzV:V.heap[w.heap.size]?=some (.cells #[.int .i64 0,.string ⟨#[]⟩,.int .i64 0,.slice none 0 0] 24 (0,0)):=by rw[hV];exact heap_alloc_new _ _
 have hlen:=hrow.len;have hrV:=hrow.below hbV;have HP:=hdzz hP;have HV:=hdzz hV;have HBV:=hdzz hbV;have HSV:=hdzz hsV;have HZV:=hdzz hzV;have HRV:=hdzz hrV;have HLEN:=hdzz hlen;clear hV hbV hsV hzV hrow hlen hrV hP
 match its,HRV,HLEN with
 | [],HRV,HLEN=>
  have hn:n=0:=HLEN.out;subst hn;have AP:=hdzz (qdc ⟨#[122,101,114,111]⟩ V);go_enter Tryz.func117,Tryz.ntmps117
  go_upto_region 1 with fail
  rw[←HV.out];go_wp2_with fail
  refine AP.out.mono ?_;clear AP;rintro e w1 ⟨⟨A1,rfl⟩,hb1⟩;obtain⟨z0,z1,z2,z3,zf⟩:=qaa ((hb1.block _ (by have:=HSV.out;omega)).trans HZV.out);have HB1:=hdzz (HBV.out.trans (hb1.mono (by have:=HSV.out;omega)));clear hb1;go_wp2_with fail
  refine bodyPost_ret (v:=Tm.val (.mk 3 qch 0 []) A1 0) ?_ rfl ?_
  ·simp[results,Tryz.results117,go_sem,z0,z1,z2,z3,Tm.val,Tm.kind,Tm.name,Tm.sort,Tm.kids,qch]
  exact qi7 HB1.out HP.out (Nat.le_refl _) (by show RepP _ _ (.mk 3 qch 0 []) A1 0;rw[RepP_mk];exact⟨by decide,Nat.le_refl _,Nat.zero_le _,.inl rfl⟩)
 | [X],HRV,HLEN=>
  have hn:n=1:=HLEN.out;subst hn;obtain⟨g,rfl⟩:=HRV.out.some (by omega);obtain⟨h0,h1,h2,h3,-⟩:=HRV.out.slot rfl 0 (by simp);rw[Nat.zero_mul]at h0 h1 h2 h3;rw[Nat.zero_add]at h1 h2 h3;simp only[List.getElem_cons_zero]at h0 h1 h2 h3;have hrx:=HRV.out.reps X (List.mem_singleton.2 rfl);have HRX:=hdzz hrx;have hg:=(HRV.out.lt g rfl).2;obtain⟨z0,z1,z2,z3,zf⟩:=qaa HZV.out;clear hrx hg;obtain⟨x,Ax,cx⟩:=X;dsimp only at h0 h1 h2 h3;go_enter Tryz.func117,Tryz.ntmps117
  go_upto_region 1 with fail
  rw[←HV.out];go_wp2_with fail
  refine bodyPost_ret (v:=x.val Ax cx) ?_ rfl ?_
  ·simp[results,Tryz.results117,go_sem,z0,z1,z2,z3,Tm.val]
  exact qi7 HBV.out HP.out (Nat.le_refl _) (RepP.mono (fun b h=>⟨.inl h.1,h.2.1⟩) (fun _ _=>rfl) _ _ _ HRX.out)
 | X1::X2::r,HRV,HLEN=>
  obtain⟨its,hits⟩:∃l,l=X1::X2::r:=⟨_,rfl⟩;have hx:xorT ((X1::X2::r).map (·.1))=.mk 3 nXor 0 (its.map (·.1)):=by rw[hits];rfl
  have hn2:2≤n:=by have:=HLEN.out;simp at this;omega
  rw[hx];have HRV:Hid (RowT V base P (.slice A n c) its):=by rw[hits];exact HRV
  have HLEN:Hid (n=its.length):=by rw[hits];exact HLEN
  clear hits hx;have hbX:Below V.heap.size V (V.alloc (.cells #[] 24)):=qad (Nat.le_refl _) _;have hrX:RowT (V.alloc (.cells #[] 24)) V.heap.size P (.slice (some ⟨V.heap.size,0,none⟩) 0 0) []:=by
   refine⟨?_,by simp⟩;exact World.ownsRow_made (base:=V.heap.size) (e:=24) (size:=4) V #[] 0 (by simp) (by simp[maxLen]) rfl
  obtain⟨v3,w3,hap3,hr3,hbel3,hs3⟩:=qim hrX (fun b h=>by have:=HP.out b h;have:=HSV.out;omega) (by simp) (HRV.out.below hbX) (by have:=HLEN.out;simp;omega);rw[List.nil_append]at hr3;have hb3:=hbel3 V V.heap.size hbX (Nat.le_refl _);obtain⟨A3,c3,rfl,hS3⟩:=hr3.toS (P:=fun b=>(P b∨w.heap.size≤b∧b≠w.heap.size)∧b<w3.heap.size) (fun b h h'=>⟨.inl h,h'⟩) (fun b h h'=>⟨.inr (by have:=HSV.out;omega),h'⟩);rw[←HLEN.out]at hap3;obtain⟨z0,z1,z2,z3,zf⟩:=qaa ((hb3.block _ (by have:=HSV.out;omega)).trans HZV.out);have HS3:=hdzz hS3;have HB3:=hdzz (HBV.out.trans (hb3.mono (by have:=HSV.out;omega)));have d0:((n:Int)==0)=false:=by rw[beq_eq_false_iff_ne];omega
  have d1:((n:Int)==1)=false:=by rw[beq_eq_false_iff_ne];omega
  clear hbX hrX hr3 hbel3 hs3 hb3 hS3 hn2;go_enter Tryz.func117,Tryz.ntmps117
  go_upto_region 1 with fail
  rw[←HV.out];clear HV;go_wp2_with (at_builtin;refine qab rfl _ _ rfl rfl rfl hap3 ?_)
  refine bodyPost_ret (v:=Tm.val (.mk 3 nXor 0 (its.map (·.1))) A3 c3) ?_ rfl ?_
  ·simp[results,Tryz.results117,go_sem,z0,z1,z2,z3,Tm.val,Tm.kind,Tm.name,Tm.sort,Tm.kids,nXor,List.length_map,HLEN.out]
  refine qi7 HB3.out HP.out (Nat.le_refl _) ?_;rw[RepP_mk];exact⟨by decide,HS3.out⟩
theorem qgz (f:Tm→Bool):∀l:List Tm,Tm.sizes (l.filter f)≤Tm.sizes l
 | []=>by simp[Tm.sizes]
 | t::r=>by
  have h:=qgz f r;by_cases ht:f t=true
  ·rw[List.filter_cons_of_pos ht,Tm.sizes,Tm.sizes];omega
  ·rw[List.filter_cons_of_neg ht,Tm.sizes];omega
theorem qj7 (t:Tm):∀l:List Tm,Tm.sizes (Tm.add t l)≤t.size+Tm.sizes l
 | []=>by simp[Tm.add,Tm.sizes]
 | u::r=>by
  have h:=qj7 t r;rw[Tm.add]
  split
  ·rw[Tm.sizes];omega
  ·split
   ·rw[Tm.sizes];omega
   ·rw[Tm.sizes,Tm.sizes];omega
theorem sizes_tog (t:Tm) (l:List Tm):Tm.sizes (togT t l)≤t.size+Tm.sizes l:=by
 rw[togT]
 split
 ·have:=qgz (fun u=>!u.same t) l;omega
 ·exact qj7 t l
theorem qgg:∀(b a:List Tm),Tm.sizes (qc4 a b)≤Tm.sizes a+Tm.sizes b
 | [],a=>by simp[qc4,Tm.sizes]
 | t::r,a=>by
  have h1:=sizes_tog t a;have h2:=qgg r (togT t a);rw[show qc4 a (t::r)=qc4 (togT t a) r from rfl,Tm.sizes];omega
mutual
theorem qik:∀t:Tm,Tm.sizes t.sumd≤t.size
 | .mk k n s l=>by
  rw[Tm.sumd]
  split
  ·rw[Tm.sizes];omega
  ·split
   ·have h:=qho l [];rw[Tm.sizes]at h;rw[Tm.size];omega
   ·rw[Tm.sizes,Tm.sizes];omega
theorem qho:∀(l a:List Tm),Tm.sizes (Tm.sumds l a)≤Tm.sizes a+Tm.sizes l
 | [],a=>by rw[Tm.sumds,Tm.sizes];omega
 | t::r,a=>by
  have h1:=qik t;have h2:=qgg t.sumd a;have h3:=qho r (qc4 a t.sumd);rw[Tm.sumds,Tm.sizes];omega
end
theorem qjw (l:List Tm):(xorT l).size≤Tm.sizes l+1:=by
 match l with
 | []=>show(Tm.mk 3 qch 0 []).size≤_;rw[Tm.size];omega
 | [t]=>show t.size≤_;rw[Tm.sizes];omega
 | a::b::r=>show(Tm.mk 3 nXor 0 (a::b::r)).size≤_;rw[Tm.size];omega
end Go.Proofs.YtjhjoiplpmjepaaGreat
