/- Trnorm, Trnodes, Trnormal, Gf (joined by shake.py). -/
import Derived.Test.YtjhjoiplpmjepaaGreatL0
import Derived.Test.YtjhjoiplpmjepaaGreatShl
import Derived.Test.YtjhjoiplpmjepaaGreatL1
import Derived.Test.YtjhjoiplpmjepaaGreatL4
import Derived.Test.YtjhjoiplpmjepaaGreatL12
import Derived.Test.YtjhjoiplpmjepaaGreatL16
import Derived.Test.YtjhjoiplpmjepaaGreatL19
import Derived.Test.YtjhjoiplpmjepaaGreatL20
import Derived.Test.YtjhjoiplpmjepaaGreatL22
import Derived.Deep.Cut
import Derived.Lib.FrozenHead2
import Derived.Lib.OthersKept
import Derived.Lib.Hide
import Derived.StillTailTactics
import Derived.Shelf.SlSortCmp.QuietGrown
set_option maxRecDepth 100000
set_option linter.unusedVariables false
set_option linter.unusedSimpArgs false
set_option maxHeartbeats 16000000
namespace Go.Proofs.YtjhjoiplpmjepaaGreat
open Go.RowKit Go.Sort
theorem kd_des (n:ByteArray):(kdOf n==3)=decide (desN n):=by
 rw[Bool.eq_iff_iff,beq_iff_eq,decide_eq_true_iff];unfold kdOf
 cases hs:qeo n with
 | none=>
  refine⟨fun h=>absurd h (by decide),fun h=>?_⟩;obtain⟨s,e⟩:=desN_sym h;rw[hs]at e;cases e
 | some s=>
  obtain⟨h1,h2⟩:=qhl hs;have h3:=tabS_des s h1;rw[h2]at h3;exact h3
theorem qgr {n:ByteArray} {L:List Tm} (h1:n≠nXor) (h2:¬symN n) (h3:n≠nExp):qic n L:=⟨fun h=>absurd h h1,fun h=>absurd h h2,fun h=>absurd h h3⟩
theorem qks {n:ByteArray} {L:List Tm} (h:desN n):qic n L:=qgr (fun e=>qlq (.inl e) h) (fun e=>qlq (by rcases e with e|e|e<;>simp[e]) h) (fun e=>qlq (by simp[e]) h)
structure NrmR (Pb:Nat→Prop) (w:World) (t:Tm) (A:Option Addr) (c:Nat) (v:Value) (its:List It) (W:World):Prop where
 b1:W.heap[w.heap.size]?=some (qag t A c)
 b2:W.heap[w.heap.size+1]?=some (.cells #[.int .i64 0,.string ⟨#[]⟩,.int .i64 0,.slice none 0 0] 24 (0,0))
 row:RowT W (w.heap.size+1+1) (fun b=>Pb b∨w.heap.size+1+1≤b) v its
 bel:Below w.heap.size w W
 le:∀b,Pb b→b<w.heap.size
 sz:w.heap.size+1+1≤W.heap.size
theorem NrmR.go {Pb:Nat→Prop} {w W Z:World} {t:Tm} {A:Option Addr} {c:Nat} {v:Value} {its:List It} (h:NrmR Pb w t A c v its W) (hb:Below W.heap.size W Z):NrmR Pb w t A c v its Z:=by
 have hs:=h.sz;have:=hb.size;exact⟨(hb.block _ (by omega)).trans h.b1,(hb.block _ (by omega)).trans h.b2,h.row.below hb,h.bel.trans (hb.mono (by omega)),h.le,by omega⟩
theorem qkc (t:Tm) (A:Option Addr) (c:Nat) (w:World) (Pb:Nat→Prop) (hPb:∀b,Pb b→b<w.heap.size) (hk:t.kind≠3) (hrep:RepP w Pb t A c) :
  Calls Tryz.prog 37 #[t.val A c] w (EoT (qce t) Pb t.nf w):=by
 have hnf:t.nf=t:=nf_leaf hk;have hft:qce t:=by obtain⟨k,n,s,l⟩:=t;rw[qce];exact fun h=>absurd h hk
 rw[hnf];have kq:(t.kind==3)=false:=by rw[beq_eq_false_iff_ne];exact hk
 have kq':(t.kind != 3)=true:=by simp[hk]
 obtain⟨V,hV⟩:∃V,V=(w.alloc (qag t A c)).alloc (.cells #[.int .i64 0,.string ⟨#[]⟩,.int .i64 0,.slice none 0 0] 24):=⟨_,rfl⟩;have hbV:Below w.heap.size w V:=by rw[hV];exact((Below.refl _ _).alloc (Nat.le_refl _) _).alloc (by simp) _
 have hsV:V.heap.size=w.heap.size+1+1:=by rw[hV];simp
 have hx1:V.heap[w.heap.size]?=some (qag t A c):=by rw[hV,Below.heap_alloc _ _ _ (by simp)];exact heap_alloc_new w _
 have hx2:V.heap[w.heap.size+1]?=some (.cells #[.int .i64 0,.string ⟨#[]⟩,.int .i64 0,.slice none 0 0] 24 (0,0)):=by
  rw[hV];have h:=heap_alloc_new (w.alloc (qag t A c)) (.cells #[.int .i64 0,.string ⟨#[]⟩,.int .i64 0,.slice none 0 0] 24);rw[World.size_alloc]at h;exact h
 simp only[qag]at hV;obtain⟨x0,x1,x2,x3,xf⟩:=qaa hx1;obtain⟨z0,z1,z2,z3,zf⟩:=qaa hx2;have HV:=hdzz hV;have HBV:=hdzz hbV;have HSV:=hdzz hsV;have HFT:=hdzz hft;clear hx1 hx2 hV hbV hnf hk hsV hft;simp only[Tm.val];go_enter Tryz.func37,Tryz.ntmps37
 go_upto_region 1 with fail
 rw[←HV.out];go_wp2_with fail
 refine bodyPost_ret (v:=.tuple #[t.val A c,.int .i64 0]) ?_ rfl ?_
 ·simp[results,Tryz.results37,go_sem,z0,z1,z2,z3,Tm.val]
 have hsV:=HSV.out;exact qdg HFT.out HBV.out hPb (Nat.le_succ _) (RepP.mono (fun b h=>⟨.inl h,by have:=hPb _ h;omega⟩) (fun p h=>HBV.out.cell (hPb _ h)) _ _ _ hrep)
theorem qlg (N:Nat):∀(t:Tm) (A:Option Addr) (c:Nat) (w:World) (Pb:Nat→Prop),t.size≤N→N≤700→(∀b,Pb b→b<w.heap.size)→ArT t→RepP w Pb t A c→
  Calls Tryz.prog 37 #[t.val A c] w (EoT (qce t) Pb t.nf w):=by
 have mixed:=mixz
 induction N with
 | zero=>intro t _ _ _ _ h;have:=t.size_pos;omega
 | succ N ih=>
  intro t A c w Pb hn hN hPb ha hrep;by_cases hk:t.kind=3
  case neg=>exact qkc t A c w Pb hPb hk hrep
  obtain⟨k,n,s,l⟩:=t;have hk':k=3:=hk;subst hk';rw[ArT]at ha;obtain⟨han,hal⟩:=ha;have hs0:s=0:=(han rfl).1;subst hs0;have han:=(han rfl).2;rw[Tm.size]at hn;have hrepT:=hrep;rw[RepP_mk]at hrep;obtain⟨hr1,hrS⟩:=hrep;have hlen:(Tm.nfs l).length=l.length:=by rw[qc0,List.length_map]
  have hll:=Tm.length_le_sizes l;obtain⟨r,hr⟩:∃r,r=(Tm.mk 3 n 0 l).nf:=⟨_,rfl⟩;obtain⟨ok,hok⟩:∃p,p=qce (.mk 3 n 0 l):=⟨_,rfl⟩;rw[←hr,←hok];rw[Tm.nf,if_pos rfl]at hr;have HFT:Hid ((∀t∈l,qce t)→qic n (Tm.nfs l)→ok):=hdzz fun h1 h2=>by rw[hok,qce];exact fun _=>⟨qfa.2 h1,h2⟩
  have IH:Hid (∀(j:Nat) (h:j<l.length) (Z:World) (A':Option Addr) (c':Nat),(∀b,Pb b→b<Z.heap.size)→RepP Z Pb l[j] A' c'→Calls Tryz.prog 37 #[l[j].val A' c'] Z (EoT (qce l[j]) Pb l[j].nf Z)):=hdzz fun j h Z A' c' hz hr=>
   ih l[j] A' c' Z Pb (by have:=Tm.sizes_get l j h;omega) (by omega) hz (qda.1 hal _ (List.getElem_mem h)) hr
  have hmapL:∀(j:Nat) (h:j<l.length),(Tm.nfs l).take (j+1)=(Tm.nfs l).take j++[l[j].nf]:=fun j h=>by
   rw[List.take_succ_eq_append_getElem (by rw[hlen];exact h)]
   congr 2
   simp[qc0]
  have HML:=hdzz hmapL;have HTL:Hid (∀(j:Nat) (h:j<l.length),qce l[j]→(∀t∈l.take j,qce t)→∀t∈l.take (j+1),qce t):=hdzz fun j h h1 h2 t ht=>by
   rw[List.take_succ_eq_append_getElem h]at ht;rcases List.mem_append.1 ht with ht|ht
   ·exact h2 t ht
   ·rw[List.mem_singleton.1 ht];exact h1
  have harL:∀t∈Tm.nfs l,ArT t:=qda.1 (ArTs.nfs hal);have HSZ:Hid ((∀t∈l,qce t)→Tm.sizes (Tm.nfs l)≤350000):=hdzz fun h=>by have h2:=qjh (qfa.2 h);omega
  obtain⟨L,hL⟩:∃L,L=Tm.nfs l:=⟨_,rfl⟩;rw[←hL]at hr hlen harL HML HSZ HFT;have HRES:=hdzz hr;have HARL:=hdzz harL;rw[←hlen]at han;have HAR:=hdzz han;have HLEN:=hdzz hlen;have HRS:=hdzz hrS;have HLL:Hid (l.length≤700):=hdzz (by omega);have hlI:(l.length:Int)≤700:=by omega
  obtain⟨V,hV⟩:∃V,V=(w.alloc (qag (.mk 3 n 0 l) A c)).alloc (.cells #[.int .i64 0,.string ⟨#[]⟩,.int .i64 0,.slice none 0 0] 24):=⟨_,rfl⟩;have s1:(w.alloc (qag (.mk 3 n 0 l) A c)).heap.size=w.heap.size+1:=by simp
  have NB:Hid (NrmR Pb w (.mk 3 n 0 l) A c (.slice none 0 0) [] V):=hdzz (by
   refine⟨?_,?_,RowT.nil _ _ _,?_,hPb,by rw[hV];simp⟩
   ·rw[hV,Below.heap_alloc _ _ _ (by rw[s1];omega)];exact heap_alloc_new w _
   ·rw[hV];have h:=heap_alloc_new (w.alloc (qag (.mk 3 n 0 l) A c)) (.cells #[.int .i64 0,.string ⟨#[]⟩,.int .i64 0,.slice none 0 0] 24);rw[s1]at h;exact h
   ·rw[hV];exact((Below.refl _ _).alloc (Nat.le_refl _) _).alloc (by simp) _)
  simp only[qag,Tm.kind,Tm.name,Tm.sort,Tm.kids]at hV;have HV:=hdzz hV;have HR1:=hdzz hr1;obtain⟨t0,t1,t2,t3,tf⟩:=qaa NB.out.b1;simp only[Tm.kind,Tm.name,Tm.sort,Tm.kids]at t0 t1 t2 t3;clear hal hmapL harL hlen hr hL han hrS hV s1 hr1 hk ih hok hrepT hll;simp only[Tm.val,Tm.kind,Tm.name,Tm.sort,Tm.kids];go_enter Tryz.func37,Tryz.ntmps37
  go_upto_region 1 with fail
  rw[←HV.out];clear HV;go_wp2_with fail
  clear t0 t1 t2 t3 tf;go_loopw [4,5] (fun v i wr=>∃(k m cv:Nat) (Av:Option Addr) (its:List It),k≤l.length∧i=.int .i64 k∧v=.slice Av m cv∧Hid (m=its.length)∧Hid (its=[]→Av=none∧cv=0)∧Hid (its.map (·.1)=L.take k)∧Hid (∀t∈l.take k,qce t)∧Hid (NrmR Pb w (.mk 3 n 0 l) A c (.slice Av m cv) its wr)) (fun _ i _=>l.length - (intOf i).toNat)
  case atStart=>exact⟨0,0,0,none,[],Nat.zero_le _,rfl,rfl,rfl,fun _=>⟨rfl,rfl⟩,rfl,(by simp[Hid]),NB.out⟩
  case round=>
   obtain⟨k,m,cv,Av,its,hk,rfl,rfl,HM,HE,HITS,HFS,NB⟩:=hrel;have i1:(0:Int)≤(k:Int):=Int.natCast_nonneg _;obtain⟨t0,t1,t2,t3,tf⟩:=qaa NB.out.b1;simp only[Tm.kind,Tm.name,Tm.sort,Tm.kids]at t0 t1 t2 t3;by_cases hlt:k<l.length
   ·have i2:(k:Int)<(l.length:Int):=by omega
    obtain⟨b,off,rfl,hbB,hll⟩:∃b off,A=some ⟨b,off,none⟩∧Pb b∧RepLP w Pb l b off:=by
     rcases HRS.out.2.2 with h|h
     ·rw[h]at hlt;simp at hlt
     ·exact h
    obtain⟨A',c',h0,h1,h2,h3,h5⟩:=RepLP.get (RepLP.mono (w':=wr) (P':=Pb) (fun _ h=>h) (fun p hp=>NB.out.bel.cell (hPb _ hp)) _ _ _ hbB hll) k hlt;have hsw:=NB.out.sz;have hmk:m≤700:=by have h:=congrArg List.length HITS.out;rw[List.length_map,List.length_take]at h;have:=HM.out;have:=HLL.out;omega
    have CL:=IH.out k hlt wr A' c' (fun b hb=>by have:=hPb _ hb;omega) h5;have hml:=HML.out k hlt;have htl:=fun h=>HTL.out k hlt h HFS.out;obtain⟨x,hx⟩:∃x,x=l[k]:=⟨_,rfl⟩;rw[←hx]at h0 h1 h2 h3 CL hml htl;have HMK:=hdzz hml;have HTK:=hdzz htl;simp only[Tm.val]at CL;have CL:=hdzz CL;obtain⟨u,hu⟩:∃u,u=x.nf:=⟨_,rfl⟩;rw[←hu]at CL HMK;clear hml htl hu h5 hx hll;go_wp2_with fail
    refine CL.out.mono ?_;clear CL h0 h1 h2 h3 t0 t1 t2 t3 tf;rintro e w1 (⟨v,hv,rfl,hb1⟩|⟨hfx,A1,c1,rfl,hr1,hb1⟩)
    ·obtain⟨X,hX⟩:∃X,X=w1.alloc (.cells #[.int .i64 0,.string ⟨#[]⟩,.int .i64 0,.slice none 0 0] 24):=⟨_,rfl⟩;have hbX:Below w1.heap.size w1 X:=by rw[hX];exact qad (Nat.le_refl _) _
     have NX:=hdzz ((NB.out.go hb1).go hbX);obtain⟨z0,z1,z2,z3,zf⟩:=qaa NX.out.b2;have HX:=hdzz hX;clear hX hbX hb1;have q:(v==0)=false:=by rw[beq_eq_false_iff_ne];exact hv
     have q':(v != 0)=true:=by simp[hv]
     have HNV:=hdzz hv;clear hv;go_upto_region 8 with fail
     rw[←HX.out];clear HX;go_wp2_with fail
     refine bodyPost_ret (v:=.tuple #[.agg #[.int .i64 0,.string ⟨#[]⟩,.int .i64 0,.slice none 0 0],.int .i64 v]) ?_ rfl ?_
     ·simp[results,Tryz.results37,go_sem,z0,z1,z2,z3]
     exact qbn HNV.out NX.out.bel (Nat.le_succ _)
    simp only[Tm.val];have hs1:=hb1.size;have N1:=hdzz (NB.out.go hb1);obtain⟨Y,hY⟩:∃Y,Y=w1.alloc (.cells #[.int .i64 u.kind,.string u.name,.int .i64 u.sort,.slice A1 u.kids.length c1] 24):=⟨_,rfl⟩;have hbY:Below w1.heap.size w1 Y:=by rw[hY];exact qad (Nat.le_refl _) _
    have hxY:Y.heap[w1.heap.size]?=some (.cells #[.int .i64 u.kind,.string u.name,.int .i64 u.sort,.slice A1 u.kids.length c1] 24 (0,0)):=by rw[hY];exact heap_alloc_new w1 _
    have hsY:w1.heap.size<Y.heap.size:=by rw[hY];simp
    have NY:=hdzz (N1.out.go hbY);have hrow:=NB.out.row;obtain⟨g,cg,w6,hap,hrow6,hbel6,hold6,hs6,hg6⟩:=qdo NY.out.row (by have:=NY.out.sz;omega) (u,A1,c1) (RepP.mono (fun b h=>by
     rcases h with h|h
     ·exact⟨.inl h,by have:=hPb _ h;omega,fun e=>by have:=(hrow.lt b e).1;have:=hPb _ h;omega⟩
     ·exact⟨.inr (by omega),by omega,fun e=>by have:=(hrow.lt b e).2;omega⟩) (fun p h=>hbY.cell (h.elim (fun h=>by have:=hPb _ h;omega) (fun h=>h.2))) _ _ _ hr1) (by have:=HM.out;omega)
    simp only at hap;have hsy:=NY.out.sz;have hz2:=(hold6 (w.heap.size+1) (by omega) (fun e=>by have:=(hrow.lt _ e).1;omega)).trans NY.out.b2;have hz1:=(hold6 (w.heap.size) (by omega) (fun e=>by have:=(hrow.lt _ e).1;omega)).trans NY.out.b1;obtain⟨y0,y1,y2,y3,yf⟩:=qaa hxY;have N6:Hid (NrmR Pb w (.mk 3 n 0 l) (some ⟨b,off,none⟩) c (.slice (some ⟨g,0,none⟩) (its.length+1) cg) (its++[(u,A1,c1)]) w6):=hdzz ⟨hz1,hz2,hrow6,hbel6 w w.heap.size NY.out.bel (by omega),hPb,by omega⟩;rw[←HM.out]at hap N6;have HY:=hdzz hY;have HFK:=hdzz (HTK.out hfx);clear hY hbY hxY hr1 hb1 hrow hrow6 hbel6 hold6 hg6 N1 NB NY hz1 hz2 hs6 hsY hs1 hsy hfx;go_upto_region 8 with fail
    rw[←HY.out];clear HY;go_wp2_with (at_builtin;refine qab rfl _ _ rfl rfl rfl hap ?_)
    go_roundw
    case rel=>exact⟨k+1,m+1,cg,some ⟨g,0,none⟩,its++[(u,A1,c1)],by omega,by go_num,rfl,(by rw[List.length_append,←HM.out];rfl),(fun e=>by simp at e),hdzz (by rw[List.map_append,HITS.out,HMK.out];rfl),HFK.out,N6.out⟩
    case measure=>simp[intOf];omega
   ·obtain rfl:k=l.length:=by omega
    have hmap:its.map (·.1)=L:=by have:=HITS.out;rw[←HLEN.out,List.take_length]at this;exact this
    have hfs:∀t∈l,qce t:=by have h:=HFS.out;rw[List.take_length]at h;exact h
    have HSL:=hdzz (HSZ.out hfs);have HFT:Hid (qic n L→ok):=hdzz (HFT.out hfs);have hmL:m=L.length:=by rw[←hmap,List.length_map];exact HM.out
    have HML2:=hdzz hmL;have HMAP:=hdzz hmap;have AP:Hid (Calls Tryz.prog 20 #[.string n,.slice Av m cv] wr fun e w'=>∃A8 c8,e=.returned (.agg #[.int .i64 3,.string n,.int .i64 0,.slice A8 m c8])∧RepP w' (fun b=>(Pb b∨w.heap.size+1+1≤b)∧b<w'.heap.size) (.mk 3 n 0 L) A8 c8∧Below wr.heap.size wr w'):=hdzz (by
     by_cases hm0:its=[]
     ·obtain⟨rfl,rfl⟩:=HE.out hm0;have hL0:L=[]:=by rw[←hmap,hm0];rfl
      have hm:m=0:=by rw[hmL,hL0];rfl
      subst hm;refine(qdc n wr).mono ?_;rintro e w' ⟨⟨A8,rfl⟩,hb⟩;exact⟨A8,0,rfl,by rw[hL0,RepP_mk];exact⟨HR1.out,Nat.le_refl _,Nat.zero_le _,.inl rfl⟩,hb⟩
     ·obtain⟨A9,c9,he,hS⟩:=NB.out.row.toS (P:=fun b=>(Pb b∨w.heap.size+1+1≤b)∧b<wr.heap.size) (fun b h h'=>⟨h,h'⟩) (fun b h h'=>⟨.inr h,h'⟩);injection he with he1 he2 he3;subst he1 he3;rw[hmap]at hS;have h:=qb5 n L Av cv wr (fun b=>(Pb b∨w.heap.size+1+1≤b)∧b<wr.heap.size) (fun b h=>h.2) HR1.out (fun e=>hm0 (by rw[e]at hmap;simpa using hmap)) (by have:=HLEN.out;have:=HLL.out;omega) hS;rw[←hmL]at h;refine h.mono ?_;rintro e w' ⟨A8,c8,rfl,hr,hb⟩;have hsb:=hb.size;have hsw:=NB.out.sz;have e1:(Tm.mk 3 n 0 L).val A8 c8=.agg #[.int .i64 3,.string n,.int .i64 0,.slice A8 L.length c8]:=rfl;rw[e1,←hmL];exact⟨A8,c8,rfl,RepP.mono (fun b h=>by
       rcases h with h|h
       ·exact⟨h.1,by have:=h.2;omega⟩
       ·exact⟨.inr (by omega),h.2⟩) (fun _ _=>rfl) _ _ _ hr,hb⟩)
    clear hmap hmL HITS HFS IH HML HRS HTL HSZ HE HM hfs;go_wp2_with fail
    refine AP.out.mono ?_;clear AP t0 t1 t2 t3 tf;rintro e w6 ⟨A8,c8,rfl,hr8,hb8⟩;have N6:=hdzz (NB.out.go hb8);obtain⟨X,hX⟩:∃X,X=w6.alloc (.cells #[.int .i64 3,.string n,.int .i64 0,.slice A8 m c8] 24):=⟨_,rfl⟩;have hbX:Below w6.heap.size w6 X:=by rw[hX];exact qad (Nat.le_refl _) _
    have hsX:X.heap.size=w6.heap.size+1:=by rw[hX];simp
    have hxX:X.heap[w6.heap.size]?=some (.cells #[.int .i64 3,.string n,.int .i64 0,.slice A8 m c8] 24 (0,0)):=by rw[hX];exact heap_alloc_new w6 _
    have NX:=hdzz (N6.out.go hbX);have HXX:=hdzz hxX;have HSX:=hdzz hsX;have HRX:Hid (RepP X (fun b=>(Pb b∨w.heap.size+1+1≤b)∧b<X.heap.size) (.mk 3 n 0 L) A8 c8):=hdzz (RepP.mono (fun b h=>⟨h.1,by have:=h.2;omega⟩) (fun p hp=>hbX.cell hp.2) _ _ _ hr8);have HX:=hdzz hX;have KD:=qio n X;have hkd:=kd_des n;obtain⟨kd,hkdd⟩:∃k,k=kdOf n:=⟨_,rfl⟩;rw[←hkdd]at KD hkd;have KD:=hdzz KD;obtain⟨t0,t1,t2,t3,tf⟩:=qaa NX.out.b1;simp only[Tm.kind,Tm.name,Tm.sort,Tm.kids]at t0 t1 t2 t3;have HW6:Hid (w.heap.size+1+1≤w6.heap.size):=hdzz N6.out.sz;clear hX hbX hsX hxX hr8 hb8 NB N6 hkdd;go_upto_region 12 with fail
    rw[←HX.out];clear HX;go_wp2_with fail
    refine KD.out.mono ?_;clear KD t0 t1 t2 t3 tf;rintro e w7 ⟨rfl,hb7⟩;have hs7:=hb7.size;have N7:=hdzz (NX.out.go hb7);have hsx:=HSX.out;have HX7:=hdzz ((hb7.block _ (by omega)).trans HXX.out);have HR7:Hid (RepP w7 (fun b=>(Pb b∨w.heap.size+1+1≤b)∧b<X.heap.size) (.mk 3 n 0 L) A8 c8):=hdzz (RepP.mono (fun _ h=>h) (fun p hp=>hb7.cell hp.2) _ _ _ HRX.out);have HS7:Hid (w6.heap.size+1≤w7.heap.size∧w.heap.size+1+1≤w6.heap.size∧X.heap.size=w6.heap.size+1):=hdzz ⟨by omega,HW6.out,hsx⟩;obtain⟨t0,t1,t2,t3,tf⟩:=qaa N7.out.b1;obtain⟨o0,o1,o2,o3,of_⟩:=qaa HX7.out;simp only[Tm.kind,Tm.name,Tm.sort,Tm.kids]at t0 t1 t2 t3;have M1:=qat (n:=n) (c:=nXor) (L:=[120,111,114]) rfl;have M2:=qat (n:=n) (c:=nMul) (L:=[109,117,108]) rfl
    have M3:=qat (n:=n) (c:=nInv) (L:=[105,110,118]) rfl;have M4:=qat (n:=n) (c:=nOne) (L:=[111,110,101]) rfl;have M5:=qat (n:=n) (c:=nExp) (L:=[101,120,112]) rfl;clear hb7 hs7 hsx HXX HRX NX HX7 HW6;by_cases hd:desN n
    ·have hkq:(kd==3)=true:=hkd.trans (decide_eq_true hd);have HQR:Hid (r=qau n L):=hdzz (by rw[HRES.out,qa6 hd]);have HFQ:Hid (qic n L):=hdzz (qks hd);have DS:=qkh n L A8 c8 w7 (fun b=>(Pb b∨w.heap.size+1+1≤b)∧b<X.heap.size) (fun b h=>by have:=h.2;have:=HS7.out;omega) hd HAR.out HARL.out (fun t ht=>by have:=qd2 ht;have:=HSL.out;omega) HR7.out;obtain⟨q,hq⟩:∃q,q=qau n L:=⟨_,rfl⟩;rw[←hq]at DS HQR;have e1:(Tm.mk 3 n 0 L).val A8 c8=.agg #[.int .i64 3,.string n,.int .i64 0,.slice A8 L.length c8]:=rfl;rw[e1,←HML2.out]at DS;have DS:=hdzz DS;clear hq e1 hkd hd M1 M2 M3 M4 M5;go_wp2_with fail
     refine DS.out.mono ?_;clear DS;clear t0 t1 t2 t3 tf o0 o1 o2 o3 of_;rintro e w8 ⟨A9,c9,bb,rfl,hr9,hb9⟩;simp only[Tm.val];obtain⟨Y,hY⟩:∃Y,Y=w8.alloc (.cells #[.int .i64 q.kind,.string q.name,.int .i64 q.sort,.slice A9 q.kids.length c9] 24):=⟨_,rfl⟩;have hbY:Below w8.heap.size w8 Y:=by rw[hY];exact qad (Nat.le_refl _) _
     have hsY:Y.heap.size=w8.heap.size+1:=by rw[hY];simp
     have hxY:Y.heap[w8.heap.size]?=some (.cells #[.int .i64 q.kind,.string q.name,.int .i64 q.sort,.slice A9 q.kids.length c9] 24 (0,0)):=by rw[hY];exact heap_alloc_new w8 _
     have N8:=hdzz ((N7.out.go hb9).go hbY);obtain⟨y0,y1,y2,y3,yf⟩:=qaa hxY;obtain⟨z0,z1,z2,z3,zf⟩:=qaa N8.out.b2;have HR9:Hid (RepP Y (fun b=>(Pb b∨w.heap.size≤b∧b≠w.heap.size+1)∧b<Y.heap.size) q A9 c9):=hdzz (RepP.mono (fun b h=>by
      obtain⟨s1,s2,s3⟩:=HS7.out;have s4:=hb9.size;rcases h with h|h
      ·obtain⟨h1,h2⟩:=h;exact⟨h1.imp id fun h=>⟨by omega,by omega⟩,by omega⟩
      ·exact⟨.inr ⟨by omega,by omega⟩,by omega⟩) (fun p h=>hbY.cell (by
      obtain⟨s1,s2,s3⟩:=HS7.out;have s4:=hb9.size;exact h.elim (fun h=>by have:=h.2;omega) (fun h=>h.2))) _ _ _ hr9)
     have HY:=hdzz hY;clear hY hbY hsY hxY hr9 hb9;go_upto_region 14 with fail
     rw[←HY.out];clear HY;go_wp2_with fail
     refine bodyPost_ret (v:=.tuple #[q.val A9 c9,.int .i64 0]) ?_ rfl ?_
     ·simp[results,Tryz.results37,go_sem,z0,z1,z2,z3,Tm.val]
     rw[HQR.out];exact qdg (HFT.out HFQ.out) N8.out.bel hPb (Nat.le_succ _) HR9.out
    have hkq:(kd==3)=false:=hkd.trans (decide_eq_false hd);by_cases hx:n=nXor
    ·have m1:=M1.1 hx;have HQR:Hid (r=xorT (Tm.sumds L [])):=hdzz (by rw[HRES.out,qne hx]);have SM:=rsum_any its (w.heap.size+1+1) Av m cv w7 (fun b=>(Pb b∨w.heap.size+1+1≤b)∧b<w7.heap.size) (fun b h=>h.2) (by rw[HMAP.out];have:=HSL.out;omega) (qkb N7.out.row (fun b h h' _=>⟨h,h'⟩));rw[HMAP.out]at SM;have HFN:Hid ((m≤200∧(∀t∈L,t.valid=0)∧(xorT (Tm.sumds L [])).valid=0)→qic n L):=hdzz fun h=>⟨fun _=>⟨by rw[←HML2.out];exact h.1,h.2.1,h.2.2⟩,fun e=>absurd e (by rw[hx];decide),fun e=>absurd e (by rw[hx];decide)⟩;obtain⟨q,hq⟩:∃q,q=xorT (Tm.sumds L []):=⟨_,rfl⟩;rw[←hq]at SM HQR HFN;have SM:=hdzz SM;clear hq hkd hd hx M1 M2 M3 M4 M5;go_wp2_with fail
     refine SM.out.mono ?_;clear SM;clear t0 t1 t2 t3 tf o0 o1 o2 o3 of_;rintro e w8 (⟨v,hv,rfl,hb8⟩|⟨hokk,A9,c9,rfl,hr9,hb9⟩)
     ·have N8:=hdzz (N7.out.go hb8);obtain⟨z0,z1,z2,z3,zf⟩:=qaa N8.out.b2;clear hb8;have q:(v==0)=false:=by rw[beq_eq_false_iff_ne];exact hv
      have q':(v != 0)=true:=by simp[hv]
      have HNV:=hdzz hv;clear hv;go_wp2_with fail
      refine bodyPost_ret (v:=.tuple #[.agg #[.int .i64 0,.string ⟨#[]⟩,.int .i64 0,.slice none 0 0],.int .i64 v]) ?_ rfl ?_
      ·simp[results,Tryz.results37,go_sem,z0,z1,z2,z3]
      exact qbn HNV.out N8.out.bel (Nat.le_succ _)
     ·simp only[Tm.val];have N8:=hdzz (N7.out.go hb9);obtain⟨z0,z1,z2,z3,zf⟩:=qaa N8.out.b2;have HFQ:=hdzz (HFN.out hokk);have HR9:Hid (RepP w8 (fun b=>(Pb b∨w.heap.size≤b∧b≠w.heap.size+1)∧b<w8.heap.size) q A9 c9):=hdzz (RepP.mono (fun b h=>by
       obtain⟨s1,s2,s3⟩:=HS7.out;have s4:=hb9.size;rcases h with h|h
       ·obtain⟨h1,h2⟩:=h;exact⟨h1.imp id fun h=>⟨by omega,by omega⟩,by omega⟩
       ·exact⟨.inr ⟨by omega,by omega⟩,h.2⟩) (fun _ _=>rfl) _ _ _ hr9)
      clear hb9 hr9 hokk;go_wp2_with fail
      refine bodyPost_ret (v:=.tuple #[q.val A9 c9,.int .i64 0]) ?_ rfl ?_
      ·simp[results,Tryz.results37,go_sem,z0,z1,z2,z3,Tm.val]
      rw[HQR.out];exact qdg (HFT.out HFQ.out) N8.out.bel hPb (Nat.le_succ _) HR9.out
    have hx1:=hx;clear hx;by_cases hx:symN n
    ·have hsy:symN n:=hx;have HQR:Hid (r=prodT (ofT (.mk 3 n 0 L))):=hdzz (by rw[HRES.out,qa5 hsy]);have PD:=qj8 (.mk 3 n 0 L) A8 c8 w7 (fun b=>(Pb b∨w.heap.size+1+1≤b)∧b<X.heap.size) (fun b h=>by have:=h.2;have:=HS7.out;omega) (by rw[Tm.size];have:=HSL.out;omega) HR7.out;have HFN:Hid ((OfOK (.mk 3 n 0 L)∧qds (ofT (.mk 3 n 0 L)))→qic n L):=hdzz fun h=>⟨fun e=>absurd hsy (by rw[e];decide),fun _=>h,fun e=>absurd hsy (by rw[e];decide)⟩;obtain⟨q,hq⟩:∃q,q=prodT (ofT (.mk 3 n 0 L)):=⟨_,rfl⟩;rw[←hq]at PD HQR;have e1:(Tm.mk 3 n 0 L).val A8 c8=.agg #[.int .i64 3,.string n,.int .i64 0,.slice A8 L.length c8]:=rfl;rw[e1,←HML2.out]at PD;have PD:=hdzz PD
     have hcs:((n.toList==[120,111,114])=false∧(n.toList==[109,117,108])=true)∨((n.toList==[120,111,114])=false∧(n.toList==[109,117,108])=false∧(n.toList==[105,110,118])=true)∨((n.toList==[120,111,114])=false∧(n.toList==[109,117,108])=false∧(n.toList==[105,110,118])=false∧(n.toList==[111,110,101])=true):=by
      rcases hx with h|h|h
      ·have h1:=M2.1 h;exact .inl ⟨qa4 h1 (by decide),h1⟩
      ·have h1:=M3.1 h;exact .inr (.inl ⟨qa4 h1 (by decide),qa4 h1 (by decide),h1⟩)
      ·have h1:=M4.1 h;exact .inr (.inr ⟨qa4 h1 (by decide),qa4 h1 (by decide),qa4 h1 (by decide),h1⟩)
     clear hq hkd hd hx hsy e1 M1 M2 M3 M4 M5;rcases hcs with⟨m1,m2⟩|⟨m1,m2,m3⟩|⟨m1,m2,m3,m4⟩
     all_goals
      go_wp2_with fail
      refine PD.out.mono ?_;clear PD;clear t0 t1 t2 t3 tf o0 o1 o2 o3 of_;rintro e w8 (⟨v,hv,rfl,hb8⟩|⟨hokk,A9,c9,rfl,hr9,hb9⟩)
      ·have N8:=hdzz (N7.out.go hb8);obtain⟨z0,z1,z2,z3,zf⟩:=qaa N8.out.b2;clear hb8;have q:(v==0)=false:=by rw[beq_eq_false_iff_ne];exact hv
       have q':(v != 0)=true:=by simp[hv]
       have HNV:=hdzz hv;clear hv;go_wp2_with fail
       refine bodyPost_ret (v:=.tuple #[.agg #[.int .i64 0,.string ⟨#[]⟩,.int .i64 0,.slice none 0 0],.int .i64 v]) ?_ rfl ?_
       ·simp[results,Tryz.results37,go_sem,z0,z1,z2,z3]
       exact qbn HNV.out N8.out.bel (Nat.le_succ _)
      ·simp only[Tm.val];have N8:=hdzz (N7.out.go hb9);obtain⟨z0,z1,z2,z3,zf⟩:=qaa N8.out.b2;have HFQ:=hdzz (HFN.out hokk);have HR9:Hid (RepP w8 (fun b=>(Pb b∨w.heap.size≤b∧b≠w.heap.size+1)∧b<w8.heap.size) q A9 c9):=hdzz (RepP.mono (fun b h=>by
        obtain⟨s1,s2,s3⟩:=HS7.out;have s4:=hb9.size;rcases h with h|h
        ·obtain⟨h1,h2⟩:=h;exact⟨h1.imp id fun h=>⟨by omega,by omega⟩,by omega⟩
        ·exact⟨.inr ⟨by omega,by omega⟩,h.2⟩) (fun _ _=>rfl) _ _ _ hr9)
       clear hb9 hr9 hokk;go_wp2_with fail
       refine bodyPost_ret (v:=.tuple #[q.val A9 c9,.int .i64 0]) ?_ rfl ?_
       ·simp[results,Tryz.results37,go_sem,z0,z1,z2,z3,Tm.val]
       rw[HQR.out];exact qdg (HFT.out HFQ.out) N8.out.bel hPb (Nat.le_succ _) HR9.out
    have hx2:=hx;clear hx;by_cases hx:n=nExp
    ·have m5:=M5.1 hx;have m1:(n.toList==[120,111,114])=false:=qa4 m5 (by decide);have m2:(n.toList==[109,117,108])=false:=qa4 m5 (by decide);have m3:(n.toList==[105,110,118])=false:=qa4 m5 (by decide);have m4:(n.toList==[111,110,101])=false:=qa4 m5 (by decide);have hl2:L.length=2:=HAR.out.1 (by rw[hx];decide);have hm2:m=2:=by rw[HML2.out,hl2]
     subst hm2;have HQR:Hid (r=qbc (kidT L 0) (kidT L 1)):=hdzz (by rw[HRES.out,hx,qbz]);have HFN:Hid (qnq (kidT L 0) (kidT L 1)→qic n L):=hdzz fun h=>⟨fun e=>absurd e (by rw[hx];decide),fun e=>absurd e (by rw[hx];decide),fun _=>h⟩;have hi2:its.length=2:=by have h:=congrArg List.length HMAP.out;rw[List.length_map]at h;omega
     obtain⟨gb,rfl⟩:=N7.out.row.some (by omega);obtain⟨j0,j1,j2,j3,-⟩:=N7.out.row.slot hi2.symm 0 (by omega);obtain⟨k0,k1,k2,k3,-⟩:=N7.out.row.slot hi2.symm 1 (by omega);rw[Nat.zero_mul]at j0 j1 j2 j3;rw[Nat.zero_add]at j1 j2 j3;rw[Nat.one_mul]at k0 k1 k2 k3;have hgb:=(N7.out.row.lt gb rfl).2;have hkk:∀(i:Nat) (h:i<its.length),kidT L i=its[i].1:=fun i h=>by
      rw[←HMAP.out];unfold kidT;rw[List.getElem?_map,List.getElem?_eq_getElem h];rfl
     rw[hkk 0 (by omega),hkk 1 (by omega)]at HQR HFN;have hw7:∀(i:Nat) (h:i<its.length),RepP w7 (fun b=>(Pb b∨w.heap.size+1+1≤b)∧b<w7.heap.size) its[i].1 its[i].2.1 its[i].2.2:=fun i h=>RepP.mono (fun b h=>⟨h.1,h.2.1⟩) (fun _ _=>rfl) _ _ _ (N7.out.row.reps _ (List.getElem_mem h));have h0:=hw7 0 (by omega);have h1:=hw7 1 (by omega);have hmem:∀(i:Nat) (h:i<its.length),ArT its[i].1∧its[i].1.size≤350000:=fun i h=>by
      have hm:its[i].1∈L:=by rw[←HMAP.out];exact List.mem_map_of_mem (List.getElem_mem h)
      exact⟨HARL.out _ hm,by have:=qd2 hm;have:=HSL.out;omega⟩
     have g0:=hmem 0 (by omega);have g1:=hmem 1 (by omega);obtain⟨x0,hx0⟩:∃x,x=its[0]:=⟨_,rfl⟩;obtain⟨x1,hx1⟩:∃x,x=its[1]:=⟨_,rfl⟩;rw[←hx0]at j0 j1 j2 j3 h0 g0 HQR HFN;rw[←hx1]at k0 k1 k2 k3 h1 g1 HQR HFN;obtain⟨x0,A0,c0⟩:=x0;obtain⟨x1,A1,c1⟩:=x1;dsimp only at j0 j1 j2 j3 k0 k1 k2 k3 h0 h1 g0 g1 HQR HFN;have hcl:∀bb o,w7.drew.cell? ⟨bb,o,none⟩=w7.cell? ⟨bb,o,none⟩:=fun _ _=>rfl;rw[←hcl]at j0 j1 j2 j3 k0 k1 k2 k3;have RA:=qmy x0 x1 A0 A1 c0 c1 w7.drew (fun b=>(Pb b∨w.heap.size+1+1≤b)∧b<w7.heap.size) (fun b h=>h.2) g0.1 (by omega) (by omega) (RepP.mono (w:=w7) (w':=w7.drew) (fun _ h=>h) (fun _ _=>rfl) _ _ _ h0) (RepP.mono (w:=w7) (w':=w7.drew) (fun _ h=>h) (fun _ _=>rfl) _ _ _ h1);obtain⟨q,hq⟩:∃q,q=qbc x0 x1:=⟨_,rfl⟩;rw[←hq]at RA HQR;simp only[Tm.val]at RA
     have RA:=hdzz RA;clear hq hkd hd hx M1 M2 M3 M4 M5 hcl h0 h1 g0 g1 hx0 hx1 hmem hw7 hkk hl2 hi2;go_wp2_with fail
     refine qbk (fun Y=>Below w7.drew.heap.size w7.drew Y) 9 (.held 0 (.held 1 (.held 2 (.held 3 (.held 4 (.held 5 (.op 6 (.held 7 (.held 8 (.op 9 (.op 10 .nil))))))))))) mixed (by kernel_rfl) ?_;have N7:=hdzz (N7.out.go (Below.refl _ _).drew);have HS7:Hid (w6.heap.size+1≤w7.drew.heap.size∧w.heap.size+1+1≤w6.heap.size∧X.heap.size=w6.heap.size+1):=HS7;have HP7:Hid (w7.drew.heap.size=w7.heap.size):=hdzz rfl;have hgb:gb<w7.drew.heap.size:=hgb;generalize w7.drew=D at *;clear t0 t1 t2 t3 tf o0 o1 o2 o3 of_;refine qai (v:=.slice (some ⟨gb,0,none⟩) 2 cv) rfl rfl (fun _ _ _ h=>h) (Below.refl _ _) (fun Y hY=>by
       (try simp only[Act.put]);go_simp) ?_
     refine qai (v:=.pointer (some ⟨gb,0,none⟩)) rfl rfl (fun _ _ _ h=>h) (Below.refl _ _) (fun Y hY=>by
       (try simp only[Act.put]);go_simp) ?_
     simp only[Act.put,fsa,fsb,fsc,fsd,fse,fsf];refine qai (v:=.agg #[.int .i64 x0.kind,.string x0.name,.int .i64 x0.sort,.slice A0 x0.kids.length c0]) rfl rfl (fun _ _ _ h=>h) (Below.refl _ _) (fun Y hY=>by
       have z0:=sclz hY j0 (by omega);have z1:=sclz hY j1 (by omega);have z2:=sclz hY j2 (by omega);have z3:=sclz hY j3 (by omega)
       (try simp only[Act.put]);go_simp) ?_
     simp only[Act.put,fsa,fsb,fsc,fsd,fse,fsf];refine qai (v:=.slice (some ⟨gb,0,none⟩) 2 cv) rfl rfl (fun _ _ _ h=>h) (Below.refl _ _) (fun Y hY=>by
       (try simp only[Act.put]);go_simp) ?_
     refine qai (v:=.pointer (some ⟨gb,4,none⟩)) rfl rfl (fun _ _ _ h=>h) (Below.refl _ _) (fun Y hY=>by
       (try simp only[Act.put]);go_simp) ?_
     simp only[Act.put,fsa,fsb,fsc,fsd,fse,fsf];refine qai (v:=.agg #[.int .i64 x1.kind,.string x1.name,.int .i64 x1.sort,.slice A1 x1.kids.length c1]) rfl rfl (fun _ _ _ h=>h) (Below.refl _ _) (fun Y hY=>by
       have z0:=sclz hY k0 (by omega);have z1:=sclz hY k1 (by omega);have z2:=sclz hY k2 (by omega);have z3:=sclz hY k3 (by omega)
       (try simp only[Act.put]);go_simp) ?_
     simp only[Act.put,fsa,fsb,fsc,fsd,fse,fsf];refine qbu rfl rfl (fun K hK=>?_);go_wp2_with fail
     refine RA.out.mono ?_;clear RA k0 k1 k2 k3 j0 j1 j2 j3;rintro e w8 (⟨v,hv,rfl,hb8⟩|⟨hokk,A9,c9,rfl,hr9,hb9⟩)
     ·refine hK _ _ ⟨fun _=>hb8,?_⟩;clear hK K;refine qai (v:=.agg #[.int .i64 0,.string ⟨#[]⟩,.int .i64 0,.slice none 0 0]) rfl rfl (fun _ _ _ h=>h) hb8 (fun Y hY=>by
        (try simp only[Act.put]);go_simp) ?_
      refine qai (v:=.int .i64 v) rfl rfl (fun _ _ _ h=>h) hb8 (fun Y hY=>by
        (try simp only[Act.put]);go_simp) ?_
      simp only[Act.put,fsa,fsb,fsc,fsd,fse,fsf];have N8:=hdzz (N7.out.go hb8);obtain⟨z0,z1,z2,z3,zf⟩:=qaa N8.out.b2;clear hb8;refine qbu rfl rfl (fun K hK=>?_);go_wp2_with fail
      refine⟨fun h=>absurd h (by decide),?_⟩;refine qbu rfl rfl (fun K hK=>?_);go_wp2_with fail
      refine⟨fun h=>absurd h (by decide),qd0 ?_⟩;have q:(v==0)=false:=by rw[beq_eq_false_iff_ne];exact hv
      have q':(v != 0)=true:=by simp[hv]
      have HNV:=hdzz hv;clear hv;go_wp2_with fail
      refine bodyPost_ret (v:=.tuple #[.agg #[.int .i64 0,.string ⟨#[]⟩,.int .i64 0,.slice none 0 0],.int .i64 v]) ?_ rfl ?_
      ·simp[results,Tryz.results37,go_sem,z0,z1,z2,z3]
      exact qbn HNV.out N8.out.bel (Nat.le_succ _)
     ·simp only[Tm.val];refine hK _ _ ⟨fun _=>hb9,?_⟩;clear hK K;refine qai (v:=.agg #[.int .i64 q.kind,.string q.name,.int .i64 q.sort,.slice A9 q.kids.length c9]) rfl rfl (fun _ _ _ h=>h) hb9 (fun Y hY=>by
        (try simp only[Act.put]);go_simp) ?_
      refine qai (v:=.int .i64 0) rfl rfl (fun _ _ _ h=>h) hb9 (fun Y hY=>by
        (try simp only[Act.put]);go_simp) ?_
      simp only[Act.put,fsa,fsb,fsc,fsd,fse,fsf];have N8:=hdzz (N7.out.go hb9);obtain⟨z0,z1,z2,z3,zf⟩:=qaa N8.out.b2;have HFQ:=hdzz (HFN.out hokk);have HR9:Hid (RepP w8 (fun b=>(Pb b∨w.heap.size≤b∧b≠w.heap.size+1)∧b<w8.heap.size) q A9 c9):=hdzz (RepP.mono (fun b h=>by
       obtain⟨s1,s2,s3⟩:=HS7.out;have s4:=hb9.size;have s5:=HP7.out;rcases h with h|h
       ·obtain⟨h1,h2⟩:=h;exact⟨h1.imp id fun h=>⟨by omega,by omega⟩,by omega⟩
       ·exact⟨.inr ⟨by omega,by omega⟩,h.2⟩) (fun _ _=>rfl) _ _ _ hr9)
      clear hb9 hr9 hokk;refine qbu rfl rfl (fun K hK=>?_);go_wp2_with fail
      refine⟨fun h=>absurd h (by decide),?_⟩;refine qbu rfl rfl (fun K hK=>?_);go_wp2_with fail
      refine⟨fun h=>absurd h (by decide),qd0 ?_⟩;go_wp2_with fail
      refine bodyPost_ret (v:=.tuple #[q.val A9 c9,.int .i64 0]) ?_ rfl ?_
      ·simp[results,Tryz.results37,go_sem,z0,z1,z2,z3,Tm.val]
      rw[HQR.out];exact qdg (HFT.out HFQ.out) N8.out.bel hPb (Nat.le_succ _) HR9.out
    have hx3:=hx;clear hx;have m1:(n.toList==[120,111,114])=false:=by rw[←Bool.not_eq_true];exact fun e=>hx1 (M1.2 e)
    have m2:(n.toList==[109,117,108])=false:=by rw[←Bool.not_eq_true];exact fun e=>hx2 (.inl (M2.2 e))
    have m3:(n.toList==[105,110,118])=false:=by rw[←Bool.not_eq_true];exact fun e=>hx2 (.inr (.inl (M3.2 e)))
    have m4:(n.toList==[111,110,101])=false:=by rw[←Bool.not_eq_true];exact fun e=>hx2 (.inr (.inr (M4.2 e)))
    have m5:(n.toList==[101,120,112])=false:=by rw[←Bool.not_eq_true];exact fun e=>hx3 (M5.2 e)
    have HQR:Hid (r=.mk 3 n 0 L):=hdzz (by rw[HRES.out,qbd hd hx1 hx2 hx3]);have HFQ:Hid (qic n L):=hdzz (qgr hx1 hx2 hx3);obtain⟨z0,z1,z2,z3,zf⟩:=qaa N7.out.b2;have HR9:Hid (RepP w7 (fun b=>(Pb b∨w.heap.size≤b∧b≠w.heap.size+1)∧b<w7.heap.size) (.mk 3 n 0 L) A8 c8):=hdzz (RepP.mono (fun b h=>by
     obtain⟨s1,s2,s3⟩:=HS7.out;obtain⟨h1,h2⟩:=h;exact⟨h1.imp id fun h=>⟨by omega,by omega⟩,by omega⟩) (fun _ _=>rfl) _ _ _ HR7.out)
    clear hkd hd hx1 hx2 hx3 M1 M2 M3 M4 M5;go_wp2_with fail
    refine bodyPost_ret (v:=.tuple #[Tm.val (.mk 3 n 0 L) A8 c8,.int .i64 0]) ?_ rfl ?_
    ·simp[results,Tryz.results37,go_sem,z0,z1,z2,z3,Tm.val,Tm.kind,Tm.name,Tm.sort,Tm.kids,HML2.out]
    rw[HQR.out];exact qdg (HFT.out HFQ.out) N7.out.bel hPb (Nat.le_succ _) HR9.out
theorem qlh (n:Nat):∀(t:Tm) (A:Option Addr) (cap:Nat) (w:World),t.size≤n→n≤1000000→RepT w w.heap.size t A cap→
  Calls Tryz.prog 39 #[t.val A cap] w fun e w'=>e=.returned (.int .i64 t.th)∧Below w.heap.size w w':=by
 induction n with
 | zero=>intro t _ _ _ h;have:=t.size_pos;omega
 | succ n ih=>
  intro t A cap w hn hb hrep;have hrept:=hrep;obtain⟨tk,tn,ts,l⟩:=t;have IH:=hdzz ih;clear ih;rw[Tm.size]at hn;rw[qbh]at hrep;obtain⟨hr1,hr2,hr3,hr4⟩:=hrep;have hls:=Tm.length_le_sizes l;unfold maxLen at hr1 hr3;obtain⟨V,hV⟩:∃V,V=w.alloc (.cells #[.int .i64 tk,.string tn,.int .i64 ts,.slice A l.length cap] 24):=⟨_,rfl⟩;have hbV:Below w.heap.size w V:=by rw[hV];exact qad (Nat.le_refl _) _
  have hsV:V.heap.size=w.heap.size+1:=by rw[hV];simp
  have hbx:V.heap[w.heap.size]?=some (.cells #[.int .i64 tk,.string tn,.int .i64 ts,.slice A l.length cap] 24 (0,0)):=by rw[hV];exact heap_alloc_new _ _
  have HBV:=hdzz hbV;clear hbV;simp only[Tm.val,Tm.kind,Tm.name,Tm.sort,Tm.kids];by_cases hk:tk=3
  case neg=>
   have h0:(Tm.mk tk tn ts l).th=0:=by rw[Tm.th,if_neg hk]
   rw[h0];clear h0;have q:(tk==3)=false:=by rw[beq_eq_false_iff_ne];exact hk
   have q':(tk != 3)=true:=by simp[hk]
   obtain⟨r0,r1,r2,r3,rf⟩:=qaa hbx;have HV:=hdzz hV;clear hV;clear hbx hk;go_enter Tryz.func39,Tryz.ntmps39
   go_wp2_with fail
   rw[←HV.out];go_wp2_with fail
   go_ret
   exact⟨rfl,HBV.out⟩
  subst hk;have hth:(Tm.mk 3 tn ts l).th=if thN tn l≠0 then thN tn l else Tm.ths l:=by rw[Tm.th,if_pos rfl]
  rw[thN_ref]at hth;have KD:=qio tn V;have FI:=hdzz (fun Z=>qm4 (.mk 3 tn ts l) A cap Z (by show l.length≤_;omega));have AG:=hdzz (fun(h0:qkr tn l.length=true) Z (hz:Below V.heap.size V Z)=>qlk (.mk 3 tn ts l) A cap Z (by show l.length≤_;omega) (fun h=>new_fits h0 h) (hrept.go (HBV.out.trans (hz.mono (by omega))) (by have:=hz.size;omega)));obtain⟨kd,hkd⟩:∃k,k=kdOf tn:=⟨_,rfl⟩;obtain⟨fb,hfb⟩:∃k,k=qkr tn l.length:=⟨_,rfl⟩;obtain⟨ab,hab⟩:∃k,k=agB tn l:=⟨_,rfl⟩;obtain⟨r,hr⟩:∃r,r=(Tm.mk 3 tn ts l).th:=⟨_,rfl⟩;simp only[Tm.val,Tm.kind,Tm.name,Tm.sort,Tm.kids]at FI AG;rw[←hkd]at KD hth;rw[←hfb]at FI AG hth;rw[←hab]at AG hth;rw[←hr]at hth ⊢;clear hr hkd hfb hab;have HA:Hid (kd=0→r=10):=hdzz fun h=>by rw[hth,if_pos h];rfl
  have HB6:Hid (kd≠0→fb=false→r=6):=hdzz fun h1 h2=>by rw[hth];simp[h1,h2]
  have HC:Hid (kd≠0→fb=true→kd=2→ab=false→r=10):=hdzz fun h1 h2 h3 h4=>by rw[hth];simp[h2,h3,h4]
  have HD:Hid (kd≠0→fb=true→¬(kd=2∧ab=false)→r=Tm.ths l):=hdzz fun h1 h2 h3=>by rw[hth];simp only[h2,if_neg h1,if_neg h3];simp
  have KD:=hdzz KD;have HBX:=hdzz hbx;obtain⟨r0,r1,r2,r3,rf⟩:=qaa hbx;have HV:=hdzz hV;have HSV:=hdzz hsV;clear hth hbx hV hsV hrept;go_enter Tryz.func39,Tryz.ntmps39
  go_wp2_with fail
  rw[←HV.out];clear HV;go_wp2_with fail
  refine KD.out.mono ?_;rintro e w1 ⟨rfl,hb1⟩;have hs1:=hb1.size;have HB1:=hdzz hb1;have HBX1:=hdzz ((hb1.block _ (by have:=HSV.out;omega)).trans HBX.out);clear KD hb1 r0 r1 r2 r3 rf;obtain⟨r0,r1,r2,r3,rf⟩:=qaa HBX1.out;by_cases hk0:kd=0
  ·subst hk0;have hr:r=10:=HA.out rfl;subst hr;clear HA HB6 HC HD;go_wp2_with fail
   go_ret
   exact⟨rfl,HBV.out.trans (HB1.out.mono (by have:=HSV.out;omega))⟩
  have q:(kd==0)=false:=by rw[beq_eq_false_iff_ne];exact hk0
  have q':(kd != 0)=true:=by simp[hk0]
  have HK0:=hdzz hk0;clear HA hk0;go_wp2_with fail
  refine(FI.out w1).mono ?_;rintro e w2 ⟨rfl,hb2⟩;have hs2:=hb2.size;have HB2:=hdzz (HB1.out.trans (hb2.mono (by omega)));have HBX2:=hdzz ((hb2.block _ (by have:=HSV.out;omega)).trans HBX1.out);clear FI hb2 r0 r1 r2 r3 rf HB1 HBX1;obtain⟨r0,r1,r2,r3,rf⟩:=qaa HBX2.out
  cases fb with
  | false=>
   have hr:r=6:=HB6.out HK0.out rfl;subst hr;clear HB6 HC HD;go_wp2_with fail
   go_ret
   exact⟨rfl,HBV.out.trans (HB2.out.mono (by have:=HSV.out;omega))⟩
  | true=>
   have hcase:((kd==2)=true∧ab=false)∨((kd==2)=true∧ab=true)∨(kd==2)=false:=by
    cases (kd==2)<;>cases ab<;>simp
   rcases hcase with⟨k2,rfl⟩|⟨k2,rfl⟩|k2
   ·have hr:r=10:=HC.out HK0.out rfl (by simpa using k2) rfl;subst hr;clear HC HD HB6;go_wp2_with fail
    refine(AG.out trivial w2 HB2.out).mono ?_;rintro e w3 ⟨rfl,hb3⟩;have HB3:=hdzz (HB2.out.trans (hb3.mono (by omega)));clear AG hb3;go_wp2_with fail
    go_ret
    exact⟨rfl,HBV.out.trans (HB3.out.mono (by have:=HSV.out;omega))⟩
   ·have HTL:Hid (r=Tm.ths l):=hdzz (HD.out HK0.out rfl (by simp));clear HC HD HB6;go_wp2_with fail
    refine(AG.out trivial w2 HB2.out).mono ?_;rintro e w3 ⟨rfl,hb3⟩;have hs3:=hb3.size;have HBC:=hdzz (HB2.out.trans (hb3.mono (by omega)));clear AG hb3 HB2 HBX2;go_upto_region 11 with fail
    clear r0 r1 r2 r3 rf;go_loopw [4] (fun i wr=>∃k:Nat,k≤l.length∧i=.int .i64 k∧Hid (Below V.heap.size V wr)∧Hid (Tm.ths (l.drop k)=r)) (fun i _=>l.length - (intOf i).toNat)
    case atStart=>exact⟨0,Nat.zero_le _,rfl,HBC.out,HTL.out.symm⟩
    case round=>
     obtain⟨k,hk,rfl,HB,HF⟩:=hrel;have i1:(0:Int)≤(k:Int):=Int.natCast_nonneg _;have hsr:=HB.out.size;have HBR:=hdzz (HBV.out.trans (HB.out.mono (by have:=HSV.out;omega)));have hls':(l.length:Int)≤1000000:=by omega
     obtain⟨r0,r1,r2,r3,rf⟩:=qaa ((HB.out.block _ (by have:=HSV.out;omega)).trans HBX.out);by_cases hlt:k<l.length
     ·have i2:(k:Int)<(l.length:Int):=by omega
      rcases hr4 with rfl|⟨b,off,rfl,hbB,hl⟩
      ·simp at hlt
      obtain⟨A',cap',h0,h1,h2,h3,h5⟩:=(hl.below HBR.out hbB).get k hlt;have hsg:=Tm.sizes_get l k hlt;have hf:=HF.out;rw[qfv l k hlt]at hf;have CON:=IH.out l[k] A' cap' wr (by omega) (by omega) (RepP.mono (fun b (h:b<w.heap.size)=>by have:=HBR.out.size;omega) (fun _ _=>rfl) _ _ _ h5);clear h5 hl;obtain⟨x,hx⟩:∃x,x=l[k]:=⟨_,rfl⟩;rw[←hx]at h0 h1 h2 h3 hf CON;clear hx;obtain⟨y,hy⟩:∃y,y=x.th:=⟨_,rfl⟩;rw[←hy]at hf CON;clear hy;simp only[Tm.val]at CON;have CON:=hdzz CON;have HF2:=hdzz hf;clear hf HF;go_wp2_with fail
      refine CON.out.mono ?_;clear CON h0 h1 h2 h3 r0 r1 r2 r3 rf;rintro e w5 ⟨rfl,hb5⟩;have HB5:=hdzz (HB.out.trans (hb5.mono hsr));clear hb5;by_cases hz:y=0
      ·subst hz;have HF3:=hdzz HF2.out;go_wp2_with fail
       go_roundw
       case rel=>exact⟨k+1,by omega,by go_num,HB5.out,(if_neg (by simp)).symm.trans HF3.out⟩
       case measure=>simp[intOf];omega
      ·have hr:y=r:=(if_pos hz).symm.trans HF2.out;subst hr;have q:(y==0)=false:=by rw[beq_eq_false_iff_ne];exact hz
       have q':(y != 0)=true:=by simp[hz]
       clear HF2;go_wp2_with fail
       go_ret
       exact⟨rfl,HBV.out.trans (HB5.out.mono (by have:=HSV.out;omega))⟩
     ·obtain rfl:k=l.length:=by omega
      have hr:0=r:=by have:=HF.out;rw[List.drop_length]at this;exact this
      subst hr;go_wp2_with fail
      go_ret
      exact⟨rfl,HBR.out⟩
   ·have HTL:Hid (r=Tm.ths l):=hdzz (HD.out HK0.out rfl (by rintro⟨h1,_⟩;rw[h1]at k2;exact absurd k2 (by decide)));have HBC:=HB2;clear HC HD HB6 AG HB2 HBX2;go_upto_region 11 with fail
    clear r0 r1 r2 r3 rf;go_loopw [4] (fun i wr=>∃k:Nat,k≤l.length∧i=.int .i64 k∧Hid (Below V.heap.size V wr)∧Hid (Tm.ths (l.drop k)=r)) (fun i _=>l.length - (intOf i).toNat)
    case atStart=>exact⟨0,Nat.zero_le _,rfl,HBC.out,HTL.out.symm⟩
    case round=>
     obtain⟨k,hk,rfl,HB,HF⟩:=hrel;have i1:(0:Int)≤(k:Int):=Int.natCast_nonneg _;have hsr:=HB.out.size;have HBR:=hdzz (HBV.out.trans (HB.out.mono (by have:=HSV.out;omega)));have hls':(l.length:Int)≤1000000:=by omega
     obtain⟨r0,r1,r2,r3,rf⟩:=qaa ((HB.out.block _ (by have:=HSV.out;omega)).trans HBX.out);by_cases hlt:k<l.length
     ·have i2:(k:Int)<(l.length:Int):=by omega
      rcases hr4 with rfl|⟨b,off,rfl,hbB,hl⟩
      ·simp at hlt
      obtain⟨A',cap',h0,h1,h2,h3,h5⟩:=(hl.below HBR.out hbB).get k hlt;have hsg:=Tm.sizes_get l k hlt;have hf:=HF.out;rw[qfv l k hlt]at hf;have CON:=IH.out l[k] A' cap' wr (by omega) (by omega) (RepP.mono (fun b (h:b<w.heap.size)=>by have:=HBR.out.size;omega) (fun _ _=>rfl) _ _ _ h5);clear h5 hl;obtain⟨x,hx⟩:∃x,x=l[k]:=⟨_,rfl⟩;rw[←hx]at h0 h1 h2 h3 hf CON;clear hx;obtain⟨y,hy⟩:∃y,y=x.th:=⟨_,rfl⟩;rw[←hy]at hf CON;clear hy;simp only[Tm.val]at CON;have CON:=hdzz CON;have HF2:=hdzz hf;clear hf HF;go_wp2_with fail
      refine CON.out.mono ?_;clear CON h0 h1 h2 h3 r0 r1 r2 r3 rf;rintro e w5 ⟨rfl,hb5⟩;have HB5:=hdzz (HB.out.trans (hb5.mono hsr));clear hb5;by_cases hz:y=0
      ·subst hz;have HF3:=hdzz HF2.out;go_wp2_with fail
       go_roundw
       case rel=>exact⟨k+1,by omega,by go_num,HB5.out,(if_neg (by simp)).symm.trans HF3.out⟩
       case measure=>simp[intOf];omega
      ·have hr:y=r:=(if_pos hz).symm.trans HF2.out;subst hr;have q:(y==0)=false:=by rw[beq_eq_false_iff_ne];exact hz
       have q':(y != 0)=true:=by simp[hz]
       clear HF2;go_wp2_with fail
       go_ret
       exact⟨rfl,HBV.out.trans (HB5.out.mono (by have:=HSV.out;omega))⟩
     ·obtain rfl:k=l.length:=by omega
      have hr:0=r:=by have:=HF.out;rw[List.drop_length]at this;exact this
      subst hr;go_wp2_with fail
      go_ret
      exact⟨rfl,HBR.out⟩
theorem qhr (t:Tm) (A:Option Addr) (cap:Nat) (w:World) (hn:t.size≤1000000) (hrep:RepT w w.heap.size t A cap) :
  Calls Tryz.prog 14 #[t.val A cap] w fun e w'=>e=.returned (.int .i64 t.validT)∧Below w.heap.size w w':=by
 obtain⟨V,hV⟩:∃V,V=w.alloc (qag t A cap):=⟨_,rfl⟩;have hbV:Below w.heap.size w V:=by rw[hV];exact qad (Nat.le_refl _) _
 have hsV:V.heap.size=w.heap.size+1:=by rw[hV];simp
 have hbx:V.heap[w.heap.size]?=some (qag t A cap):=by rw[hV];exact heap_alloc_new _ _
 have VA:=qbr t A cap V hn (hrep.go hbV (by omega));have TC:Hid (∀Z,Below V.heap.size V Z→Calls Tryz.prog 39 #[t.val A cap] Z fun e w'=>e=.returned (.int .i64 t.th)∧Below Z.heap.size Z w'):=hdzz fun Z h=>
  qlh 1000000 t A cap Z hn (Nat.le_refl _) (hrep.go (hbV.trans (h.mono (by omega))) (by have:=h.size;omega))
 unfold Tm.validT;obtain⟨v,hv⟩:∃v,v=t.valid:=⟨_,rfl⟩;obtain⟨u,hu⟩:∃u,u=t.th:=⟨_,rfl⟩;rw[←hv]at VA ⊢;rw[←hu]at TC ⊢;clear hv hu;obtain⟨r,hr⟩:∃r,r=if v≠0 then v else u:=⟨_,rfl⟩
 rw[←hr];have HR:=hdzz hr;clear hr;simp only[qag]at hV hbx;simp only[Tm.val]at VA TC ⊢;have HBX:=hdzz hbx;obtain⟨r0,r1,r2,r3,rf⟩:=qaa hbx;have HV:=hdzz hV;clear hV hbx;have HBV:=hdzz hbV;clear hbV;have VA:=hdzz VA;go_enter Tryz.func14,Tryz.ntmps14
 go_wp2_with fail
 rw[←HV.out];clear HV;go_wp2_with fail
 refine VA.out.mono ?_;clear VA r0 r1 r2 r3 rf;rintro e w1 ⟨rfl,hl1⟩;have hs1:=hl1.below.size;have HB1:=hdzz (HBV.out.trans (hl1.below.mono (by omega)));have TC:=hdzz (TC.out w1 hl1.below);obtain⟨r0,r1,r2,r3,rf⟩:=qaa ((hl1.below.block _ (by omega)).trans HBX.out);clear hl1 HBX HBV;by_cases hv:v=0
 case neg=>
  have hr:=HR.out.trans (if_pos hv);clear HR;subst hr;have q:(r==0)=false:=by rw[beq_eq_false_iff_ne];exact hv
  have q':(r != 0)=true:=by simp[hv]
  clear hv;go_wp2_with fail
  go_ret
  exact⟨rfl,HB1.out⟩
 subst hv;have hr:=HR.out.trans (if_neg (by simp));clear HR;subst hr;go_wp2_with fail
 refine TC.out.mono ?_;clear TC r0 r1 r2 r3 rf;rintro e w2 ⟨rfl,hb2⟩;have HB2:=hdzz (HB1.out.trans (hb2.mono (by omega)));clear hb2;go_wp2_with fail
 go_ret
 exact⟨rfl,HB2.out⟩
theorem qg1 (t:Tm) (A:Option Addr) (c:Nat) (w:World) (Pb:Nat→Prop) (hPb:∀b,Pb b→b<w.heap.size) (hsz:t.size≤700) (hrep:RepP w Pb t A c) :
  Calls Tryz.prog 9 #[t.val A c] w (EoT (FineV t) Pb t.nf w):=by
 obtain⟨V1,hV1⟩:∃V,V=w.alloc (qag t A c):=⟨_,rfl⟩;obtain⟨V,hV⟩:∃V,V=V1.alloc (.cells #[.int .i64 0,.string ⟨#[]⟩,.int .i64 0,.slice none 0 0] 24):=⟨_,rfl⟩;have s1:V1.heap.size=w.heap.size+1:=by rw[hV1];simp
 have hb1:Below w.heap.size w V1:=by rw[hV1];exact qad (Nat.le_refl _) _
 have hbV:Below w.heap.size w V:=by rw[hV];exact hb1.alloc (by omega) _
 have hsV:V.heap.size=w.heap.size+1+1:=by rw[hV];simp[s1]
 have hx:V.heap[w.heap.size]?=some (qag t A c):=by rw[hV,Below.heap_alloc _ _ _ (by omega),hV1];exact heap_alloc_new w _
 have hz:V.heap[w.heap.size+1]?=some (.cells #[.int .i64 0,.string ⟨#[]⟩,.int .i64 0,.slice none 0 0] 24 (0,0)):=by rw[hV,←s1];exact heap_alloc_new V1 _
 have hrt:∀X,Below V.heap.size V X→RepP X Pb t A c:=fun X hX=>RepP.mono (fun _ h=>h) (fun p hp=>(hbV.trans (hX.mono (by omega))).cell (hPb _ hp)) _ _ _ hrep;have VA:=qhr t A c V (by omega) (RepP.mono (fun b h=>by have:=hPb b h;show b<_;omega) (fun _ _=>rfl) _ _ _ (hrt V (Below.refl _ _)));have NO:Hid (t.validT=0→∀X,Below V.heap.size V X→Calls Tryz.prog 37 #[t.val A c] X (EoT (qce t) Pb t.nf X)):=hdzz fun hv X hX=>by
  have hv1:t.valid=0:=by
   unfold Tm.validT at hv;split at hv
   ·exact hv
   ·rename_i h;exact Classical.not_not.1 h
  have hv2:t.th=0:=by unfold Tm.validT at hv;rw[if_neg (by simp[hv1])]at hv;exact hv
  exact qlg 700 t A c X Pb hsz (Nat.le_refl _) (fun b h=>by have:=hPb b h;have:=hX.size;omega) (ArT.of_th (qap hv1).1 hv2) (hrt X hX)
 have HSN:Hid (qce t→t.nf.size≤1000000):=hdzz fun h=>by have:=qji h;omega
 obtain⟨ok,hok⟩:∃p,p=FineV t:=⟨_,rfl⟩;have HOK:Hid (t.validT=0→qce t→t.nf.valid=0→ok):=hdzz fun h1 h2 h3=>by rw[hok];exact⟨h1,h2,h3⟩
 rw[←hok];obtain⟨u,hu⟩:∃u,u=t.nf:=⟨_,rfl⟩;obtain⟨vt,hvt⟩:∃u,u=t.validT:=⟨_,rfl⟩;rw[←hu]at NO HSN HOK ⊢;rw[←hvt]at VA NO HOK;simp only[qag]at hV1 hx;simp only[Tm.val]at VA NO ⊢;have VA:=hdzz VA;have HV1:=hdzz hV1;have HV:=hdzz hV;have HBV:=hdzz hbV;have HSV:=hdzz hsV;have HX:=hdzz hx;have HZ:=hdzz hz;obtain⟨x0,x1,x2,x3,xf⟩:=qaa hx;clear hV1 hV s1 hb1 hbV hsV hx hz hrt hrep hok hu hvt;go_enter Tryz.func9,Tryz.ntmps9
 go_upto_region 1 with fail
 rw[←HV1.out,←HV.out];clear HV1 HV;go_wp2_with fail
 refine VA.out.mono ?_;clear VA x0 x1 x2 x3 xf;rintro e w1 ⟨rfl,hb1⟩;have hsv:=HSV.out;have HB1:=hdzz hb1;have HW1:=hdzz (HBV.out.trans (hb1.mono (by omega)));have HX1:=hdzz ((hb1.block _ (by omega)).trans HX.out);have HZ1:=hdzz ((hb1.block _ (by omega)).trans HZ.out);have HS1:Hid (w.heap.size+1+1≤w1.heap.size):=hdzz (by have:=hb1.size;omega);obtain⟨x0,x1,x2,x3,xf⟩:=qaa HX1.out;clear hb1 hsv HX HZ;by_cases hv:vt=0
 case neg=>
  obtain⟨z0,z1,z2,z3,zf⟩:=qaa HZ1.out;have q:(vt==0)=false:=by rw[beq_eq_false_iff_ne];exact hv
  have q':(vt != 0)=true:=by simp[hv]
  have HNV:=hdzz hv;clear hv;go_wp2_with fail
  refine bodyPost_ret (v:=.tuple #[.agg #[.int .i64 0,.string ⟨#[]⟩,.int .i64 0,.slice none 0 0],.int .i64 vt]) ?_ rfl ?_
  ·simp[results,Tryz.results9,go_sem,z0,z1,z2,z3]
  exact qbn HNV.out HW1.out (Nat.le_succ _)
 subst hv;have NO2:=hdzz (NO.out rfl w1 HB1.out);have HOK2:Hid (qce t→u.valid=0→ok):=hdzz (HOK.out rfl);clear NO HOK;go_wp2_with fail
 refine NO2.out.mono ?_;clear NO2 x0 x1 x2 x3 xf;rintro e w2 (⟨v,hv,rfl,hb2⟩|⟨hft,A2,c2,rfl,hr2,hb2⟩)
 ·have hs1:=HS1.out;obtain⟨X,hX⟩:∃X,X=w2.alloc (.cells #[.int .i64 0,.string ⟨#[]⟩,.int .i64 0,.slice none 0 0] 24):=⟨_,rfl⟩;have hbX:Below w2.heap.size w2 X:=by rw[hX];exact qad (Nat.le_refl _) _
  have hs2:=hb2.size;have HBX:=hdzz ((HW1.out.trans (hb2.mono (by omega))).trans (hbX.mono (by omega)));obtain⟨z0,z1,z2,z3,zf⟩:=qaa ((hbX.block _ (by omega)).trans ((hb2.block _ (by omega)).trans HZ1.out));have HX:=hdzz hX;clear hX hbX hb2 hs1 hs2;have q:(v==0)=false:=by rw[beq_eq_false_iff_ne];exact hv
  have q':(v != 0)=true:=by simp[hv]
  have HNV:=hdzz hv;clear hv;go_upto_region 5 with fail
  rw[←HX.out];clear HX;go_wp2_with fail
  refine bodyPost_ret (v:=.tuple #[.agg #[.int .i64 0,.string ⟨#[]⟩,.int .i64 0,.slice none 0 0],.int .i64 v]) ?_ rfl ?_
  ·simp[results,Tryz.results9,go_sem,z0,z1,z2,z3]
  exact qbn HNV.out HBX.out (Nat.le_succ _)
 ·simp only[Tm.val];have hs1:=HS1.out;have hs2:=hb2.size;obtain⟨X,hX⟩:∃X,X=w2.alloc (.cells #[.int .i64 u.kind,.string u.name,.int .i64 u.sort,.slice A2 u.kids.length c2] 24):=⟨_,rfl⟩;have hbX:Below w2.heap.size w2 X:=by rw[hX];exact qad (Nat.le_refl _) _
  have hsX:X.heap.size=w2.heap.size+1:=by rw[hX];simp
  have hxX:X.heap[w2.heap.size]?=some (.cells #[.int .i64 u.kind,.string u.name,.int .i64 u.sort,.slice A2 u.kids.length c2] 24 (0,0)):=by rw[hX];exact heap_alloc_new w2 _
  have HBX:=hdzz ((HW1.out.trans (hb2.mono (by omega))).trans (hbX.mono (by omega)));have HZX:=hdzz ((hbX.block _ (by omega)).trans ((hb2.block _ (by omega)).trans HZ1.out));have HXX:=hdzz hxX;have HSX:=hdzz (show w.heap.size+1+1≤w2.heap.size∧X.heap.size=w2.heap.size+1 from⟨by omega,hsX⟩);have HRX:Hid (RepP X (fun b=>(Pb b∨w.heap.size≤b∧b≠w.heap.size+1)∧b<X.heap.size) u A2 c2):=hdzz (RepP.mono (fun b h=>by
   rcases h with h|h
   ·exact⟨.inl h,by have:=hPb b h;omega⟩
   ·exact⟨.inr ⟨by omega,by omega⟩,by omega⟩) (fun p h=>hbX.cell (h.elim (fun h=>by have:=hPb _ h;omega) (fun h=>h.2))) _ _ _ hr2)
  have VU:=qbr u A2 c2 X (HSN.out hft) (RepP.mono (fun b h=>h.2) (fun _ _=>rfl) _ _ _ HRX.out);obtain⟨vu,hvu⟩:∃v,v=u.valid:=⟨_,rfl⟩;rw[←hvu]at VU HOK2;simp only[Tm.val]at VU;have VU:=hdzz VU;have HOK:Hid (vu=0→ok):=hdzz (HOK2.out hft);clear HOK2;obtain⟨y0,y1,y2,y3,yf⟩:=qaa hxX;have HX:=hdzz hX;clear hX hbX hsX hxX hb2 hs1 hs2 hr2 hvu hft;go_upto_region 5 with fail
  rw[←HX.out];clear HX;go_wp2_with fail
  refine VU.out.mono ?_;clear VU y0 y1 y2 y3 yf;rintro e w3 ⟨rfl,hl3⟩;have hsx:=HSX.out;obtain⟨y0,y1,y2,y3,yf⟩:=qaa ((hl3.below.block _ (by omega)).trans HXX.out);obtain⟨z0,z1,z2,z3,zf⟩:=qaa ((hl3.below.block _ (by omega)).trans HZX.out);have HB3:=hdzz (HBX.out.trans (hl3.below.mono (by omega)));have HR3:=hdzz (RepP.mono (w':=w3) (P':=fun b=>(Pb b∨w.heap.size≤b∧b≠w.heap.size+1)∧b<w3.heap.size) (fun b h=>⟨h.1,by have:=h.2;have:=hl3.size;omega⟩) (fun p h=>hl3.below.cell h.2) _ _ _ HRX.out);clear hl3 hsx;by_cases hv:vu=0
  case neg=>
   have q:(vu==0)=false:=by rw[beq_eq_false_iff_ne];exact hv
   have q':(vu != 0)=true:=by simp[hv]
   have HNV:=hdzz hv;clear hv;go_wp2_with fail
   refine bodyPost_ret (v:=.tuple #[.agg #[.int .i64 0,.string ⟨#[]⟩,.int .i64 0,.slice none 0 0],.int .i64 vu]) ?_ rfl ?_
   ·simp[results,Tryz.results9,go_sem,z0,z1,z2,z3]
   exact qbn HNV.out HB3.out (Nat.le_succ _)
  subst hv;go_wp2_with fail
  refine bodyPost_ret (v:=.tuple #[u.val A2 c2,.int .i64 0]) ?_ rfl ?_
  ·simp[results,Tryz.results9,go_sem,z0,z1,z2,z3,Tm.val]
  exact qdg (HOK.out (by trivial)) HB3.out hPb (Nat.le_succ _) HR3.out
end Go.Proofs.YtjhjoiplpmjepaaGreat
namespace Go.Proofs.YtjhjoiplpmjepaaGreat
open Go.RowKit
open Go.RowKit
open Go.RowKit Go.Sort
def qa0 (s:Int):List UInt8:=(qfp.getD s.toNat ByteArray.empty).data.toList
mutual
def Tm.text:Tm→List UInt8
 | .mk k n s l=>
  if k=1 then 63::(n.data.toList++(if s=0 then []else 58::qa0 s))
  else if k=2 then n.data.toList++58::qa0 s
  else n.data.toList++40::(Tm.texts l++[41])
def Tm.texts:List Tm→List UInt8
 | []=>[]
 | t::r=>t.text++Tm.more r
def Tm.more:List Tm→List UInt8
 | []=>[]
 | t::r=>44::32::(t.text++Tm.more r)
end
def ql3 (r:List UInt8):Prop:=∀c r',r=c::r'→qa1 c=false∧c≠58
theorem stops_nil:ql3 []:=fun _ _ h=>by cases h
theorem qih {c:UInt8} {r:List UInt8} (h:qa1 c=false∧c≠58):ql3 (c::r):=fun c' r' e=>by injection e with e1 e2;subst e1;exact h
theorem qcf {a r:List UInt8} (ha:∀b∈a,qa1 b=true) (hr:∀c r',r=c::r'→qa1 c=false):(a++r).takeWhile qa1=a:=by
 rw[List.takeWhile_append_of_pos ha]
 cases r with
 | nil=>simp
 | cons c r=>rw[List.takeWhile_cons_of_neg (by rw[hr c r rfl];simp)];simp
theorem qb6 {l:List UInt8} (h:qbf l=true):l.length≤24∧(∀b∈l,qa1 b=true)∧∃b r,l=b::r∧qj4 b=true:=by
 unfold qbf at h;simp only[Bool.and_eq_true,decide_eq_true_eq,List.all_eq_true]at h;obtain⟨⟨h1,h2⟩,h3⟩:=h;refine⟨h1,h3,?_⟩
 cases l with
 | nil=>simp at h2
 | cons b r=>exact⟨b,r,rfl,h2⟩
theorem qb1 (c:UInt8) (r:List UInt8):Lib.hasPrefix (c::r) [c]=true:=by simp[Lib.hasPrefix]
theorem qct {b c:UInt8} (h:c≠b) (r:List UInt8):Lib.hasPrefix (b::r) [c]=false:=by
 show(c==b && List.isPrefixOf [] r)=false;rw[beq_eq_false_iff_ne.2 h];rfl
theorem name_no {l r:List UInt8} (h:qbf l=true) (c:UInt8) (hc:qj4 c=false):Lib.hasPrefix (l++r) [c]=false:=by
 obtain⟨_,_,b,r',rfl,hb⟩:=qb6 h;have:c≠b:=fun e=>by subst e;rw[hb]at hc;cases hc
 exact qct this _
theorem six {P:Int→Prop} (h0:P 0) (h1:P 1) (h2:P 2) (h3:P 3) (h4:P 4) (h5:P 5) {s:Int} (hs:0≤s) (hs5:s≤5):P s:=by
 obtain h|h|h|h|h|h:s=0∨s=1∨s=2∨s=3∨s=4∨s=5:=by omega
 all_goals (subst h;assumption)
theorem qjy {s:Int} (hs:0≤s) (hs5:s≤5):∀b∈qa0 s,qa1 b=true:=
 six (P:=fun s=>∀b∈qa0 s,qa1 b=true) (by decide +kernel) (by decide +kernel) (by decide +kernel) (by decide +kernel) (by decide +kernel) (by decide +kernel) hs hs5
theorem qhn {s:Int} (hs:0≤s) (hs5:s≤5):qdw (qa0 s)=s:=
 six (P:=fun s=>qdw (qa0 s)=s) (by decide +kernel) (by decide +kernel) (by decide +kernel) (by decide +kernel) (by decide +kernel) (by decide +kernel) hs hs5
theorem qem {l:List UInt8} (h:0≤qdw l):qdw l≤5∧qa0 (qdw l)=l:=by
 have hm:(⟨l.toArray⟩:ByteArray)∈qfp:=(Lib.idxOfS_nonneg_iff _ _).1 h;have key:∀x∈qfp,qdw x.data.toList≤5∧qa0 (qdw x.data.toList)=x.data.toList:=by decide +kernel
 exact key _ hm
theorem qfq {a r:List UInt8} (ha:∀b∈a,qa1 b=true) (hr:∀c r',r=c::r'→qa1 c=false):wlen (a++r)=a.length:=by unfold wlen;rw[qcf ha hr]
theorem qii {s least:Int} {r:List UInt8} (hs:0≤s) (hs5:s≤5) (hl:least≤s) (hr:∀c r',r=c::r'→qa1 c=false) :
  qea least (58::(qa0 s++r))=(s,true,1+(qa0 s).length):=by
 rw[qfi,qcf (qjy hs hs5) hr,qfq (qjy hs hs5) hr,qhn hs hs5,decide_eq_true hl]
theorem stops_no {r:List UInt8} (h:ql3 r):Lib.hasPrefix r [58]=false:=by
 cases r with
 | nil=>rfl
 | cons c r=>exact qct (h c r rfl).2.symm r
theorem qgu (n:ByteArray):(⟨n.data.toList.toArray⟩:ByteArray)=n:=(qdm n).symm
theorem pterm_var (n:Nat) (nm:ByteArray) (s:Int) (rest:List UInt8) (hn:qbf nm.data.toList=true) (hs:0≤s) (hs5:s≤5) (hr:ql3 rest) :
  pterm (n+1) ((Tm.mk 1 nm s []).text++rest)=some (.mk 1 nm s [],rest):=by
 obtain⟨_,hp,_⟩:=qb6 hn;have e:(Tm.mk 1 nm s []).text++rest=63::(nm.data.toList++((if s=0 then []else 58::qa0 s)++rest)):=by
  rw[Tm.text,if_pos rfl];simp
 have ht:∀c r',(if s=0 then []else 58::qa0 s)++rest=c::r'→qa1 c=false:=by
  intro c r' h
  split at h
  ·exact(hr c r' (by simpa using h)).1
  ·injection h with h1 h2;subst h1;decide +kernel
 rw[e,pterm,qb1];simp only[if_true,List.drop_succ_cons,List.drop_zero];rw[qcf hp ht,qfq hp ht,hn,if_neg (by simp),qgu,List.drop_left];unfold pvar;by_cases h0:s=0
 ·subst h0;simp only[if_true,List.nil_append];rw[stops_no hr,if_neg (by simp)]
 ·rw[if_neg h0];have e2:(58::qa0 s)++rest=58::(qa0 s++rest):=rfl;rw[e2,qb1,if_pos rfl,qii hs hs5 (by omega) (fun c r' h=>(hr c r' h).1)];simp only[if_true];rw[show 1+(qa0 s).length=(qa0 s).length+1 from by omega,List.drop_succ_cons,List.drop_left]
theorem qm8 (n:Nat) (nm:ByteArray) (s:Int) (rest:List UInt8) (hn:qbf nm.data.toList=true) (hs:0≤s) (hs5:s≤5) (hr:ql3 rest) :
  pterm (n+1) ((Tm.mk 2 nm s []).text++rest)=some (.mk 2 nm s [],rest):=by
 obtain⟨_,hp,_⟩:=qb6 hn;have e:(Tm.mk 2 nm s []).text++rest=nm.data.toList++(58::(qa0 s++rest)):=by
  rw[Tm.text,if_neg (by omega),if_pos rfl];simp
 have ht:∀c r',58::(qa0 s++rest)=c::r'→qa1 c=false:=by
  intro c r' h;injection h with h1 h2;subst h1;decide +kernel
 rw[e,pterm,name_no hn 63 (by decide +kernel)];simp only[Bool.false_eq_true,if_false];rw[qcf hp ht,qfq hp ht,hn,if_neg (by simp),qgu,List.drop_left,qct (by decide),if_pos rfl];unfold qhu;rw[qii hs hs5 hs (fun c r' h=>(hr c r' h).1)];simp only[if_true];rw[show 1+(qa0 s).length=(qa0 s).length+1 from by omega,List.drop_succ_cons,List.drop_left]
theorem pterm_app (n:Nat) (nm:ByteArray) (x:List UInt8) (hn:qbf nm.data.toList=true) :
  pterm (n+1) (nm.data.toList++40::x)=pkids n nm [] x:=by
 obtain⟨_,hp,_⟩:=qb6 hn;have ht:∀c r',(40:UInt8)::x=c::r'→qa1 c=false:=by
  intro c r' h;injection h with h1 h2;subst h1;decide +kernel
 rw[pterm,name_no hn 63 (by decide +kernel)];simp only[Bool.false_eq_true,if_false];rw[qcf hp ht,qfq hp ht,hn,if_neg (by simp),qgu,List.drop_left,qb1,if_neg (by simp)];rfl
theorem qgt {k s:Int} {n:ByteArray} {l:List Tm} (hk:k=1∨k=2) (h:(Tm.mk k n s l).check=0):0≤s∧s≤5∧l=[]∧qbf n.data.toList=true:=by
 rw[Tm.check,if_pos hk]at h
 split at h
 ·omega
 ·rename_i h1
  split at h
  ·omega
  ·rename_i h2
   refine⟨by omega,by omega,?_,by simpa using h2⟩;exact Classical.byContradiction fun h3=>h1 (.inr (.inr h3))
theorem qi2 {k s:Int} {n:ByteArray} {l:List Tm} (hk:¬(k=1∨k=2)) (h:(Tm.mk k n s l).check=0):k=3∧s=0∧qbf n.data.toList=true∧Tm.checks l=0:=by
 rw[Tm.check,if_neg hk]at h
 split at h
 ·rename_i h3
  split at h
  ·omega
  ·split at h
   ·omega
   ·split at h
    ·omega
    ·rename_i h4 h5 h6
     exact⟨h3,by omega,by simpa using h5,h⟩
 ·omega
theorem qj0 {t:Tm} (h:t.check=0):∃c r,t.text=c::r∧c≠41:=by
 obtain⟨k,n,s,l⟩:=t;have app:∀y,qbf n.data.toList=true→∃c r,n.data.toList++y=c::r∧c≠41:=fun y hn=>by
  obtain⟨_,_,b,r,e,hb⟩:=qb6 hn;exact⟨b,r++y,by rw[e];rfl,fun e=>by subst e;revert hb;decide +kernel⟩
 rw[Tm.text];by_cases h1:k=1
 ·rw[if_pos h1];exact⟨63,_,rfl,by decide⟩
 ·rw[if_neg h1];by_cases h2:k=2
  ·rw[if_pos h2];exact app _ (qgt (.inr h2) h).2.2.2
  ·rw[if_neg h2];exact app _ (qi2 (by omega) h).2.2.1
theorem qh4 {t:Tm} {r:List Tm} (h:Tm.checks (t::r)=0):t.check=0∧Tm.checks r=0:=by
 rw[Tm.checks]at h
 split at h
 ·rename_i h1;exact absurd h h1
 ·rename_i h1;exact⟨by omega,h⟩
theorem qiy (l:List Tm) (rest:List UInt8):ql3 (Tm.more l++41::rest):=by
 cases l with
 | nil=>rw[Tm.more];exact qih (by decide +kernel)
 | cons t r=>rw[Tm.more];exact qih (by decide +kernel)
theorem qir (a b:UInt8) (r:List UInt8):Lib.hasPrefix (a::b::r) [a,b]=true:=by simp[Lib.hasPrefix]
mutual
theorem qgl:∀(t:Tm) (n:Nat) (rest:List UInt8),t.check=0→2*t.text.length≤n→ql3 rest→pterm n (t.text++rest)=some (t,rest)
 | .mk k nm s l,n,rest,h,hn,hr=>by
  have hpos:0<(Tm.mk k nm s l).text.length:=by
   obtain⟨c,r,e,_⟩:=qj0 h;rw[e];simp
  obtain⟨m,rfl⟩:∃m,n=m+1:=⟨n - 1,by omega⟩;by_cases h1:k=1
  ·obtain⟨a,b,c,d⟩:=qgt (.inl h1) h;subst h1 c;exact pterm_var m nm s rest d a b hr
  ·by_cases h2:k=2
   ·obtain⟨a,b,c,d⟩:=qgt (.inr h2) h;subst h2 c;exact qm8 m nm s rest d a b hr
   ·obtain⟨a,b,c,d⟩:=qi2 (by omega) h;subst a b;have e:(Tm.mk 3 nm 0 l).text=nm.data.toList++40::(Tm.texts l++[41]):=by rw[Tm.text,if_neg (by omega),if_neg (by omega)]
    rw[e]at hn ⊢;have e2:nm.data.toList++40::(Tm.texts l++[41])++rest=nm.data.toList++40::(Tm.texts l++41::rest):=by simp
    rw[e2,pterm_app m nm _ c];exact qll l m nm rest d (by simp only[List.length_append,List.length_cons]at hn;omega)
theorem qll:∀(l:List Tm) (n:Nat) (w:ByteArray) (rest:List UInt8),Tm.checks l=0→2*(Tm.texts l).length+1≤n→pkids n w [] (Tm.texts l++41::rest)=some (.mk 3 w 0 l,rest)
 | [],n,w,rest,_,hn=>by
  obtain⟨m,rfl⟩:∃m,n=m+1:=⟨n - 1,by omega⟩;rw[Tm.texts,List.nil_append,pkids,qb1,if_pos rfl];rfl
 | t::r,n,w,rest,h,hn=>by
  obtain⟨ht,hr⟩:=qh4 h;obtain⟨c,x,e,hc⟩:=qj0 ht;have hl:(Tm.texts (t::r)).length=t.text.length+(Tm.more r).length:=by rw[Tm.texts,List.length_append]
  have hp:0<t.text.length:=by rw[e];simp
  obtain⟨m,rfl⟩:∃m,n=m+1:=⟨n - 1,by omega⟩;have h1:=qgl t m (Tm.more r++41::rest) ht (by omega) (qiy r rest);have h2:=qiv r m w [t] rest hr (by simp) (by omega);have hf:Lib.hasPrefix (Tm.texts (t::r)++41::rest) [41]=false:=by rw[Tm.texts,e];exact qct hc.symm _
  rw[pkids,hf,if_neg (by simp),if_neg (by simp)];simp only[ne_eq,not_true,if_false];rw[Tm.texts,List.append_assoc,h1];exact h2
theorem qiv:∀(l:List Tm) (n:Nat) (w:ByteArray) (acc:List Tm) (rest:List UInt8),Tm.checks l=0→acc≠[]→2*(Tm.more l).length+1≤n→pkids n w acc (Tm.more l++41::rest)=some (.mk 3 w 0 (acc++l),rest)
 | [],n,w,acc,rest,_,_,hn=>by
  obtain⟨m,rfl⟩:∃m,n=m+1:=⟨n - 1,by omega⟩;rw[Tm.more,List.nil_append,pkids,qb1,if_pos rfl,List.append_nil];rfl
 | t::r,n,w,acc,rest,h,ha,hn=>by
  obtain⟨ht,hr⟩:=qh4 h;have hl:(Tm.more (t::r)).length=t.text.length+(Tm.more r).length+2:=by rw[Tm.more];simp
  obtain⟨m,rfl⟩:∃m,n=m+1:=⟨n - 1,by omega⟩;have h1:=qgl t m (Tm.more r++41::rest) ht (by omega) (qiy r rest);have h2:=qiv r m w (acc++[t]) rest hr (by simp) (by omega);rw[pkids,Tm.more,List.cons_append,List.cons_append,qct (by decide),if_neg (by simp),qir,if_neg (by simp),if_pos ha];simp only[List.drop_succ_cons,List.drop_zero];rw[List.append_assoc,h1];simp only;rw[h2];simp
end
theorem qlm {t:Tm} (h:t.valid=0):qd4 t.text=(t,0):=by
 have hc:t.check=0:=by
  unfold Tm.valid at h
  split at h
  ·exact h
  ·rename_i h1;omega
 have:=qgl t (2*t.text.length+1) [] hc (by omega) stops_nil;rw[List.append_nil]at this;unfold qd4;rw[this];exact if_pos h
theorem qfw (l:List UInt8):l.takeWhile qa1++l.drop (wlen l)=l:=List.prefix_iff_eq_append.1 (List.takeWhile_prefix _)
theorem qij {least:Int} (h0:0≤least) {l:List UInt8} (h:(qea least l).2.1=true) :
  least≤(qea least l).1∧(58::qa0 (qea least l).1)++l.drop (qea least l).2.2=l:=by
 by_cases hc:Lib.hasPrefix l [58]=true
 ·obtain⟨r,rfl⟩:=qg2 hc;rw[qfi]at h ⊢;have h1:least≤qdw (r.takeWhile qa1):=by simpa using h
  refine⟨h1,?_⟩;show(58::qa0 (qdw (r.takeWhile qa1)))++(58::r).drop (1+wlen r)=58::r;rw[(qem (l:=r.takeWhile qa1) (by omega)).2,Nat.add_comm,List.drop_succ_cons,List.cons_append,qfw]
 ·rw[ql7 least l (by simpa using hc)]at h;cases h
theorem qcp {c:UInt8} {l:List UInt8} (h:Lib.hasPrefix l [c]=true):c::l.drop 1=l:=by
 cases l with
 | nil=>simp[Lib.hasPrefix]at h
 | cons b r=>simp[Lib.hasPrefix]at h;rw[h];rfl
theorem qet {a c:UInt8} {l:List UInt8} (h:Lib.hasPrefix l [a,c]=true):a::c::l.drop 2=l:=by
 cases l with
 | nil=>simp[Lib.hasPrefix]at h
 | cons b r=>
  cases r with
  | nil=>simp[Lib.hasPrefix]at h
  | cons d r=>simp[Lib.hasPrefix]at h;rw[h.1,h.2];rfl
theorem pvar_back {w:ByteArray} {l r:List UInt8} {t:Tm} (h:pvar w l=some (t,r)):63::(w.data.toList++l)=t.text++r:=by
 unfold pvar at h;by_cases hc:Lib.hasPrefix l [58]=true
 ·rw[if_pos hc]at h;by_cases hs:(qea 1 l).2.1=true
  ·rw[if_pos hs]at h;obtain⟨h1,h2⟩:=qij (by omega) hs;injection h with h;injection h with h3 h4;subst h3 h4;rw[Tm.text,if_pos rfl,if_neg (by omega)]
   conv=>lhs;rw[←h2]
   simp
  ·rw[if_neg hs]at h;cases h
 ·rw[if_neg hc]at h;injection h with h;injection h with h3 h4;subst h3 h4;rw[Tm.text,if_pos rfl,if_pos rfl];simp
theorem qnb {w:ByteArray} {l r:List UInt8} {t:Tm} (h:qhu w l=some (t,r)):w.data.toList++l=t.text++r:=by
 unfold qhu at h;by_cases hs:(qea 0 l).2.1=true
 ·rw[if_pos hs]at h;obtain⟨h1,h2⟩:=qij (by omega) hs;injection h with h;injection h with h3 h4;subst h3 h4;rw[Tm.text,if_neg (by omega),if_pos rfl]
  conv=>lhs;rw[←h2]
  simp
 ·rw[if_neg hs]at h;cases h
theorem ptext:∀n,(∀l t r,pterm n l=some (t,r)→l=t.text++r)∧(∀w acc l t r,pkids n w acc l=some (t,r)→∃k,t=.mk 3 w 0 (acc++k)∧l=(if acc=[]then Tm.texts k else Tm.more k)++41::r)
 | 0=>⟨fun l t r h=>by simp[pterm]at h,fun w acc l t r h=>by simp[pkids]at h⟩
 | n+1=>by
  obtain⟨ih1,ih2⟩:=ptext n;constructor
  ·intro l t r h;rw[pterm]at h;by_cases hv:Lib.hasPrefix l [63]=true
   ·rw[if_pos hv]at h;by_cases hn:qbf ((l.drop 1).takeWhile qa1)=false
    ·rw[if_pos hn]at h;cases h
    ·rw[if_neg hn,if_pos hv]at h;have:=pvar_back h;rw[←this];show l=63::((l.drop 1).takeWhile qa1++(l.drop 1).drop (wlen (l.drop 1)));rw[qfw,qcp hv]
   ·rw[if_neg hv]at h;by_cases hn:qbf (l.takeWhile qa1)=false
    ·rw[if_pos hn]at h;cases h
    ·rw[if_neg hn,if_neg hv]at h;by_cases hp:Lib.hasPrefix (l.drop (wlen l)) [40]=false
     ·rw[if_pos hp]at h;rw[←qnb h];exact(qfw l).symm
     ·rw[if_neg hp]at h;obtain⟨k,rfl,h2⟩:=ih2 _ _ _ _ _ h;rw[if_pos rfl]at h2;rw[List.nil_append,Tm.text,if_neg (by omega),if_neg (by omega)];show l=l.takeWhile qa1++40::(Tm.texts k++[41])++r;have h3:40::(l.drop (wlen l)).drop 1=l.drop (wlen l):=qcp (by simpa using hp)
      conv=>lhs;rw[←qfw l,←h3,h2]
      simp
  ·intro w acc l t r h;rw[pkids]at h;by_cases h1:Lib.hasPrefix l [41]=true
   ·rw[if_pos h1]at h;injection h with h;injection h with h3 h4;subst h3 h4;refine⟨[],by simp,?_⟩;rw[qcp h1];split<;>simp[Tm.texts,Tm.more]
   ·rw[if_neg h1]at h;by_cases h2:acc≠[]∧Lib.hasPrefix l [44,32]=false
    ·rw[if_pos h2]at h;cases h
    ·rw[if_neg h2]at h
     split at h
     ·cases h
     ·rename_i k r' hk
      obtain⟨m,rfl,h4⟩:=ih2 _ _ _ _ _ h;rw[if_neg (by simp)]at h4;have h5:=ih1 _ _ _ hk;refine⟨k::m,by simp,?_⟩;by_cases ha:acc=[]
      ·rw[if_pos ha,Tm.texts];rw[if_neg (by simpa using ha)]at h5;rw[h5,h4];simp
      ·rw[if_neg ha,Tm.more];rw[if_pos ha]at h5;have h6:Lib.hasPrefix l [44,32]=true:=by
        cases e:Lib.hasPrefix l [44,32]with
        | true=>rfl
        | false=>exact absurd ⟨ha,e⟩ h2
       have h7:=qet h6;rw[←h7,h5,h4];simp
structure Wrote (B b:Nat) (w w':World):Prop where
 below:Below B w w'
 others:Lib.OthersKept 5 (some b) w w'
theorem Wrote.refl (B b:Nat) (w:World):Wrote B b w w:=⟨Below.refl _ _,Lib.OthersKept.refl _ _ _⟩
theorem Wrote.trans {B b:Nat} {u v w:World} (h:Wrote B b u v) (k:Wrote B b v w):Wrote B b u w:=⟨h.below.trans k.below,h.others.trans k.others⟩
theorem Wrote.alloc {B b:Nat} {u w:World} (h:Wrote B b u w) (hB:B≤w.heap.size) (o:Obj):Wrote B b u (w.alloc o):=⟨h.below.alloc hB o,h.others.alloc o⟩
theorem Wrote.drewN {B b:Nat} {u w:World} (h:Wrote B b u w) (n:Nat):Wrote B b u (w.drewN n):=⟨⟨h.below.os,h.below.tape,h.below.output,h.below.size,h.below.block⟩,h.others⟩
theorem Wrote.box {B b:Nat} {u w:World} (h:Wrote B b u w) {p:Nat} {cs:Array Value} {fr:Nat×Nat} (hp:u.heap[p]?=some (.cells cs 24 fr)) (hne:p≠b):w.heap[p]?=some (.cells cs 24 fr):=
 h.others p _ hp (fun e=>hne (Option.some.inj e)) (fun c fz e=>by injection e with _ e2 _;exact absurd e2 (by decide))
theorem qjs {a:ByteArray} {l:List UInt8} (h:a.data.toList=l):a=⟨l.toArray⟩:=by subst h;exact qdm a
theorem word_any (s:Nat) (hs:s≤5) (w:World):Calls Tryz.prog 142 #[.int .i64 s] w fun e w'=>e=.returned (.string ⟨(qa0 s).toArray⟩)∧Lay w.heap.size w w':=by
 have hlay:Hid (∀o,Lay w.heap.size w (w.alloc o)):=fun o=>(Lay.refl _ _).alloc (Nat.le_refl _) o;obtain h|h|h|h|h|h:s=0∨s=1∨s=2∨s=3∨s=4∨s=5:=by omega
 all_goals
  subst h;clear hs;go_enter Tryz.func142,Tryz.ntmps142
  go_wp2_with fail
  go_ret
  exact⟨rfl,hlay.out _⟩
end Go.Proofs.YtjhjoiplpmjepaaGreat
