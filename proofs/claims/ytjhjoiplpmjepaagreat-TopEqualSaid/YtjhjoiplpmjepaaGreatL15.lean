/- Tnorm, Tsym, Tcheck (joined by shake.py). -/
import Derived.Test.YtjhjoiplpmjepaaGreatL0
import Derived.Test.YtjhjoiplpmjepaaGreatL7
import Derived.Test.YtjhjoiplpmjepaaGreatL8
import Derived.Test.YtjhjoiplpmjepaaGreatL10
import Derived.Test.YtjhjoiplpmjepaaGreatL12
import Derived.Test.YtjhjoiplpmjepaaGreatL14
set_option maxRecDepth 100000
set_option linter.unusedVariables false
set_option linter.unusedSimpArgs false
set_option maxHeartbeats 16000000
namespace Go.Proofs.YtjhjoiplpmjepaaGreat
open Go.RowKit Go.Sort
theorem qfj:∀{l:List Tm},(∀t∈l,t.valid=0)→Tm.sizes l≤400*l.length
 | [],_=>by simp[Tm.sizes]
 | t::r,h=>by
  have h1:=(qap (h t (List.mem_cons_self ..))).2.1;have h2:=qfj (l:=r) fun x hx=>h x (List.mem_cons_of_mem _ hx);rw[Tm.sizes,List.length_cons];omega
theorem qcz {w Y:World} {Pb:Nat→Prop} {r:Tm} {A:Option Addr} {c:Nat} {x y z u:Value} (hB:Below w.heap.size w Y) (hP:∀b,Pb b→b<w.heap.size) (hlt:w.heap.size+1<Y.heap.size) (hr:RepP Y (fun b=>(Pb b∨w.heap.size+1<b)∧b<Y.heap.size) r A c) :
  OkN Pb r w (.returned (.tuple #[r.val A c,.int .i64 0])) ((((Y.setCell ⟨w.heap.size+1,0,none⟩ x).setCell ⟨w.heap.size+1,1,none⟩ y).setCell ⟨w.heap.size+1,2,none⟩ z).setCell ⟨w.heap.size+1,3,none⟩ u):=by
 refine⟨A,c,rfl,RepP.mono (fun b h=>h.1.imp id fun h1=>⟨by omega,by have:=h.2;simp[World.setCell];omega⟩) (fun p hp=>qaq (hp.1.elim (fun h1=>by have:=hP _ h1;omega) (fun h1=>by omega))) _ _ _ hr,?_⟩
 iterate 4 refine Below.setCell ?_ (by show _≤w.heap.size+1;omega) _
 exact hB
structure NrmB (Pb:Nat→Prop) (w:World) (t:Tm) (A:Option Addr) (c:Nat) (n:ByteArray) (v:Value) (its:List It) (W:World):Prop where
 b1:W.heap[w.heap.size]?=some (qag t A c)
 b2:W.heap[w.heap.size+1]?=some (.cells #[.int .i64 0,.string ⟨#[]⟩,.int .i64 0,.slice none 0 0] 24 (0,0))
 b3:W.heap[w.heap.size+1+1]?=some (.cells #[.int .i64 3,.string n,.int .i64 0,v] 24 (0,0))
 row:RowT W (w.heap.size+1+1+1) (fun b=>Pb b∨w.heap.size+1+1+1≤b) v its
 bel:Below w.heap.size w W
 le:∀b,Pb b→b<w.heap.size
 sz:w.heap.size+1+1+1≤W.heap.size
theorem NrmB.go {Pb:Nat→Prop} {w W Z:World} {t:Tm} {A:Option Addr} {c:Nat} {n:ByteArray} {v:Value} {its:List It} (h:NrmB Pb w t A c n v its W) (hb:Below W.heap.size W Z):NrmB Pb w t A c n v its Z:=by
 have hs:=h.sz;have:=hb.size;exact⟨(hb.block _ (by omega)).trans h.b1,(hb.block _ (by omega)).trans h.b2,(hb.block _ (by omega)).trans h.b3,h.row.below hb,h.bel.trans (hb.mono (by omega)),h.le,by omega⟩
theorem qjz (t:Tm) (A:Option Addr) (c:Nat) (w:World) (Pb:Nat→Prop) (hPb:∀b,Pb b→b<w.heap.size) (hk:t.kind≠3) (hrep:RepP w Pb t A c) :
  Calls Tryz.prog 68 #[t.val A c] w (OkN Pb t.nf w):=by
 have hnf:t.nf=t:=by obtain⟨k,n,s,l⟩:=t;rw[Tm.nf];exact if_neg hk
 rw[hnf];have kq:(t.kind==3)=false:=by rw[beq_eq_false_iff_ne];exact hk
 obtain⟨V,hV⟩:∃V,V=(w.alloc (qag t A c)).alloc (.cells #[.int .i64 0,.string ⟨#[]⟩,.int .i64 0,.slice none 0 0] 24):=⟨_,rfl⟩;have hbV:Below w.heap.size w V:=by rw[hV];exact((Below.refl _ _).alloc (Nat.le_refl _) _).alloc (by simp) _
 have hsV:V.heap.size=w.heap.size+1+1:=by rw[hV];simp
 have hx1:V.heap[w.heap.size]?=some (qag t A c):=by rw[hV,Below.heap_alloc _ _ _ (by simp)];exact heap_alloc_new w _
 have hx2:V.heap[w.heap.size+1]?=some (.cells #[.int .i64 0,.string ⟨#[]⟩,.int .i64 0,.slice none 0 0] 24 (0,0)):=by
  rw[hV];have h:=heap_alloc_new (w.alloc (qag t A c)) (.cells #[.int .i64 0,.string ⟨#[]⟩,.int .i64 0,.slice none 0 0] 24);rw[World.size_alloc]at h;exact h
 simp only[qag]at hV;obtain⟨x0,x1,x2,x3,xf⟩:=qaa hx1;obtain⟨z0,z1,z2,z3,zf⟩:=qaa hx2;have HV:=hdzz hV;have HBV:=hdzz hbV;have HSV:=hdzz hsV;clear hx1 hx2 hV hbV hnf hk hsV;simp only[Tm.val];go_enter Tryz.func68,Tryz.ntmps68
 go_upto_region 2 with fail
 rw[←HV.out];go_wp2_with fail
 refine bodyPost_ret (v:=.tuple #[t.val A c,.int .i64 0]) ?_ rfl ?_
 ·simp[results,Tryz.results68,go_sem,z0,z1,z2,z3,Tm.val]
 have hsV:=HSV.out;exact qcz HBV.out hPb (by omega) (RepP.mono (fun b h=>⟨.inl h,by have:=hPb _ h;omega⟩) (fun p h=>HBV.out.cell (hPb _ h)) _ _ _ hrep)
theorem qla (N:Nat):∀(t:Tm) (A:Option Addr) (c:Nat) (w:World) (Pb:Nat→Prop),t.size≤N→N≤1000→(∀b,Pb b→b<w.heap.size)→qce t→ArT t→t.check=0→RepP w Pb t A c→
  Calls Tryz.prog 68 #[t.val A c] w (OkN Pb t.nf w):=by
 have mixed:=mixz
 induction N with
 | zero=>intro t _ _ _ _ h;have:=t.size_pos;omega
 | succ N ih=>
  intro t A c w Pb hn hN hPb hf ha hc hrep;by_cases hk:t.kind=3
  case neg=>exact qjz t A c w Pb hPb hk hrep
  obtain⟨k,n,s,l⟩:=t;have hk':k=3:=hk;subst hk';obtain⟨hs0,hnm,hl8,hck⟩:=check_mk3.1 hc;subst hs0;have hfz:=qji hf;rw[qce]at hf;obtain⟨hfk,hfn⟩:=hf rfl;have hfk:=qfa.1 hfk;rw[ArT]at ha;obtain⟨han,hal⟩:=ha;have han:=(han rfl).2;rw[Tm.size]at hn hfz;rw[RepP_mk]at hrep;obtain⟨hr1,hrS⟩:=hrep;have hlen:(Tm.nfs l).length=l.length:=by rw[qc0,List.length_map]
  obtain⟨r,hr⟩:∃r,r=(Tm.mk 3 n 0 l).nf:=⟨_,rfl⟩;rw[←hr];rw[Tm.nf,if_pos rfl]at hr;have hszL:∀t∈Tm.nfs l,t.size≤900000:=fun t ht=>by
   rw[qc0]at ht;obtain⟨x,hx,rfl⟩:=List.mem_map.1 ht;have h1:=qji (hfk x hx);have h2:=qd2 hx;omega
  have IH:Hid (∀(j:Nat) (h:j<l.length) (Z:World) (A':Option Addr) (c':Nat),(∀b,Pb b→b<Z.heap.size)→RepP Z Pb l[j] A' c'→Calls Tryz.prog 68 #[l[j].val A' c'] Z (OkN Pb l[j].nf Z)):=hdzz fun j h Z A' c' hz hr=>
   ih l[j] A' c' Z Pb (by have:=Tm.sizes_get l j h;omega) (by omega) hz (hfk _ (List.getElem_mem h)) (qda.1 hal _ (List.getElem_mem h)) (hck _ (List.getElem_mem h)) hr
  have hmapL:∀(j:Nat) (h:j<l.length),(Tm.nfs l).take (j+1)=(Tm.nfs l).take j++[l[j].nf]:=fun j h=>by
   rw[List.take_succ_eq_append_getElem (by rw[hlen];exact h)]
   congr 2
   simp[qc0]
  have HML:=hdzz hmapL;have harL:∀t∈Tm.nfs l,ArT t:=qda.1 (ArTs.nfs hal);obtain⟨L,hL⟩:∃L,L=Tm.nfs l:=⟨_,rfl⟩;rw[←hL]at hr hszL hlen hfn harL HML;have HRES:=hdzz hr;have HSZ:=hdzz hszL;have HF:=hdzz hfn;have HARL:=hdzz harL;rw[←hlen]at han;have HAR:=hdzz han;have HL8:Hid (L.length≤8):=hdzz (by omega);have HLEN:=hdzz hlen;have HRS:=hdzz hrS;obtain⟨V,hV⟩:∃V,V=((w.alloc (qag (.mk 3 n 0 l) A c)).alloc (.cells #[.int .i64 0,.string ⟨#[]⟩,.int .i64 0,.slice none 0 0] 24)).alloc (.cells #[.int .i64 3,.string n,.int .i64 0,.slice none 0 0] 24):=⟨_,rfl⟩;have s1:(w.alloc (qag (.mk 3 n 0 l) A c)).heap.size=w.heap.size+1:=by simp
  have s2:((w.alloc (qag (.mk 3 n 0 l) A c)).alloc (.cells #[.int .i64 0,.string ⟨#[]⟩,.int .i64 0,.slice none 0 0] 24)).heap.size=w.heap.size+1+1:=by simp
  have NB:Hid (NrmB Pb w (.mk 3 n 0 l) A c n (.slice none 0 0) [] V):=hdzz (by
   refine⟨?_,?_,?_,RowT.nil _ _ _,?_,hPb,by rw[hV];simp⟩
   ·rw[hV,Below.heap_alloc _ _ _ (by rw[s2];omega),Below.heap_alloc _ _ _ (by rw[s1];omega)];exact heap_alloc_new w _
   ·rw[hV,Below.heap_alloc _ _ _ (by rw[s2];omega)];have h:=heap_alloc_new (w.alloc (qag (.mk 3 n 0 l) A c)) (.cells #[.int .i64 0,.string ⟨#[]⟩,.int .i64 0,.slice none 0 0] 24);rw[s1]at h;exact h
   ·rw[hV];have h:=heap_alloc_new ((w.alloc (qag (.mk 3 n 0 l) A c)).alloc (.cells #[.int .i64 0,.string ⟨#[]⟩,.int .i64 0,.slice none 0 0] 24)) (.cells #[.int .i64 3,.string n,.int .i64 0,.slice none 0 0] 24);rw[s2]at h;exact h
   ·rw[hV];exact(((Below.refl _ _).alloc (Nat.le_refl _) _).alloc (by simp) _).alloc (by simp;omega) _)
  simp only[qag,Tm.kind,Tm.name,Tm.sort,Tm.kids]at hV;have HV:=hdzz hV;have HR1:=hdzz hr1;have hW12:∃W12,W12=(w.alloc (.cells #[.int .i64 3,.string n,.int .i64 0,.slice A l.length c] 24)).alloc (.cells #[.int .i64 0,.string ⟨#[]⟩,.int .i64 0,.slice none 0 0] 24):=⟨_,rfl⟩;obtain⟨W12,hW12⟩:=hW12;have hy1:W12.heap[w.heap.size]?=some (.cells #[.int .i64 3,.string n,.int .i64 0,.slice A l.length c] 24 (0,0)):=by rw[hW12,Below.heap_alloc _ _ _ (by simp)];exact heap_alloc_new w _
  obtain⟨y0,y1,y2,y3,yf⟩:=qaa hy1;have hsW12:W12.heap.size=w.heap.size+1+1:=by rw[hW12];simp
  have HSW:=hdzz hsW12;have HW12:=hdzz hW12;have hV3:Hid (V=W12.alloc (.cells #[.int .i64 3,.string n,.int .i64 0,.slice none 0 0] 24)):=hdzz (by rw[hV,hW12]);obtain⟨t0,t1,t2,t3,tf⟩:=qaa NB.out.b1;simp only[Tm.kind,Tm.name,Tm.sort,Tm.kids]at t0 t1 t2 t3;clear hc hck hal hfk hmapL harL hszL hlen hr hL hfn han hrS hV HV s1 s2 hr1 hy1 hW12 hsW12 hfz hk ih hnm;simp only[Tm.val,Tm.kind,Tm.name,Tm.sort,Tm.kids];go_enter Tryz.func68,Tryz.ntmps68
  go_wp2_with fail
  rw[←HW12.out];go_wp2_with fail
  rw[←hV3.out];clear t0 t1 t2 t3 tf y0 y1 y2 y3 yf;go_loopw [21] (fun i wr=>∃(k:Nat) (v:Value) (its:List It),k≤l.length∧i=.int .i64 k∧Hid (its.map (·.1)=L.take k)∧Hid (NrmB Pb w (.mk 3 n 0 l) A c n v its wr)) (fun i _=>l.length - (intOf i).toNat)
  case atStart=>exact⟨0,.slice none 0 0,[],Nat.zero_le _,rfl,rfl,NB.out⟩
  case round=>
   obtain⟨k,v,its,hk,rfl,HITS,NB⟩:=hrel;by_cases hlt:k<l.length
   ·have i1:(0:Int)≤(k:Int):=Int.natCast_nonneg _;have i2:(k:Int)<(l.length:Int):=by omega
    obtain⟨b,off,rfl,hbB,hll⟩:∃b off,A=some ⟨b,off,none⟩∧Pb b∧RepLP w Pb l b off:=by
     rcases HRS.out.2.2 with h|h
     ·rw[h]at hlt;simp at hlt
     ·exact h
    obtain⟨A',c',h0,h1,h2,h3,h5⟩:=RepLP.get (RepLP.mono (w':=wr) (P':=Pb) (fun _ h=>h) (fun p hp=>NB.out.bel.cell (hPb _ hp)) _ _ _ hbB hll) k hlt;have hsw:=NB.out.sz;have hlenI:its.length=k:=by have h:=congrArg List.length HITS.out;have:=HLEN.out;rw[List.length_map,List.length_take]at h;omega
    have HLI:=hdzz hlenI;have IHk:=IH.out k hlt;have hml:=HML.out k hlt;obtain⟨x,hx⟩:∃x,x=l[k]:=⟨_,rfl⟩;rw[←hx]at h0 h1 h2 h3 h5 IHk hml;have HMK:=hdzz hml;obtain⟨X,hX⟩:∃X,X=wr.alloc (.cells #[.int .i64 x.kind,.string x.name,.int .i64 x.sort,.slice A' x.kids.length c'] 24):=⟨_,rfl⟩;have hbX:Below wr.heap.size wr X:=by rw[hX];exact qad (Nat.le_refl _) _
    have hxX:X.heap[wr.heap.size]?=some (.cells #[.int .i64 x.kind,.string x.name,.int .i64 x.sort,.slice A' x.kids.length c'] 24 (0,0)):=by rw[hX];exact heap_alloc_new wr _
    obtain⟨x0,x1,x2,x3,xf⟩:=qaa hxX;have hsX:wr.heap.size<X.heap.size:=by rw[hX];simp
    have CL:=IHk X A' c' (fun b hb=>by have:=hPb _ hb;omega) (RepP.mono (fun _ h=>h) (fun p hp=>hbX.cell (by have:=hPb _ hp;omega)) _ _ _ h5);simp only[Tm.val]at CL;have CL:=hdzz CL;obtain⟨u,hu⟩:∃u,u=x.nf:=⟨_,rfl⟩;rw[←hu]at CL HMK;have NX:=hdzz (NB.out.go hbX);have HX:=hdzz hX;clear hX hbX hxX IHk hml hu h5 hx hll hlenI;go_wp2_with fail
    rw[←HX.out];clear HX h0 h1 h2 h3;go_wp2_with fail
    refine CL.out.mono ?_;clear CL x0 x1 x2 x3 xf;rintro e w1 ⟨A1,c1,rfl,hr1,hb1⟩;simp only[Tm.val];have hs1:=hb1.size;have N1:=hdzz (NX.out.go hb1);obtain⟨Y,hY⟩:∃Y,Y=w1.alloc (.cells #[.int .i64 u.kind,.string u.name,.int .i64 u.sort,.slice A1 u.kids.length c1] 24):=⟨_,rfl⟩;have hbY:Below w1.heap.size w1 Y:=by rw[hY];exact qad (Nat.le_refl _) _
    have hxY:Y.heap[w1.heap.size]?=some (.cells #[.int .i64 u.kind,.string u.name,.int .i64 u.sort,.slice A1 u.kids.length c1] 24 (0,0)):=by rw[hY];exact heap_alloc_new w1 _
    have hsY:w1.heap.size<Y.heap.size:=by rw[hY];simp
    have NY:=hdzz (N1.out.go hbY);have hrow:=NB.out.row;obtain⟨g,cg,w6,hap,hrow6,hbel6,hold6,hs6,hg6⟩:=qdo NY.out.row (by have:=NY.out.sz;omega) (u,A1,c1) (RepP.mono (fun b h=>by
     rcases h with h|h
     ·exact⟨.inl h,by have:=hPb _ h;omega,fun e=>by have:=(hrow.lt b e).1;have:=hPb _ h;omega⟩
     ·exact⟨.inr (by omega),by omega,fun e=>by have:=(hrow.lt b e).2;omega⟩) (fun p h=>hbY.cell (h.elim (fun h=>by have:=hPb _ h;omega) (fun h=>h.2))) _ _ _ hr1) (by have:=HLI.out;have:=HL8.out;have:=HLEN.out;omega)
    simp only at hap;have hz3:=(hold6 (w.heap.size+1+1) (by omega) (fun e=>by have:=(hrow.lt _ e).1;omega)).trans NY.out.b3;have hz2:=(hold6 (w.heap.size+1) (by omega) (fun e=>by have:=(hrow.lt _ e).1;omega)).trans NY.out.b2;have hz1:=(hold6 (w.heap.size) (by omega) (fun e=>by have:=(hrow.lt _ e).1;omega)).trans NY.out.b1;obtain⟨y0,y1,y2,y3,yf⟩:=qaa hxY;obtain⟨v0,v1,v2,v3,vf⟩:=qaa NY.out.b3;obtain⟨e0,e1,e2,e3,ef⟩:=qaa hz3;have N6:Hid (NrmB Pb w (.mk 3 n 0 l) (some ⟨b,off,none⟩) c n (.slice (some ⟨g,0,none⟩) (its.length+1) cg) (its++[(u,A1,c1)]) (w6.setCell ⟨w.heap.size+1+1,3,none⟩ (.slice (some ⟨g,0,none⟩) (its.length+1) cg))):=hdzz (by
     have hne:∀k,k≠w.heap.size+1+1→(w6.setCell ⟨w.heap.size+1+1,3,none⟩ (.slice (some ⟨g,0,none⟩) (its.length+1) cg)).heap[k]?=w6.heap[k]?:=fun k hk=>Below.heap_setCell _ _ _ _ (by exact hk);have hsy:=NY.out.sz;refine⟨(hne _ (by omega)).trans hz1,(hne _ (by omega)).trans hz2,qd6 hz3,hrow6.setCell (by show ¬(Pb (w.heap.size+1+1)∨w.heap.size+1+1+1≤w.heap.size+1+1);exact fun h=>h.elim (fun h=>by have:=hPb _ h;omega) (fun h=>by omega)) (by show w.heap.size+1+1<_;omega) _,?_,hPb,by simp[World.setCell];omega⟩;exact Below.setCell (hbel6 w w.heap.size NY.out.bel (by omega)) (by show w.heap.size≤w.heap.size+1+1;omega) _)
    have HY:=hdzz hY;clear hY hbY hxY hr1 hb1 hrow hrow6 hbel6 hold6 hg6 NX N1 NB NY hz1 hz2 hz3;go_upto_region 10 with fail
    rw[←HY.out];clear HY;go_wp2_with (at_builtin;refine qab rfl _ _ rfl rfl rfl hap ?_)
    go_roundw
    case rel=>exact⟨k+1,_,its++[(u,A1,c1)],by omega,by go_num,hdzz (by rw[List.map_append,HITS.out,HMK.out];rfl),N6⟩
    case measure=>simp[intOf];omega
   ·obtain rfl:k=l.length:=by omega
    have hmap:its.map (·.1)=L:=by have:=HITS.out;rw[←HLEN.out,List.take_length]at this;exact this
    obtain⟨Av,cv,hv,hS⟩:=NB.out.row.toS (P:=fun b=>(Pb b∨w.heap.size+1+1+1≤b)∧b<wr.heap.size) (fun b h h'=>⟨h,h'⟩) (fun b h h'=>⟨.inr h,h'⟩);rw[hmap]at hS;have hil:its.length=L.length:=by rw[←hmap,List.length_map]
    rw[hil]at hv;subst hv;obtain⟨m,hm⟩:∃m,m=L.length:=⟨_,rfl⟩;rw[←hm]at NB;have HM:=hdzz hm;have HS:=hdzz hS;have HR3:Hid (RepP wr (fun b=>(Pb b∨w.heap.size+1+1+1≤b)∧b<wr.heap.size) (.mk 3 n 0 L) Av cv):=hdzz (by rw[RepP_mk];exact⟨HR1.out,hS⟩);obtain⟨t0,t1,t2,t3,tf⟩:=qaa NB.out.b1;obtain⟨u0,u1,u2,u3,uf⟩:=qaa NB.out.b3;simp only[Tm.kind,Tm.name,Tm.sort,Tm.kids]at t0 t1 t2 t3;clear hmap hS hil hm HITS IH HML HRS;by_cases hn0:n=nFst
    ·subst hn0;have DS:=qcr nFst L Av cv wr _ (fun b hb=>hb.2) (by unfold desN;simp) HAR.out HARL.out HSZ.out HR3.out;obtain⟨q,hq⟩:∃q,q=qau nFst L:=⟨_,rfl⟩;have hqr:r=q:=by rw[hq,HRES.out,qa6 (by unfold desN;simp)]
     rw[←hq]at DS;simp only[Tm.val,Tm.kind,Tm.name,Tm.sort,Tm.kids,nFst]at DS t1 u1;rw[←HM.out]at DS;have DS:=hdzz DS;have HQR:=hdzz hqr;clear hq hqr;go_wp2_with fail
     refine DS.out.mono ?_;clear DS t0 t1 t2 t3 tf u0 u1 u2 u3 uf;rintro e w5 ⟨A5,c5,rfl,hr5,hb5⟩;simp only[Tm.val];have H5:=hdzz (NB.out.go hb5);have hs5:=hb5.size;have HR5:=hdzz hr5;obtain⟨z0,z1,z2,z3,zf⟩:=qaa H5.out.b2;have hsw:=NB.out.sz;clear hb5 hr5;go_wp2_with fail
     refine bodyPost_ret (v:=.tuple #[Tm.val (q) A5 c5,.int .i64 0]) ?_ rfl ?_
     ·simp[results,Tryz.results68,go_sem,z0,z1,z2,z3,Tm.val,Tm.kind,Tm.name,Tm.sort,Tm.kids]
     rw[HQR.out];exact qcz H5.out.bel NB.out.le (by omega) (RepP.mono (fun b h=>by exact h.elim (fun h=>⟨h.1.imp id (fun h=>by omega),by have:=h.2;omega⟩) (fun h=>⟨.inr (by omega),h.2⟩)) (fun _ _=>rfl) _ _ _ HR5.out)
    by_cases hn1:n=nSnd
    ·subst hn1;have DS:=qcr nSnd L Av cv wr _ (fun b hb=>hb.2) (by unfold desN;simp) HAR.out HARL.out HSZ.out HR3.out;obtain⟨q,hq⟩:∃q,q=qau nSnd L:=⟨_,rfl⟩;have hqr:r=q:=by rw[hq,HRES.out,qa6 (by unfold desN;simp)]
     rw[←hq]at DS;simp only[Tm.val,Tm.kind,Tm.name,Tm.sort,Tm.kids,nSnd]at DS t1 u1;rw[←HM.out]at DS;have DS:=hdzz DS;have HQR:=hdzz hqr;clear hq hqr;go_wp2_with fail
     refine DS.out.mono ?_;clear DS t0 t1 t2 t3 tf u0 u1 u2 u3 uf;rintro e w5 ⟨A5,c5,rfl,hr5,hb5⟩;simp only[Tm.val];have H5:=hdzz (NB.out.go hb5);have hs5:=hb5.size;have HR5:=hdzz hr5;obtain⟨z0,z1,z2,z3,zf⟩:=qaa H5.out.b2;have hsw:=NB.out.sz;clear hb5 hr5;go_wp2_with fail
     refine bodyPost_ret (v:=.tuple #[Tm.val (q) A5 c5,.int .i64 0]) ?_ rfl ?_
     ·simp[results,Tryz.results68,go_sem,z0,z1,z2,z3,Tm.val,Tm.kind,Tm.name,Tm.sort,Tm.kids]
     rw[HQR.out];exact qcz H5.out.bel NB.out.le (by omega) (RepP.mono (fun b h=>by exact h.elim (fun h=>⟨h.1.imp id (fun h=>by omega),by have:=h.2;omega⟩) (fun h=>⟨.inr (by omega),h.2⟩)) (fun _ _=>rfl) _ _ _ HR5.out)
    by_cases hn2:n=nDec
    ·subst hn2;have DS:=qcr nDec L Av cv wr _ (fun b hb=>hb.2) (by unfold desN;simp) HAR.out HARL.out HSZ.out HR3.out;obtain⟨q,hq⟩:∃q,q=qau nDec L:=⟨_,rfl⟩;have hqr:r=q:=by rw[hq,HRES.out,qa6 (by unfold desN;simp)]
     rw[←hq]at DS;simp only[Tm.val,Tm.kind,Tm.name,Tm.sort,Tm.kids,nDec]at DS t1 u1;rw[←HM.out]at DS;have DS:=hdzz DS;have HQR:=hdzz hqr;clear hq hqr;go_wp2_with fail
     refine DS.out.mono ?_;clear DS t0 t1 t2 t3 tf u0 u1 u2 u3 uf;rintro e w5 ⟨A5,c5,rfl,hr5,hb5⟩;simp only[Tm.val];have H5:=hdzz (NB.out.go hb5);have hs5:=hb5.size;have HR5:=hdzz hr5;obtain⟨z0,z1,z2,z3,zf⟩:=qaa H5.out.b2;have hsw:=NB.out.sz;clear hb5 hr5;go_wp2_with fail
     refine bodyPost_ret (v:=.tuple #[Tm.val (q) A5 c5,.int .i64 0]) ?_ rfl ?_
     ·simp[results,Tryz.results68,go_sem,z0,z1,z2,z3,Tm.val,Tm.kind,Tm.name,Tm.sort,Tm.kids]
     rw[HQR.out];exact qcz H5.out.bel NB.out.le (by omega) (RepP.mono (fun b h=>by exact h.elim (fun h=>⟨h.1.imp id (fun h=>by omega),by have:=h.2;omega⟩) (fun h=>⟨.inr (by omega),h.2⟩)) (fun _ _=>rfl) _ _ _ HR5.out)
    by_cases hn3:n=qbq
    ·subst hn3;have DS:=qcr qbq L Av cv wr _ (fun b hb=>hb.2) (by unfold desN;simp) HAR.out HARL.out HSZ.out HR3.out;obtain⟨q,hq⟩:∃q,q=qau qbq L:=⟨_,rfl⟩;have hqr:r=q:=by rw[hq,HRES.out,qa6 (by unfold desN;simp)]
     rw[←hq]at DS;simp only[Tm.val,Tm.kind,Tm.name,Tm.sort,Tm.kids,qbq]at DS t1 u1;rw[←HM.out]at DS;have DS:=hdzz DS;have HQR:=hdzz hqr;clear hq hqr;go_wp2_with fail
     refine DS.out.mono ?_;clear DS t0 t1 t2 t3 tf u0 u1 u2 u3 uf;rintro e w5 ⟨A5,c5,rfl,hr5,hb5⟩;simp only[Tm.val];have H5:=hdzz (NB.out.go hb5);have hs5:=hb5.size;have HR5:=hdzz hr5;obtain⟨z0,z1,z2,z3,zf⟩:=qaa H5.out.b2;have hsw:=NB.out.sz;clear hb5 hr5;go_wp2_with fail
     refine bodyPost_ret (v:=.tuple #[Tm.val (q) A5 c5,.int .i64 0]) ?_ rfl ?_
     ·simp[results,Tryz.results68,go_sem,z0,z1,z2,z3,Tm.val,Tm.kind,Tm.name,Tm.sort,Tm.kids]
     rw[HQR.out];exact qcz H5.out.bel NB.out.le (by omega) (RepP.mono (fun b h=>by exact h.elim (fun h=>⟨h.1.imp id (fun h=>by omega),by have:=h.2;omega⟩) (fun h=>⟨.inr (by omega),h.2⟩)) (fun _ _=>rfl) _ _ _ HR5.out)
    by_cases hn4:n=qbp
    ·subst hn4;have DS:=qcr qbp L Av cv wr _ (fun b hb=>hb.2) (by unfold desN;simp) HAR.out HARL.out HSZ.out HR3.out;obtain⟨q,hq⟩:∃q,q=qau qbp L:=⟨_,rfl⟩;have hqr:r=q:=by rw[hq,HRES.out,qa6 (by unfold desN;simp)]
     rw[←hq]at DS;simp only[Tm.val,Tm.kind,Tm.name,Tm.sort,Tm.kids,qbp]at DS t1 u1;rw[←HM.out]at DS;have DS:=hdzz DS;have HQR:=hdzz hqr;clear hq hqr;go_wp2_with fail
     refine DS.out.mono ?_;clear DS t0 t1 t2 t3 tf u0 u1 u2 u3 uf;rintro e w5 ⟨A5,c5,rfl,hr5,hb5⟩;simp only[Tm.val];have H5:=hdzz (NB.out.go hb5);have hs5:=hb5.size;have HR5:=hdzz hr5;obtain⟨z0,z1,z2,z3,zf⟩:=qaa H5.out.b2;have hsw:=NB.out.sz;clear hb5 hr5;go_wp2_with fail
     refine bodyPost_ret (v:=.tuple #[Tm.val (q) A5 c5,.int .i64 0]) ?_ rfl ?_
     ·simp[results,Tryz.results68,go_sem,z0,z1,z2,z3,Tm.val,Tm.kind,Tm.name,Tm.sort,Tm.kids]
     rw[HQR.out];exact qcz H5.out.bel NB.out.le (by omega) (RepP.mono (fun b h=>by exact h.elim (fun h=>⟨h.1.imp id (fun h=>by omega),by have:=h.2;omega⟩) (fun h=>⟨.inr (by omega),h.2⟩)) (fun _ _=>rfl) _ _ _ HR5.out)
    by_cases hn5:n=qc1
    ·subst hn5;have DS:=qcr qc1 L Av cv wr _ (fun b hb=>hb.2) (by unfold desN;simp) HAR.out HARL.out HSZ.out HR3.out;obtain⟨q,hq⟩:∃q,q=qau qc1 L:=⟨_,rfl⟩;have hqr:r=q:=by rw[hq,HRES.out,qa6 (by unfold desN;simp)]
     rw[←hq]at DS;simp only[Tm.val,Tm.kind,Tm.name,Tm.sort,Tm.kids,qc1]at DS t1 u1;rw[←HM.out]at DS;have DS:=hdzz DS;have HQR:=hdzz hqr;clear hq hqr;go_wp2_with fail
     refine DS.out.mono ?_;clear DS t0 t1 t2 t3 tf u0 u1 u2 u3 uf;rintro e w5 ⟨A5,c5,rfl,hr5,hb5⟩;simp only[Tm.val];have H5:=hdzz (NB.out.go hb5);have hs5:=hb5.size;have HR5:=hdzz hr5;obtain⟨z0,z1,z2,z3,zf⟩:=qaa H5.out.b2;have hsw:=NB.out.sz;clear hb5 hr5;go_wp2_with fail
     refine bodyPost_ret (v:=.tuple #[Tm.val (q) A5 c5,.int .i64 0]) ?_ rfl ?_
     ·simp[results,Tryz.results68,go_sem,z0,z1,z2,z3,Tm.val,Tm.kind,Tm.name,Tm.sort,Tm.kids]
     rw[HQR.out];exact qcz H5.out.bel NB.out.le (by omega) (RepP.mono (fun b h=>by exact h.elim (fun h=>⟨h.1.imp id (fun h=>by omega),by have:=h.2;omega⟩) (fun h=>⟨.inr (by omega),h.2⟩)) (fun _ _=>rfl) _ _ _ HR5.out)
    by_cases hn6:n=nXor
    ·subst hn6;obtain⟨hx1,hx2,hx3⟩:=HF.out.1 rfl;have SM:=xsum_any L Av cv wr hx1 hx2 hx3 (by have:=qfj hx2;have:=HL8.out;omega) (RepS.mono (fun b h=>h.2) (fun _ _=>rfl) HS.out);obtain⟨q,hq⟩:∃q,q=xorT (Tm.sumds L []):=⟨_,rfl⟩;have hqr:r=q:=by rw[hq,HRES.out,qbl]
     rw[←hq,←HM.out]at SM;simp only[nXor]at t1 u1;have SM:=hdzz SM;have HQR:=hdzz hqr;clear hq hqr hx1 hx2 hx3;go_wp2_with fail
     refine SM.out.mono ?_;clear SM t0 t1 t2 t3 tf u0 u1 u2 u3 uf;rintro e w5 ⟨A5,c5,rfl,hr5,hb5⟩;simp only[Tm.val];have H5:=hdzz (NB.out.go hb5);have hs5:=hb5.size;have HR5:=hdzz hr5;obtain⟨z0,z1,z2,z3,zf⟩:=qaa H5.out.b2;have hsw:=NB.out.sz;clear hb5 hr5;go_wp2_with fail
     refine bodyPost_ret (v:=.tuple #[Tm.val (q) A5 c5,.int .i64 0]) ?_ rfl ?_
     ·simp[results,Tryz.results68,go_sem,z0,z1,z2,z3,Tm.val,Tm.kind,Tm.name,Tm.sort,Tm.kids]
     rw[HQR.out];exact qcz H5.out.bel NB.out.le (by omega) (RepP.mono (fun b h=>⟨.inr (by omega),h.2⟩) (fun _ _=>rfl) _ _ _ HR5.out)
    by_cases hn7:n=nMul
    ·subst hn7;obtain⟨hy1,hy2⟩:=HF.out.2.1 (by unfold symN;simp);have OF:=qh0 (.mk 3 nMul 0 L) Av cv wr hy1 (RepP.mono (fun b h=>h.2) (fun _ _=>rfl) _ _ _ HR3.out);have HOQ:=hdzz (Okp.ofT (.mk 3 nMul 0 L));obtain⟨p,hp⟩:∃p,p=ofT (.mk 3 nMul 0 L):=⟨_,rfl⟩;have hqr:r=prodT p:=by rw[hp,HRES.out,qa5 (by unfold symN;simp)]
     rw[←hp]at OF HOQ hy2;have TM:Hid (∀(Z:World) (A':Option Addr) (c':Nat),RepW Z (fun b=>b<Z.heap.size) p A' c'→Calls Tryz.prog 107 #[.slice A' p.length c'] Z (OkT (prodT p) Z)):=hdzz fun Z A' c' h=>qew p A' c' Z hy2 HOQ.out h;obtain⟨q,hq⟩:∃q,q=prodT p:=⟨_,rfl⟩;rw[←hq]at TM hqr;obtain⟨np,hnp⟩:∃np,np=p.length:=⟨_,rfl⟩;have HNP:=hdzz hnp;rw[←hnp]at TM;simp only[Tm.val,Tm.kind,Tm.name,Tm.sort,Tm.kids,nMul]at OF t1 u1;rw[←HM.out]at OF;have OF:=hdzz OF;have HQR:=hdzz hqr;clear hq hqr hy1 hy2 hp hnp;go_wp2_with fail
     refine OF.out.mono ?_;clear OF t0 t1 t2 t3 tf u0 u1 u2 u3 uf;rintro e w4 ⟨A4,c4,rfl,hr4,hb4⟩;rw[←HNP.out];have H4:=hdzz (NB.out.go hb4);have hs4:=hb4.size;have TM:=hdzz (TM.out w4 A4 c4 (hr4.mono (fun _ h=>h.2) (fun _ _=>rfl)));clear hb4 hr4;go_wp2_with fail
     refine TM.out.mono ?_;clear TM;rintro e w5 ⟨A5,c5,rfl,hr5,hb5⟩;simp only[Tm.val];have H5:=hdzz (H4.out.go hb5);have hs5:=hb5.size;have HR5:=hdzz hr5;obtain⟨z0,z1,z2,z3,zf⟩:=qaa H5.out.b2;have hsw:=NB.out.sz;clear hb5 hr5;go_wp2_with fail
     refine bodyPost_ret (v:=.tuple #[Tm.val (q) A5 c5,.int .i64 0]) ?_ rfl ?_
     ·simp[results,Tryz.results68,go_sem,z0,z1,z2,z3,Tm.val,Tm.kind,Tm.name,Tm.sort,Tm.kids]
     rw[HQR.out];exact qcz H5.out.bel NB.out.le (by omega) (RepP.mono (fun b h=>⟨.inr (by omega),h.2⟩) (fun _ _=>rfl) _ _ _ HR5.out)
    by_cases hn8:n=nInv
    ·subst hn8;obtain⟨hy1,hy2⟩:=HF.out.2.1 (by unfold symN;simp);have OF:=qh0 (.mk 3 nInv 0 L) Av cv wr hy1 (RepP.mono (fun b h=>h.2) (fun _ _=>rfl) _ _ _ HR3.out);have HOQ:=hdzz (Okp.ofT (.mk 3 nInv 0 L));obtain⟨p,hp⟩:∃p,p=ofT (.mk 3 nInv 0 L):=⟨_,rfl⟩;have hqr:r=prodT p:=by rw[hp,HRES.out,qa5 (by unfold symN;simp)]
     rw[←hp]at OF HOQ hy2;have TM:Hid (∀(Z:World) (A':Option Addr) (c':Nat),RepW Z (fun b=>b<Z.heap.size) p A' c'→Calls Tryz.prog 107 #[.slice A' p.length c'] Z (OkT (prodT p) Z)):=hdzz fun Z A' c' h=>qew p A' c' Z hy2 HOQ.out h;obtain⟨q,hq⟩:∃q,q=prodT p:=⟨_,rfl⟩;rw[←hq]at TM hqr;obtain⟨np,hnp⟩:∃np,np=p.length:=⟨_,rfl⟩;have HNP:=hdzz hnp;rw[←hnp]at TM;simp only[Tm.val,Tm.kind,Tm.name,Tm.sort,Tm.kids,nInv]at OF t1 u1;rw[←HM.out]at OF;have OF:=hdzz OF;have HQR:=hdzz hqr;clear hq hqr hy1 hy2 hp hnp;go_wp2_with fail
     refine OF.out.mono ?_;clear OF t0 t1 t2 t3 tf u0 u1 u2 u3 uf;rintro e w4 ⟨A4,c4,rfl,hr4,hb4⟩;rw[←HNP.out];have H4:=hdzz (NB.out.go hb4);have hs4:=hb4.size;have TM:=hdzz (TM.out w4 A4 c4 (hr4.mono (fun _ h=>h.2) (fun _ _=>rfl)));clear hb4 hr4;go_wp2_with fail
     refine TM.out.mono ?_;clear TM;rintro e w5 ⟨A5,c5,rfl,hr5,hb5⟩;simp only[Tm.val];have H5:=hdzz (H4.out.go hb5);have hs5:=hb5.size;have HR5:=hdzz hr5;obtain⟨z0,z1,z2,z3,zf⟩:=qaa H5.out.b2;have hsw:=NB.out.sz;clear hb5 hr5;go_wp2_with fail
     refine bodyPost_ret (v:=.tuple #[Tm.val (q) A5 c5,.int .i64 0]) ?_ rfl ?_
     ·simp[results,Tryz.results68,go_sem,z0,z1,z2,z3,Tm.val,Tm.kind,Tm.name,Tm.sort,Tm.kids]
     rw[HQR.out];exact qcz H5.out.bel NB.out.le (by omega) (RepP.mono (fun b h=>⟨.inr (by omega),h.2⟩) (fun _ _=>rfl) _ _ _ HR5.out)
    by_cases hn9:n=nOne
    ·subst hn9;obtain⟨hy1,hy2⟩:=HF.out.2.1 (by unfold symN;simp);have OF:=qh0 (.mk 3 nOne 0 L) Av cv wr hy1 (RepP.mono (fun b h=>h.2) (fun _ _=>rfl) _ _ _ HR3.out);have HOQ:=hdzz (Okp.ofT (.mk 3 nOne 0 L));obtain⟨p,hp⟩:∃p,p=ofT (.mk 3 nOne 0 L):=⟨_,rfl⟩;have hqr:r=prodT p:=by rw[hp,HRES.out,qa5 (by unfold symN;simp)]
     rw[←hp]at OF HOQ hy2;have TM:Hid (∀(Z:World) (A':Option Addr) (c':Nat),RepW Z (fun b=>b<Z.heap.size) p A' c'→Calls Tryz.prog 107 #[.slice A' p.length c'] Z (OkT (prodT p) Z)):=hdzz fun Z A' c' h=>qew p A' c' Z hy2 HOQ.out h;obtain⟨q,hq⟩:∃q,q=prodT p:=⟨_,rfl⟩;rw[←hq]at TM hqr;obtain⟨np,hnp⟩:∃np,np=p.length:=⟨_,rfl⟩;have HNP:=hdzz hnp;rw[←hnp]at TM;simp only[Tm.val,Tm.kind,Tm.name,Tm.sort,Tm.kids,nOne]at OF t1 u1;rw[←HM.out]at OF;have OF:=hdzz OF;have HQR:=hdzz hqr;clear hq hqr hy1 hy2 hp hnp;go_wp2_with fail
     refine OF.out.mono ?_;clear OF t0 t1 t2 t3 tf u0 u1 u2 u3 uf;rintro e w4 ⟨A4,c4,rfl,hr4,hb4⟩;rw[←HNP.out];have H4:=hdzz (NB.out.go hb4);have hs4:=hb4.size;have TM:=hdzz (TM.out w4 A4 c4 (hr4.mono (fun _ h=>h.2) (fun _ _=>rfl)));clear hb4 hr4;go_wp2_with fail
     refine TM.out.mono ?_;clear TM;rintro e w5 ⟨A5,c5,rfl,hr5,hb5⟩;simp only[Tm.val];have H5:=hdzz (H4.out.go hb5);have hs5:=hb5.size;have HR5:=hdzz hr5;obtain⟨z0,z1,z2,z3,zf⟩:=qaa H5.out.b2;have hsw:=NB.out.sz;clear hb5 hr5;go_wp2_with fail
     refine bodyPost_ret (v:=.tuple #[Tm.val (q) A5 c5,.int .i64 0]) ?_ rfl ?_
     ·simp[results,Tryz.results68,go_sem,z0,z1,z2,z3,Tm.val,Tm.kind,Tm.name,Tm.sort,Tm.kids]
     rw[HQR.out];exact qcz H5.out.bel NB.out.le (by omega) (RepP.mono (fun b h=>⟨.inr (by omega),h.2⟩) (fun _ _=>rfl) _ _ _ HR5.out)
    by_cases hn10:n=nExp
    ·subst hn10;have hl2:L.length=2:=HAR.out.1 (by simp);obtain⟨kb,ko,A1,c1,hke,hkb,k0,k1,k2,k3,k1r⟩:=qal HR3.out 1 (by show 1<L.length;omega);obtain⟨kb',ko',A0,c0,hke0,-,j0,j1,j2,j3,k0r⟩:=qal HR3.out 0 (by show 0<L.length;omega);subst hke;injection hke0 with hke0;injection hke0 with e1 e2;subst e1 e2;have hkb:=hkb.2;rw[show(Tm.mk 3 nExp 0 L).kids=L from rfl,Nat.one_mul]at k0 k1 k2 k3;rw[show(Tm.mk 3 nExp 0 L).kids=L from rfl,Nat.zero_mul,Nat.add_zero]at j0 j1 j2 j3;rw[show(Tm.mk 3 nExp 0 L).kids=L from rfl]at k1r k0r;have hsw:=NB.out.sz;have hbd:Below wr.heap.size wr wr.drew:=(Below.refl _ _).drew
     have RA:=qmr (kidT L 0) (kidT L 1) A0 A1 c0 c1 wr.drew (fun b=>(Pb b∨w.heap.size+1+1+1≤b)∧b<wr.heap.size) (fun b h=>h.2) (HF.out.2.2 rfl) (ArT.kidl HARL.out 0) (RepP.mono (fun _ h=>h) (fun p h=>hbd.cell h.2) _ _ _ k0r) (RepP.mono (fun b h=>h.2) (fun p h=>hbd.cell h.2) _ _ _ k1r);obtain⟨q,hq⟩:∃q,q=qbc (kidT L 0) (kidT L 1):=⟨_,rfl⟩;have hqr:r=q:=by rw[hq,HRES.out,qbz]
     rw[←hq]at RA;obtain⟨x1,hx1⟩:∃x,x=kidT L 1:=⟨_,rfl⟩;obtain⟨x0,hx0⟩:∃x,x=kidT L 0:=⟨_,rfl⟩;rw[←hx1]at k0 k1 k2 k3 RA;rw[←hx0]at j0 j1 j2 j3 RA;simp only[Tm.val]at RA;simp only[nExp]at t1 u1;have RA:=hdzz RA;have HQR:=hdzz hqr;have NX:Hid (NrmB Pb w (.mk 3 nExp 0 l) A c nExp (.slice (some ⟨kb,ko,none⟩) m cv) its wr.drew):=hdzz (NB.out.go hbd);obtain rfl:m=2:=HM.out.trans hl2;have HSD:Hid (wr.drew.heap.size=wr.heap.size):=hdzz rfl;have hle0:kb<wr.drew.heap.size:=hkb;have hle1:w.heap.size+1+1+1≤wr.drew.heap.size:=hsw;obtain⟨v0,v1,v2,v3,vf⟩:=qaa NX.out.b3;have k0:wr.drew.cell? ⟨kb,ko+4,none⟩=_:=k0;have k1:wr.drew.cell? ⟨kb,ko+4+1,none⟩=_:=k1;have k2:wr.drew.cell? ⟨kb,ko+4+2,none⟩=_:=k2;have k3:wr.drew.cell? ⟨kb,ko+4+3,none⟩=_:=k3
     have j0:wr.drew.cell? ⟨kb,ko,none⟩=_:=j0;have j1:wr.drew.cell? ⟨kb,ko+1,none⟩=_:=j1;have j2:wr.drew.cell? ⟨kb,ko+2,none⟩=_:=j2;have j3:wr.drew.cell? ⟨kb,ko+3,none⟩=_:=j3;clear hq hqr hx1 hx0 k1r k0r hl2 hbd u0 u1 u2 u3 uf hkb hsw;go_wp2_with fail
     refine qbk (fun Y=>Below wr.drew.heap.size wr.drew Y) 11 (.held 0 (.held 1 (.held 2 (.held 3 (.held 4 (.held 5 (.held 6 (.held 7 (.op 8 (.held 9 (.held 10 (.op 11 (.op 12 .nil))))))))))))) mixed (by kernel_rfl) ?_;generalize wr.drew=Z at *;clear t0 t1 t2 t3 tf;refine qai (v:=.pointer (some ⟨w.heap.size+1+1,3,none⟩)) rfl rfl (fun _ _ _ h=>h) (Below.refl _ _) (fun Y hY=>by
      skip
      (try simp only[Act.put]);go_simp) ?_
     refine qai (v:=.slice (some ⟨kb,ko,none⟩) 2 cv) rfl rfl (fun _ _ _ h=>h) (Below.refl _ _) (fun Y hY=>by
      have z3:=sclz hY v3 (by omega)
      (try simp only[Act.put]);go_simp) ?_
     refine qai (v:=.pointer (some ⟨kb,ko,none⟩)) rfl rfl (fun _ _ _ h=>h) (Below.refl _ _) (fun Y hY=>by
      skip
      (try simp only[Act.put]);go_simp) ?_
     simp only[Act.put,fsa,fsb,fsc,fsd,fse,fsf];refine qai (v:=.agg #[.int .i64 x0.kind,.string x0.name,.int .i64 x0.sort,.slice A0 x0.kids.length c0]) rfl rfl (fun _ _ _ h=>h) (Below.refl _ _) (fun Y hY=>by
      have z0:=sclz hY j0 (by omega);have z1:=sclz hY j1 (by omega);have z2:=sclz hY j2 (by omega);have z3:=sclz hY j3 (by omega)
      (try simp only[Act.put]);go_simp) ?_
     simp only[Act.put,fsa,fsb,fsc,fsd,fse,fsf];refine qai (v:=.pointer (some ⟨w.heap.size+1+1,3,none⟩)) rfl rfl (fun _ _ _ h=>h) (Below.refl _ _) (fun Y hY=>by
      skip
      (try simp only[Act.put]);go_simp) ?_
     refine qai (v:=.slice (some ⟨kb,ko,none⟩) 2 cv) rfl rfl (fun _ _ _ h=>h) (Below.refl _ _) (fun Y hY=>by
      have z3:=sclz hY v3 (by omega)
      (try simp only[Act.put]);go_simp) ?_
     refine qai (v:=.pointer (some ⟨kb,ko+4,none⟩)) rfl rfl (fun _ _ _ h=>h) (Below.refl _ _) (fun Y hY=>by
      skip
      (try simp only[Act.put]);go_simp) ?_
     simp only[Act.put,fsa,fsb,fsc,fsd,fse,fsf];refine qai (v:=.agg #[.int .i64 x1.kind,.string x1.name,.int .i64 x1.sort,.slice A1 x1.kids.length c1]) rfl rfl (fun _ _ _ h=>h) (Below.refl _ _) (fun Y hY=>by
      have z0:=sclz hY k0 (by omega);have z1:=sclz hY k1 (by omega);have z2:=sclz hY k2 (by omega);have z3:=sclz hY k3 (by omega)
      (try simp only[Act.put]);go_simp) ?_
     simp only[Act.put,fsa,fsb,fsc,fsd,fse,fsf];refine qbu rfl rfl (fun K hK=>?_);go_wp2_with fail
     refine RA.out.mono ?_;clear RA k0 k1 k2 k3 j0 j1 j2 j3 v0 v1 v2 v3 vf;rintro e w5 ⟨A5,c5,rfl,hr5,hb5⟩;simp only[Tm.val];refine hK _ _ ⟨fun _=>hb5,?_⟩;clear hK K;have H5:=hdzz (NX.out.go hb5);have hs5:=hb5.size;have HR5:=hdzz hr5;obtain⟨z0,z1,z2,z3,zf⟩:=qaa H5.out.b2;refine qai (v:=.agg #[.int .i64 q.kind,.string q.name,.int .i64 q.sort,.slice A5 q.kids.length c5]) rfl rfl (fun _ _ _ h=>h) hb5 (fun Y hY=>by
      (try simp only[Act.put]);go_simp) ?_
     refine qai (v:=.int .i64 0) rfl rfl (fun _ _ _ h=>h) hb5 (fun Y hY=>by
      (try simp only[Act.put]);go_simp) ?_
     simp only[Act.put,fsa,fsb,fsc,fsd,fse,fsf];refine qbu rfl rfl (fun K hK=>?_);go_wp2_with fail
     refine qbu rfl rfl (fun K hK=>?_);go_wp2_with fail
     refine⟨fun h=>absurd h (by decide),qd0 ?_⟩;go_wp2_with fail
     refine bodyPost_ret (v:=.tuple #[Tm.val (q) A5 c5,.int .i64 0]) ?_ rfl ?_
     ·simp[results,Tryz.results68,go_sem,z0,z1,z2,z3,Tm.val,Tm.kind,Tm.name,Tm.sort,Tm.kids]
     rw[HQR.out];have hsd:=HSD.out;exact qcz H5.out.bel NB.out.le (by omega) (RepP.mono (fun b h=>by exact h.elim (fun h=>⟨h.1.imp id (fun h=>by omega),by have:=h.2;omega⟩) (fun h=>⟨.inr (by omega),h.2⟩)) (fun _ _=>rfl) _ _ _ HR5.out)
    have HN0:Hid (¬desN n):=hdzz (by unfold desN;simp[hn0,hn1,hn2,hn3,hn4,hn5]);have HN1:Hid (n≠nXor):=hdzz hn6;have HN2:Hid (¬symN n):=hdzz (by unfold symN;simp[hn7,hn8,hn9]);have HN3:Hid (n≠nExp):=hdzz hn10;have g0:(n.toList==[102,115,116])=false:=by rw[Bool.eq_false_iff];exact fun e=>hn0 ((qat (c:=nFst) rfl).2 e)
    have g1:(n.toList==[115,110,100])=false:=by rw[Bool.eq_false_iff];exact fun e=>hn1 ((qat (c:=nSnd) rfl).2 e)
    have g2:(n.toList==[100,101,99])=false:=by rw[Bool.eq_false_iff];exact fun e=>hn2 ((qat (c:=nDec) rfl).2 e)
    have g3:(n.toList==[97,100,101,99])=false:=by rw[Bool.eq_false_iff];exact fun e=>hn3 ((qat (c:=qbq) rfl).2 e)
    have g4:(n.toList==[111,112,101,110])=false:=by rw[Bool.eq_false_iff];exact fun e=>hn4 ((qat (c:=qbp) rfl).2 e)
    have g5:(n.toList==[114,101,97,100])=false:=by rw[Bool.eq_false_iff];exact fun e=>hn5 ((qat (c:=qc1) rfl).2 e)
    have g6:(n.toList==[120,111,114])=false:=by rw[Bool.eq_false_iff];exact fun e=>hn6 ((qat (c:=nXor) rfl).2 e)
    have g7:(n.toList==[109,117,108])=false:=by rw[Bool.eq_false_iff];exact fun e=>hn7 ((qat (c:=nMul) rfl).2 e)
    have g8:(n.toList==[105,110,118])=false:=by rw[Bool.eq_false_iff];exact fun e=>hn8 ((qat (c:=nInv) rfl).2 e)
    have g9:(n.toList==[111,110,101])=false:=by rw[Bool.eq_false_iff];exact fun e=>hn9 ((qat (c:=nOne) rfl).2 e)
    have g10:(n.toList==[101,120,112])=false:=by rw[Bool.eq_false_iff];exact fun e=>hn10 ((qat (c:=nExp) rfl).2 e)
    clear hn0 hn1 hn2 hn3 hn4 hn5 hn6 hn7 hn8 hn9 hn10;have hqr:r=.mk 3 n 0 L:=by rw[HRES.out,qbd HN0.out HN1.out HN2.out HN3.out]
    have HQR:=hdzz hqr;clear hqr;obtain⟨z0,z1,z2,z3,zf⟩:=qaa NB.out.b2;have hsw:=NB.out.sz;go_wp2_with fail
    refine bodyPost_ret (v:=.tuple #[.agg #[.int .i64 3,.string n,.int .i64 0,.slice Av m cv],.int .i64 0]) ?_ rfl ?_
    ·simp[results,Tryz.results68,go_sem,z0,z1,z2,z3]
    rw[HQR.out,HM.out];exact qcz NB.out.bel NB.out.le (by omega) (RepP.mono (fun b h=>⟨h.1.imp id (fun h=>by omega),h.2⟩) (fun _ _=>rfl) _ _ _ HR3.out)
def qfh (s:Sy):List Value:=[.string s.nm,.int .i64 s.lo,.int .i64 s.hi,.int .i64 s.kd]
def qbv (l:List Sy):List Value:=l.flatMap qfh
theorem qi8 (l:List Sy) (s:Sy):qbv (l++[s])=qbv l++qfh s:=by simp[qbv]
theorem slSym:SlT 137 140 4 40 (.agg #[.string ⟨#[]⟩,.int .i64 0,.int .i64 0,.int .i64 0]):=⟨Tryz.underlying137,by kernel_rfl,rfl,by decide,by decide⟩
structure SyAt (ob:Nat) (w:World) (l:List Sy):Prop where
 box:∃v,w.heap[ob]?=some (.cells #[v] 137 (0,0))∧w.ownsRow (ob+1) 140 4 v l.length (qbv l)
 lt:ob<w.heap.size
theorem SyAt.below {ob:Nat} {w w':World} {l:List Sy} (h:SyAt ob w l) (hb:Below w.heap.size w w'):SyAt ob w' l:=by
 obtain⟨⟨v,h1,h2⟩,h3⟩:=h;exact⟨⟨v,(hb.block ob h3).trans h1,qkm h2 hb⟩,Nat.lt_of_lt_of_le h3 hb.size⟩
theorem qnp (s:Sy) (ob:Nat) (l:List Sy) (w:World) (hl:l.length≤100) (h:SyAt ob w l) :
  Calls Tryz.prog 179 #[.int .i64 s.kd,.string s.nm,.int .i64 s.lo,.int .i64 s.hi,.pointer (some ⟨ob,0,none⟩)] w fun e w'=>e=.returned (.tuple #[])∧SyAt ob w' (l++[s])∧Below ob w w':=by
 obtain⟨⟨v,hbx,hrow⟩,hlt⟩:=h;have r0:w.cell? ⟨ob,0,none⟩=some v:=by simp[World.cell?,hbx]
 obtain⟨g,c,w5,hap,hr5,hg5⟩:=row_add slSym hrow (Nat.succ_le_of_lt hlt) (qfh s) rfl (fun u hu=>by
  simp only[qfh,List.mem_cons,List.not_mem_nil,or_false]at hu;rcases hu with rfl|rfl|rfl|rfl<;>rfl) (by omega)
 have hne:∀k,v.ownBlock=some k→k≠ob:=fun k hk e=>by have:=(hrow.lt k hk).1;omega
 have hz:w5.heap[ob]?=some (.cells #[v] 137 (0,0)):=(hg5.old ob hlt (fun e=>hne ob e rfl)).trans hbx;have q0:w5.cell? ⟨ob,0,none⟩=some v:=by simp[World.cell?,hz]
 have q1:w5.frozen? ⟨ob,0,none⟩=false:=by simp[World.frozen?,hz]
 have hfin:SyAt ob (w5.setCell ⟨ob,0,none⟩ (.slice (some ⟨g,0,none⟩) (l.length+1) c)) (l++[s])∧Below ob w (w5.setCell ⟨ob,0,none⟩ (.slice (some ⟨g,0,none⟩) (l.length+1) c)):=by
  refine⟨⟨⟨.slice (some ⟨g,0,none⟩) (l.length+1) c,?_,?_⟩,by have:=hg5.size;simp[World.setCell];omega⟩,(hg5.below.mono (Nat.le_succ _)).setCell (Nat.le_refl _) _⟩
  ·simp[World.setCell,Array.getElem?_modify,hz]
  ·rw[List.length_append,qi8];exact own_keep hr5 (fun q hq=>Below.heap_setCell _ _ _ _ (by have:=(hr5.lt _ hq).1;show q≠ob;omega))
 have HF:=hdzz hfin;clear hfin hrow hr5 hg5 hz hne;simp only[qfh]at hap;go_enter Tryz.func179,Tryz.ntmps179
 go_wp2_with (at_builtin;refine qab rfl _ _ rfl rfl rfl hap ?_)
 refine bodyPost_end (results_none Tryz.results179 _ _ _) rfl ?_;exact⟨rfl,HF.out⟩
theorem qlb (w:World):Calls Tryz.prog 167 #[] w fun e w'=>∃A c,e=.returned (.slice A 21 c)∧RepV w' (fun b=>w.heap.size≤b∧b<w'.heap.size) 4 (qbv tabS) A 21 c∧Below w.heap.size w w':=by
 obtain⟨V,hV⟩:∃V,V=w.alloc (.cells #[.slice none 0 0] 137):=⟨_,rfl⟩;have h0:SyAt w.heap.size V []:=by rw[hV];exact⟨⟨_,heap_alloc_new _ _,World.ownsRow_nil _ _ _ _⟩,by simp⟩
 have b0:Below w.heap.size w V:=by rw[hV];exact qad (Nat.le_refl _) _
 have HV:=hdzz hV;clear hV;have H0:=hdzz h0;clear h0;have B0:=hdzz b0;clear b0;have AD:Hid (∀(s:Sy) (l:List Sy) (W:World),l.length≤100→Hid (SyAt w.heap.size W l)→Calls Tryz.prog 179 #[.int .i64 s.kd,.string s.nm,.int .i64 s.lo,.int .i64 s.hi,.pointer (some ⟨w.heap.size,0,none⟩)] W fun e w'=>e=.returned (.tuple #[])∧SyAt w.heap.size w' (l++[s])∧Below w.heap.size W w'):=
  hdzz fun s l W hl h=>qnp s w.heap.size l W hl h.out
 go_enter Tryz.func167,Tryz.ntmps167
 go_wp2_with fail
 rw[←HV.out];clear HV;go_wp2_with fail
 refine(AD.out tabS[0] (tabS.take 0) _ (by decide) H0).mono ?_;rintro e w1 ⟨rfl,h1,b1⟩;have H1:=hdzz h1;clear h1 H0;have B1:=hdzz (B0.out.trans b1);clear b1 B0;go_wp2_with fail
 refine(AD.out tabS[1] (tabS.take 1) _ (by decide) H1).mono ?_;rintro e w2 ⟨rfl,h2,b2⟩;have H2:=hdzz h2;clear h2 H1;have B2:=hdzz (B1.out.trans b2);clear b2 B1;go_wp2_with fail
 refine(AD.out tabS[2] (tabS.take 2) _ (by decide) H2).mono ?_;rintro e w3 ⟨rfl,h3,b3⟩;have H3:=hdzz h3;clear h3 H2;have B3:=hdzz (B2.out.trans b3);clear b3 B2;go_wp2_with fail
 refine(AD.out tabS[3] (tabS.take 3) _ (by decide) H3).mono ?_;rintro e w4 ⟨rfl,h4,b4⟩;have H4:=hdzz h4;clear h4 H3;have B4:=hdzz (B3.out.trans b4);clear b4 B3;go_wp2_with fail
 refine(AD.out tabS[4] (tabS.take 4) _ (by decide) H4).mono ?_;rintro e w5 ⟨rfl,h5,b5⟩;have H5:=hdzz h5;clear h5 H4;have B5:=hdzz (B4.out.trans b5);clear b5 B4;go_wp2_with fail
 refine(AD.out tabS[5] (tabS.take 5) _ (by decide) H5).mono ?_;rintro e w6 ⟨rfl,h6,b6⟩;have H6:=hdzz h6;clear h6 H5;have B6:=hdzz (B5.out.trans b6);clear b6 B5;go_wp2_with fail
 refine(AD.out tabS[6] (tabS.take 6) _ (by decide) H6).mono ?_;rintro e w7 ⟨rfl,h7,b7⟩;have H7:=hdzz h7;clear h7 H6;have B7:=hdzz (B6.out.trans b7);clear b7 B6;go_wp2_with fail
 refine(AD.out tabS[7] (tabS.take 7) _ (by decide) H7).mono ?_;rintro e w8 ⟨rfl,h8,b8⟩;have H8:=hdzz h8;clear h8 H7;have B8:=hdzz (B7.out.trans b8);clear b8 B7;go_wp2_with fail
 refine(AD.out tabS[8] (tabS.take 8) _ (by decide) H8).mono ?_;rintro e w9 ⟨rfl,h9,b9⟩;have H9:=hdzz h9;clear h9 H8;have B9:=hdzz (B8.out.trans b9);clear b9 B8;go_wp2_with fail
 refine(AD.out tabS[9] (tabS.take 9) _ (by decide) H9).mono ?_;rintro e w10 ⟨rfl,h10,b10⟩;have H10:=hdzz h10;clear h10 H9;have B10:=hdzz (B9.out.trans b10);clear b10 B9;go_wp2_with fail
 refine(AD.out tabS[10] (tabS.take 10) _ (by decide) H10).mono ?_;rintro e w11 ⟨rfl,h11,b11⟩;have H11:=hdzz h11;clear h11 H10;have B11:=hdzz (B10.out.trans b11);clear b11 B10;go_wp2_with fail
 refine(AD.out tabS[11] (tabS.take 11) _ (by decide) H11).mono ?_;rintro e w12 ⟨rfl,h12,b12⟩;have H12:=hdzz h12;clear h12 H11;have B12:=hdzz (B11.out.trans b12);clear b12 B11;go_wp2_with fail
 refine(AD.out tabS[12] (tabS.take 12) _ (by decide) H12).mono ?_;rintro e w13 ⟨rfl,h13,b13⟩;have H13:=hdzz h13;clear h13 H12;have B13:=hdzz (B12.out.trans b13);clear b13 B12;go_wp2_with fail
 refine(AD.out tabS[13] (tabS.take 13) _ (by decide) H13).mono ?_;rintro e w14 ⟨rfl,h14,b14⟩;have H14:=hdzz h14;clear h14 H13;have B14:=hdzz (B13.out.trans b14);clear b14 B13;go_wp2_with fail
 refine(AD.out tabS[14] (tabS.take 14) _ (by decide) H14).mono ?_;rintro e w15 ⟨rfl,h15,b15⟩;have H15:=hdzz h15;clear h15 H14;have B15:=hdzz (B14.out.trans b15);clear b15 B14;go_wp2_with fail
 refine(AD.out tabS[15] (tabS.take 15) _ (by decide) H15).mono ?_;rintro e w16 ⟨rfl,h16,b16⟩;have H16:=hdzz h16;clear h16 H15;have B16:=hdzz (B15.out.trans b16);clear b16 B15;go_wp2_with fail
 refine(AD.out tabS[16] (tabS.take 16) _ (by decide) H16).mono ?_;rintro e w17 ⟨rfl,h17,b17⟩;have H17:=hdzz h17;clear h17 H16;have B17:=hdzz (B16.out.trans b17);clear b17 B16;go_wp2_with fail
 refine(AD.out tabS[17] (tabS.take 17) _ (by decide) H17).mono ?_;rintro e w18 ⟨rfl,h18,b18⟩;have H18:=hdzz h18;clear h18 H17;have B18:=hdzz (B17.out.trans b18);clear b18 B17;go_wp2_with fail
 refine(AD.out tabS[18] (tabS.take 18) _ (by decide) H18).mono ?_;rintro e w19 ⟨rfl,h19,b19⟩;have H19:=hdzz h19;clear h19 H18;have B19:=hdzz (B18.out.trans b19);clear b19 B18;go_wp2_with fail
 refine(AD.out tabS[19] (tabS.take 19) _ (by decide) H19).mono ?_;rintro e w20 ⟨rfl,h20,b20⟩;have H20:=hdzz h20;clear h20 H19;have B20:=hdzz (B19.out.trans b20);clear b20 B19;go_wp2_with fail
 refine(AD.out tabS[20] (tabS.take 20) _ (by decide) H20).mono ?_;rintro e w21 ⟨rfl,h21,b21⟩;have H21:=hdzz h21;clear h21 H20;have B21:=hdzz (B20.out.trans b21);clear b21 B20;obtain⟨⟨v,hbx,hrow⟩,hlt⟩:=H21.out;obtain⟨A,c,rfl,hrep⟩:=ql9 hrow;have hbx:w21.heap[w.heap.size]?=some (.cells #[.slice A 21 c] 137 (0,0)):=hbx;have r0:w21.cell? ⟨w.heap.size,0,none⟩=some (.slice A 21 c):=by simp[World.cell?,hbx]
 have HR:=hdzz hrep;clear hbx hrow hrep;go_wp2_with fail
 go_ret
 exact⟨A,c,rfl,HR.out _ (fun b h1 h2 _=>⟨by omega,h2⟩),B21.out⟩
def symV:Option Sy→Value
 | some s=>.agg #[.string s.nm,.int .i64 s.lo,.int .i64 s.hi,.int .i64 s.kd]
 | none=>.agg #[.string ⟨#[]⟩,.int .i64 0,.int .i64 0,.int .i64 0]
theorem qgy (l:List Sy) (i:Nat) (h:i<l.length):(qbv l)[i*4]?=some (.string l[i].nm)∧(qbv l)[i*4+1]?=some (.int .i64 l[i].lo)∧(qbv l)[i*4+2]?=some (.int .i64 l[i].hi)∧(qbv l)[i*4+3]?=some (.int .i64 l[i].kd):=by
 induction l generalizing i with
 | nil=>simp at h
 | cons x r ih=>
  cases i with
  | zero=>simp[qbv,qfh]
  | succ i=>
   have g:=ih i (by simpa using h);have e0:(i+1)*4=4+i*4:=by omega
   simp only[qbv,qfh,List.flatMap_cons,List.getElem_cons_succ,List.cons_append,List.nil_append];rw[e0,Nat.add_assoc 4 (i*4) 1,Nat.add_assoc 4 (i*4) 2,Nat.add_assoc 4 (i*4) 3,qc2,qc2,qc2,qc2];exact g
theorem qg3 (a b:ByteArray):decide (a=b)=(a.toList==b.toList):=by
 rw[Bool.eq_iff_iff,decide_eq_true_iff,beq_iff_eq];exact⟨fun h=>by rw[h],fun h=>by rw[ByteArray.toList_eq,ByteArray.toList_eq]at h;exact ByteArray.ext (Array.toList_inj.1 h)⟩
theorem qmv {W:World} {B:Nat} {a b c d x y z u:Value} {T:TypeId} (h:W.heap[B]?=some (.cells #[a,b,c,d] T (0,0))) :
  ∃Y,Y=((((W.setCell ⟨B,0,none⟩ x).setCell ⟨B,1,none⟩ y).setCell ⟨B,2,none⟩ z).setCell ⟨B,3,none⟩ u)∧Y.heap[B]?=some (.cells #[x,y,z,u] T (0,0))∧(∀C,C≤B→∀w,Below C w W→Below C w Y)∧Y.heap.size=W.heap.size∧
   (∀k,k≠B→Y.heap[k]?=W.heap[k]?):=by
 refine⟨_,rfl,?_,fun C hC w hw=>?_,by simp[World.setCell],fun k hk=>?_⟩
 ·simp[World.setCell,Array.getElem?_modify,h]
 ·iterate 4 refine Below.setCell ?_ (by exact hC) _
  exact hw
 ·rw[Below.heap_setCell _ _ _ _ (by exact hk),Below.heap_setCell _ _ _ _ (by exact hk),Below.heap_setCell _ _ _ _ (by exact hk),Below.heap_setCell _ _ _ _ (by exact hk)]
theorem qf7 {Y:World} {B:Nat} {o o':Obj} (h:Y.heap[B]?=some o):(Y.alloc o').heap[B]?=some o:=by
 have hlt:=(sltz h);rw[Below.heap_alloc _ _ _ hlt];exact h
theorem tabS_kd:∀s∈tabS,s.kd≠0:=by decide
theorem qmu (n:ByteArray) (w:World):Calls Tryz.prog 132 #[.string n] w fun e w'=>e=.returned (symV (qeo n))∧Below w.heap.size w w':=by
 obtain⟨V,hV⟩:∃V,V=w.alloc (.cells #[.string ⟨#[]⟩,.int .i64 0,.int .i64 0,.int .i64 0] 140):=⟨_,rfl⟩;have hx:V.heap[w.heap.size]?=some (.cells #[.string ⟨#[]⟩,.int .i64 0,.int .i64 0,.int .i64 0] 140 (0,0)):=by rw[hV];exact heap_alloc_new _ _
 have b0:Below w.heap.size w V:=by rw[hV];exact qad (Nat.le_refl _) _
 have s0:V.heap.size=w.heap.size+1:=by rw[hV];simp
 have SY:=hdzz (qlb V);have HV:=hdzz hV;clear hV;have HX:=hdzz hx;clear hx;have B0:=hdzz b0;clear b0;obtain⟨r,hr⟩:∃r,r=qeo n:=⟨_,rfl⟩;rw[←hr];have HR:=hdzz hr;clear hr;go_enter Tryz.func132,Tryz.ntmps132
 go_wp2_with fail
 rw[←HV.out];clear HV;go_wp2_with fail
 refine SY.out.mono ?_;clear SY;rintro e w1 ⟨A,c,rfl,hrep,hb1⟩;obtain⟨b,off,rfl,hbP,hcl⟩:=hrep.at (by omega);have hs1:=hb1.size;have HX1:=hdzz ((hb1.block _ (by omega)).trans HX.out);have B1:=hdzz (B0.out.trans (hb1.mono (by omega)));have HCL:=hdzz hcl;have HBP:=hdzz hbP;clear hcl hrep hb1 HX B0 hbP;go_wp2_with fail
 go_loopw [7] (fun i wr=>∃k:Nat,k≤21∧i=.int .i64 k∧Hid (Below w1.heap.size w1 wr)∧Hid ((tabS.drop k).find? (fun s=>decide (s.nm=n))=r)) (fun i _=>21 - (intOf i).toNat)
 case atStart=>exact⟨0,Nat.zero_le _,rfl,Below.refl _ _,HR.out.symm⟩
 case round=>
  obtain⟨k,hk,rfl,HB,HF⟩:=hrel;have i1:(0:Int)≤(k:Int):=Int.natCast_nonneg _;have hxr:=(HB.out.block _ (by omega)).trans HX1.out;obtain⟨x0,x1,x2,x3,xf⟩:=qaa hxr;have hsr:=HB.out.size;have hlt0:w.heap.size<wr.heap.size:=by omega
  have BR:=hdzz (B1.out.trans (HB.out.mono (by omega)));have HXR:=hdzz hxr;clear hxr;by_cases hlt:k<21
  ·have i2:(k:Int)<21:=by omega
   have hlen:k<tabS.length:=hlt;obtain⟨g0,g1,g2,g3⟩:=qgy tabS k hlen;have hcell:∀o,wr.cell? ⟨b,o,none⟩=w1.cell? ⟨b,o,none⟩:=fun o=>HB.out.cell (by exact HBP.out.2);have h0:=(hcell _).trans (HCL.out _ _ g0);have h1:=(hcell _).trans (HCL.out _ _ g1);have h2:=(hcell _).trans (HCL.out _ _ g2);have h3:=(hcell _).trans (HCL.out _ _ g3);rw[←Nat.add_assoc]at h1 h2 h3;clear g0 g1 g2 g3 hcell;have hd:=List.drop_eq_getElem_cons hlen;have hf:=HF.out;rw[hd,List.find?_cons]at hf;clear hd HF;obtain⟨s,hs⟩:∃s,s=tabS[k]:=⟨_,rfl⟩;rw[←hs]at h0 h1 h2 h3 hf;clear hs;rw[qg3]at hf;generalize hq:(s.nm.toList==n.toList)=q at hf
   cases q with
   | true=>
    have hf:some s=r:=hf;subst hf;obtain⟨Y,hY,hYB,hYb,hYs,-⟩:=qmv (x:=.string s.nm) (y:=.int .i64 s.lo) (z:=.int .i64 s.hi) (u:=.int .i64 s.kd) HXR.out;have hZ:=qf7 (o':=.cells #[.string s.nm,.int .i64 s.lo,.int .i64 s.hi,.int .i64 s.kd] 140) hYB;have HY:=hdzz hY;have HYB:=hdzz hYb;have HZ:=hdzz (qaa hZ);clear hY hYB hYb hZ;go_wp2_with fail
    rw[←HY.out];obtain⟨y0,y1,y2,y3,-⟩:=HZ.out;refine bodyPost_ret (v:=symV (some s)) ?_ rfl ?_
    ·simp[results,Tryz.results132,go_sem,symV,y0,y1,y2,y3]
    ·exact⟨rfl,(HYB.out _ (Nat.le_refl _) _ BR.out).alloc (by omega) _⟩
   | false=>
    have hf:(tabS.drop (k+1)).find? (fun s=>decide (s.nm=n))=r:=hf;have HF2:=hdzz hf;clear hf;go_wp2_with fail
    go_roundw
    case rel=>exact⟨k+1,by omega,by go_num,HB.out.alloc (by omega) _,HF2⟩
    case measure=>simp[intOf];omega
  ·obtain rfl:k=21:=by omega
   have hf:none=r:=HF.out;subst hf;go_wp2_with fail
   refine bodyPost_ret (v:=symV none) ?_ rfl ?_
   ·simp[results,Tryz.results132,go_sem,symV,x0,x1,x2,x3]
   ·refine⟨rfl,?_⟩
    iterate 4 refine Below.setCell ?_ (by exact Nat.le_refl _) _
    exact BR.out
theorem qfv (l:List Tm) (k:Nat) (h:k<l.length):Tm.ths (l.drop k)=if l[k].th≠0 then l[k].th else Tm.ths (l.drop (k+1)):=by
 rw[List.drop_eq_getElem_cons h,Tm.ths]
def noAg (k:Tm):Bool:=decide (k.kind=3∨k.sort≠1)
theorem noAg_eq (k:Tm):noAg k=if (k.kind==3)=true then true else (k.sort != 1):=by
 unfold noAg;by_cases h:k.kind=3
 ·simp[h]
 ·by_cases h2:k.sort=1<;>simp[h,h2]
theorem thN_none {n:ByteArray} {l:List Tm} (h:qeo n=none):thN n l=10:=by unfold thN;rw[h]
theorem thN_some {n:ByteArray} {l:List Tm} {s:Sy} (h:qeo n=some s):thN n l=if (l.length:Int)<s.lo∨s.hi<l.length then 6
  else if (n=nSk∨n=nShk)∧(l.any noAg)=true then 10
  else if n=nNew∧(kidT l 0).kind≠2 then 10 else 0:=by unfold thN;rw[h];rfl
theorem qjk {n c:ByteArray} {L:List UInt8} (h:c.data.toList=L):(n=c)↔(n.toList==L)=true:=by
 rw[beq_iff_eq,ByteArray.toList_eq,←h];exact⟨fun e=>by rw[e],fun e=>ByteArray.ext (Array.toList_inj.1 e)⟩
theorem qmk {l:List Tm} {k:Nat} (hk:k<l.length) (h:(l.take k).any noAg=false):(noAg l[k]=true→l.any noAg=true)∧(noAg l[k]=false→(l.take (k+1)).any noAg=false):=by
 refine⟨fun e=>List.any_eq_true.2 ⟨l[k],List.getElem_mem hk,e⟩,fun e=>?_⟩;rw[List.take_add_one,List.getElem?_eq_getElem hk,List.any_append,h];simp[e]
theorem sk_arity {n:ByteArray} {s:Sy} (h:qeo n=some s) (hn:n=nNew):s.lo=1:=by
 subst hn;injection h with h;subst h;rfl
theorem qmt (n:Nat):∀(t:Tm) (A:Option Addr) (cap:Nat) (w:World),t.size≤n→n≤1000000→RepT w w.heap.size t A cap→
  Calls Tryz.prog 103 #[t.val A cap] w fun e w'=>e=.returned (.int .i64 t.th)∧Below w.heap.size w w':=by
 induction n with
 | zero=>intro t _ _ _ h;have:=t.size_pos;omega
 | succ n ih=>
  intro t A cap w hn hb hrep;obtain⟨tk,tn,ts,l⟩:=t;have IH:=hdzz ih;clear ih;rw[Tm.size]at hn;rw[qbh]at hrep;obtain⟨hr1,hr2,hr3,hr4⟩:=hrep;have hls:=Tm.length_le_sizes l;unfold maxLen at hr1 hr3;obtain⟨V,hV⟩:∃V,V=w.alloc (.cells #[.int .i64 tk,.string tn,.int .i64 ts,.slice A l.length cap] 24):=⟨_,rfl⟩;have hbV:Below w.heap.size w V:=by rw[hV];exact qad (Nat.le_refl _) _
  have hsV:V.heap.size=w.heap.size+1:=by rw[hV];simp
  have hbx:V.heap[w.heap.size]?=some (.cells #[.int .i64 tk,.string tn,.int .i64 ts,.slice A l.length cap] 24 (0,0)):=by rw[hV];exact heap_alloc_new _ _
  have HBV:=hdzz hbV;clear hbV;simp only[Tm.val,Tm.kind,Tm.name,Tm.sort,Tm.kids];by_cases hk:tk=3
  case neg=>
   have h0:(Tm.mk tk tn ts l).th=0:=by rw[Tm.th,if_neg hk]
   rw[h0];clear h0;have q:(tk==3)=false:=by rw[beq_eq_false_iff_ne];exact hk
   have q':(tk != 3)=true:=by simp[hk]
   obtain⟨r0,r1,r2,r3,rf⟩:=qaa hbx;have HV:=hdzz hV;clear hV;clear hbx hk;go_enter Tryz.func103,Tryz.ntmps103
   go_wp2_with fail
   rw[←HV.out];go_wp2_with fail
   go_ret
   exact⟨rfl,HBV.out⟩
  subst hk;have hth:(Tm.mk 3 tn ts l).th=if thN tn l≠0 then thN tn l else Tm.ths l:=by rw[Tm.th,if_pos rfl]
  obtain⟨r,hr⟩:∃r,r=(Tm.mk 3 tn ts l).th:=⟨_,rfl⟩;rw[←hr]at hth ⊢;clear hr;have HTV:Hid (∀v:Int,v≠0→thN tn l=v→r=v):=hdzz fun v h0 h=>by rw[hth,h,if_pos h0]
  have HTZ:Hid (thN tn l=0→r=Tm.ths l):=hdzz fun h=>by rw[hth,h];rfl
  clear hth;have SB:=qmu tn V;obtain⟨so,hso⟩:∃so,so=qeo tn:=⟨_,rfl⟩;rw[←hso]at SB;have SB:=hdzz SB;have HV:=hdzz hV;clear hV;have HBX:=hdzz (qaa hbx);have HBXX:=hdzz hbx;clear hbx
  cases so with
  | none=>
   have hN:=thN_none (l:=l) hso.symm;have hr:r=10:=HTV.out 10 (by decide) hN;subst hr;clear HTV HTZ hN hso;obtain⟨r0,r1,r2,r3,rf⟩:=HBX.out;go_enter Tryz.func103,Tryz.ntmps103
   go_wp2_with fail
   rw[←HV.out];go_wp2_with fail
   refine SB.out.mono ?_;rintro e w1 ⟨rfl,hb1⟩;have HB1:=hdzz (HBV.out.trans (hb1.mono (by omega)));clear SB hb1 r0 r1 r2 r3 rf;simp only[symV];go_wp2_with fail
   go_ret
   exact⟨rfl,HB1.out.alloc (by have:=HB1.out.size;omega) _⟩
  | some s=>
   have hN:=thN_some (l:=l) hso.symm;have hmem:=(qhl hso.symm).1;have hkd:s.kd≠0:=tabS_kd s hmem;have hlo:=fun h=>sk_arity hso.symm h;have hq:(s.kd==0)=false:=by rw[beq_eq_false_iff_ne];exact hkd
   have HN:=hdzz hN;clear hN;have HLO:=hdzz hlo;clear hkd hmem hso hlo;have hlen:(l.length:Int)≤9223372036854775807:=by omega
   obtain⟨r0,r1,r2,r3,rf⟩:=HBX.out;go_enter Tryz.func103,Tryz.ntmps103
   go_wp2_with fail
   rw[←HV.out];go_wp2_with fail
   refine SB.out.mono ?_;rintro e w1 ⟨rfl,hb1⟩;have hs1:=hb1.size;have hxx:=(hb1.block _ (by omega)).trans HBXX.out;have HB1:=hdzz (HBV.out.trans (hb1.mono (by omega)));clear SB hb1 r0 r1 r2 r3 rf;simp only[symV];obtain⟨X,hX⟩:∃X,X=w1.alloc (.cells #[.string s.nm,.int .i64 s.lo,.int .i64 s.hi,.int .i64 s.kd] 140):=⟨_,rfl⟩;have hbX:Below w.heap.size w X:=by rw[hX];exact HB1.out.alloc (by omega) _
   have hsX:X.heap.size=w1.heap.size+1:=by rw[hX];simp
   have hX1:X.heap[w.heap.size]?=some (.cells #[.int .i64 3,.string tn,.int .i64 ts,.slice A l.length cap] 24 (0,0)):=by rw[hX];exact qf7 hxx
   have hX2:X.heap[w1.heap.size]?=some (.cells #[.string s.nm,.int .i64 s.lo,.int .i64 s.hi,.int .i64 s.kd] 140 (0,0)):=by rw[hX];exact heap_alloc_new _ _
   obtain⟨y0,y1,y2,y3,yf⟩:=qaa hX2;have HXX:=hdzz hX1;obtain⟨r0,r1,r2,r3,rf⟩:=qaa hX1;have HBW:=hdzz hbX;clear hbX hX1 hX2 hxx HB1 HBXX HBX HV HBV;subst hX;by_cases h6:(l.length:Int)<s.lo
   ·have hr:r=6:=HTV.out 6 (by decide) (HN.out.trans (if_pos (.inl h6)));subst hr;go_wp2_with fail
    go_ret
    exact⟨rfl,HBW.out⟩
   by_cases h7:s.hi<(l.length:Int)
   ·have hr:r=6:=HTV.out 6 (by decide) (HN.out.trans (if_pos (.inr h7)));subst hr;go_wp2_with fail
    go_ret
    exact⟨rfl,HBW.out⟩
   have HN2:=hdzz (HN.out.trans (if_neg (fun h=>h.elim h6 h7)));clear HN;have H67:Hid (¬(l.length:Int)<s.lo):=h6;have g6:(decide ((l.length:Int)<s.lo))=false:=decide_eq_false h6;have g7:(decide (s.hi<(l.length:Int)))=false:=decide_eq_false h7;have N1:Hid (tn=nSk↔(tn.toList==[115,107])=true):=qjk (c:=nSk) rfl;have N2:Hid (tn=nShk↔(tn.toList==[115,104,107])=true):=qjk (c:=nShk) rfl;have N3:Hid (tn=nNew↔(tn.toList==[110,101,119])=true):=qjk (c:=nNew) rfl;have D23:Hid (nSk≠nNew∧nShk≠nNew):=⟨by decide,by decide⟩;clear y0 y3;generalize hq1:(tn.toList==[115,107])=q1 at N1;generalize hq2:(tn.toList==[115,104,107])=q2 at N2;generalize hq3:(tn.toList==[110,101,119])=q3 at N3
   have hcase:(q1=true∨(q1=false∧q2=true))∨(q1=false∧q2=false∧q3=true)∨(q1=false∧q2=false∧q3=false):=by
    cases q1<;>cases q2<;>cases q3<;>simp
   rcases hcase with hcase|hcase
   ·-- sk and shk
    have HSK:Hid ((tn=nSk∨tn=nShk)∧tn≠nNew):=by
     rcases hcase with h|h
     ·have e:=N1.out.2 h;exact⟨.inl e,fun e2=>D23.out.1 (e.symm.trans e2)⟩
     ·have e:=N2.out.2 h.2;exact⟨.inr e,fun e2=>D23.out.2 (e.symm.trans e2)⟩
    clear N1 N2 N3 D23;have HN3:Hid (thN tn l=if l.any noAg=true then 10 else 0):=by
     have e:=HN2.out;by_cases ha:l.any noAg=true
     ·rw[if_pos ⟨HSK.out.1,ha⟩]at e;rw[if_pos ha];exact e
     ·rw[if_neg (fun h=>ha h.2),if_neg (fun h=>HSK.out.2 h.1)]at e;rw[if_neg ha];exact e
    clear HN2 HSK;rcases hcase with rfl|⟨rfl,rfl⟩
    all_goals
     go_wp2_with fail
     generalize w1.alloc (.cells #[.string s.nm,.int .i64 s.lo,.int .i64 s.hi,.int .i64 s.kd] 140)=X at *;go_loopw [40] (fun i wr=>∃k:Nat,k≤l.length∧i=.int .i64 k∧Hid (Below X.heap.size X wr)∧Hid ((l.take k).any noAg=false)) (fun i _=>l.length - (intOf i).toNat)
     case atStart=>exact⟨0,Nat.zero_le _,rfl,Below.refl _ _,by rw[List.take_zero];exact rfl⟩
     case round=>
      obtain⟨k,hk,rfl,HB,HA⟩:=hrel;have i1:(0:Int)≤(k:Int):=Int.natCast_nonneg _;clear r0 r1 r2 r3 rf y1 y2 yf;have hsr:=HB.out.size;have HBR:=hdzz (HBW.out.trans (HB.out.mono (by have:=HBW.out.size;omega)));have HXR:=hdzz ((HB.out.block _ (by omega)).trans HXX.out);by_cases hlt:k<l.length
      ·have i2:(k:Int)<(l.length:Int):=by omega
       rcases hr4 with rfl|⟨b,off,rfl,hbB,hl⟩
       ·simp at hlt
       obtain⟨A',cap',h0,h1,h2,h3,h5⟩:=(hl.below HBR.out hbB).get k hlt;have hat:=qmk hlt HA.out;have hna:=noAg_eq l[k];clear h5 hl;obtain⟨x,hx⟩:∃x,x=l[k]:=⟨_,rfl⟩;rw[←hx]at h0 h1 h2 h3 hat hna;clear hx;have HAT:=hdzz hat;clear hat;generalize hp1:(x.kind==3)=p1 at hna;generalize hp2:(x.sort != 1)=p2 at hna;have hp2':(x.sort==1) = !p2:=by rw[←hp2];unfold bne;rw[Bool.not_not]
       have HNA:=hdzz hna;clear hna
       cases p1 with
       | true=>
        have hr:r=10:=HTV.out 10 (by decide) (HN3.out.trans (if_pos (HAT.out.1 HNA.out)));subst hr;go_wp2_with fail
        go_ret
        exact⟨rfl,HBR.out.alloc (by omega) _⟩
       | false=>
        cases p2 with
        | true=>
         have hr:r=10:=HTV.out 10 (by decide) (HN3.out.trans (if_pos (HAT.out.1 HNA.out)));subst hr;go_wp2_with fail
         go_ret
         exact⟨rfl,HBR.out.alloc (by omega) _⟩
        | false=>
         go_wp2_with fail
         go_roundw
         case rel=>exact⟨k+1,by omega,by go_num,HB.out.alloc (by omega) _,HAT.out.2 HNA.out⟩
         case measure=>simp[intOf];omega
      ·obtain rfl:k=l.length:=by omega
       have HTL:Hid (r=Tm.ths l):=by
        have ha:=HA.out;rw[List.take_length]at ha;exact HTZ.out (HN3.out.trans (if_neg (by rw[ha];simp)))
       clear HTV HTZ HN3 HA;have HBC:=HBR;clear HBR;have HXC:=HXR;clear HXR;have r0:=hk;have r1:=hk;have r2:=hk;have r3:=hk;have rf:=hk;generalize wr=wc at *;clear r0 r1 r2 r3 rf;have hsc:=HBC.out.size;obtain⟨r0,r1,r2,r3,rf⟩:=qaa HXC.out;go_wp2_with fail
       clear r0 r1 r2 r3 rf;go_loopw [64] (fun i wr=>∃k:Nat,k≤l.length∧i=.int .i64 k∧Hid (Below wc.heap.size wc wr)∧Hid (Tm.ths (l.drop k)=r)) (fun i _=>l.length - (intOf i).toNat)
       case atStart=>exact⟨0,Nat.zero_le _,rfl,Below.refl _ _,HTL.out.symm⟩
       case round=>
        obtain⟨k,hk,rfl,HB,HF⟩:=hrel;have i1:(0:Int)≤(k:Int):=Int.natCast_nonneg _;have hsr:=HB.out.size;have HBR:=hdzz (HBC.out.trans (HB.out.mono (by omega)));by_cases hlt:k<l.length
        ·have i2:(k:Int)<(l.length:Int):=by omega
         rcases hr4 with rfl|⟨b,off,rfl,hbB,hl⟩
         ·simp at hlt
         obtain⟨A',cap',h0,h1,h2,h3,h5⟩:=(hl.below HBR.out hbB).get k hlt;have hsg:=Tm.sizes_get l k hlt;have hf:=HF.out;rw[qfv l k hlt]at hf;have hbR:Below w.heap.size wr (wr.alloc (.cells #[.int .i64 l[k].kind,.string l[k].name,.int .i64 l[k].sort,.slice A' l[k].kids.length cap'] 24)):=(Below.refl _ _).alloc (by omega) _;have CON:=IH.out l[k] A' cap' _ (by omega) (by omega) (h5.go hbR (by simp;omega));clear hbR;have hxn:=heap_alloc_new wr (.cells #[.int .i64 l[k].kind,.string l[k].name,.int .i64 l[k].sort,.slice A' l[k].kids.length cap'] 24);clear h5 hl;obtain⟨x,hx⟩:∃x,x=l[k]:=⟨_,rfl⟩;rw[←hx]at h0 h1 h2 h3 hf CON hxn;clear hx;obtain⟨y,hy⟩:∃y,y=x.th:=⟨_,rfl⟩;rw[←hy]at hf CON;clear hy;simp only[Tm.val]at CON;have CON:=hdzz CON;have HF2:=hdzz hf;clear hf HF hxn
         go_wp2_with fail
         refine CON.out.mono ?_;clear CON h0 h1 h2 h3;rintro e w2 ⟨rfl,hb2⟩;have HB2:=hdzz ((Below.alloc HB.out (by omega) _).trans (hb2.mono (by simp;omega)));clear hb2;by_cases hz:y=0
         ·subst hz;have HF3:=hdzz HF2.out;go_wp2_with fail
          go_roundw
          case rel=>exact⟨k+1,by omega,by go_num,HB2.out,(if_neg (by simp)).symm.trans HF3.out⟩
          case measure=>simp[intOf];omega
         ·have hr:y=r:=(if_pos hz).symm.trans HF2.out;subst hr;have q:(y==0)=false:=by rw[beq_eq_false_iff_ne];exact hz
          have q':(y != 0)=true:=by simp[hz]
          clear HF2;go_wp2_with fail
          go_ret
          exact⟨rfl,HBC.out.trans (HB2.out.mono (by omega))⟩
        ·obtain rfl:k=l.length:=by omega
         have hr:0=r:=by have:=HF.out;rw[List.drop_length]at this;exact this
         subst hr;go_wp2_with fail
         go_ret
         exact⟨rfl,HBR.out⟩
   ·-- new and the others
    have HSN:Hid (¬(tn=nSk∨tn=nShk)):=by
     rintro(h|h)
     ·have:=N1.out.1 h;rcases hcase with h|h<;>rw[h.1]at this<;>cases this
     ·have:=N2.out.1 h;rcases hcase with h|h<;>rw[h.2.1]at this<;>cases this
    have HN3:=hdzz (HN2.out.trans (if_neg (fun h=>HSN.out h.1)));clear HN2 HSN N1 N2 D23;rcases hcase with⟨rfl,rfl,rfl⟩|⟨rfl,rfl,rfl⟩
    ·-- new
     have hnew:=N3.out.2 rfl;have hlo:=HLO.out hnew;have hl0:0<l.length:=by have:=H67.out;omega
     clear hlo;have HN4:Hid (thN tn l=if (l[0]'hl0).kind≠2 then 10 else 0):=by
      have e:=HN3.out;have e0:kidT l 0=l[0]'hl0:=by unfold kidT;rw[List.getElem?_eq_getElem hl0];rfl
      rw[e0]at e;by_cases h2:(l[0]'hl0).kind≠2
      ·rw[if_pos ⟨hnew,h2⟩]at e;rw[if_pos h2];exact e
      ·rw[if_neg (fun h=>h2 h.2)]at e;rw[if_neg h2];exact e
     clear HN3 N3 hnew;rcases hr4 with rfl|⟨b,off,rfl,hbB,hl⟩
     ·simp at hl0
     obtain⟨A',cap',h0,h1,h2,h3,h5⟩:=(hl.below HBW.out hbB).get 0 hl0;rw[Nat.zero_mul,Nat.add_zero]at h0 h1 h2 h3;clear h5;obtain⟨x,hx⟩:∃x,x=l[0].kind:=⟨_,rfl⟩;rw[←hx]at h0;have HN5:Hid (thN tn l=if x≠2 then 10 else 0):=by rw[hx];exact HN4.out
     clear hx HN4;by_cases hx2:x=2
     case neg=>
      have hr:r=10:=HTV.out 10 (by decide) (HN5.out.trans (if_pos hx2));subst hr;have q:(x==2)=false:=by rw[beq_eq_false_iff_ne];exact hx2
      have q':(x != 2)=true:=by simp[hx2]
      clear HTV HTZ HN5;go_wp2_with fail
      go_ret
      exact⟨rfl,HBW.out⟩
     subst hx2;have HTL:Hid (r=Tm.ths l):=HTZ.out (HN5.out.trans (if_neg (by simp)));clear HTV HTZ HN5;go_wp2_with fail
     clear h0 h1 h2 h3;generalize w1.alloc (.cells #[.string s.nm,.int .i64 s.lo,.int .i64 s.hi,.int .i64 s.kd] 140)=wc at *;have HBC:=HBW;clear HBW;have HXC:=HXX;clear HXX;clear r0 r1 r2 r3 rf;go_loopw [64] (fun i wr=>∃k:Nat,k≤l.length∧i=.int .i64 k∧Hid (Below wc.heap.size wc wr)∧Hid (Tm.ths (l.drop k)=r)) (fun i _=>l.length - (intOf i).toNat)
     case atStart=>exact⟨0,Nat.zero_le _,rfl,Below.refl _ _,HTL.out.symm⟩
     case round=>
      obtain⟨k,hk,rfl,HB,HF⟩:=hrel;have i1:(0:Int)≤(k:Int):=Int.natCast_nonneg _;have hsr:=HB.out.size;have HBR:=hdzz (HBC.out.trans (HB.out.mono (by omega)));by_cases hlt:k<l.length
      ·have i2:(k:Int)<(l.length:Int):=by omega
       obtain⟨A',cap',h0,h1,h2,h3,h5⟩:=(hl.below HBR.out hbB).get k hlt;have hsg:=Tm.sizes_get l k hlt;have hf:=HF.out;rw[qfv l k hlt]at hf;have hbR:Below w.heap.size wr (wr.alloc (.cells #[.int .i64 l[k].kind,.string l[k].name,.int .i64 l[k].sort,.slice A' l[k].kids.length cap'] 24)):=(Below.refl _ _).alloc (by omega) _;have CON:=IH.out l[k] A' cap' _ (by omega) (by omega) (h5.go hbR (by simp;omega));clear hbR;have hxn:=heap_alloc_new wr (.cells #[.int .i64 l[k].kind,.string l[k].name,.int .i64 l[k].sort,.slice A' l[k].kids.length cap'] 24);clear h5 hl;obtain⟨x,hx⟩:∃x,x=l[k]:=⟨_,rfl⟩;rw[←hx]at h0 h1 h2 h3 hf CON hxn;clear hx;obtain⟨y,hy⟩:∃y,y=x.th:=⟨_,rfl⟩;rw[←hy]at hf CON;clear hy;simp only[Tm.val]at CON;have CON:=hdzz CON;have HF2:=hdzz hf;clear hf HF hxn
       go_wp2_with fail
       refine CON.out.mono ?_;clear CON h0 h1 h2 h3;rintro e w2 ⟨rfl,hb2⟩;have HB2:=hdzz ((Below.alloc HB.out (by omega) _).trans (hb2.mono (by simp;omega)));clear hb2;by_cases hz:y=0
       ·subst hz;have HF3:=hdzz HF2.out;go_wp2_with fail
        go_roundw
        case rel=>exact⟨k+1,by omega,by go_num,HB2.out,(if_neg (by simp)).symm.trans HF3.out⟩
        case measure=>simp[intOf];omega
       ·have hr:y=r:=(if_pos hz).symm.trans HF2.out;subst hr;have q:(y==0)=false:=by rw[beq_eq_false_iff_ne];exact hz
        have q':(y != 0)=true:=by simp[hz]
        clear HF2;go_wp2_with fail
        go_ret
        exact⟨rfl,HBC.out.trans (HB2.out.mono (by omega))⟩
      ·obtain rfl:k=l.length:=by omega
       have hr:0=r:=by have:=HF.out;rw[List.drop_length]at this;exact this
       subst hr;go_wp2_with fail
       go_ret
       exact⟨rfl,HBR.out⟩
    ·have HTL:Hid (r=Tm.ths l):=HTZ.out (HN3.out.trans (if_neg (fun h=>by have:=N3.out.1 h.1;cases this)));clear HTV HTZ HN3 N3;go_wp2_with fail
     generalize w1.alloc (.cells #[.string s.nm,.int .i64 s.lo,.int .i64 s.hi,.int .i64 s.kd] 140)=wc at *;have HBC:=HBW;clear HBW;have HXC:=HXX;clear HXX;clear r0 r1 r2 r3 rf;go_loopw [64] (fun i wr=>∃k:Nat,k≤l.length∧i=.int .i64 k∧Hid (Below wc.heap.size wc wr)∧Hid (Tm.ths (l.drop k)=r)) (fun i _=>l.length - (intOf i).toNat)
     case atStart=>exact⟨0,Nat.zero_le _,rfl,Below.refl _ _,HTL.out.symm⟩
     case round=>
      obtain⟨k,hk,rfl,HB,HF⟩:=hrel;have i1:(0:Int)≤(k:Int):=Int.natCast_nonneg _;have hsr:=HB.out.size;have HBR:=hdzz (HBC.out.trans (HB.out.mono (by omega)));by_cases hlt:k<l.length
      ·have i2:(k:Int)<(l.length:Int):=by omega
       rcases hr4 with rfl|⟨b,off,rfl,hbB,hl⟩
       ·simp at hlt
       obtain⟨A',cap',h0,h1,h2,h3,h5⟩:=(hl.below HBR.out hbB).get k hlt;have hsg:=Tm.sizes_get l k hlt;have hf:=HF.out;rw[qfv l k hlt]at hf;have hbR:Below w.heap.size wr (wr.alloc (.cells #[.int .i64 l[k].kind,.string l[k].name,.int .i64 l[k].sort,.slice A' l[k].kids.length cap'] 24)):=(Below.refl _ _).alloc (by omega) _;have CON:=IH.out l[k] A' cap' _ (by omega) (by omega) (h5.go hbR (by simp;omega));clear hbR;have hxn:=heap_alloc_new wr (.cells #[.int .i64 l[k].kind,.string l[k].name,.int .i64 l[k].sort,.slice A' l[k].kids.length cap'] 24);clear h5 hl;obtain⟨x,hx⟩:∃x,x=l[k]:=⟨_,rfl⟩;rw[←hx]at h0 h1 h2 h3 hf CON hxn;clear hx;obtain⟨y,hy⟩:∃y,y=x.th:=⟨_,rfl⟩;rw[←hy]at hf CON;clear hy;simp only[Tm.val]at CON;have CON:=hdzz CON;have HF2:=hdzz hf;clear hf HF hxn
       go_wp2_with fail
       refine CON.out.mono ?_;clear CON h0 h1 h2 h3;rintro e w2 ⟨rfl,hb2⟩;have HB2:=hdzz ((Below.alloc HB.out (by omega) _).trans (hb2.mono (by simp;omega)));clear hb2;by_cases hz:y=0
       ·subst hz;have HF3:=hdzz HF2.out;go_wp2_with fail
        go_roundw
        case rel=>exact⟨k+1,by omega,by go_num,HB2.out,(if_neg (by simp)).symm.trans HF3.out⟩
        case measure=>simp[intOf];omega
       ·have hr:y=r:=(if_pos hz).symm.trans HF2.out;subst hr;have q:(y==0)=false:=by rw[beq_eq_false_iff_ne];exact hz
        have q':(y != 0)=true:=by simp[hz]
        clear HF2;go_wp2_with fail
        go_ret
        exact⟨rfl,HBC.out.trans (HB2.out.mono (by omega))⟩
      ·obtain rfl:k=l.length:=by omega
       have hr:0=r:=by have:=HF.out;rw[List.drop_length]at this;exact this
       subst hr;go_wp2_with fail
       go_ret
       exact⟨rfl,HBR.out⟩
theorem qmp (t:Tm) (A:Option Addr) (cap:Nat) (w:World) (hn:t.size≤1000000) (hrep:RepT w w.heap.size t A cap) :
  Calls Tryz.prog 67 #[t.val A cap] w fun e w'=>e=.returned (.int .i64 t.validT)∧Below w.heap.size w w':=by
 obtain⟨V,hV⟩:∃V,V=w.alloc (qag t A cap):=⟨_,rfl⟩;have hbV:Below w.heap.size w V:=by rw[hV];exact qad (Nat.le_refl _) _
 have hsV:V.heap.size=w.heap.size+1:=by rw[hV];simp
 have hbx:V.heap[w.heap.size]?=some (qag t A cap):=by rw[hV];exact heap_alloc_new _ _
 have VA:=qb4 t A cap V hn (hrep.go hbV (by omega));have TC:Hid (∀Z,Below V.heap.size V Z→Calls Tryz.prog 103 #[t.val A cap] Z fun e w'=>e=.returned (.int .i64 t.th)∧Below Z.heap.size Z w'):=hdzz fun Z h=>
  qmt 1000000 t A cap Z hn (Nat.le_refl _) (hrep.go (hbV.trans (h.mono (by omega))) (by have:=h.size;omega))
 unfold Tm.validT;obtain⟨v,hv⟩:∃v,v=t.valid:=⟨_,rfl⟩;obtain⟨u,hu⟩:∃u,u=t.th:=⟨_,rfl⟩;rw[←hv]at VA ⊢;rw[←hu]at TC ⊢;clear hv hu;obtain⟨r,hr⟩:∃r,r=if v≠0 then v else u:=⟨_,rfl⟩
 rw[←hr];have HR:=hdzz hr;clear hr;simp only[qag]at hV hbx;simp only[Tm.val]at VA TC ⊢;have HBX:=hdzz hbx;obtain⟨r0,r1,r2,r3,rf⟩:=qaa hbx;have HV:=hdzz hV;clear hV hbx;have HBV:=hdzz hbV;clear hbV;have VA:=hdzz VA;go_enter Tryz.func67,Tryz.ntmps67
 go_wp2_with fail
 rw[←HV.out];clear HV;go_wp2_with fail
 refine VA.out.mono ?_;clear VA r0 r1 r2 r3 rf;rintro e w1 ⟨rfl,hl1⟩;have hs1:=hl1.below.size;have HB1:=hdzz (HBV.out.trans (hl1.below.mono (by omega)));have TC:=hdzz (TC.out w1 hl1.below);obtain⟨r0,r1,r2,r3,rf⟩:=qaa ((hl1.below.block _ (by omega)).trans HBX.out);clear hl1 HBX HBV;by_cases hv:v=0
 case neg=>
  have hr:=HR.out.trans (if_pos hv);clear HR;subst hr;have q:(r==0)=false:=by rw[beq_eq_false_iff_ne];exact hv
  have q':(r != 0)=true:=by simp[hv]
  clear hv;go_wp2_with fail
  go_ret
  exact⟨rfl,HB1.out⟩
 subst hv;have hr:=HR.out.trans (if_neg (by simp));clear HR;subst hr;go_wp2_with fail
 refine TC.out.mono ?_;clear TC r0 r1 r2 r3 rf;rintro e w2 ⟨rfl,hb2⟩;have HB2:=hdzz (HB1.out.trans (hb2.mono (by omega)));clear hb2;go_wp2_with fail
 go_ret
 exact⟨rfl,HB2.out⟩
end Go.Proofs.YtjhjoiplpmjepaaGreat
