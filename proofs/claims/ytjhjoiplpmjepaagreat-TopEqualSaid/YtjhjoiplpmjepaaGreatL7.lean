/- Tbin, Town, Tinsr, Ugcat, Tinsw, Tdel (joined by shake.py). -/
import Derived.Test.YtjhjoiplpmjepaaGreatL0
import Derived.Test.YtjhjoiplpmjepaaGreatL4
import Derived.Test.YtjhjoiplpmjepaaGreatL5
import Derived.Test.YtjhjoiplpmjepaaGreatL6
import Derived.Laws.CopyRow
import Derived.Laws.OwnMore
import Derived.Lib.Overlaps
set_option maxRecDepth 100000
set_option linter.unusedVariables false
set_option linter.unusedSimpArgs false
set_option maxHeartbeats 8000000
namespace Go.Proofs.YtjhjoiplpmjepaaGreat
open Go.RowKit Go.Sort
abbrev pval (t:Tm) (A:Option Addr) (c:Nat) (n:Int):Value:=.agg #[.int .i64 t.kind,.string t.name,.int .i64 t.sort,.slice A t.kids.length c,.int .i64 n]
theorem qcd {W:World} {B:Nat} {a b c d e:Value} {T:TypeId} (h:W.heap[B]?=some (.cells #[a,b,c,d,e] T (0,0))) :
  W.cell? ⟨B,0,none⟩=some a∧W.cell? ⟨B,1,none⟩=some b∧W.cell? ⟨B,2,none⟩=some c∧W.cell? ⟨B,3,none⟩=some d∧W.cell? ⟨B,4,none⟩=some e∧∀o,W.frozen? ⟨B,o,none⟩=false:=by
 refine⟨?_,?_,?_,?_,?_,fun o=>?_⟩<;>simp[World.cell?,World.frozen?,h]
theorem ecmp_any (q t:Tm) (m:Int) (A A':Option Addr) (c c':Nat) (w:World) (hq:q.size≤1000000) (ht:t.size≤1000000) (hrep:RepT w w.heap.size q A c) (hrep':RepT w w.heap.size t A' c') :
  Calls Tryz.prog 181 #[pval q A c m,t.val A' c'] w fun e w'=>e=.returned (.int .i64 (q.cmp t))∧Lay w.heap.size w w':=by
 have hL:Lay w.heap.size w ((w.alloc (.cells #[.int .i64 q.kind,.string q.name,.int .i64 q.sort,.slice A q.kids.length c,.int .i64 m] 163)).alloc (.cells #[.int .i64 t.kind,.string t.name,.int .i64 t.sort,.slice A' t.kids.length c'] 24)):=
  ((Lay.refl _ _).alloc (Nat.le_refl _) _).alloc (by simp) _
 have hC:=qef 1000000 q t A A' c c' _ hq (by omega) ht (hrep.go hL.below hL.size) (hrep'.go hL.below hL.size);have HC:=hdzz hC;clear hC;generalize q.cmp t=r at *;simp only[Tm.val,pval]at HC ⊢;go_enter Tryz.func181,Tryz.ntmps181
 go_wp2_with fail
 refine HC.out.mono ?_;rintro e w' ⟨rfl,hl⟩;go_wp2_with fail
 go_ret
 exact⟨rfl,hL.trans (hl.mono hL.size)⟩
def Found (l:List Pw) (t:Tm) (w:World) (e:Ending) (w':World):Prop:=
 ∃i:Nat,e=.returned (.tuple #[.int .i64 i,.bool (if h:i<l.length then l[i].1.same t else false)])∧i≤l.length∧(∀j (h:j<l.length),j<i→l[j].1.cmp t<0)∧(∀j (h:j<l.length),i≤j→0≤l[j].1.cmp t)∧Below w.heap.size w w'
attribute [local irreducible] qax
theorem ql2 (l:List Pw) (A:Option Addr) (cap:Nat) (t:Tm) (A':Option Addr) (c':Nat) (w:World) (hg:qbj l) (hlen:l.length≤1000000) (hsz:∀p∈l,p.1.size≤1000000) (ht:t.size≤1000000)
  (hrep:RepW w (fun b=>b<w.heap.size) l A cap) (hrep':RepT w w.heap.size t A' c') :
  Calls Tryz.prog 180 #[.slice A l.length cap,t.val A' c',.func (.func 181) #[] #[]] w (Found l t w):=by
 have mixed:=mixz;have eg:∀args w,(callFunc 181 args).run Tryz.prog w=.ok (.enter 181 args) w:=enters_of Tryz.func181 (by kernel_rfl) rfl;obtain⟨V,hV⟩:∃V,V=w.alloc (qag t A' c'):=⟨_,rfl⟩;have hbV:Below w.heap.size w V:=by rw[hV];exact qad (Nat.le_refl _) _
 have hsV:V.heap.size=w.heap.size+1:=by rw[hV];simp
 have hbx:V.heap[w.heap.size]?=some (qag t A' c'):=by rw[hV];exact heap_alloc_new _ _
 have hrV:RepW V (fun b=>b<w.heap.size) l A cap:=hrep.mono (fun _ h=>h) (fun _ h=>hbV.cell h);have htV:RepT V w.heap.size t A' c':=hrep'.below hbV;have CM:Hid (∀(X:World) (q:Tm) (m:Int) (B:Option Addr) (c:Nat),Below V.heap.size V X→q.size≤1000000→RepP X (fun b=>b<w.heap.size) q B c→Calls Tryz.prog 181 #[pval q B c m,t.val A' c'] X fun e w'=>e=.returned (.int .i64 (q.cmp t))∧Lay X.heap.size X w'):=
  hdzz fun X q m B c hX hq hr=>ecmp_any q t m B A' c c' X hq ht (RepP.mono (fun b h=>by have:=hX.size;omega) (fun _ _=>rfl) _ _ _ hr) (htV.go (hX.mono (by omega)) (by have:=hX.size;omega))
 simp only[qag]at hV hbx;simp only[Tm.val,pval]at CM ⊢;have HV:=hdzz hV;have HBX:=hdzz hbx;have HBV:=hdzz hbV;have HG:=hdzz hg;have HSZ:=hdzz hsz;have HRV:=hdzz hrV;clear hV hbx hbV hg hsz hrV hrep hrep' htV;obtain⟨nl,hnl⟩:∃n,n=l.length:=⟨_,rfl⟩;rw[←hnl]at hlen ⊢;have HNL:=hdzz hnl;clear hnl;have hlen':(nl:Int)≤1000000:=by omega
 go_enter Tryz.func180,Tryz.ntmps180
 go_wp2_with fail
 rw[←HV.out];clear HV;go_wp2_with fail
 go_loopw [9,10] (fun s9 s10 wr=>∃lo hi:Nat,s9=.int .i64 lo∧s10=.int .i64 hi∧lo≤hi∧hi≤nl∧Hid (Below V.heap.size V wr)∧Hid ((∀j (h:j<l.length),j<lo→l[j].1.cmp t<0)∧∀j (h:j<l.length),hi≤j→0≤l[j].1.cmp t)) (fun s9 s10 _=>(intOf s10).toNat - (intOf s9).toNat)
 case atStart=>exact⟨0,nl,rfl,rfl,Nat.zero_le _,Nat.le_refl _,Below.refl _ _,⟨fun j _ h=>absurd h (Nat.not_lt_zero _),fun j h h2=>by have:=HNL.out;omega⟩⟩
 case round=>
  obtain⟨lo,hi,rfl,rfl,hlh,hin,HB,HI⟩:=hrel;have hsr:=HB.out.size;obtain⟨r0,r1,r2,r3,-⟩:=qaa ((HB.out.block _ (by omega)).trans HBX.out);by_cases hlt:lo<hi
  ·obtain⟨h,hh⟩:∃h,h=(lo+hi) / 2:=⟨_,rfl⟩;have hlo:lo≤h:=by omega
   have hhi:h<hi:=by omega
   have hhn:h<nl:=by omega
   have hhl:h<l.length:=by have:=HNL.out;omega
   obtain⟨b,off,rfl,hbB,hget⟩:=(HRV.out.mono (w':=wr) (P':=fun b=>b<w.heap.size) (fun _ h=>h) (fun p hp=>HB.out.cell (by omega))).get (fun e=>by rw[e]at hhl;simp at hhl);obtain⟨Aq,cq,q0,q1,q2,q3,q4,qr⟩:=hget h hhl;clear hget;have hqs:=HSZ.out l[h] (List.getElem_mem hhl);have HLOW:=hdzz (good_low HG.out t hhl);have HHIGH:Hid (0≤l[h].1.cmp t→∀j (hj:j<l.length),h≤j→0≤l[j].1.cmp t):=hdzz fun e j hj hjk=>Int.not_lt.1 (good_high HG.out t hhl (by omega) j hj hjk);obtain⟨x,hx⟩:∃x,x=l[h]:=⟨_,rfl⟩;rw[←hx]at q0 q1 q2 q3 q4 qr hqs HLOW HHIGH;clear hx;obtain⟨q,m⟩:=x;dsimp only at q0 q1 q2 q3 q4 qr hqs HLOW HHIGH
   have CQ:Hid (∀X,Below wr.heap.size wr X→Calls Tryz.prog 181 #[.agg #[.int .i64 q.kind,.string q.name,.int .i64 q.sort,.slice Aq q.kids.length cq,.int .i64 m],.agg #[.int .i64 t.kind,.string t.name,.int .i64 t.sort,.slice A' t.kids.length c']] X fun e w'=>e=.returned (.int .i64 (q.cmp t))∧Lay X.heap.size X w'):=
    hdzz fun X hX=>CM.out X q m Aq cq (HB.out.trans (hX.mono (by omega))) hqs (RepP.mono (fun _ h=>h) (fun p hp=>hX.cell (by omega)) _ _ _ qr)
   clear qr hqs;have hhI:((lo:Int)+(hi:Int)) / 2=(h:Int):=by omega
   have HH:=hdzz hh;obtain⟨r,hr⟩:∃r,r=q.cmp t:=⟨_,rfl⟩;rw[←hr]at CQ HLOW HHIGH;clear hr hh;go_wp2_with fail
   refine qaf (fun Y=>Below wr.drew.heap.size wr.drew Y) (fun _=>True) [] (.held 0 (.held 1 (.held 2 (.held 3 (.held 4 (.held 5 (.op 6 (.held 7 .nil)))))))) mixed (by kernel_rfl) ?_;have hbD:Below wr.heap.size wr wr.drew:=(Below.refl _ _).drew;have hsD:wr.drew.heap.size=wr.heap.size:=rfl;have p0:wr.drew.cell? ⟨b,off+h*5,none⟩=_:=q0;have p1:wr.drew.cell? ⟨b,off+h*5+1,none⟩=_:=q1;have p2:wr.drew.cell? ⟨b,off+h*5+2,none⟩=_:=q2;have p3:wr.drew.cell? ⟨b,off+h*5+3,none⟩=_:=q3;have p4:wr.drew.cell? ⟨b,off+h*5+4,none⟩=_:=q4;have t0:wr.drew.cell? ⟨w.heap.size,0,none⟩=_:=r0;have t1:wr.drew.cell? ⟨w.heap.size,1,none⟩=_:=r1;have t2:wr.drew.cell? ⟨w.heap.size,2,none⟩=_:=r2;have t3:wr.drew.cell? ⟨w.heap.size,3,none⟩=_:=r3;have CD:=hdzz (CQ.out wr.drew hbD)
   have HBD:=hdzz (HB.out.trans (hbD.mono hsr));clear q0 q1 q2 q3 q4 r0 r1 r2 r3 CQ hbD;generalize wr.drew=D at *;refine stkz (.func (.func 181) #[] #[]) rfl rfl rfl (fun _ _ _ h=>h) (Below.refl _ _) (fun Y hY=>by
     (try simp only[Act.put]);go_simp) ?_
   refine stkz (.slice (some ⟨b,off,none⟩) nl cap) rfl rfl rfl (fun _ _ _ h=>h) (Below.refl _ _) (fun Y hY=>by
     (try simp only[Act.put]);go_simp) ?_
   refine stkz (.int .i64 h) rfl rfl rfl (fun _ _ _ h=>h) (Below.refl _ _) (fun Y hY=>by
     (try simp only[Act.put]);go_simp) ?_
   refine stkz (.pointer (some ⟨b,off+h*5,none⟩)) rfl rfl rfl (fun _ _ _ h=>h) (Below.refl _ _) (fun Y hY=>by
     (try simp only[Act.put]);go_simp) ?_
   refine stkz (.agg #[.int .i64 q.kind,.string q.name,.int .i64 q.sort,.slice Aq q.kids.length cq,.int .i64 m]) rfl rfl rfl (fun _ _ _ h=>h) (Below.refl _ _) (fun Y hY=>by
     have z0:=sclz hY p0 (by omega);have z1:=sclz hY p1 (by omega);have z2:=sclz hY p2 (by omega);have z3:=sclz hY p3 (by omega);have z4:=sclz hY p4 (by omega)
     (try simp only[Act.put]);go_simp) ?_
   refine stkz (.agg #[.int .i64 t.kind,.string t.name,.int .i64 t.sort,.slice A' t.kids.length c']) rfl rfl rfl (fun _ _ _ h=>h) (Below.refl _ _) (fun Y hY=>by
     have z0:=sclz hY t0 (by omega);have z1:=sclz hY t1 (by omega);have z2:=sclz hY t2 (by omega);have z3:=sclz hY t3 (by omega)
     (try simp only[Act.put]);go_simp) ?_
   simp only[Act.put,List.setIfInBounds_toArray];refine qae rfl rfl (fun K hK=>?_);go_wp2_with fail
   refine CD.out.mono ?_;clear CD;rintro e w5 ⟨rfl,hl5⟩;refine hK _ _ ⟨⟨fun _=>hl5.below,trivial⟩,?_⟩;clear hK K p0 p1 p2 p3 p4 t0 t1 t2 t3;have HB5:=hdzz (HBD.out.trans (hl5.below.mono (by omega)));by_cases hr:r<0
   ·refine qci (v:=.bool true) rfl rfl rfl (fun _ _ _ h=>h) hl5.below trivial (fun Y hY _=>by(try simp only[Act.put]);go_simp) ?_;refine qar ?_;clear hl5;go_wp2_with fail
    go_roundw
    case rel=>exact⟨h+1,hi,by go_num,rfl,by omega,hin,HB5.out,⟨HLOW.out hr,HI.out.2⟩⟩
    case measure=>simp[intOf];omega
   ·refine qci (v:=.bool false) rfl rfl rfl (fun _ _ _ h=>h) hl5.below trivial (fun Y hY _=>by(try simp only[Act.put]);go_simp) ?_;refine qar ?_;clear hl5;go_wp2_with fail
    go_roundw
    case rel=>exact⟨lo,h,rfl,rfl,by omega,by omega,HB5.out,⟨HI.out.1,HHIGH.out (by omega)⟩⟩
    case measure=>simp[intOf];omega
  ·obtain rfl:lo=hi:=by omega
   go_wp2_with fail
   by_cases hln:lo<nl
   ·have hhl:lo<l.length:=by have:=HNL.out;omega
    obtain⟨b,off,rfl,hbB,hget⟩:=(HRV.out.mono (w':=wr) (P':=fun b=>b<w.heap.size) (fun _ h=>h) (fun p hp=>HB.out.cell (by omega))).get (fun e=>by rw[e]at hhl;simp at hhl);obtain⟨Aq,cq,q0,q1,q2,q3,q4,qr⟩:=hget lo hhl;clear hget;have hqs:=HSZ.out l[lo] (List.getElem_mem hhl);have HRES:Hid (∀v:Bool,l[lo].1.same t=v→∀W,Below w.heap.size w W→Found l t w (.returned (.tuple #[.int .i64 lo,.bool v])) W):=hdzz fun v hv W hW=>⟨lo,by rw[dif_pos hhl,hv],by omega,HI.out.1,HI.out.2,hW⟩;obtain⟨x,hx⟩:∃x,x=l[lo]:=⟨_,rfl⟩;rw[←hx]at q0 q1 q2 q3 q4 qr hqs HRES;clear hx;obtain⟨q,m⟩:=x;dsimp only at q0 q1 q2 q3 q4 qr hqs HRES
    have CQ:Hid (∀X,Below wr.heap.size wr X→Calls Tryz.prog 181 #[.agg #[.int .i64 q.kind,.string q.name,.int .i64 q.sort,.slice Aq q.kids.length cq,.int .i64 m],.agg #[.int .i64 t.kind,.string t.name,.int .i64 t.sort,.slice A' t.kids.length c']] X fun e w'=>e=.returned (.int .i64 (q.cmp t))∧Lay X.heap.size X w'):=
     hdzz fun X hX=>CM.out X q m Aq cq (HB.out.trans (hX.mono (by omega))) hqs (RepP.mono (fun _ h=>h) (fun p hp=>hX.cell (by omega)) _ _ _ qr)
    clear qr hqs;have hsame:q.same t=(q.cmp t==0):=by unfold Tm.same;rw[Bool.eq_iff_iff];simp
    rw[hsame]at HRES;obtain⟨r,hr⟩:∃r,r=q.cmp t:=⟨_,rfl⟩;rw[←hr]at CQ HRES;clear hr hsame;generalize hz:(r==0)=z at HRES;refine qaf (fun Y=>Below wr.drew.heap.size wr.drew Y) (fun _=>True) [] (.held 0 (.held 1 (.held 2 (.held 3 (.held 4 (.held 5 (.held 6 (.held 7 (.held 8 (.held 9 (.held 10 (.op 11 (.held 12 (.held 13 (.held 14 (.held 15 .nil)))))))))))))))) mixed (by kernel_rfl) ?_;have hbD:Below wr.heap.size wr wr.drew:=(Below.refl _ _).drew;have hsD:wr.drew.heap.size=wr.heap.size:=rfl;have p0:wr.drew.cell? ⟨b,off+lo*5,none⟩=_:=q0;have p1:wr.drew.cell? ⟨b,off+lo*5+1,none⟩=_:=q1;have p2:wr.drew.cell? ⟨b,off+lo*5+2,none⟩=_:=q2;have p3:wr.drew.cell? ⟨b,off+lo*5+3,none⟩=_:=q3;have p4:wr.drew.cell? ⟨b,off+lo*5+4,none⟩=_:=q4
    have t0:wr.drew.cell? ⟨w.heap.size,0,none⟩=_:=r0;have t1:wr.drew.cell? ⟨w.heap.size,1,none⟩=_:=r1;have t2:wr.drew.cell? ⟨w.heap.size,2,none⟩=_:=r2;have t3:wr.drew.cell? ⟨w.heap.size,3,none⟩=_:=r3;have CD:=hdzz (CQ.out wr.drew hbD);have HBD:=hdzz (HBV.out.trans ((HB.out.trans (hbD.mono hsr)).mono (by omega)));clear q0 q1 q2 q3 q4 r0 r1 r2 r3 CQ hbD HB;generalize wr.drew=D at *;refine stkz (.int .i64 lo) rfl rfl rfl (fun _ _ _ h=>h) (Below.refl _ _) (fun Y hY=>by
      (try simp only[Act.put]);go_simp) ?_
    refine stkz (.int .i64 lo) rfl rfl rfl (fun _ _ _ h=>h) (Below.refl _ _) (fun Y hY=>by
      (try simp only[Act.put]);go_simp) ?_
    refine stkz (.int .i64 nl) rfl rfl rfl (fun _ _ _ h=>h) (Below.refl _ _) (fun Y hY=>by
      (try simp only[Act.put]);go_simp) ?_
    refine stkz (.bool true) rfl rfl rfl (fun _ _ _ h=>h) (Below.refl _ _) (fun Y hY=>by
      (try simp only[Act.put]);go_simp) ?_
    refine stkz (.bool true) rfl rfl rfl (fun _ _ _ h=>h) (Below.refl _ _) (fun Y hY=>by
      (try simp only[Act.put]);go_simp) ?_
    refine qac (v:=.func (.func 181) #[] #[]) rfl (by kernel_rfl) rfl (fun _ _ _ h=>h) (Below.refl _ _) trivial (fun Y hY hY2=>by
      (try simp only[Act.put]);go_simp) ?_
    refine qac (v:=.slice (some ⟨b,off,none⟩) nl cap) rfl (by kernel_rfl) rfl (fun _ _ _ h=>h) (Below.refl _ _) trivial (fun Y hY hY2=>by
      (try simp only[Act.put]);go_simp) ?_
    refine qac (v:=.int .i64 lo) rfl (by kernel_rfl) rfl (fun _ _ _ h=>h) (Below.refl _ _) trivial (fun Y hY hY2=>by
      (try simp only[Act.put]);go_simp) ?_
    refine qac (v:=.pointer (some ⟨b,off+lo*5,none⟩)) rfl (by kernel_rfl) rfl (fun _ _ _ h=>h) (Below.refl _ _) trivial (fun Y hY hY2=>by
      (try simp only[Act.put]);go_simp) ?_
    simp only[Act.put,fsa,fsb,fsc,fsd,fse,fsf];refine qac (v:=.agg #[.int .i64 q.kind,.string q.name,.int .i64 q.sort,.slice Aq q.kids.length cq,.int .i64 m]) rfl (by kernel_rfl) rfl (fun _ _ _ h=>h) (Below.refl _ _) trivial (fun Y hY hY2=>by
      have z0:=sclz hY p0 (by omega);have z1:=sclz hY p1 (by omega);have z2:=sclz hY p2 (by omega);have z3:=sclz hY p3 (by omega);have z4:=sclz hY p4 (by omega)
      (try simp only[Act.put]);go_simp) ?_
    refine qac (v:=.agg #[.int .i64 t.kind,.string t.name,.int .i64 t.sort,.slice A' t.kids.length c']) rfl (by kernel_rfl) rfl (fun _ _ _ h=>h) (Below.refl _ _) trivial (fun Y hY hY2=>by
      have z0:=sclz hY t0 (by omega);have z1:=sclz hY t1 (by omega);have z2:=sclz hY t2 (by omega);have z3:=sclz hY t3 (by omega)
      (try simp only[Act.put]);go_simp) ?_
    simp only[Act.put,fsa,fsb,fsc,fsd,fse,fsf];refine qaz rfl (by kernel_rfl) (fun K hK=>?_);go_wp2_with fail
    refine CD.out.mono ?_;clear CD;rintro e w5 ⟨rfl,hl5⟩;refine hK _ _ ⟨⟨fun _=>hl5.below,trivial⟩,?_⟩;clear hK K p0 p1 p2 p3 p4 t0 t1 t2 t3;have HB5:=hdzz (HBD.out.trans (hl5.below.mono (by omega)));refine qac (v:=.bool z) rfl (by kernel_rfl) rfl (fun _ _ _ h=>h) hl5.below trivial (fun Y hY hY2=>by
      (try simp only[Act.put]);go_simp) ?_
    refine stkz (.bool z) rfl rfl rfl (fun _ _ _ h=>h) hl5.below (fun Y hY=>by
      (try simp only[Act.put]);go_simp) ?_
    refine stkz (.int .i64 lo) rfl rfl rfl (fun _ _ _ h=>h) hl5.below (fun Y hY=>by
      (try simp only[Act.put]);go_simp) ?_
    refine stkz (.bool z) rfl rfl rfl (fun _ _ _ h=>h) hl5.below (fun Y hY=>by
      (try simp only[Act.put]);go_simp) ?_
    refine qar ?_;clear hl5;simp only[Act.put,fsa,fsb,fsc,fsd,fse,fsf];go_wp2_with fail
    go_ret2
    exact HRES.out z rfl w5 HB5.out
   ·obtain rfl:lo=nl:=by omega
    have HRES:Hid (∀W,Below w.heap.size w W→Found l t w (.returned (.tuple #[.int .i64 lo,.bool false])) W):=hdzz fun W hW=>⟨lo,by rw[dif_neg (by have:=HNL.out;omega)],by have:=HNL.out;omega,HI.out.1,HI.out.2,hW⟩;refine qaf (fun Y=>Below wr.drew.heap.size wr.drew Y) (fun _=>True) [] (.held 0 (.held 1 (.held 2 (.held 3 (.held 4 (.held 5 (.held 6 (.held 7 (.held 8 (.held 9 (.held 10 (.held 11 (.held 12 (.held 13 (.held 14 (.held 15 .nil)))))))))))))))) mixed (by kernel_rfl) ?_;have HBD:=hdzz (HBV.out.trans ((HB.out.trans ((Below.refl _ _).drew.mono hsr)).mono (by omega)));clear r0 r1 r2 r3 HB;generalize wr.drew=D at *;refine stkz (.int .i64 lo) rfl rfl rfl (fun _ _ _ h=>h) (Below.refl _ _) (fun Y hY=>by
      (try simp only[Act.put]);go_simp) ?_
    refine stkz (.int .i64 lo) rfl rfl rfl (fun _ _ _ h=>h) (Below.refl _ _) (fun Y hY=>by
      (try simp only[Act.put]);go_simp) ?_
    refine stkz (.int .i64 lo) rfl rfl rfl (fun _ _ _ h=>h) (Below.refl _ _) (fun Y hY=>by
      (try simp only[Act.put]);go_simp) ?_
    refine stkz (.bool false) rfl rfl rfl (fun _ _ _ h=>h) (Below.refl _ _) (fun Y hY=>by
      (try simp only[Act.put]);go_simp) ?_
    refine stkz (.bool false) rfl rfl rfl (fun _ _ _ h=>h) (Below.refl _ _) (fun Y hY=>by
      (try simp only[Act.put]);go_simp) ?_
    refine qah rfl (by kernel_rfl) rfl (fun _ _ _ h=>h) (Below.refl _ _) trivial ?_;refine qah rfl (by kernel_rfl) rfl (fun _ _ _ h=>h) (Below.refl _ _) trivial ?_;refine qah rfl (by kernel_rfl) rfl (fun _ _ _ h=>h) (Below.refl _ _) trivial ?_;refine qah rfl (by kernel_rfl) rfl (fun _ _ _ h=>h) (Below.refl _ _) trivial ?_;refine qah rfl (by kernel_rfl) rfl (fun _ _ _ h=>h) (Below.refl _ _) trivial ?_;refine qah rfl (by kernel_rfl) rfl (fun _ _ _ h=>h) (Below.refl _ _) trivial ?_;refine qah rfl (by kernel_rfl) rfl (fun _ _ _ h=>h) (Below.refl _ _) trivial ?_;refine qah rfl (by kernel_rfl) rfl (fun _ _ _ h=>h) (Below.refl _ _) trivial ?_;refine stkz (.bool false) rfl rfl rfl (fun _ _ _ h=>h) (Below.refl _ _) (fun Y hY=>by
      (try simp only[Act.put]);go_simp) ?_
    refine stkz (.int .i64 lo) rfl rfl rfl (fun _ _ _ h=>h) (Below.refl _ _) (fun Y hY=>by
      (try simp only[Act.put]);go_simp) ?_
    refine stkz (.bool false) rfl rfl rfl (fun _ _ _ h=>h) (Below.refl _ _) (fun Y hY=>by
      (try simp only[Act.put]);go_simp) ?_
    refine qar ?_;simp only[Act.put,fsa,fsb,fsc,fsd,fse,fsf];go_wp2_with fail
    go_ret2
    exact HRES.out _ HBD.out
def RepV (w:World) (P:Nat→Prop) (sz:Nat) (vs:List Value) (A:Option Addr) (n cap:Nat):Prop:=
 vs.length=n*sz∧n≤cap∧cap≤maxLen∧(n=0∨∃b off,A=some ⟨b,off,none⟩∧P b∧∀j u,vs[j]?=some u→w.cell? ⟨b,off+j,none⟩=some u)
theorem RepV.mono {w w':World} {P P':Nat→Prop} {sz:Nat} {vs:List Value} {A:Option Addr} {n cap:Nat} (hP:∀b,P b→P' b) (hc:∀p:Addr,P p.block→w'.cell? p=w.cell? p) (h:RepV w P sz vs A n cap):RepV w' P' sz vs A n cap:=by
 obtain⟨h1,h2,h3,h4⟩:=h;refine⟨h1,h2,h3,?_⟩;rcases h4 with h4|⟨b,off,hA,hb,hl⟩
 ·exact .inl h4
 ·exact .inr ⟨b,off,hA,hP b hb,fun j u hj=>by rw[hc _ hb];exact hl j u hj⟩
theorem RepV.nil {w:World} {P:Nat→Prop} {sz:Nat}:RepV w P sz [] none 0 0:=⟨by simp,Nat.le_refl _,Nat.zero_le _,.inl rfl⟩
theorem RepV.at {w:World} {P:Nat→Prop} {sz:Nat} {vs:List Value} {A:Option Addr} {n cap:Nat} (h:RepV w P sz vs A n cap) (hn:0<n) :
  ∃b off,A=some ⟨b,off,none⟩∧P b∧∀j u,vs[j]?=some u→w.cell? ⟨b,off+j,none⟩=some u:=by
 rcases h.2.2.2 with h|h
 ·omega
 ·exact h
theorem ql9 {w:World} {base n sz:Nat} {te:TypeId} {v:Value} {vs:List Value} (h:w.ownsRow base te sz v n vs) :
  ∃A cap,v=.slice A n cap∧∀P:Nat→Prop,(∀b,base≤b→b<w.heap.size→v.ownBlock=Option.some b→P b)→RepV w P sz vs A n cap:=by
 rcases h.2 with⟨rfl,rfl⟩|⟨g,cap,cur,rfl,hb,hg,hnc,hcm,-⟩
 ·refine⟨none,0,rfl,fun P _=>?_⟩;have hl:=h.1;exact⟨hl,Nat.le_refl _,Nat.zero_le _,.inl rfl⟩
 ·refine⟨some ⟨g,0,none⟩,cap,rfl,fun P hP=>⟨h.1,hnc,hcm,.inr ⟨g,0,rfl,hP g hb (sltz hg) rfl,fun j u hj=>?_⟩⟩⟩;have:=h.cells (g:=g) rfl j u hj;unfold Addr.add at this
  split at this<;>simp_all
theorem qkm {w w':World} {base n sz:Nat} {te:TypeId} {v:Value} {vs:List Value} (h:w.ownsRow base te sz v n vs) (hb:Below w.heap.size w w'):w'.ownsRow base te sz v n vs:=by
 refine⟨h.1,?_⟩;rcases h.2 with hn|⟨g,cap,cur,rfl,hg,hgb,r⟩
 ·exact .inl hn
 ·exact .inr ⟨g,cap,cur,rfl,hg,by rw[hb.block g (sltz hgb)];exact hgb,r⟩
theorem own_keep {w w':World} {base n sz:Nat} {te:TypeId} {v:Value} {vs:List Value} (h:w.ownsRow base te sz v n vs) (hc:∀k,v.ownBlock=Option.some k→w'.heap[k]?=w.heap[k]?):w'.ownsRow base te sz v n vs:=by
 refine⟨h.1,?_⟩;rcases h.2 with hn|⟨g,cap,cur,rfl,hg,hgb,r⟩
 ·exact .inl hn
 ·exact .inr ⟨g,cap,cur,rfl,hg,by rw[hc g rfl];exact hgb,r⟩
structure SlT (ts te:TypeId) (sz by_:Nat) (z:Value):Prop where
 und:Tryz.prog.underlying ts=some (.slice te)
 info:(Tryz.prog.info? te).map (fun i=>(i.zero,i.size,i.bytes))=some (some z,sz,by_)
 cells:z.cells.size=sz
 pos:0<sz
 le:by_≤64
structure GrewV (base:Nat) (w w':World) (v v':Value):Prop where
 below:Below base w w'
 old:∀k,k<w.heap.size→v.ownBlock≠Option.some k→w'.heap[k]?=w.heap[k]?
 own:v'.ownBlock=v.ownBlock∨∀k,v'.ownBlock=Option.some k→w.heap.size≤k
 size:w.heap.size≤w'.heap.size
theorem row_add {ts te:TypeId} {sz by_:Nat} {z:Value} (T:SlT ts te sz by_ z) {w:World} {base n:Nat} {v:Value} {xs:List Value} (hrow:w.ownsRow base te sz v n xs) (hbase:base≤w.heap.size)
  (news:List Value) (hl:news.length=sz) (h1:∀u∈news,u.oneCell'=true) (hlen:n+1≤1000000) :
  ∃g cap w',(∀ty,(Builtin.append_ #[ts,ts] ty #[v,.slice (some ⟨w.heap.size,0,none⟩) 1 1]).run Tryz.prog (w.alloc (.cells news.toArray te))=.ok (.slice (some ⟨g,0,none⟩) (n+1) cap) w')∧
   w'.ownsRow base te sz (.slice (some ⟨g,0,none⟩) (n+1) cap) (n+1) (xs++news)∧GrewV base w w' v (.slice (some ⟨g,0,none⟩) (n+1) cap):=by
 obtain⟨i0,hi0,hz0,hz1,hz2⟩:=info_parts T.info;have hb:Below w.heap.size w (w.alloc (.cells news.toArray te)):=qad (Nat.le_refl _) _;have hrow':=qkm hrow hb;have hn:=heap_alloc_new w (.cells news.toArray te);have hsz:(w.alloc (.cells news.toArray te)).heap.size=w.heap.size+1:=by simp
 generalize w.alloc (.cells news.toArray te)=Z at *;have hby:(n+1)*by_≤140737488355328:=by
  have:=T.le;have:(n+1)*by_≤1000000*64:=Nat.mul_le_mul hlen T.le;omega
 obtain⟨v',w',hr,ho,hg,-,hat⟩:=run_append_own_at (P:=Tryz.prog) (w:=Z) base ts 0 te i0 _ sz by_ T.und hi0 hz0 hz1 hz2 T.cells T.pos v n xs hrow'
  ⟨w.heap.size,0,none⟩ 1 1 news (by rw[hl,Nat.one_mul]) (fun j u hj=>World.news_of_block hn j u (by simpa using hj)) h1 (by unfold maxLen;omega) hby (by omega)
 rcases ho.2 with⟨-,h0⟩|⟨g,cap,cur,rfl,_⟩
 ·omega
 ·refine⟨g,cap,w',fun ty=>hr,ho,qaw (hb.mono hbase) (by omega) hg (fun k hk=>(hrow.lt k hk).1),fun k hk hne=>?_,?_,by have:=hg.size;omega⟩
  ·rw[hg.block k (by omega) (fun e=>hne e.symm),hb.block k hk]
  ·rcases hat with h|h
   ·exact .inl h
   ·right;intro k hk;rw[h]at hk;injection hk with hk;omega
theorem qju {w:World} {base:Nat} {e:TypeId} {size n:Nat} {v:Value} {xs:List Value} (t ty:TypeId) (i:TypeInfo) (ht:Tryz.prog.underlying t=some (.slice e)) (hi:Tryz.prog.info? e=some i)
  (hown:w.ownsRow base e size v n xs) (c:Nat):(Builtin.append_ #[t,t] ty #[v,.slice none 0 c]).run Tryz.prog w=.ok v w:=by
 rcases hown.2 with⟨rfl,rfl⟩|⟨g,cap,cur,rfl,_,_,hnc,_⟩
 ·simp[Builtin.append_,run_underlying ht,sizeOf,typeInfo,hi,Builtin.lenOf,Builtin.firstCells]
 ·simp[Builtin.append_,run_underlying ht,sizeOf,typeInfo,hi,Builtin.lenOf,Builtin.firstCells,hnc,storeCells]
theorem qdh {w w':World} {o:Oper} {a:Act} {K:Act→World→Prop} {Q:Exit→Act→World→Prop} {v u v':Value} {t:TypeId} (s x:Operand)
  (ho:o.op=.call { callee:=.builtin .append,args:=#[s,x],argTypes:=#[t,t] }) (hs:a.eval s=v) (hx:a.eval x=u)
  (hrun:∀ty,(Builtin.append_ #[t,t] ty #[v,u]).run Tryz.prog w=.ok v' w') (h:K (a.put o.dst v') w'):Oper.wp Tryz.prog o a w K Q:=by
 unfold Oper.wp;simp[execOp,ho,resolve,invoke,builtin,hs,hx,hrun,Result.andThen];exact h
theorem qjd {ts te:TypeId} {sz by_:Nat} {z:Value} (T:SlT ts te sz by_ z) {w:World} {base n m:Nat} {v:Value} {xs vs:List Value} (hrow:w.ownsRow base te sz v n xs) (hbase:base≤w.heap.size)
  {P:Nat→Prop} {A:Option Addr} {c:Nat} (hs:RepV w P sz vs A m c) (h1:∀u∈vs,u.oneCell'=true) (h63:n+m≤maxLen) (hby:(n+m)*by_≤140737488355328) :
  ∃v' w',(∀ty,(Builtin.append_ #[ts,ts] ty #[v,.slice A m c]).run Tryz.prog w=.ok v' w')∧w'.ownsRow base te sz v' (n+m) (xs++vs)∧GrewV base w w' v v':=by
 obtain⟨i0,hi0,hz0,hz1,hz2⟩:=info_parts T.info
 cases A with
 | none=>
  have hm:m=0:=by
   rcases hs.2.2.2 with h|⟨_,_,h,_⟩
   ·exact h
   ·cases h
  subst hm;have hv:vs=[]:=List.eq_nil_of_length_eq_zero (by rw[hs.1,Nat.zero_mul]);subst hv;exact⟨v,w,fun ty=>qju _ ty i0 T.und hi0 hrow c,by rw[List.append_nil];exact hrow,Below.refl _ _,fun _ _ _=>rfl,.inl rfl,Nat.le_refl _⟩
 | some a=>
  obtain⟨v',w',hr,ho,hg,-,hat⟩:=run_append_own_at (P:=Tryz.prog) (w:=w) base ts 0 te i0 _ sz by_ T.und hi0 hz0 hz1 hz2 T.cells T.pos v n xs hrow a m c vs hs.1 (fun j u hj=>by
   rcases hs.2.2.2 with h|⟨b,off,h,_,hc⟩
   ·subst h;have hv:vs=[]:=List.eq_nil_of_length_eq_zero (by rw[hs.1,Nat.zero_mul]);subst hv;simp at hj
   ·injection h with h;subst h;have:=hc j u hj;rw[show(⟨b,off,none⟩:Addr).add j=⟨b,off+j,none⟩by unfold Addr.add;split<;>simp_all];exact this) h1 h63 hby hbase
  refine⟨v',w',fun ty=>hr,ho,qaw (Below.refl _ _) hbase hg (fun k hk=>(hrow.lt k hk).1),fun k hk hne=>hg.block k hk (fun e=>hne e.symm),?_,hg.size⟩;rcases hat with h|h
  ·exact .inl h
  ·right;intro k hk;rw[h]at hk;injection hk with hk;omega
theorem qja:SlT 129 163 5 64 (.agg #[.int .i64 0,.string ⟨#[]⟩,.int .i64 0,.slice none 0 0,.int .i64 0]):=⟨Tryz.underlying129,by kernel_rfl,rfl,by decide,by decide⟩
theorem qel {P:Program} (w:World) {o:Oper} {a:Act} {K:Act→World→Prop} {Q:Exit→Act→World→Prop} (d s:Operand) (t t':TypeId)
  (ho:o.op=.call { callee:=.builtin .copy,args:=#[d,s],argTypes:=#[t,t'] }) (v u:Value) (hd:a.eval d=v) (hs:a.eval s=u) {v':Value} {w':World}
  (hr:(Builtin.copy_ #[t,t'] o.type #[v,u]).run P w=.ok v' w') (h:K (a.put o.dst v') w'):o.wp P a w K Q:=by
 unfold Oper.wp execOp;simp only[ho,resolve,invoke,builtin,Sem.run_bind,Sem.run_pure,Result.andThen_ok,List.map_toArray,List.map_cons,List.map_nil,hd,hs,hr];exact h
theorem qej {P:Program} (w:World) {ops:Array Oper} {rest:List Oper} {o:Oper} {a:Act} {Q:Exit→Act→World→Prop} (hgd:o.guard=none) (d s:Operand) (t t':TypeId)
  (ho:o.op=.call { callee:=.builtin .copy,args:=#[d,s],argTypes:=#[t,t'] }) (v u:Value) (hd:a.eval d=v) (hs:a.eval s=u) {v':Value} {w':World}
  (hr:(Builtin.copy_ #[t,t'] o.type #[v,u]).run P w=.ok v' w') (h:wpList P ops Q rest (a.put o.dst v') w'):wpList P ops Q (o::rest) a w:=
 wpList_plain hgd fun _ hK=>qel w d s t t' ho v u hd hs hr (hK _ _ h)
section
variable {ts te:TypeId} {sz by_:Nat} {z:Value}
theorem qdi (T:SlT ts te sz by_ z) (w:World) (ty:TypeId) (g o dLen dCap:Nat) (a:Addr) (sLen sCap:Nat) (cur:Array Value) (t:TypeId) (cs:List Value) (n:Nat)
  (hg:w.heap[g]?=some (.cells cur t (0,0))) (hn:n=Nat.min sLen dLen) (hl:cs.length=n*sz)
  (hsrc:∀j v,cs[j]?=some v→w.cell? (a.add j)=some v) (hfit:o+cs.length≤cur.size) (h1:∀v∈cs,v.oneCell'=true) :
  (Builtin.copy_ #[ts,ts] ty #[.slice (some ⟨g,o,none⟩) dLen dCap,.slice (some a) sLen sCap]).run Tryz.prog w =
   .ok (goInt n) (w.setRow g (cur.toList.take o++cs++cur.toList.drop (o+cs.length)).toArray):=by
 obtain⟨i0,hi0,hz0,hz1,hz2⟩:=info_parts T.info;have hld:=run_loadCells_list (P:=Tryz.prog) w a cs hsrc;have hst:=run_storeCells_at Tryz.prog g o t cs 0 cur w hg (by simpa using hfit) h1;rw[hl]at hld;simp[Builtin.copy_,run_underlying T.und,Builtin.lenOf,Builtin.firstCells,sizeOf,typeInfo,hi0,hz1,←hn,hld,hst]
theorem take_app {a b:Array Value} {n:Nat} (h:a.toList.length=n):(a++b).toList.take n=a.toList:=by rw[Array.toList_append];exact List.take_left' h
theorem qhs (T:SlT ts te sz by_ z) (w:World) (tn ty:TypeId) (htn:Tryz.prog.underlying tn=some (.int .i64)) {base n cap g:Nat} {xs:List Value} (hrow:w.ownsRow base te sz (.slice (some ⟨g,0,none⟩) n cap) n xs) (i k:Nat) (hi:i≤n) (h0:0<k) (hik:cap<i+k) (hle:i+k≤1000000) :
  ∃c w' cur,(Builtin.append_ #[ts,tn] ty #[.slice (some ⟨g,0,none⟩) i cap,.int .i64 k]).run Tryz.prog w=.ok (.slice (some ⟨w.heap.size,0,none⟩) (i+k) c) w'∧i+k≤c∧c≤maxLen∧
   w'.heap[w.heap.size]?=some (.cells cur te (0,0))∧cur.size=c*sz∧cur.toList.take (i*sz)=xs.take (i*sz)∧Below w.heap.size w w':=by
 obtain⟨i0,hi0,hz0,hz1,hz2⟩:=info_parts T.info;have hcap:=grownCap_ge w (i+k) cap te;have hcap2:=grownCap_le_maxLen w (i+k) cap te (by unfold maxLen;omega);have hzs:=T.cells;have hpos:=T.pos;have hby:=T.le;rcases hrow.2 with⟨hv,_⟩|⟨g',cap',cur,hv,hb,hg,hnc,hcm,hs,ht⟩
 ·cases hv
 injection hv with e1 e2 e3;injection e1 with e1;injection e1 with e1;subst e1 e3;have hxl:=hrow.1;have hmul:i*sz≤n*sz:=Nat.mul_le_mul_right _ hi;have hold:(Builtin.firstCells i0.size i (.slice (some ⟨g,0,none⟩) i cap)).run Tryz.prog w.drew=.ok (xs.take (i*sz)).toArray w.drew:=by
  rw[hz1];refine run_firstCells_some w.drew sz i ⟨g,0,none⟩ i cap (xs.take (i*sz)) (by rw[List.length_take,hxl];exact Nat.min_eq_left hmul) (fun j u hj=>?_);have hj2:xs[j]?=some u:=by
   rw[List.getElem?_take]at hj
   split at hj
   ·exact hj
   ·cases hj
  exact hrow.cells (g:=g) rfl j u hj2
 refine⟨grownCap w (i+k) cap te,w.drew.alloc (.cells ((xs.take (i*sz)).toArray++(Builtin.zeroCells z.cells k++Builtin.zeroCells z.cells (grownCap w (i+k) cap te - (i+k)))) te),_,?_,hcap,hcap2,heap_alloc_new w.drew _,?_,?_,?_⟩
 ·have hn0:k≠0:=by omega
  have h63':¬(9223372036854775807<(i:Int)+(k:Int)):=by omega
  have hw:IntKind.i64.wrap (k:Int)=(k:Int):=by rw[IntKind.wrap_i64];omega
  have hneg:¬((k:Int)<0):=by omega
  have h48':¬(281474976710656<Builtin.nextslicecap (i+k) cap*i0.bytes):=by
   rw[hz2];have hb:(i+k)*by_≤140737488355328:=Nat.le_trans (Nat.mul_le_mul hle hby) (by decide);exact Nat.not_lt.2 (growslice_fits hik hb)
  have hbig:¬(281474976710656<(k:Int)*(i0.bytes:Int)):=by
   rw[hz2,←Int.natCast_mul];have:k*by_≤1000000*64:=Nat.mul_le_mul (by omega) hby;omega
  have hsz:¬(k*i0.size=0):=by rw[hz1];exact Nat.mul_ne_zero hn0 (by omega)
  have hik':¬(i+k≤cap):=by omega
  simp[Builtin.append_,run_underlying T.und,run_underlying htn,sizeOf,typeInfo,zeroValue,hi0,hz0,h63',h48',Question.forced,hold,newRow,grownCap,asInt,asIntOf,hw,hneg,hbig,hsz,hik']
 ·simp only[Array.size_append,size_zeroCells,hzs,List.size_toArray,List.length_take,hxl,Nat.min_eq_left hmul];rw[←Nat.add_mul,←Nat.add_mul]
  congr 1
  omega
 ·have e:(xs.take (i*sz)).length=i*sz:=by rw[List.length_take,hxl];exact Nat.min_eq_left hmul
  exact take_app (a:=(xs.take (i*sz)).toArray) e
 ·exact(Below.refl _ _).drew.alloc (Nat.le_refl _) _
end
theorem grow_run (w:World) (n:Nat) (h0:0<n) (hn:n≤1000000) (ty:TypeId) :
  ∃cap w',(Builtin.append_ #[22,3] ty #[.slice none 0 0,.int .i64 n]).run Tryz.prog w=.ok (.slice (some ⟨w.heap.size,0,none⟩) n cap) w'∧n≤cap∧RowT w' w.heap.size (fun _=>True) (.slice (some ⟨w.heap.size,0,none⟩) 0 cap) []∧Below w.heap.size w w':=by
 obtain⟨i0,hi0,hz0,hz1,hz2⟩:=info_parts qcv;have hcap:=grownCap_ge w n 0 24;have hcap2:=grownCap_le_maxLen w n 0 24 (by unfold maxLen;omega);obtain⟨zz,hzz⟩:∃z:Value,z=.agg #[.int .i64 0,.string ⟨#[]⟩,.int .i64 0,.slice none 0 0]:=⟨_,rfl⟩;have hzs:zz.cells.size=4:=by rw[hzz];rfl
 rw[←hzz]at hz0;refine⟨grownCap w n 0 24,w.drew.alloc (.cells (Builtin.zeroCells zz.cells n++Builtin.zeroCells zz.cells (grownCap w n 0 24 - n)) 24),?_,hcap,⟨⟨by simp[itCells],.inr ⟨w.heap.size,_,_,rfl,Nat.le_refl _,heap_alloc_new w.drew _,Nat.zero_le _,hcap2,?_,by simp[itCells]⟩⟩,by simp⟩,?_⟩
 ·have hn0:n≠0:=by omega
  have h63':¬(9223372036854775807<(n:Int)):=by omega
  have h48':¬(281474976710656<Builtin.nextslicecap n 0*i0.bytes):=by rw[nextslicecap_zero h0,hz2];omega
  have hw:IntKind.i64.wrap (n:Int)=(n:Int):=by rw[IntKind.wrap_i64];omega
  have hneg:¬((n:Int)<0):=by omega
  have hbig:¬(281474976710656<(n:Int)*(i0.bytes:Int)):=by rw[hz2];omega
  have hsz:¬(n*i0.size=0):=by rw[hz1];omega
  simp[Builtin.append_,run_underlying Tryz.underlying22,run_underlying Tryz.underlying3,sizeOf,typeInfo,zeroValue,hi0,hz0,hn0,h63',h48',Question.forced,run_firstCells_none,newRow,grownCap,asInt,asIntOf,hw,hneg,hbig,hsz]
 ·simp only[Array.size_append,size_zeroCells,hzs,←Nat.add_mul]
  congr 1
  omega
 ·exact(Below.refl _ _).drew.alloc (Nat.le_refl _) _
theorem qdu {w w':World} {ops:Array Oper} {rest:List Oper} {o:Oper} {a:Act} {Q:Exit→Act→World→Prop} {v u v':Value} {t t2:TypeId} (hgd:o.guard=none) (s x:Operand)
  (ho:o.op=.call { callee:=.builtin .append,args:=#[s,x],argTypes:=#[t,t2] }) (hs:a.eval s=v) (hx:a.eval x=u)
  (hrun:∀ty,(Builtin.append_ #[t,t2] ty #[v,u]).run Tryz.prog w=.ok v' w') (h:wpList Tryz.prog ops Q rest (a.put o.dst v') w'):wpList Tryz.prog ops Q (o::rest) a w:=by
 refine wpList_plain hgd fun K hK=>?_;unfold Oper.wp execOp;simp only[ho,resolve,invoke,builtin,Sem.run_bind,Sem.run_pure,Result.andThen_ok,List.map_toArray,List.map_cons,List.map_nil,hs,hx,hrun];exact hK _ _ h
def Grew (w:World) (e:Ending) (w':World):Prop:=∃A c,e=.returned (.slice A 0 c)∧RowT w' w.heap.size (fun _=>True) (.slice A 0 c) []∧Below w.heap.size w w'
theorem qme (n:Nat) (hn:n≤1000000) (w:World):Calls Tryz.prog 122 #[.slice none 0 0,.int .i64 n] w (Grew w):=by
 rcases Nat.eq_zero_or_pos n with rfl|h0
 ·go_enter Tryz.func122,Tryz.ntmps122
  go_wp2_with fail
  go_ret
  exact⟨none,0,rfl,RowT.nil _ _ _,Below.refl _ _⟩
 ·have i1:(0:Int)<(n:Int):=by omega
  have i2:¬((n:Int)<0):=by omega
  have hr:∃cap w',(∀ty,(Builtin.append_ #[22,3] ty #[.slice none 0 0,.int .i64 n]).run Tryz.prog w=.ok (.slice (some ⟨w.heap.size,0,none⟩) n cap) w')∧n≤cap∧RowT w' w.heap.size (fun _=>True) (.slice (some ⟨w.heap.size,0,none⟩) 0 cap) []∧Below w.heap.size w w':=by
   obtain⟨cap,w',h1,h2⟩:=grow_run w n h0 hn 0;exact⟨cap,w',fun _=>h1,h2⟩
  obtain⟨cap,w',hap,hcap,hrow,hb⟩:=hr;have HROW:=hdzz hrow;clear hrow;have HB:=hdzz hb;clear hb;obtain⟨g,hg⟩:∃g,g=w.heap.size:=⟨_,rfl⟩;rw[←hg]at hap HROW;go_enter Tryz.func122,Tryz.ntmps122
  go_wp2_with (at_builtin;refine qdu rfl _ _ rfl rfl rfl hap ?_)
  go_ret
  have hrow:=HROW.out;rw[hg]at hrow;exact⟨some ⟨w.heap.size,0,none⟩,cap,rfl,hrow,HB.out⟩
theorem qg5 {w:World} {base n:Nat} {v:Value} {xs:List Value} (hown:w.ownsRow base 24 4 v n xs) (A:Option Addr) (c:Nat) (ty:TypeId) :
  (Builtin.append_ #[22,22] ty #[v,.slice A 0 c]).run Tryz.prog w=.ok v w:=by
 obtain⟨i0,hi0,hz0,hz1,hz2⟩:=info_parts qcv;rcases hown.2 with⟨rfl,rfl⟩|⟨g,cap,cur,rfl,_,_,hnc,_⟩
 ·cases A<;>simp[Builtin.append_,run_underlying Tryz.underlying22,sizeOf,typeInfo,hi0,Builtin.lenOf,Builtin.firstCells,loadCells,loadCellsFrom]
 ·cases A<;>simp[Builtin.append_,run_underlying Tryz.underlying22,sizeOf,typeInfo,hi0,Builtin.lenOf,Builtin.firstCells,hnc,storeCells,loadCells,loadCellsFrom]
theorem qe2 {w:World} {base:Nat} {v:Value} {its:List It} {B:Nat} (hrow:RowT w base (fun b=>b<B) v its) (hB:B≤base) (hbase:base≤w.heap.size) {l:List Tm} {A:Option Addr} {c:Nat} (hS:RepS w (fun b=>b<B) l A c) (hlen:its.length+l.length≤100000000) :
  ∃A' c' w' it2,it2.map (·.1)=l∧(∀ty,(Builtin.append_ #[22,22] ty #[v,.slice A l.length c]).run Tryz.prog w=.ok (.slice A' (its.length+l.length) c') w')∧
   RowT w' base (fun b=>b<B) (.slice A' (its.length+l.length) c') (its++it2)∧(∀W0 B0,Below B0 W0 w→B0≤base→Below B0 W0 w'):=by
 have grown:∀{w1:World},w.grownBy w1 v.ownBlock→∀W0 B0,Below B0 W0 w→B0≤base→Below B0 W0 w1:=fun hg W0 B0 hb hB0=>
  qaw hb (by omega) hg (fun k hk=>by have:=(hrow.lt k hk).1;omega)
 rcases hS.2.2 with h|⟨b,off,rfl,hbB,hl⟩
 ·subst h;have hc0:∀ty,(Builtin.append_ #[22,22] ty #[v,.slice A 0 c]).run Tryz.prog w=.ok v w:=fun ty=>qg5 hrow.own A c ty;rcases hrow.own.2 with⟨hv,h0⟩|⟨g,cap,cur,hv,_⟩
  ·refine⟨none,0,w,[],rfl,fun ty=>?_,?_,fun _ _ h _=>h⟩
   ·rw[hv]at hc0;rw[hv,h0];exact hc0 ty
   ·rw[hv]at hrow;rw[List.append_nil,h0];exact hrow
  ·refine⟨some ⟨g,0,none⟩,cap,w,[],rfl,fun ty=>?_,?_,fun _ _ h _=>h⟩
   ·have h2:=hc0 ty;rw[hv]at h2;rw[hv];exact h2
   ·rw[hv]at hrow;rw[List.append_nil];exact hrow
 ·obtain⟨it2,hm,hc,hr⟩:=RepLP.its l b off hl;have hl2:l.length=it2.length:=by rw[←hm,List.length_map]
  obtain⟨A',c',w',h1,h2,h3,-⟩:=hrow.more (fun b h=>by omega) hbase b off c l.length it2 hl2 hc hr hlen;exact⟨A',c',w',it2,hm,h1,h2,grown h3⟩
def Catted (L:List Tm) (w:World) (e:Ending) (w':World):Prop:=
 ∃A c its,e=.returned (.slice A L.length c)∧RowT w' w.heap.size (fun b=>b<w.heap.size) (.slice A L.length c) its∧its.map (·.1)=L∧Below w.heap.size w w'
theorem qnm (l m:List Tm) (A0 A1:Option Addr) (c0 c1 sb:Nat) (w:World) (hl:l.length≤100000) (hm:m.length≤100000)
  (hx:w.heap[sb]?=some (.cells #[.slice A0 l.length c0,.slice A1 m.length c1] 22 (0,0))) (h0:RepS w (fun b=>b<w.heap.size) l A0 c0) (h1:RepS w (fun b=>b<w.heap.size) m A1 c1) :
  Calls Tryz.prog 81 #[.slice (some ⟨sb,0,none⟩) 2 2] w (Catted (l++m) w):=by
 have hsb:=(sltz hx);have x0:w.cell? ⟨sb,0,none⟩=some (.slice A0 l.length c0):=by simp[World.cell?,hx]
 have x1:w.cell? ⟨sb,1,none⟩=some (.slice A1 m.length c1):=by simp[World.cell?,hx]
 have GR:=qme (l.length+m.length) (by omega) w;rw[show((l.length+m.length:Nat):Int)=(l.length:Int)+(m.length:Int)by omega]at GR;have GR:=hdzz GR;have H0:=hdzz h0;clear h0;have H1:=hdzz h1;clear h1;have i1:(0:Int)≤(l.length:Int):=by omega
 have i2:(0:Int)≤(m.length:Int):=by omega
 have i3:¬((l.length:Int)<0):=by omega
 have i4:¬((l.length:Int)+(m.length:Int)<0):=by omega
 go_enter Tryz.func81,Tryz.ntmps81
 go_wp2_with fail
 refine wp_loop_rounds 3 ?_;rw[rounds_succ];go_wp2_with fail
 rw[rounds_succ];go_wp2_with fail
 rw[rounds_succ];go_wp2_with fail
 refine GR.out.mono ?_;clear GR x0 x1;rintro e w1 ⟨A,c,rfl,hrow,hb⟩;have hrow':RowT w1 w.heap.size (fun b=>b<w.heap.size) (.slice A 0 c) []:=⟨hrow.own,by simp⟩;have up:∀{Z:World} {t:List Tm} {T:Option Addr} {k:Nat},Below w.heap.size w Z→RepS w (fun b=>b<w.heap.size) t T k→RepS Z (fun b=>b<w.heap.size) t T k:=fun hZ h=>RepS.mono (fun _ h=>h) (fun p hp=>hZ.cell hp) h;obtain⟨A2,c2,w2,it2,hm2,hap1,hrow2,hg2⟩:=qe2 hrow' (Nat.le_refl _) hb.size (up hb H0.out) (by simp;omega);have hb2:=hg2 _ _ hb (Nat.le_refl _);simp only[List.length_nil,Nat.zero_add,List.nil_append]at hap1 hrow2;have hl2:it2.length=l.length:=by rw[←hm2,List.length_map]
 rw[←hl2]at hrow2;obtain⟨A3,c3,w3,it3,hm3,hap2,hrow3,hg3⟩:=qe2 hrow2 (Nat.le_refl _) hb2.size (up hb2 H1.out) (by omega);have hb3:=hg3 _ _ hb2 (Nat.le_refl _);rw[hl2]at hap2 hrow3;have x0:w1.cell? ⟨sb,0,none⟩=some (.slice A0 l.length c0):=by rw[hb.cell (show sb<_ from hsb)];simp[World.cell?,hx]
 have x1:w2.cell? ⟨sb,1,none⟩=some (.slice A1 m.length c1):=by rw[hb2.cell (show sb<_ from hsb)];simp[World.cell?,hx]
 have HROW:=hdzz hrow3;clear hrow3 hrow2 hrow' hrow hg2 hg3;have HB:=hdzz hb3;clear hb3 hb2 hb;have HM:Hid ((it2++it3).map (·.1)=l++m):=by show _=_;rw[List.map_append,hm2,hm3]
 clear hm2 hm3 hl2 hx up i1 i2 i3 i4;go_wp2_with fail
 refine wp_loop_rounds 3 ?_;rw[rounds_succ];go_wp2_with (at_builtin;refine qab rfl _ _ rfl rfl rfl hap1 ?_)
 rw[rounds_succ];go_wp2_with (at_builtin;refine qab rfl _ _ rfl rfl rfl hap2 ?_)
 rw[rounds_succ];go_wp2_with fail
 go_ret
 exact⟨A3,c3,it2++it3,by rw[List.length_append];rfl,by rw[List.length_append];exact HROW.out,HM.out,HB.out⟩
theorem qln {w:World} {base g n cap sz:Nat} {te:TypeId} {cur:Array Value} {xs:List Value} (hg:w.heap[g]?=some (.cells cur te (0,0))) (hb:base≤g) (hnc:n≤cap) (hcm:cap≤maxLen) (hs:cur.size=cap*sz) (ht:cur.toList.take (n*sz)=xs) (hx:xs.length=n*sz) :
  w.ownsRow base te sz (.slice (some ⟨g,0,none⟩) n cap) n xs:=⟨hx,.inr ⟨g,cap,cur,rfl,hb,hg,hnc,hcm,hs,ht⟩⟩
theorem qcs {w:World} {base g:Nat} (hg:base≤g) (cur:Array Value):Below base w (w.setRow g cur):=⟨rfl,rfl,rfl,by simp,fun b hb=>setRow_other _ _ _ _ (by omega)⟩
theorem seg_low {l cs:List Value} {o:Nat} (h:o≤l.length):(l.take o++cs++l.drop (o+cs.length)).take o=l.take o:=by
 rw[List.append_assoc];exact List.take_left' (by rw[List.length_take];omega)
theorem seg_drop {l cs:List Value} {o:Nat} (h:o≤l.length):(l.take o++cs++l.drop (o+cs.length)).drop o=cs++l.drop (o+cs.length):=by
 rw[List.append_assoc];exact List.drop_left' (by rw[List.length_take];omega)
theorem qgh {l cs:List Value} {o:Nat} (h:o+cs.length≤l.length):(l.take o++cs++l.drop (o+cs.length)).length=l.length:=by
 simp only[List.length_append,List.length_take,List.length_drop];omega
theorem seg_shift {cur xs news:List Value} {a b m:Nat} (hb:b=a+news.length) (hx:xs.length=m) (ha:a≤m) (hl:m+news.length≤cur.length) (ht:cur.take m=xs) (c1:List Value)
  (h1:c1=cur.take b++xs.drop a++cur.drop (b+(xs.drop a).length)):(c1.take a++news++c1.drop (a+news.length)).take (m+news.length)=xs.take a++(news++xs.drop a):=by
 have hd:(xs.drop a).length=m - a:=by rw[List.length_drop,hx]
 have e1:c1.take a=xs.take a:=by
  rw[h1,List.append_assoc,List.take_append_of_le_length (by rw[List.length_take];omega),List.take_take,Nat.min_eq_left (by omega),←ht,List.take_take,Nat.min_eq_left ha]
 have e2:c1.drop (a+news.length)=xs.drop a++cur.drop (b+(xs.drop a).length):=by
  rw[h1,←hb];exact seg_drop (by omega)
 rw[e1,e2,List.append_assoc,←List.append_assoc news,←List.append_assoc];refine List.take_left' ?_;simp only[List.length_append,List.length_take,hd,hx];omega
theorem seg_fill {cur xs news:List Value} {a b m:Nat} (hb:b=a+news.length) (hx:xs.length=m) (ha:a≤m) (hl:m+news.length≤cur.length) (ht:cur.take a=xs.take a) (c1:List Value)
  (h1:c1=cur.take a++news++cur.drop (a+news.length)):(c1.take b++xs.drop a++c1.drop (b+(xs.drop a).length)).take (m+news.length)=xs.take a++(news++xs.drop a):=by
 have hd:(xs.drop a).length=m - a:=by rw[List.length_drop,hx]
 have e1:c1.take b=xs.take a++news:=by
  rw[h1,ht];refine List.take_left' ?_;rw[List.length_append,List.length_take];omega
 rw[e1,List.append_assoc (xs.take a)];refine List.take_left' ?_;simp only[List.length_append,List.length_take,hd,hx];omega
def qei (base n i:Nat) (v:Value) (xs news:List Value) (w:World) (e:Ending) (w':World):Prop:=
 ∃v',e=.returned v'∧w'.ownsRow base 163 5 v' (n+1) (xs.take (i*5)++(news++xs.drop (i*5)))∧GrewV base w w' v v'
theorem ins_end (w:World) (base n B:Nat) (v:Value) (xs news:List Value) (hrow:w.ownsRow base 163 5 v n xs) (hbase:base≤w.heap.size) (hn:n≤100000)
  (hB:w.heap[B]?=some (.cells news.toArray 163 (0,0))) (hl:news.length=5) (h1:∀u∈news,u.oneCell'=true) :
  Calls Tryz.prog 182 #[v,.int .i64 n,.slice (some ⟨B,0,none⟩) 1 1] w (qei base n n v xs news w):=by
 obtain⟨v',w',hap,ho,hg⟩:=qjd (m:=1) (c:=1) (A:=some ⟨B,0,none⟩) (vs:=news) (P:=fun _=>True) qja hrow hbase
  ⟨by rw[hl],Nat.le_refl _,by unfold maxLen;omega,.inr ⟨B,0,rfl,trivial,fun j u hj=>by
   rw[Nat.zero_add];unfold World.cell?;rw[hB];simpa using hj⟩⟩ h1 (by unfold maxLen;omega) (by omega)
 have e1:xs.take (n*5)=xs:=List.take_of_length_le (by rw[hrow.1];exact Nat.le_refl _);have e2:xs.drop (n*5)=[]:=List.drop_of_length_le (by rw[hrow.1];exact Nat.le_refl _);have HR:Hid (qei base n n v xs news w (.returned v') w'):=hdzz ⟨v',rfl,by rw[e1,e2,List.append_nil];exact ho,hg⟩;clear ho hg e1 e2 h1 hl hB;rcases hrow.2 with⟨rfl,rfl⟩|⟨g,cap,cur,rfl,-,-,hnc,hcm,-⟩
 ·clear hrow;go_enter Tryz.func182,Tryz.ntmps182
  go_wp2_with (at_builtin;refine qab rfl _ _ rfl rfl rfl hap ?_)
  go_ret
  exact HR.out
 ·clear hrow;unfold maxLen at hcm;have i1:(n:Int)≤(cap:Int):=by omega
  go_enter Tryz.func182,Tryz.ntmps182
  by_cases hcn:cap=n
  ·subst hcn;go_wp2_with (at_builtin;refine qab rfl _ _ rfl rfl rfl hap ?_)
   go_ret
   exact HR.out
  ·go_wp2_with (at_builtin;refine qab rfl _ _ rfl rfl rfl hap ?_)
   go_ret
   exact HR.out
theorem ins_make (w:World) (base n i g B:Nat) (xs news:List Value) (hrow:w.ownsRow base 163 5 (.slice (some ⟨g,0,none⟩) n n) n xs) (hbase:base≤w.heap.size) (hn:n≤100000) (hi:i<n) (hx1:∀u∈xs,u.oneCell'=true)
  (hB:w.heap[B]?=some (.cells news.toArray 163 (0,0))) (hl:news.length=5) (h1:∀u∈news,u.oneCell'=true) :
  Calls Tryz.prog 182 #[.slice (some ⟨g,0,none⟩) n n,.int .i64 i,.slice (some ⟨B,0,none⟩) 1 1] w (qei base n i (.slice (some ⟨g,0,none⟩) n n) xs news w):=by
 have mixed:=mixz;obtain⟨k,hk⟩:∃k,k=n+1 - i:=⟨_,rfl⟩;have hap:∃c w',∃cur:Array Value,(∀ty,(Builtin.append_ #[129,3] ty #[.slice (some ⟨g,0,none⟩) i n,.int .i64 k]).run Tryz.prog w=.ok (.slice (some ⟨w.heap.size,0,none⟩) (i+k) c) w')∧i+k≤c∧c≤maxLen∧
   w'.heap[w.heap.size]?=some (.cells cur 163 (0,0))∧cur.size=c*5∧cur.toList.take (i*5)=xs.take (i*5)∧Below w.heap.size w w':=by
  obtain⟨c,w',cur,h1,h2⟩:=qhs qja w 3 0 Tryz.underlying3 hrow i k (by omega) (by omega) (by omega) (by omega);exact⟨c,w',cur,fun _=>h1,h2⟩
 obtain⟨c,w1,cur,hap,hc1,hc2,hcur,hcs,hct,hb1⟩:=hap;have hik:i+k=n+1:=by omega
 rw[hik]at hap hc1;have hs1:=hb1.size;have hBlt:=(sltz hB);obtain⟨W0,hW0⟩:∃W0,W0=w.heap.size:=⟨_,rfl⟩;rw[←hW0]at hap hcur hBlt;have hxl:=hrow.1;have hgl:=(hrow.lt g rfl);obtain⟨c1,hc1e⟩:∃c1:List Value,c1=cur.toList.take (i*5)++news++cur.toList.drop (i*5+news.length):=⟨_,rfl⟩;have hc1l:c1.length=c*5:=by rw[hc1e,qgh (by rw[hl,Array.length_toList,hcs];omega),Array.length_toList,hcs]
 obtain⟨w2,hw2⟩:∃w2,w2=w1.setRow W0 c1.toArray:=⟨_,rfl⟩;have hcp1:∀ty dc,(Builtin.copy_ #[129,129] ty #[.slice (some ⟨W0,i*5,none⟩) (n+1 - i) dc,.slice (some ⟨B,0,none⟩) 1 1]).run Tryz.prog w1=.ok (goInt 1) w2:=fun ty dc=>by
  have h:=qdi qja w1 ty W0 (i*5) (n+1 - i) dc ⟨B,0,none⟩ 1 1 cur _ news 1 hcur (by simp only[Nat.min_def];split<;>omega) (by rw[hl])
   (fun j u hj=>by
    have e:(⟨B,0,none⟩:Addr).add j=⟨B,j,none⟩:=by unfold Addr.add;split<;>simp_all
    rw[e];unfold World.cell?;rw[hb1.block B (by omega),hB];simpa using hj) (by rw[hl,hcs];omega) h1
  rw[h,hw2,hc1e];rfl
 have hcur2:w2.heap[W0]?=some (.cells c1.toArray 163 (0,0)):=by rw[hw2];exact setRow_heap w1 W0 cur _ _ _ hcur
 have hb2:Below w.heap.size w w2:=by rw[hw2,hW0];exact hb1.trans (qcs (Nat.le_refl _) _)
 have hdl:(xs.drop (i*5)).length=(n - i)*5:=by rw[List.length_drop,hxl];omega
 have hgw2:∀j u,(xs.drop (i*5))[j]?=some u→w2.drew.cell? ((⟨g,i*5,none⟩:Addr).add j)=some u:=fun j u hj=>by
  have e:(⟨g,i*5,none⟩:Addr).add j=⟨g,i*5+j,none⟩:=by unfold Addr.add;split<;>simp_all
  rw[e];show w2.cell? _=_;rw[hb2.cell (by show g<_;omega)];have h:=hrow.cells (g:=g) rfl (i*5+j) u (by rw[List.getElem?_drop]at hj;exact hj);have e2:(⟨g,0,none⟩:Addr).add (i*5+j)=⟨g,i*5+j,none⟩:=by unfold Addr.add;split<;>simp_all
  rw[e2]at h;exact h
 obtain⟨w3,hw3⟩:∃w3,w3=w2.drew.setRow W0 (c1.take ((i+1)*5)++xs.drop (i*5)++c1.drop ((i+1)*5+(xs.drop (i*5)).length)).toArray:=⟨_,rfl⟩;have hcp2:∀ty dc sc,(Builtin.copy_ #[129,129] ty #[.slice (some ⟨W0,(i+1)*5,none⟩) (n - i) dc,.slice (some ⟨g,i*5,none⟩) (n - i) sc]).run Tryz.prog w2.drew=.ok (goInt ((n - i:Nat))) w3:=fun ty dc sc=>by
  have h:=qdi qja w2.drew ty W0 ((i+1)*5) (n - i) dc ⟨g,i*5,none⟩ (n - i) sc c1.toArray _ (xs.drop (i*5)) (n - i) hcur2 (by simp) hdl hgw2
   (by rw[hdl,List.size_toArray,hc1l];omega) (fun u hu=>hx1 u (List.mem_of_mem_drop hu))
  rw[h,hw3]
 have hcur3:w3.heap[W0]?=some (.cells (c1.take ((i+1)*5)++xs.drop (i*5)++c1.drop ((i+1)*5+(xs.drop (i*5)).length)).toArray 163 (0,0)):=by rw[hw3];exact setRow_heap w2.drew W0 c1.toArray _ _ _ hcur2
 have hb3:Below w.heap.size w w3:=by rw[hw3,hW0];exact hb2.drew.trans (qcs (Nat.le_refl _) _)
 have hown:w3.ownsRow base 163 5 (.slice (some ⟨W0,0,none⟩) (n+1) c) (n+1) (xs.take (i*5)++(news++xs.drop (i*5))):=by
  refine qln hcur3 (by omega) hc1 hc2 ?_ ?_ ?_
  ·rw[List.size_toArray,qgh (by rw[hdl,hc1l];omega),hc1l]
  ·have h:=seg_fill (cur:=cur.toList) (xs:=xs) (news:=news) (a:=i*5) (b:=(i+1)*5) (m:=n*5) (by rw[hl];omega) hxl (by omega) (by rw[hl,Array.length_toList,hcs];omega) hct c1 hc1e;rw[hl,show n*5+5=(n+1)*5 by omega]at h;exact h
  ·simp only[List.length_append,List.length_take,hdl,hl,hxl];omega
 have HR:Hid (qei base n i (.slice (some ⟨g,0,none⟩) n n) xs news w (.returned (.slice (some ⟨W0,0,none⟩) (n+1) c)) w3):=
  hdzz ⟨_,rfl,hown,hb3.mono hbase,fun k hk _=>hb3.block k hk,.inr (fun k hk=>by have e:W0=k:=Option.some.inj hk;omega),hb3.size⟩
 have HK:=hdzz hk;have hkI:(n:Int)+1 - (i:Int)=(k:Int):=by omega
 have hk0:(0:Int)≤(i:Int):=Int.natCast_nonneg _;have hin:(i:Int)≤(n:Int):=by omega
 have hcI:(n:Int)+1≤(c:Int):=by omega
 clear hown hcur3 hgw2 hdl hcur2 hb2 hb3 hc1l hcur hcs hct hrow hxl hk hw2 hw3 hb1 hB h1 hx1 hl hc1e;unfold maxLen at hc2;go_enter Tryz.func182,Tryz.ntmps182
 have HW0:=hdzz hW0;clear hW0;have hi1:(i:Int)+1≤(n:Int)+1:=by omega
 have hwr:IntKind.i64.wrap ((i:Int)+1)=(i:Int)+1:=by rw[IntKind.wrap_i64];omega
 have hpos:(0:Int)≤(i:Int)+1:=by omega
 have hne1:¬(c=i+1):=by omega
 have hne2:¬(n=i):=by omega
 go_wp2_with (first|(at_builtin;refine qdu rfl _ _ rfl rfl rfl hap ?_)|(at_builtin;refine qej _ rfl _ _ _ _ rfl _ _ rfl rfl (hcp1 _ _) ?_))
 refine qaf (fun _=>True) (fun _=>True) [] (.held 0 (.held 1 (.held 2 (.held 3 (.held 4 (.held 5 (.held 6 (.held 7 (.op 8 .nil))))))))) mixed (by kernel_rfl) ?_;refine stkz (.slice (some ⟨W0,0,none⟩) (n+1) c) rfl rfl rfl (fun _ _ _ h=>h) trivial (fun Y hY=>by
   (try simp only[Act.put]);go_simp) ?_
 refine stkz (.int .i64 i) rfl rfl rfl (fun _ _ _ h=>h) trivial (fun Y hY=>by
   (try simp only[Act.put]);go_simp) ?_
 refine stkz (.int .i64 1) rfl rfl rfl (fun _ _ _ h=>h) trivial (fun Y hY=>by
   (try simp only[Act.put]);go_simp) ?_
 refine stkz (.int .i64 ((i:Int)+1)) rfl rfl rfl (fun _ _ _ h=>h) trivial (fun Y hY=>by
   (try simp only[Act.put]);go_simp) ?_
 refine stkz (.slice (some ⟨W0,(i+1)*5,none⟩) (n - i) (c - (i+1))) rfl rfl rfl (fun _ _ _ h=>h) trivial (fun Y hY=>by
   (try simp only[Act.put]);go_simp) ?_
 refine stkz (.slice (some ⟨g,0,none⟩) n n) rfl rfl rfl (fun _ _ _ h=>h) trivial (fun Y hY=>by
   (try simp only[Act.put]);go_simp) ?_
 refine stkz (.int .i64 i) rfl rfl rfl (fun _ _ _ h=>h) trivial (fun Y hY=>by
   (try simp only[Act.put]);go_simp) ?_
 refine stkz (.slice (some ⟨g,i*5,none⟩) (n - i) (n - i)) rfl rfl rfl (fun _ _ _ h=>h) trivial (fun Y hY=>by
   (try simp only[Act.put]);go_simp) ?_
 simp only[Act.put,fsa,fsb,fsc,fsd,fse,fsf];refine qae rfl rfl (fun K hK=>?_);refine qel _ _ _ _ _ rfl _ _ rfl rfl (hcp2 _ _ _) ?_;refine hK _ _ ⟨⟨fun _=>trivial,trivial⟩,qar ?_⟩;go_wp2_with fail
 go_ret
 exact HR.out
theorem ins_room (w:World) (base n cap i g B:Nat) (xs news:List Value) (hrow:w.ownsRow base 163 5 (.slice (some ⟨g,0,none⟩) n cap) n xs) (hbase:base≤w.heap.size) (hn:n≤100000) (hi:i<n) (hroom:n+1≤cap) (hx1:∀u∈xs,u.oneCell'=true)
  (hgB:g≠B) (hB:w.heap[B]?=some (.cells news.toArray 163 (0,0))) (hl:news.length=5) (h1:∀u∈news,u.oneCell'=true) :
  Calls Tryz.prog 182 #[.slice (some ⟨g,0,none⟩) n cap,.int .i64 i,.slice (some ⟨B,0,none⟩) 1 1] w (qei base n i (.slice (some ⟨g,0,none⟩) n cap) xs news w):=by
 have mixed:=mixz;rcases hrow.2 with⟨hv,_⟩|⟨g',cap',cur,hv,hb,hg,hnc,hcm,hs,ht⟩
 ·cases hv
 injection hv with e1 e2 e3;injection e1 with e1;injection e1 with e1;subst e1 e3;have hxl:=hrow.1;have hBlt:=(sltz hB);have hglt:=(sltz hg);have hcurl:cur.toList.length=cap*5:=by rw[Array.length_toList,hs]
 have hdl:(xs.drop (i*5)).length=(n - i)*5:=by rw[List.length_drop,hxl];omega
 obtain⟨c1,hc1e⟩:∃c1:List Value,c1=cur.toList.take ((i+1)*5)++xs.drop (i*5)++cur.toList.drop ((i+1)*5+(xs.drop (i*5)).length):=⟨_,rfl⟩;have hc1l:c1.length=cap*5:=by rw[hc1e,qgh (by rw[hdl,hcurl];omega),hcurl]
 obtain⟨w2,hw2⟩:∃w2,w2=w.drew.setRow g c1.toArray:=⟨_,rfl⟩;have hcp1:∀ty dc sc,(Builtin.copy_ #[129,129] ty #[.slice (some ⟨g,(i+1)*5,none⟩) (n - i) dc,.slice (some ⟨g,i*5,none⟩) (n+1 - i) sc]).run Tryz.prog w.drew=.ok (goInt ((n - i:Nat))) w2:=fun ty dc sc=>by
  have h:=qdi qja w.drew ty g ((i+1)*5) (n - i) dc ⟨g,i*5,none⟩ (n+1 - i) sc cur _ (xs.drop (i*5)) (n - i) hg (by simp only[Nat.min_def];split<;>omega) hdl
   (fun j u hj=>by
    have e:(⟨g,i*5,none⟩:Addr).add j=⟨g,i*5+j,none⟩:=by unfold Addr.add;split<;>simp_all
    rw[e];show w.cell? _=_;have h:=hrow.cells (g:=g) rfl (i*5+j) u (by rw[List.getElem?_drop]at hj;exact hj);have e2:(⟨g,0,none⟩:Addr).add (i*5+j)=⟨g,i*5+j,none⟩:=by unfold Addr.add;split<;>simp_all
    rw[e2]at h;exact h) (by rw[hdl,hs];omega) (fun u hu=>hx1 u (List.mem_of_mem_drop hu))
  rw[h,hw2,hc1e]
 have hcur2:w2.heap[g]?=some (.cells c1.toArray 163 (0,0)):=by rw[hw2];exact setRow_heap w.drew g cur _ _ _ hg
 have hblk2:∀k,k≠g→w2.heap[k]?=w.heap[k]?:=fun k hk=>by rw[hw2,setRow_other _ _ _ _ hk];rfl
 have hs2:w2.heap.size=w.heap.size:=by rw[hw2];simp
 have hb2:Below base w w2:=by rw[hw2];exact(Below.refl _ _).drew.trans (qcs hb _)
 obtain⟨w3,hw3⟩:∃w3,w3=w2.setRow g (c1.take (i*5)++news++c1.drop (i*5+news.length)).toArray:=⟨_,rfl⟩;have hcp2:∀ty dc,(Builtin.copy_ #[129,129] ty #[.slice (some ⟨g,i*5,none⟩) (n+1 - i) dc,.slice (some ⟨B,0,none⟩) 1 1]).run Tryz.prog w2=.ok (goInt 1) w3:=fun ty dc=>by
  have h:=qdi qja w2 ty g (i*5) (n+1 - i) dc ⟨B,0,none⟩ 1 1 c1.toArray _ news 1 hcur2 (by simp only[Nat.min_def];split<;>omega) (by rw[hl])
   (fun j u hj=>by
    have e:(⟨B,0,none⟩:Addr).add j=⟨B,j,none⟩:=by unfold Addr.add;split<;>simp_all
    rw[e];unfold World.cell?;rw[hblk2 B (Ne.symm hgB),hB];simpa using hj) (by rw[hl,List.size_toArray,hc1l];omega) h1
  rw[h,hw3];rfl
 have hcur3:w3.heap[g]?=some (.cells (c1.take (i*5)++news++c1.drop (i*5+news.length)).toArray 163 (0,0)):=by rw[hw3];exact setRow_heap w2 g c1.toArray _ _ _ hcur2
 have hblk3:∀k,k≠g→w3.heap[k]?=w.heap[k]?:=fun k hk=>by rw[hw3,setRow_other _ _ _ _ hk];exact hblk2 k hk
 have hs3:w3.heap.size=w.heap.size:=by rw[hw3];simpa using hs2
 have hb3:Below base w w3:=by rw[hw3];exact hb2.trans (qcs hb _)
 have hown:w3.ownsRow base 163 5 (.slice (some ⟨g,0,none⟩) (n+1) cap) (n+1) (xs.take (i*5)++(news++xs.drop (i*5))):=by
  refine qln hcur3 hb hroom hcm ?_ ?_ ?_
  ·rw[List.size_toArray,qgh (by rw[hl,hc1l];omega),hc1l]
  ·have h:=seg_shift (cur:=cur.toList) (xs:=xs) (news:=news) (a:=i*5) (b:=(i+1)*5) (m:=n*5) (by rw[hl];omega) hxl (by omega) (by rw[hl,hcurl];omega) ht c1 hc1e;rw[show n*5+news.length=(n+1)*5 by rw[hl];omega]at h;exact h
  ·simp only[List.length_append,List.length_take,hdl,hl,hxl];omega
 have HR:Hid (qei base n i (.slice (some ⟨g,0,none⟩) n cap) xs news w (.returned (.slice (some ⟨g,0,none⟩) (n+1) cap)) w3):=
  hdzz ⟨_,rfl,hown,hb3,fun k _ hne=>hblk3 k (fun e=>hne (by rw[e];rfl)),.inl rfl,Nat.le_of_eq hs3.symm⟩
 have hov:∀lb cb,(callFunc 187 #[.slice (some ⟨B,0,none⟩) 1 1,.slice (some ⟨g,(i+1)*5,none⟩) lb cb]).run Tryz.prog w=.ok (.value (.bool false)) w:=fun lb cb=>by
  rw[run_callFunc_extern Tryz.func187 (by kernel_rfl) (by kernel_rfl) (by kernel_rfl) (e:=Extern.SlicesOverlaps.overlaps #[129,129] #[4]) (by kernel_rfl),
   Lib.run_overlaps_apart w 129 4 163 Tryz.underlying129 5 (fun _=>by kernel_rfl) ⟨B,0,none⟩ ⟨g,(i+1)*5,none⟩ 1 1 lb cb (Ne.symm hgB) 163 163 5 (cap*5) (by simp[World.shape?,hB,hl]) (by simp[World.shape?,hg,hs]) (by omega) (by simp[World.frozen?,hB]) (by simp[World.frozen?,hB])]
  rfl
 unfold maxLen at hcm;have hk0:(0:Int)≤(i:Int):=Int.natCast_nonneg _;have hin:(i:Int)≤(n:Int):=by omega
 have hcI:(n:Int)+1≤(cap:Int):=by omega
 have hcI2:(n:Int)≤(cap:Int):=by omega
 have hcI3:¬((cap:Int)<(n:Int)+1):=by omega
 have hi1:(i:Int)+1≤(n:Int)+1:=by omega
 have hwr:IntKind.i64.wrap ((i:Int)+1)=(i:Int)+1:=by rw[IntKind.wrap_i64];omega
 have hni1:¬((n:Int)+1<(i:Int)):=by omega
 have hwr2:IntKind.i64.wrap ((n:Int)+1)=(n:Int)+1:=by rw[IntKind.wrap_i64];omega
 have hpos:(0:Int)≤(i:Int)+1:=by omega
 have hne1:¬(cap=i+1):=by omega
 have hne2:¬(cap=i):=by omega
 have hne3:¬((i:Int)=(n:Int)):=by omega
 have htn:((n:Int)+1).toNat=n+1:=by omega
 clear hown hcur3 hblk2 hblk3 hdl hcur2 hb2 hb3 hc1l hs hs2 hs3 ht hrow hxl hw2 hw3 hB h1 hx1 hl hc1e hg hcurl;go_enter Tryz.func182,Tryz.ntmps182
 go_wp2_with (simp only[hov])
 refine qaf (fun _=>True) (fun _=>True) [] (.held 0 (.held 1 (.held 2 (.held 3 (.held 4 (.held 5 (.held 6 (.held 7 (.op 8 .nil))))))))) mixed (by kernel_rfl) ?_;refine stkz (.slice (some ⟨g,0,none⟩) (n+1) cap) rfl rfl rfl (fun _ _ _ h=>h) trivial (fun Y hY=>by
   (try simp only[Act.put]);go_simp) ?_
 refine stkz (.int .i64 i) rfl rfl rfl (fun _ _ _ h=>h) trivial (fun Y hY=>by
   (try simp only[Act.put]);go_simp) ?_
 refine stkz (.int .i64 1) rfl rfl rfl (fun _ _ _ h=>h) trivial (fun Y hY=>by
   (try simp only[Act.put]);go_simp) ?_
 refine stkz (.int .i64 ((i:Int)+1)) rfl rfl rfl (fun _ _ _ h=>h) trivial (fun Y hY=>by
   (try simp only[Act.put]);go_simp) ?_
 refine stkz (.slice (some ⟨g,(i+1)*5,none⟩) (n - i) (cap - (i+1))) rfl rfl rfl (fun _ _ _ h=>h) trivial (fun Y hY=>by
   (try simp only[Act.put]);go_simp) ?_
 refine stkz (.slice (some ⟨g,0,none⟩) (n+1) cap) rfl rfl rfl (fun _ _ _ h=>h) trivial (fun Y hY=>by
   (try simp only[Act.put]);go_simp) ?_
 refine stkz (.int .i64 i) rfl rfl rfl (fun _ _ _ h=>h) trivial (fun Y hY=>by
   (try simp only[Act.put]);go_simp) ?_
 refine stkz (.slice (some ⟨g,i*5,none⟩) (n+1 - i) (cap - i)) rfl rfl rfl (fun _ _ _ h=>h) trivial (fun Y hY=>by
   (try simp only[Act.put]);go_simp) ?_
 simp only[Act.put,fsa,fsb,fsc,fsd,fse,fsf];refine qae rfl rfl (fun K hK=>?_);refine qel _ _ _ _ _ rfl _ _ rfl rfl (hcp1 _ _ _) ?_;refine hK _ _ ⟨⟨fun _=>trivial,trivial⟩,qar ?_⟩;go_wp2_with (at_builtin;refine qej _ rfl _ _ _ _ rfl _ _ rfl rfl (hcp2 _ _) ?_)
 go_ret
 exact HR.out
theorem insW_any (w:World) (base n i B:Nat) (v:Value) (xs news:List Value) (hrow:w.ownsRow base 163 5 v n xs) (hbase:base≤w.heap.size) (hn:n≤100000) (hi:i≤n) (hx1:∀u∈xs,u.oneCell'=true)
  (hne:v.ownBlock≠some B) (hB:w.heap[B]?=some (.cells news.toArray 163 (0,0))) (hl:news.length=5) (h1:∀u∈news,u.oneCell'=true) :
  Calls Tryz.prog 182 #[v,.int .i64 i,.slice (some ⟨B,0,none⟩) 1 1] w (qei base n i v xs news w):=by
 rcases Nat.eq_or_lt_of_le hi with rfl|hi
 ·exact ins_end w base i B v xs news hrow hbase hn hB hl h1
 ·rcases hrow.2 with⟨rfl,rfl⟩|⟨g,cap,cur,rfl,-,-,hnc,-,-⟩
  ·omega
  ·rcases Nat.eq_or_lt_of_le hnc with rfl|hnc
   ·exact ins_make w base n i g B xs news hrow hbase hn hi hx1 hB hl h1
   ·exact ins_room w base n cap i g B xs news hrow hbase hn hi hnc hx1 (fun e=>hne (by rw[e];rfl)) hB hl h1
section
variable {ts te:TypeId} {sz by_:Nat} {z:Value}
theorem qfz (T:SlT ts te sz by_ z) (w:World) (ty:TypeId) (g i cap m c:Nat) (a:Addr) (cur:Array Value) (t:TypeId) (news:List Value) (hg:w.heap[g]?=some (.cells cur t (0,0))) (hroom:i+m≤cap) (hl:news.length=m*sz)
  (hsrc:∀j v,news[j]?=some v→w.cell? (a.add j)=some v) (hfit:i*sz+news.length≤cur.size) (h1:∀v∈news,v.oneCell'=true) :
  (Builtin.append_ #[ts,ts] ty #[.slice (some ⟨g,0,none⟩) i cap,.slice (some a) m c]).run Tryz.prog w=.ok (.slice (some ⟨g,0,none⟩) (i+m) cap) (w.setRow g (cur.toList.take (i*sz)++news++cur.toList.drop (i*sz+news.length)).toArray):=by
 obtain⟨i0,hi0,hz0,hz1,hz2⟩:=info_parts T.info;have hld:=run_loadCells_list (P:=Tryz.prog) w a news hsrc;have hst:=run_storeCells_at Tryz.prog g (i*sz) t news 0 cur w hg (by simpa using hfit) h1;have hadd:(⟨g,0,none⟩:Addr).add (i*sz)=⟨g,i*sz,none⟩:=by unfold Addr.add;split<;>simp_all
 rw[hl]at hld;simp[Builtin.append_,run_underlying T.und,Builtin.lenOf,Builtin.firstCells,sizeOf,typeInfo,hi0,hz1,hroom,hadd,hld,hst]
theorem qjb (T:SlT ts te sz by_ z) (hzv:∀w,(zeroValue te).run Tryz.prog w=.ok z w) (hz1:∀u∈z.cells.toList,u.oneCell'=true) (w:World) (ty:TypeId) (g o c:Nat) (cur:Array Value) (t:TypeId) (hg:w.heap[g]?=some (.cells cur t (0,0))) (hfit:o+sz≤cur.size) :
  (Builtin.clear_ #[ts] ty #[.slice (some ⟨g,o,none⟩) 1 c]).run Tryz.prog w=.ok (.tuple #[]) (w.setRow g (cur.toList.take o++z.cells.toList++cur.toList.drop (o+sz)).toArray):=by
 have hzl:(Builtin.zeroCells z.cells 1).toList=z.cells.toList:=by
  have hp:=T.pos;have hc:=T.cells;apply List.ext_getElem?;intro j;simp only[Builtin.zeroCells,Array.toList_map,Array.toList_range,List.getElem?_map,Nat.one_mul];by_cases hj:j<z.cells.size
  ·rw[List.getElem?_range hj,List.getElem?_eq_getElem (by simpa using hj)];simp[Nat.mod_eq_of_lt hj,hj]
  ·rw[List.getElem?_eq_none (by simpa using hj),List.getElem?_eq_none (by simpa using hj)];rfl
 have hst:=run_storeCells_at Tryz.prog g o t (Builtin.zeroCells z.cells 1).toList 0 cur w hg (by rw[hzl,Array.length_toList,T.cells];simpa using hfit) (by rw[hzl];exact hz1);have hsz:z.cells.toList.length=sz:=by rw[Array.length_toList,T.cells]
 rw[hzl,hsz]at hst;simp only[Builtin.clear_];simp[run_underlying T.und,hzv,hzl,hst]
end
def Deleted (base n i:Nat) (v:Value) (xs:List Value) (w:World) (e:Ending) (w':World):Prop:=
 ∃v',e=.returned v'∧w'.ownsRow base 163 5 v' (n - 1) (xs.take (i*5)++xs.drop ((i+1)*5))∧GrewV base w w' v v'
theorem zeroPow (w:World):(zeroValue 163).run Tryz.prog w=.ok (.agg #[.int .i64 0,.string ⟨#[]⟩,.int .i64 0,.slice none 0 0,.int .i64 0]) w:=by kernel_rfl
theorem delW_any (w:World) (base n i:Nat) (v:Value) (xs:List Value) (hrow:w.ownsRow base 163 5 v n xs) (hbase:base≤w.heap.size) (hn:n≤100000) (hi:i<n) (hx1:∀u∈xs,u.oneCell'=true) :
  Calls Tryz.prog 183 #[v,.int .i64 i,.int .i64 ((i:Int)+1)] w (Deleted base n i v xs w):=by
 have mixed:=mixz;rcases hrow.2 with⟨hv,h0⟩|⟨g,cap,cur,rfl,hb,hg,hnc,hcm,hs,ht⟩
 ·omega
 have hxl:=hrow.1;have hglt:=(sltz hg);have hcurl:cur.toList.length=cap*5:=by rw[Array.length_toList,hs]
 have hdl:(xs.drop ((i+1)*5)).length=(n - i - 1)*5:=by rw[List.length_drop,hxl];omega
 obtain⟨A2,hA2⟩:∃A:Option Addr,A=if cap=i+1 then some ⟨g,0,none⟩else some ⟨g,(i+1)*5,none⟩:=⟨_,rfl⟩
 obtain⟨c1,hc1e⟩:∃c1:List Value,c1=cur.toList.take (i*5)++xs.drop ((i+1)*5)++cur.toList.drop (i*5+(xs.drop ((i+1)*5)).length):=⟨_,rfl⟩;have hc1l:c1.length=cap*5:=by rw[hc1e,qgh (by rw[hdl,hcurl];omega),hcurl]
 obtain⟨w2,hw2⟩:∃w2,w2=w.drew.setRow g c1.toArray:=⟨_,rfl⟩;have hap:∀ty c,(Builtin.append_ #[129,129] ty #[.slice (some ⟨g,0,none⟩) i cap,.slice A2 (n - (i+1)) c]).run Tryz.prog w.drew=.ok (.slice (some ⟨g,0,none⟩) (n - 1) cap) w2:=fun ty c=>by
  have key:∀a:Addr,(∀j u,(xs.drop ((i+1)*5))[j]?=some u→w.drew.cell? (a.add j)=some u)→(Builtin.append_ #[129,129] ty #[.slice (some ⟨g,0,none⟩) i cap,.slice (some a) (n - (i+1)) c]).run Tryz.prog w.drew=.ok (.slice (some ⟨g,0,none⟩) (n - 1) cap) w2:=fun a ha=>by
   have h:=qfz qja w.drew ty g i cap (n - (i+1)) c a cur _ (xs.drop ((i+1)*5)) hg (by omega) (by rw[hdl];omega) ha (by rw[hdl,hs];omega) (fun u hu=>hx1 u (List.mem_of_mem_drop hu));rw[h,hw2,hc1e,show i+(n - (i+1))=n - 1 by omega]
  rw[hA2]
  split
  ·rename_i hce
   refine key _ (fun j u hj=>?_);rw[List.drop_of_length_le (by rw[hxl];omega)]at hj;simp at hj
  ·refine key _ (fun j u hj=>?_);have e:(⟨g,(i+1)*5,none⟩:Addr).add j=⟨g,(i+1)*5+j,none⟩:=by unfold Addr.add;split<;>simp_all
   rw[e];show w.cell? _=_;have h:=hrow.cells (g:=g) rfl ((i+1)*5+j) u (by rw[List.getElem?_drop]at hj;exact hj);have e2:(⟨g,0,none⟩:Addr).add ((i+1)*5+j)=⟨g,(i+1)*5+j,none⟩:=by unfold Addr.add;split<;>simp_all
   rw[e2]at h;exact h
 have hcur2:w2.heap[g]?=some (.cells c1.toArray 163 (0,0)):=by rw[hw2];exact setRow_heap w.drew g cur _ _ _ hg
 have hblk2:∀k,k≠g→w2.heap[k]?=w.heap[k]?:=fun k hk=>by rw[hw2,setRow_other _ _ _ _ hk];rfl
 have hs2:w2.heap.size=w.heap.size:=by rw[hw2];simp
 have hb2:Below base w w2:=by rw[hw2];exact(Below.refl _ _).drew.trans (qcs hb _)
 obtain⟨zs,hzs⟩:∃zs:List Value,zs=(Value.agg #[.int .i64 0,.string ⟨#[]⟩,.int .i64 0,.slice none 0 0,.int .i64 0]).cells.toList:=⟨_,rfl⟩;have hzl:zs.length=5:=by rw[hzs];rfl
 obtain⟨c2,hc2e⟩:∃c2:List Value,c2=c1.take ((n - 1)*5)++zs++c1.drop ((n - 1)*5+zs.length):=⟨_,rfl⟩;have hc2l:c2.length=cap*5:=by rw[hc2e,qgh (by rw[hzl,hc1l];omega),hc1l]
 obtain⟨w3,hw3⟩:∃w3,w3=w2.setRow g c2.toArray:=⟨_,rfl⟩;have hcl:∀ty c,(Builtin.clear_ #[129] ty #[.slice (some ⟨g,(n - 1)*5,none⟩) 1 c]).run Tryz.prog w2=.ok (.tuple #[]) w3:=fun ty c=>by
  have h:=qjb qja zeroPow (by rw[←hzs];intro u hu;rw[hzs]at hu;simp only[Value.cells,List.mem_cons,List.not_mem_nil,or_false]at hu;rcases hu with rfl|rfl|rfl|rfl|rfl<;>rfl) w2 ty g ((n - 1)*5) c c1.toArray _ hcur2 (by rw[List.size_toArray,hc1l];omega);rw[h,hw3,hc2e,hzl,hzs]
 have hcur3:w3.heap[g]?=some (.cells c2.toArray 163 (0,0)):=by rw[hw3];exact setRow_heap w2 g c1.toArray _ _ _ hcur2
 have hblk3:∀k,k≠g→w3.heap[k]?=w.heap[k]?:=fun k hk=>by rw[hw3,setRow_other _ _ _ _ hk];exact hblk2 k hk
 have hs3:w3.heap.size=w.heap.size:=by rw[hw3];simpa using hs2
 have hb3:Below base w w3:=by rw[hw3];exact hb2.trans (qcs hb _)
 have hown:w3.ownsRow base 163 5 (.slice (some ⟨g,0,none⟩) (n - 1) cap) (n - 1) (xs.take (i*5)++xs.drop ((i+1)*5)):=by
  have hil:(i*5)≤c1.length:=by rw[hc1l];omega
  refine qln hcur3 hb (by omega) hcm ?_ ?_ ?_
  ·rw[List.size_toArray,hc2l]
  ·show c2.take ((n - 1)*5)=_;rw[hc2e,seg_low (by rw[hc1l];omega),hc1e,←ht,List.take_take,Nat.min_eq_left (by omega)];refine List.take_left' ?_;rw[List.length_append,List.length_take,ht,hdl,hcurl];omega
  ·rw[List.length_append,List.length_take,hdl,hxl];omega
 have HR:Hid (Deleted base n i (.slice (some ⟨g,0,none⟩) n cap) xs w (.returned (.slice (some ⟨g,0,none⟩) (n - 1) cap)) w3):=
  hdzz ⟨_,rfl,hown,hb3,fun k _ hne=>hblk3 k (fun e=>hne (by rw[e];rfl)),.inl rfl,Nat.le_of_eq hs3.symm⟩
 have hA2s:=hA2.symm;unfold maxLen at hcm;have hk0:(0:Int)≤(i:Int):=Int.natCast_nonneg _;have hin:(i:Int)≤(n:Int):=by omega
 have hin1:(i:Int)+1≤(n:Int):=by omega
 have hcI2:(n:Int)≤(cap:Int):=by omega
 have hii:(i:Int)≤(i:Int)+1:=by omega
 have hnei:¬((i:Int)=(i:Int)+1):=by omega
 have hwr:IntKind.i64.wrap ((i:Int)+1)=(i:Int)+1:=by rw[IntKind.wrap_i64];omega
 have hpos:(0:Int)≤(i:Int)+1:=by omega
 have htn:((i:Int)+1).toNat=i+1:=by omega
 have hn1:((n - 1:Nat):Int)≤(n:Int):=by omega
 have hne2:¬(cap=n - 1):=by omega
 have hn11:n - (n - 1)=1:=by omega
 have hci:¬(cap<i):=by omega
 clear hA2 hown hcur3 hblk2 hblk3 hdl hcur2 hb2 hb3 hc1l hc2l hc2e hzl hzs hs hs2 hs3 ht hrow hxl hw2 hw3 hx1 hc1e hg hcurl;go_enter Tryz.func183,Tryz.ntmps183
 go_wp2_with fail
 refine qaf (fun _=>True) (fun _=>True) [] (.held 0 (.held 1 (.held 2 (.held 3 (.held 4 (.held 5 (.op 6 (.held 7 .nil)))))))) mixed (by kernel_rfl) ?_;refine stkz (.slice (some ⟨g,0,none⟩) n cap) rfl rfl rfl (fun _ _ _ h=>h) trivial (fun Y hY=>by
   (try simp only[Act.put]);go_simp) ?_
 refine stkz (.int .i64 i) rfl rfl rfl (fun _ _ _ h=>h) trivial (fun Y hY=>by
   (try simp only[Act.put]);go_simp) ?_
 refine stkz (.slice (some ⟨g,0,none⟩) i cap) rfl rfl rfl (fun _ _ _ h=>h) trivial (fun Y hY=>by
   (try simp only[Act.put]);go_simp) ?_
 refine stkz (.slice (some ⟨g,0,none⟩) n cap) rfl rfl rfl (fun _ _ _ h=>h) trivial (fun Y hY=>by
   (try simp only[Act.put]);go_simp) ?_
 refine stkz (.int .i64 ((i:Int)+1)) rfl rfl rfl (fun _ _ _ h=>h) trivial (fun Y hY=>by
   (try simp only[Act.put]);go_simp) ?_
 refine stkz (.slice A2 (n - (i+1)) (cap - (i+1))) rfl rfl rfl (fun _ _ _ h=>h) trivial (fun Y hY=>by
   (try simp only[Act.put]);go_simp) ?_
 simp only[Act.put,fsa,fsb,fsc,fsd,fse,fsf];refine qae rfl rfl (fun K hK=>?_);refine qdh _ _ rfl rfl rfl (fun ty=>hap ty _) ?_;refine hK _ _ ⟨⟨fun _=>trivial,trivial⟩,?_⟩;refine stkz (.slice (some ⟨g,0,none⟩) (n - 1) cap) rfl rfl rfl (fun _ _ _ h=>h) trivial (fun Y hY=>by
   (try simp only[Act.put]);go_simp) ?_
 refine qar ?_;simp only[Act.put,fsa,fsb,fsc,fsd,fse,fsf];go_wp2_with fail
 go_ret
 exact HR.out
end Go.Proofs.YtjhjoiplpmjepaaGreat
