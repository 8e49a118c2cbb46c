/- Tterm, Traise, Trapp, Treot, Trzero, Trhas, Tradd (joined by shake.py). -/
import Derived.Test.YtjhjoiplpmjepaaGreatL0
import Derived.Test.YtjhjoiplpmjepaaGreatL4
import Derived.Test.YtjhjoiplpmjepaaGreatL8
import Derived.Test.YtjhjoiplpmjepaaGreatL9
import Derived.Deep.Cut
import Derived.Deep.QuietTactic
import Derived.BigQuiet
set_option maxRecDepth 100000
set_option linter.unusedVariables false
set_option linter.unusedSimpArgs false
set_option maxHeartbeats 16000000
namespace Go.Proofs.YtjhjoiplpmjepaaGreat
open Go.RowKit Go.Sort
theorem qjp (n:ByteArray) (A:Option Addr) (k c:Nat) (w:World):Calls Tryz.prog 137 #[.string n,.slice A k c] w fun e w'=>e=.returned (.agg #[.int .i64 3,.string n,.int .i64 0,.slice A k c])∧Below w.heap.size w w':=by
 go_enter Tryz.func137,Tryz.ntmps137
 go_wp2_with fail
 have hx:=heap_alloc_new w (.cells #[.int .i64 3,.string n,.int .i64 0,.slice A k c] 24);obtain⟨r0,r1,r2,r3,rf⟩:=qaa hx;refine bodyPost_ret (v:=.agg #[.int .i64 3,.string n,.int .i64 0,.slice A k c]) ?_ rfl ?_
 ·simp[results,Tryz.results137,go_sem,r0,r1,r2,r3]
 exact⟨rfl,qad (Nat.le_refl _) _⟩
def OkT (r:Tm) (w:World) (e:Ending) (w':World):Prop:=
 ∃A c,e=.returned (.tuple #[r.val A c,.int .i64 0])∧RepP w' (fun b=>w.heap.size≤b∧b<w'.heap.size) r A c∧Below w.heap.size w w'
theorem qje (l:List Pw) {k:Nat} (hk:k<l.length):posP (l.take (k+1))=posP (l.take k)++List.replicate l[k].2.toNat l[k].1:=by
 unfold posP;rw[List.take_succ_eq_append_getElem hk,List.flatMap_append];simp
theorem qjj (l:List Pw) {k:Nat} (hk:k<l.length):negP (l.take (k+1))=negP (l.take k)++List.replicate (-l[k].2).toNat (.mk 3 nInv 0 [l[k].1]):=by
 unfold negP;rw[List.take_succ_eq_append_getElem hk,List.flatMap_append];simp
theorem pos_le (l:List Pw):∀k,(posP (l.take k)).length≤(posP l).length:=fun k=>by
 unfold posP
 conv=>rhs;rw[←List.take_append_drop k l,List.flatMap_append,List.length_append]
 omega
theorem neg_le (l:List Pw):∀k,(negP (l.take k)).length≤(negP l).length:=fun k=>by
 unfold negP
 conv=>rhs;rw[←List.take_append_drop k l,List.flatMap_append,List.length_append]
 omega
structure TAt (w:World) (u5 u6:Value) (ps ns:List It) (wr:World):Prop where
 two:Two wr (w.heap.size+1) u5 u6 ps ns
 bel:Below w.heap.size w wr
 box:wr.heap[w.heap.size]?=some (.cells #[.int .i64 0,.string ⟨#[]⟩,.int .i64 0,.slice none 0 0] 24 (0,0))
 siz:w.heap.size<wr.heap.size
theorem qew (l:List Pw) (A:Option Addr) (c:Nat) (w:World) (hok:qds l) (ho:Okp l) (hrep:RepW w (fun b=>b<w.heap.size) l A c) :
  Calls Tryz.prog 107 #[.slice A l.length c] w (OkT (prodT l) w):=by
 obtain⟨hv,h8,hpv⟩:=hok;obtain⟨V,hV⟩:∃V,V=w.alloc (.cells #[.int .i64 0,.string ⟨#[]⟩,.int .i64 0,.slice none 0 0] 24):=⟨_,rfl⟩;have hbV:Below w.heap.size w V:=by rw[hV];exact qad (Nat.le_refl _) _
 have hsV:V.heap.size=w.heap.size+1:=by rw[hV];simp
 have hbx:V.heap[w.heap.size]?=some (.cells #[.int .i64 0,.string ⟨#[]⟩,.int .i64 0,.slice none 0 0] 24 (0,0)):=by rw[hV];exact heap_alloc_new _ _
 have VA:=hdzz (qgs l A c V hv ho (hrep.go hbV (by omega)));have hll:=hv.1;have HP8:Hid ((posP l).length+(negP l).length≤8):=hdzz (by rw[←List.length_append];exact h8);obtain⟨nl,hnl⟩:∃n,n=l.length:=⟨_,rfl⟩;rw[←hnl]at hll VA ⊢;have HNL:=hdzz hnl;have HVP:=hdzz hv;have HPV:=hdzz hpv;have HRW:=hdzz hrep;have HV:=hdzz hV;have HBX:=hdzz hbx;have HBV:=hdzz hbV;clear hV hbx hbV hrep hv ho h8 hpv hnl;have hlI:(nl:Int)≤200:=by omega
 go_enter Tryz.func107,Tryz.ntmps107
 go_wp2_with fail
 rw[←HV.out];clear HV;go_wp2_with fail
 refine VA.out.mono ?_;clear VA;rintro e w1 ⟨rfl,hb1⟩;have hs1:=hb1.size;have HT0:Hid (TAt w (.slice none 0 0) (.slice none 0 0) [] [] w1):=hdzz ⟨Two.nil _ _,HBV.out.trans (hb1.mono (by omega)),(hb1.block _ (by omega)).trans HBX.out,by omega⟩;clear hb1 HBX HBV;go_wp2_with fail
 go_loopw [5,6,20] (fun u5 u6 i wr=>∃(k:Nat) (ps ns:List It),k≤nl∧i=.int .i64 k∧Hid (TAt w u5 u6 ps ns wr)∧Hid (ps.map (·.1)=posP (l.take k))∧Hid (ns.map (·.1)=negP (l.take k))) (fun _ _ i _=>nl - (intOf i).toNat)
 case atStart=>exact⟨0,[],[],Nat.zero_le _,rfl,HT0.out,by rw[List.take_zero];rfl,by rw[List.take_zero];rfl⟩
 case round=>
  obtain⟨k,ps,ns,hk,rfl,HT,HP,HN⟩:=hrel;obtain⟨wo,hwo⟩:∃x,x=wr:=⟨_,rfl⟩;subst hwo;have i1:(0:Int)≤(k:Int):=Int.natCast_nonneg _;have hso:=HT.out.siz;by_cases hlt:k<nl
  ·have i2:(k:Int)<(nl:Int):=by omega
   have hkl:k<l.length:=by have:=HNL.out;omega
   obtain⟨b,off,rfl,hbB,hget⟩:=(HRW.out.mono (w':=wo) (P':=fun b=>b<w.heap.size) (fun _ h=>h) (fun p hp=>HT.out.bel.cell (by omega))).get (fun e=>by rw[e]at hkl;simp at hkl);obtain⟨A1,c1,h0,h1,h2,h3,h4,h5⟩:=hget k hkl;have HPT:=hdzz (qje l hkl);have HNT:=hdzz (qjj l hkl);have hpl:=pos_le l (k+1);have hnl2:=neg_le l (k+1);have h8:=HP8.out;rw[HPT.out,List.length_append,List.length_replicate]at hpl;rw[HNT.out,List.length_append,List.length_replicate]at hnl2;have hvk:=HVP.out.2 _ (List.getElem_mem hkl);have hqs:=(qap hvk.1).2.1;have hpsl:ps.length=(posP (l.take k)).length:=by rw[←HP.out,List.length_map]
   have hnsl:ns.length=(negP (l.take k)).length:=by rw[←HN.out,List.length_map]
   obtain⟨x,hx⟩:∃x,x=l[k]:=⟨_,rfl⟩;rw[←hx]at h0 h1 h2 h3 h4 h5 HPT HNT hqs hpl hnl2;clear hx hget hvk;obtain⟨q,m⟩:=x;dsimp only at h0 h1 h2 h3 h4 h5 HPT HNT hqs hpl hnl2;have hm1:¬((8:Int)<m):=by omega
   have hm2:¬(m < -8):=by omega
   have hpsb:ps.length+m.toNat≤8:=by omega
   have hnsb:ns.length+(-m).toNat≤8:=by omega
   have hwm:IntKind.i64.wrap (-m) = -m:=by rw[IntKind.wrap_i64];omega
   clear hpl hnl2 h8 hpsl hnsl;obtain⟨X,hX⟩:∃X,X=wo.alloc (.cells #[.int .i64 q.kind,.string q.name,.int .i64 q.sort,.slice A1 q.kids.length c1,.int .i64 m] 163):=⟨_,rfl⟩;have hbX:Below wo.heap.size wo X:=by rw[hX];exact qad (Nat.le_refl _) _
   have hsX:X.heap.size=wo.heap.size+1:=by rw[hX];simp
   have hxX:X.heap[wo.heap.size]?=some (.cells #[.int .i64 q.kind,.string q.name,.int .i64 q.sort,.slice A1 q.kids.length c1,.int .i64 m] 163 (0,0)):=by rw[hX];exact heap_alloc_new wo _
   obtain⟨x0,x1,x2,x3,x4,xf⟩:=qcd hxX;have HX:=hdzz hX;have HTX:Hid (TAt w u5 u6 ps ns X):=hdzz ⟨HT.out.two.below hbX,HT.out.bel.trans (hbX.mono (by omega)),(hbX.block _ hso).trans HT.out.box,by omega⟩;have HBX:Hid (X.heap[wo.heap.size]?=some (.cells #[.int .i64 q.kind,.string q.name,.int .i64 q.sort,.slice A1 q.kids.length c1,.int .i64 m] 163 (0,0))∧u5.ownBlock≠some wo.heap.size∧u6.ownBlock≠some wo.heap.size):=hdzz ⟨hxX,fun e=>by have:=(HT.out.two.p.lt _ e).2;omega,fun e=>by have:=(HT.out.two.n.lt _ e).2;omega⟩;have HQ:Hid (∀Z,Below w.heap.size w Z→RepP Z (fun b=>b<w.heap.size) q A1 c1):=hdzz fun Z hZ=>RepP.mono (w:=wo) (fun _ h=>h) (fun p (hp:p.block<w.heap.size)=>(hZ.cell hp).trans (HT.out.bel.cell hp).symm) _ _ _ h5;obtain⟨B,hB⟩:∃B,B=wo.heap.size:=⟨_,rfl⟩
   rw[←hB]at x0 x1 x2 x3 x4 HBX;have hBX:B<X.heap.size:=by omega
   clear hX hbX hxX h5 HT;go_wp2_with fail
   rw[←HX.out];rw[←hB];have HBE:=hdzz hB;clear HX h0 h1 h2 h3 h4 hB;go_wp2_with fail
   clear x0 x1 x2 x3 x4 xf;go_loopw [5,35] (fun u5 i wr=>∃(j:Nat) (qs:List It),j≤m.toNat∧i=.int .i64 j∧Hid (TAt w u5 u6 qs ns wr)∧Hid (wr.heap[B]?=some (.cells #[.int .i64 q.kind,.string q.name,.int .i64 q.sort,.slice A1 q.kids.length c1,.int .i64 m] 163 (0,0))∧u5.ownBlock≠some B∧u6.ownBlock≠some B∧B<wr.heap.size)∧Hid (qs.map (·.1)=posP (l.take k)++List.replicate j q)∧Hid (qs.length=ps.length+j)) (fun _ i _=>m.toNat - (intOf i).toNat)
   case atStart=>exact⟨0,ps,Nat.zero_le _,rfl,HTX.out,⟨HBX.out.1,HBX.out.2.1,HBX.out.2.2,hBX⟩,by rw[List.replicate_zero,List.append_nil];exact HP.out,rfl⟩
   case round=>
    obtain⟨j,qs,hj,rfl,HT,HB,HM,HL⟩:=hrel;have j1:(0:Int)≤(j:Int):=Int.natCast_nonneg _;clear HTX HBX HP hBX;have hsr:=HT.out.siz;by_cases hjm:j<m.toNat
    ·have j2:(j:Int)<m:=by omega
     obtain⟨x0,x1,x2,x3,x4,xf⟩:=qcd HB.out.1;have CC:=qe7 1000000 q A1 c1 wr _ (by omega) (Nat.le_refl _) (fun b (h:b<w.heap.size)=>by omega) (HQ.out wr HT.out.bel);simp only[Tm.val]at CC;have CC:=hdzz CC;have HNEXT:Hid (posP (l.take k)++List.replicate j q++[q]=posP (l.take k)++List.replicate (j+1) q):=hdzz (by rw[List.append_assoc,List.replicate_succ']);clear xf;go_wp2_with fail
     refine CC.out.mono ?_;clear CC x0 x1 x2 x3 x4;rintro e w5 ⟨A5,c5,rfl,hrep5,hb5⟩;have hs5:=hb5.size;have h25:=HT.out.two.below hb5;obtain⟨g,c7,w7,hap,h27,hbl7,hold7,hs7,hg7⟩:=h25.push (by omega) (q,A5,c5) (RepP.mono (fun b h=>by
      obtain⟨h1,h2⟩:=h;exact⟨by omega,h2,fun e=>by have:=(HT.out.two.p.lt b e).2;omega,fun e=>by have:=(HT.out.two.n.lt b e).2;omega⟩) (fun _ _=>rfl) _ _ _ hrep5) (by have:=HL.out;omega)
     have HT7:Hid (TAt w (.slice (some ⟨g,0,none⟩) (qs.length+1) c7) u6 (qs++[(q,A5,c5)]) ns w7):=hdzz ⟨h27,hbl7 w _ (HT.out.bel.trans (hb5.mono (by omega))) (by omega),by
      rw[hold7 _ (by omega) (fun e=>by have:=(HT.out.two.p.lt _ e).1;omega),hb5.block _ (by omega)];exact HT.out.box,by omega⟩
     have HB7:Hid (w7.heap[B]?=some (.cells #[.int .i64 q.kind,.string q.name,.int .i64 q.sort,.slice A1 q.kids.length c1,.int .i64 m] 163 (0,0))∧(Value.slice (some ⟨g,0,none⟩) (qs.length+1) c7).ownBlock≠some B∧u6.ownBlock≠some B∧B<w7.heap.size):=hdzz ⟨by
       have:=HB.out.2.2.2;rw[hold7 _ (by omega) HB.out.2.1,hb5.block _ (by omega)];exact HB.out.1,fun e=>by
       have e:g=B:=Option.some.inj e;subst e;rcases hg7 with h|h
       ·exact HB.out.2.1 h
       ·have:=HB.out.2.2.2;omega,HB.out.2.2.1,by have:=HB.out.2.2.2;omega⟩
     dsimp only at hap;clear hrep5 hb5 h25 h27 hbl7 hold7 hg7;simp only[Tm.val];go_wp2_with (at_builtin;refine qab rfl _ _ rfl rfl rfl hap ?_)
     go_roundw
     case rel=>exact⟨j+1,qs++[(q,A5,c5)],by omega,by go_num,HT7.out,HB7.out,by rw[List.map_append,HM.out];exact HNEXT.out,by have:=HL.out;rw[List.length_append];show qs.length+1=_;omega⟩
     case measure=>simp[intOf];omega
    ·have hjm2:j=m.toNat:=by omega
     have j2:¬((j:Int)<m):=by omega
     rw[hjm2]at HM HL;clear hjm2 hj hjm;obtain⟨w4,hw4⟩:∃x,x=wr:=⟨_,rfl⟩;subst hw4;have HP2:=hdzz (HM.out.trans HPT.out.symm);obtain⟨x0,x1,x2,x3,x4,xf⟩:=qcd HB.out.1;clear HM HL HPT;go_wp2_with fail
     clear x0 x1 x2 x3 x4 xf;go_loopw [6,47] (fun u6 i wr=>∃(j:Nat) (rs:List It),j≤(-m).toNat∧i=.int .i64 j∧Hid (TAt w u5 u6 qs rs wr)∧Hid (wr.heap[B]?=some (.cells #[.int .i64 q.kind,.string q.name,.int .i64 q.sort,.slice A1 q.kids.length c1,.int .i64 m] 163 (0,0))∧u5.ownBlock≠some B∧u6.ownBlock≠some B∧B<wr.heap.size)∧Hid (rs.map (·.1)=negP (l.take k)++List.replicate j (.mk 3 nInv 0 [q]))∧Hid (rs.length=ns.length+j)) (fun _ i _=>(-m).toNat - (intOf i).toNat)
     case atStart=>exact⟨0,ns,Nat.zero_le _,rfl,HT.out,HB.out,by rw[List.replicate_zero,List.append_nil];exact HN.out,rfl⟩
     case round=>
      rename_i HT0' HB0'
      obtain⟨j,rs,hj,rfl,HT,HB,HM,HL⟩:=hrel;have j1:(0:Int)≤(j:Int):=Int.natCast_nonneg _;have hsr:=HT.out.siz;by_cases hjm:j<(-m).toNat
      ·have j2:(j:Int) < -m:=by omega
       obtain⟨x0,x1,x2,x3,x4,xf⟩:=qcd HB.out.1;have CC:=qe7 1000000 q A1 c1 wr _ (by omega) (Nat.le_refl _) (fun b (h:b<w.heap.size)=>by omega) (HQ.out wr HT.out.bel);simp only[Tm.val]at CC;have CC:=hdzz CC;have HNEXT:Hid (negP (l.take k)++List.replicate j (.mk 3 nInv 0 [q])++[.mk 3 nInv 0 [q]]=negP (l.take k)++List.replicate (j+1) (.mk 3 nInv 0 [q])):=hdzz (by rw[List.append_assoc,List.replicate_succ']);clear xf;go_wp2_with fail
       refine CC.out.mono ?_;clear CC x0 x1 x2 x3 x4;rintro e w5 ⟨A5,c5,rfl,hrep5,hb5⟩;have hs5:=hb5.size;obtain⟨Y,hY⟩:∃Y,Y=w5.alloc (.cells #[.int .i64 q.kind,.string q.name,.int .i64 q.sort,.slice A5 q.kids.length c5] 24):=⟨_,rfl⟩;have hbY:Below w5.heap.size w5 Y:=by rw[hY];exact qad (Nat.le_refl _) _
       have hsY:Y.heap.size=w5.heap.size+1:=by rw[hY];simp
       have hxY:Y.heap[w5.heap.size]?=some (.cells (itCells [(q,A5,c5)]).toArray 24 (0,0)):=by rw[hY];exact heap_alloc_new _ _
       have AP:=hdzz (qjp nInv (some ⟨w5.heap.size,0,none⟩) 1 1 Y);have hrepY:RepP Y (fun b=>wr.heap.size≤b∧b<Y.heap.size) (.mk 3 nInv 0 [q]) (some ⟨w5.heap.size,0,none⟩) 1:=by
        rw[RepP_mk];refine⟨by decide,Nat.le_refl _,by unfold maxLen;omega,.inr ⟨w5.heap.size,0,rfl,⟨by omega,by omega⟩,?_⟩⟩;refine RepLP.of_its [(q,A5,c5)] _ 0 (fun j u hj=>?_) (fun x hx=>?_)
        ·rw[Nat.zero_add];unfold World.cell?;rw[hxY];simpa using hj
        ·rw[List.mem_singleton]at hx;subst hx;exact RepP.mono (fun b h=>⟨h.1,by omega⟩) (fun p h=>hbY.cell h.2) _ _ _ hrep5
       have HY:=hdzz hY;have H5Y:=hdzz (hb5.trans (hbY.mono (by omega)));have HRY:=hdzz hrepY;clear hY hbY hxY hrepY hrep5 hb5;simp only[nInv]at AP;simp only[Tm.val];go_wp2_with fail
       rw[←HY.out];clear HY;refine AP.out.mono ?_;clear AP;rintro e w6 ⟨rfl,hb6⟩;have hs6:=hb6.size;have h25:=HT.out.two.swap.below (H5Y.out.trans (hb6.mono (by omega)));obtain⟨g,c7,w7,hap,h27,hbl7,hold7,hs7,hg7⟩:=h25.push (by omega) (.mk 3 nInv 0 [q],some ⟨w5.heap.size,0,none⟩,1) (RepP.mono (fun b h=>by
        obtain⟨h1,h2⟩:=h;exact⟨by omega,by omega,fun e=>by have:=(HT.out.two.n.lt b e).2;omega,fun e=>by have:=(HT.out.two.p.lt b e).2;omega⟩) (fun p h=>hb6.cell (by omega)) _ _ _ HRY.out) (by have:=HL.out;omega)
       have HT7:Hid (TAt w u5 (.slice (some ⟨g,0,none⟩) (rs.length+1) c7) qs (rs++[(.mk 3 nInv 0 [q],some ⟨w5.heap.size,0,none⟩,1)]) w7):=hdzz ⟨h27.swap,hbl7 w _ (HT.out.bel.trans ((H5Y.out.trans (hb6.mono (by omega))).mono (by omega))) (by omega),by
        rw[hold7 _ (by omega) (fun e=>by have:=(HT.out.two.n.lt _ e).1;omega),hb6.block _ (by omega),H5Y.out.block _ (by omega)];exact HT.out.box,by omega⟩
       have HB7:Hid (w7.heap[B]?=some (.cells #[.int .i64 q.kind,.string q.name,.int .i64 q.sort,.slice A1 q.kids.length c1,.int .i64 m] 163 (0,0))∧u5.ownBlock≠some B∧(Value.slice (some ⟨g,0,none⟩) (rs.length+1) c7).ownBlock≠some B∧B<w7.heap.size):=hdzz ⟨by
         have:=HB.out.2.2.2;rw[hold7 _ (by omega) HB.out.2.2.1,hb6.block _ (by omega),H5Y.out.block _ (by omega)];exact HB.out.1,HB.out.2.1,fun e=>by
         have e:g=B:=Option.some.inj e;subst e;rcases hg7 with h|h
         ·exact HB.out.2.2.1 h
         ·have:=HB.out.2.2.2;omega,by have:=HB.out.2.2.2;omega⟩
       dsimp only[Tm.kind,Tm.name,Tm.sort,Tm.kids,nInv]at hap;clear hb6 h25 h27 hbl7 hold7 hg7;go_wp2_with (at_builtin;refine qab rfl _ _ rfl rfl rfl hap ?_)
       go_roundw
       case rel=>exact⟨j+1,rs++[((Tm.mk 3 nInv 0 [q],some ⟨w5.heap.size,0,none⟩,1):It)],by omega,by go_num,HT7.out,HB7.out,by rw[List.map_append,HM.out];exact HNEXT.out,by have:=HL.out;rw[List.length_append];show rs.length+1=_;omega⟩
       case measure=>simp[intOf];omega
      ·have hjm2:j=(-m).toNat:=by omega
       have j2:¬((j:Int) < -m):=by omega
       rw[hjm2]at HM;have HN2:=hdzz (HM.out.trans HNT.out.symm);clear hjm2 hj hjm;go_wp2_with fail
       go_roundw
       case rel=>exact⟨k+1,qs,rs,by omega,by go_num,HT.out,HP2.out,HN2.out⟩
       case measure=>simp[intOf];omega
  ·obtain rfl:k=nl:=by omega
   have hP:=HP.out;have hN:=HN.out;rw[HNL.out,List.take_length]at hP hN;obtain⟨Ap,cp,rfl,hSp⟩:=HT.out.two.p.toS (P:=fun b=>w.heap.size<b∧b<wo.heap.size) (fun b h1 h=>⟨by have:=h1.1;omega,h⟩) (fun b h1 h=>⟨by omega,h⟩);obtain⟨An,cn,rfl,hSn⟩:=HT.out.two.n.toS (P:=fun b=>w.heap.size<b∧b<wo.heap.size) (fun b h1 h=>⟨by have:=h1.1;omega,h⟩) (fun b h1 h=>⟨by omega,h⟩);rw[hP]at hSp;rw[hN]at hSn;have hlp:ps.length=(posP l).length:=by rw[←hP,List.length_map]
   have hln:ns.length=(negP l).length:=by rw[←hN,List.length_map]
   rw[hlp,hln];have h8:=HP8.out;obtain⟨X,hX⟩:∃X,X=wo.alloc (.cells #[.slice Ap (posP l).length cp,.slice An (negP l).length cn] 22):=⟨_,rfl⟩;have hbX:Below wo.heap.size wo X:=by rw[hX];exact qad (Nat.le_refl _) _
   have hsX:X.heap.size=wo.heap.size+1:=by rw[hX];simp
   have hxX:X.heap[wo.heap.size]?=some (.cells #[.slice Ap (posP l).length cp,.slice An (negP l).length cn] 22 (0,0)):=by rw[hX];exact heap_alloc_new wo _
   have CN:=hdzz (ql0 (fun b=>w.heap.size<b∧b<X.heap.size) (posP l) (negP l) Ap An cp cn wo.heap.size X (by omega) (by omega) hxX (fun _ h=>h.2) (RepS.mono (fun b h=>⟨h.1,by omega⟩) (fun p hp=>hbX.cell hp.2) hSp) (RepS.mono (fun b h=>⟨h.1,by omega⟩) (fun p hp=>hbX.cell hp.2) hSn));have HX:=hdzz hX;have HBW:=hdzz (HT.out.bel.trans (hbX.mono (by omega)));have HZ:=hdzz ((hbX.block _ hso).trans HT.out.box);have hl8:(posP l++negP l).length≤8:=by rw[List.length_append];exact h8
   have hpr:prodT l=mulT (posP l++negP l):=rfl;rw[hpr]at HPV;have hres:Hid (∀e w',OkT (mulT (posP l++negP l)) w e w'→OkT (prodT l) w e w'):=hdzz fun e w' h=>by rw[hpr];exact h
   clear hX hbX hxX hSp hSn hlp hln hP hN HP HN HT h8 HP8 hpr;obtain⟨np,hnp⟩:∃n,n=(posP l).length:=⟨_,rfl⟩;obtain⟨nn,hnn⟩:∃n,n=(negP l).length:=⟨_,rfl⟩;rw[←hnp,←hnn]at HX ⊢;obtain⟨L,hL⟩:∃L,L=posP l++negP l:=⟨_,rfl⟩;rw[←hL]at CN HPV hl8 hres;clear hnp hnn hL;have HSZ:=hdzz (qap HPV.out);go_wp2_with fail
   rw[←HX.out];clear HX;refine CN.out.mono ?_;clear CN;rintro e w2 ⟨A2,c2,its,rfl,hrow,hm,hb2⟩;have hs2:=hb2.size;obtain⟨A2',c2',hv2,hS2⟩:=hrow.toS (P:=fun b=>w.heap.size<b∧b<w2.heap.size) (fun b h _=>by omega) (fun b h1 h=>⟨by omega,h⟩);injection hv2 with e1 e2 e3;subst e1 e3;rw[hm]at hS2;have HB2:=hdzz (HBW.out.trans (hb2.mono (by omega)));have HZ2:=hdzz ((hb2.block _ (by omega)).trans HZ.out);have HS2:=hdzz hS2;have hlI8:¬((8:Int)<(L.length:Int)):=by omega
   have AP:=hdzz (qjp nMul A2 L.length c2 w2);clear hrow hm hb2 hS2 e2 HBW HZ its;simp only[nMul]at AP;go_wp2_with fail
   refine AP.out.mono ?_;clear AP;rintro e w3 ⟨rfl,hb3⟩;have hs3:=hb3.size;have HB3:=hdzz (HB2.out.trans (hb3.mono (by omega)));have HZ3:=hdzz ((hb3.block _ (by omega)).trans HZ2.out);have HS3:=hdzz (RepS.mono (w':=w3) (P':=fun b=>w.heap.size<b∧b<w3.heap.size) (fun b h=>⟨h.1,by omega⟩) (fun p hp=>hb3.cell hp.2) HS2.out);clear hb3 HB2 HZ2 HS2;obtain⟨Y,hY⟩:∃Y,Y=w3.alloc (.cells #[.int .i64 3,.string ⟨#[109,117,108]⟩,.int .i64 0,.slice A2 L.length c2] 24):=⟨_,rfl⟩;have hbY:Below w3.heap.size w3 Y:=by rw[hY];exact qad (Nat.le_refl _) _
   have hsY:Y.heap.size=w3.heap.size+1:=by rw[hY];simp
   have hxY:Y.heap[w3.heap.size]?=some (qag (.mk 3 nMul 0 L) A2 c2):=by rw[hY];exact heap_alloc_new w3 _
   have HBY:=hdzz (HB3.out.trans (hbY.mono (by omega)));have HZY:=hdzz ((hbY.block _ (by omega)).trans HZ3.out);obtain⟨Bx,hBx⟩:∃B,B=w3.heap.size:=⟨_,rfl⟩;have HSY:=hdzz (RepS.mono (w':=Y) (P':=fun b=>w.heap.size<b∧b<Bx) (fun b h=>by omega) (fun p hp=>hbY.cell hp.2) HS3.out);have HXY:=hdzz hxY;have HY:=hdzz hY;rw[←hBx]at HXY;have hBxw:w.heap.size<Bx:=by omega
   have hBxY:Bx<Y.heap.size:=by omega
   clear hY hbY hxY HS3;obtain⟨x0,x1,x2,x3,xf⟩:=qaa HXY.out;have hset:∀(W:World) (a b c d:Value),W.heap[Bx]?=some (qag (.mk 3 nMul 0 L) A2 c2)→∃Z,Z=((((W.setCell ⟨Bx,0,none⟩ a).setCell ⟨Bx,1,none⟩ b).setCell ⟨Bx,2,none⟩ c).setCell ⟨Bx,3,none⟩ d)∧Z.heap[Bx]?=some (.cells #[a,b,c,d] 24 (0,0))∧Below Bx W Z∧Z.heap.size=W.heap.size∧∀p:Addr,p.block≠Bx→Z.cell? p=W.cell? p:=fun W a b c d hW=>by
    refine⟨_,rfl,?_,?_,by simp[World.setCell],fun p hp=>?_⟩
    ·simp[World.setCell,Array.getElem?_modify,hW,qag]
    ·iterate 4 refine Below.setCell ?_ (by exact Nat.le_refl _) _
     exact Below.refl _ _
    ·have hne:∀o,(⟨Bx,o,none⟩:Addr)≠p:=fun o e=>hp (by rw[←e]);rw[World.cell?_setCell_other _ _ _ _ (hne _),World.cell?_setCell_other _ _ _ _ (hne _),World.cell?_setCell_other _ _ _ _ (hne _),World.cell?_setCell_other _ _ _ _ (hne _)]
   have HSET:=hdzz hset;have HBE:=hdzz hBx;clear hset;rcases L with _|⟨a,_|⟨a2,r⟩⟩
   ·-- none
    have AP1:=hdzz (qjp nOne none 0 0 Y);simp only[nOne]at AP1;simp only[List.length_nil]at HY ⊢;clear hBx;go_wp2_with fail
    rw[←HBE.out,←HY.out];refine AP1.out.mono ?_;clear AP1 x0 x1 x2 x3 xf;rintro e w4 ⟨rfl,hb4⟩;have hs4:=hb4.size;have hx4:=(hb4.block Bx hBxY).trans HXY.out;obtain⟨x0,x1,x2,x3,xf⟩:=qaa hx4;obtain⟨Wt,hWt,hxt,hbt,hst,hct⟩:=HSET.out w4 (.int .i64 3) (.string ⟨#[111,110,101]⟩) (.int .i64 0) (.slice none 0 0) hx4;have HTW:=hdzz (HBY.out.trans ((hb4.mono (by omega)).trans (hbt.mono (by omega))));have HTZ:=hdzz ((hbt.block _ hBxw).trans ((hb4.block _ (by omega)).trans HZY.out));have HTR:Hid (RepP Wt (fun b=>w.heap.size<b∧b<Wt.heap.size) (.mk 3 nOne 0 []) none 0):=hdzz (by rw[RepP_mk];exact⟨by decide,Nat.le_refl _,Nat.zero_le _,.inl rfl⟩);have HTB:Hid (Wt.heap[Bx]?=some (qag (.mk 3 nOne 0 []) none 0)):=hdzz hxt;have hres:Hid (∀e w',OkT (.mk 3 nOne 0 []) w e w'→OkT (prodT l) w e w'):=hdzz hres.out
    have HPV:Hid ((Tm.mk 3 nOne 0 []).valid=0):=hdzz HPV.out;have HSZ:=hdzz (qap HPV.out);have HWt:=hdzz hWt;clear hWt hxt hbt hct hb4 HSET HXY HBY HZY HSY hx4;go_wp2_with fail
    rw[←HWt.out];have VA:=qb4 (Tm.mk 3 nOne 0 []) none 0 Wt (by have:=HSZ.out.2.1;omega) (RepP.mono (fun b h=>h.2) (fun _ _=>rfl) _ _ _ HTR.out);rw[HPV.out]at VA;simp only[Tm.val]at VA;have VA:=hdzz VA;have hsW:w.heap.size<Wt.heap.size:=by have:=(sltz HTZ.out);omega
    have hsB:Bx<Wt.heap.size:=by have:=(sltz HTB.out);omega
    refine VA.out.mono ?_;clear VA x0 x1 x2 x3 xf;rintro e w5 ⟨rfl,hl5⟩;obtain⟨x0,x1,x2,x3,xf⟩:=qaa ((hl5.below.block Bx hsB).trans HTB.out);obtain⟨z0,z1,z2,z3,zf⟩:=qaa ((hl5.below.block _ hsW).trans HTZ.out);simp only[Tm.kind,Tm.name,Tm.sort,Tm.kids]at x0 x1 x2 x3;have HT5:=hdzz (RepP.mono (w':=w5) (P':=fun b=>w.heap.size<b∧b<w5.heap.size) (fun b h=>⟨h.1,by have:=hl5.size;omega⟩) (fun p h=>hl5.below.cell h.2) _ _ _ HTR.out);have HB5:=hdzz (HTW.out.trans (hl5.below.mono (by omega)));clear hl5;go_wp2_with fail
    refine bodyPost_ret (v:=.tuple #[Tm.val (Tm.mk 3 nOne 0 []) none 0,.int .i64 0]) ?_ rfl ?_
    ·simp[results,Tryz.results107,go_sem,z0,z1,z2,z3,Tm.val,Tm.kind,Tm.name,Tm.sort,Tm.kids]
    refine hres.out _ _ ⟨none,0,rfl,?_,?_⟩
    ·refine RepP.mono (fun b h=>?_) (fun p hp=>qaq (by omega)) _ _ _ HT5.out;exact⟨by omega,by simpa[World.setCell]using h.2⟩
    ·iterate 4 refine Below.setCell ?_ (by exact Nat.le_refl _) _
     exact HB5.out
   ·-- one
    simp only[List.length_cons,List.length_nil,Nat.zero_add]at HY ⊢;obtain⟨bb,off,rfl,hbb,hcl⟩:∃bb off,A2=some ⟨bb,off,none⟩∧(w.heap.size<bb∧bb<Bx)∧RepLP Y (fun b=>w.heap.size<b∧b<Bx) [a] bb off:=by
     rcases HSY.out.2.2 with h|h
     ·cases h
     ·exact h
    rw[RepLP]at hcl;obtain⟨⟨Ar,cr,c0,c1,c2',c3,cR⟩,-⟩:=hcl;have hbb2:=hbb.2;have hx4:=HXY.out;obtain⟨Wt,hWt⟩:∃W,W=w3.alloc (qag a Ar cr):=⟨_,rfl⟩;have hbt:Below w3.heap.size w3 Wt:=by rw[hWt];exact qad (Nat.le_refl _) _
    have hst:Wt.heap.size=w3.heap.size+1:=by rw[hWt];simp
    have hxt:Wt.heap[Bx]?=some (qag a Ar cr):=by rw[hWt,hBx];exact heap_alloc_new w3 _
    have hct:∀p:Addr,p.block<Bx→Wt.cell? p=Y.cell? p:=fun p hp=>by
     rw[hbt.cell (by omega),HY.out];exact((qad (Nat.le_refl _) _).cell (by omega)).symm
    have HTW:=hdzz (HB3.out.trans (hbt.mono (by omega)));have HTZ:=hdzz ((hbt.block _ (by omega)).trans HZ3.out);have HTR:Hid (RepP Wt (fun b=>w.heap.size<b∧b<Wt.heap.size) a Ar cr):=hdzz (RepP.mono (fun b h=>⟨h.1,by omega⟩) (fun p h=>hct p h.2) _ _ _ cR);have HTB:Hid (Wt.heap[Bx]?=some (qag a Ar cr)):=hdzz hxt;have hres:Hid (∀e w',OkT a w e w'→OkT (prodT l) w e w'):=hdzz hres.out;have HPV:Hid (a.valid=0):=hdzz HPV.out;have HSZ:=hdzz (qap HPV.out);simp only[qag]at hWt;have HWt:=hdzz hWt;clear hBx hWt hxt hbt hct HSET HXY HBY HZY HSY hx4 cR x0 x1 x2 x3 xf;rw[HY.out]at c0 c1 c2' c3;go_wp2_with fail
    rw[←HWt.out,←HBE.out];clear c0 c1 c2' c3;have VA:=qb4 a Ar cr Wt (by have:=HSZ.out.2.1;omega) (RepP.mono (fun b h=>h.2) (fun _ _=>rfl) _ _ _ HTR.out);rw[HPV.out]at VA;simp only[Tm.val]at VA;have VA:=hdzz VA;have hsW:w.heap.size<Wt.heap.size:=by have:=(sltz HTZ.out);omega
    have hsB:Bx<Wt.heap.size:=by have:=(sltz HTB.out);omega
    refine VA.out.mono ?_;clear VA;rintro e w5 ⟨rfl,hl5⟩;obtain⟨x0,x1,x2,x3,xf⟩:=qaa ((hl5.below.block Bx hsB).trans HTB.out);obtain⟨z0,z1,z2,z3,zf⟩:=qaa ((hl5.below.block _ hsW).trans HTZ.out)
    skip
    have HT5:=hdzz (RepP.mono (w':=w5) (P':=fun b=>w.heap.size<b∧b<w5.heap.size) (fun b h=>⟨h.1,by have:=hl5.size;omega⟩) (fun p h=>hl5.below.cell h.2) _ _ _ HTR.out);have HB5:=hdzz (HTW.out.trans (hl5.below.mono (by omega)));clear hl5;go_wp2_with fail
    refine bodyPost_ret (v:=.tuple #[Tm.val a Ar cr,.int .i64 0]) ?_ rfl ?_
    ·simp[results,Tryz.results107,go_sem,z0,z1,z2,z3,Tm.val]
    refine hres.out _ _ ⟨Ar,cr,rfl,?_,?_⟩
    ·refine RepP.mono (fun b h=>?_) (fun p hp=>qaq (by omega)) _ _ _ HT5.out;exact⟨by omega,by simpa[World.setCell]using h.2⟩
    ·iterate 4 refine Below.setCell ?_ (by exact Nat.le_refl _) _
     exact HB5.out
   ·-- a product
    obtain⟨n2,hn2⟩:∃n,n=(a::a2::r).length:=⟨_,rfl⟩;have hn2I:¬((n2:Int)=0):=by rw[hn2];simp;omega
    have hn2J:¬((n2:Int)=1):=by rw[hn2];simp;omega
    have HTR:Hid (RepP Y (fun b=>w.heap.size<b∧b<Y.heap.size) (.mk 3 nMul 0 (a::a2::r)) A2 c2):=hdzz (by
     rw[RepP_mk];have h:=RepS.mono (w':=Y) (P':=fun b=>w.heap.size<b∧b<Y.heap.size) (fun b h=>⟨h.1,by omega⟩) (fun _ _=>rfl) HSY.out;exact⟨by decide,h.1,h.2.1,h.2.2⟩)
    have HTB:Hid (Y.heap[Bx]?=some (qag (.mk 3 nMul 0 (a::a2::r)) A2 c2)):=hdzz HXY.out;have hres:Hid (∀e w',OkT (.mk 3 nMul 0 (a::a2::r)) w e w'→OkT (prodT l) w e w'):=hdzz hres.out;have HPV:Hid ((Tm.mk 3 nMul 0 (a::a2::r)).valid=0):=hdzz HPV.out;have HSZ:=hdzz (qap HPV.out);have HTW:=hdzz HBY.out;have HTZ:=hdzz HZY.out;rw[←hn2]at HY ⊢;have HN2:=hdzz hn2;obtain⟨Wt,hWt⟩:∃x,x=Y:=⟨_,rfl⟩;subst hWt;clear hBx HSET HXY HBY HZY HSY hn2;go_wp2_with fail
    rw[←HBE.out,←HY.out];go_wp2_with fail
    rw[HN2.out];have VA:=qb4 (Tm.mk 3 nMul 0 (a::a2::r)) A2 c2 Wt (by have:=HSZ.out.2.1;omega) (RepP.mono (fun b h=>h.2) (fun _ _=>rfl) _ _ _ HTR.out);rw[HPV.out]at VA;simp only[Tm.val]at VA;have VA:=hdzz VA;have hsW:w.heap.size<Wt.heap.size:=by have:=(sltz HTZ.out);omega
    have hsB:Bx<Wt.heap.size:=by have:=(sltz HTB.out);omega
    refine VA.out.mono ?_;clear VA x0 x1 x2 x3 xf;rintro e w5 ⟨rfl,hl5⟩;obtain⟨x0,x1,x2,x3,xf⟩:=qaa ((hl5.below.block Bx hsB).trans HTB.out);obtain⟨z0,z1,z2,z3,zf⟩:=qaa ((hl5.below.block _ hsW).trans HTZ.out);simp only[Tm.kind,Tm.name,Tm.sort,Tm.kids]at x0 x1 x2 x3;have HT5:=hdzz (RepP.mono (w':=w5) (P':=fun b=>w.heap.size<b∧b<w5.heap.size) (fun b h=>⟨h.1,by have:=hl5.size;omega⟩) (fun p h=>hl5.below.cell h.2) _ _ _ HTR.out);have HB5:=hdzz (HTW.out.trans (hl5.below.mono (by omega)));clear hl5;go_wp2_with fail
    refine bodyPost_ret (v:=.tuple #[Tm.val (Tm.mk 3 nMul 0 (a::a2::r)) A2 c2,.int .i64 0]) ?_ rfl ?_
    ·simp[results,Tryz.results107,go_sem,z0,z1,z2,z3,Tm.val,Tm.kind,Tm.name,Tm.sort,Tm.kids]
    refine hres.out _ _ ⟨A2,c2,rfl,?_,?_⟩
    ·refine RepP.mono (fun b h=>?_) (fun p hp=>qaq (by omega)) _ _ _ HT5.out;exact⟨by omega,by simpa[World.setCell]using h.2⟩
    ·iterate 4 refine Below.setCell ?_ (by exact Nat.le_refl _) _
     exact HB5.out
def OkN (Pb:Nat→Prop) (r:Tm) (w:World) (e:Ending) (w':World):Prop:=
 ∃A c,e=.returned (.tuple #[r.val A c,.int .i64 0])∧RepP w' (fun b=>Pb b∨w.heap.size≤b∧b<w'.heap.size) r A c∧Below w.heap.size w w'
theorem qcm {W:World} {B:Nat} {a b c d x y z u:Value} {T:TypeId} (h:W.heap[B]?=some (.cells #[x,y,z,u] T (0,0))) :
  ∃Z,Z=((((W.setCell ⟨B,0,none⟩ a).setCell ⟨B,1,none⟩ b).setCell ⟨B,2,none⟩ c).setCell ⟨B,3,none⟩ d)∧Z.heap[B]?=some (.cells #[a,b,c,d] T (0,0))∧Below B W Z∧Z.heap.size=W.heap.size∧(∀p:Addr,p.block≠B→Z.cell? p=W.cell? p)∧∀k,k≠B→Z.heap[k]?=W.heap[k]?:=by
 refine⟨_,rfl,?_,?_,by simp[World.setCell],fun p hp=>?_,fun k hk=>?_⟩
 ·simp[World.setCell,Array.getElem?_modify,h]
 ·iterate 4 refine Below.setCell ?_ (by exact Nat.le_refl _) _
  exact Below.refl _ _
 ·have hne:∀o,(⟨B,o,none⟩:Addr)≠p:=fun o e=>hp (by rw[←e]);rw[World.cell?_setCell_other _ _ _ _ (hne _),World.cell?_setCell_other _ _ _ _ (hne _),World.cell?_setCell_other _ _ _ _ (hne _),World.cell?_setCell_other _ _ _ _ (hne _)]
 ·iterate 4 rw[Below.heap_setCell _ _ _ _ (by exact hk)]
structure RsB (Pb:Nat→Prop) (w:World) (b e:Tm) (B E:Option Addr) (cb ce:Nat) (W:World):Prop where
 b1:W.heap[w.heap.size]?=some (qag b B cb)
 b2:W.heap[w.heap.size+1]?=some (qag e E ce)
 b3:W.heap[w.heap.size+1+1]?=some (.cells #[.int .i64 0,.string ⟨#[]⟩,.int .i64 0,.slice none 0 0] 24 (0,0))
 bel:Below w.heap.size w W
 rb:RepP W Pb b B cb
 le:∀b,Pb b→b<w.heap.size
theorem RsB.size {Pb:Nat→Prop} {w W:World} {b e:Tm} {B E:Option Addr} {cb ce:Nat} (h:RsB Pb w b e B E cb ce W):w.heap.size+1+1<W.heap.size:=(sltz h.b3)
theorem RsB.go {Pb:Nat→Prop} {w W Z:World} {b e:Tm} {B E:Option Addr} {cb ce:Nat} (h:RsB Pb w b e B E cb ce W) (hb:Below W.heap.size W Z):RsB Pb w b e B E cb ce Z:=by
 have hs:=h.size;have hle:=h.le;exact⟨(hb.block _ (by omega)).trans h.b1,(hb.block _ (by omega)).trans h.b2,(hb.block _ (by omega)).trans h.b3,h.bel.trans (hb.mono (by omega)),RepP.mono (fun _ h=>h) (fun p hp=>hb.cell (by have:=hle _ hp;omega)) _ _ _ h.rb,hle⟩
theorem qmr (b e:Tm) (B E:Option Addr) (cb ce:Nat) (w:World) (Pb:Nat→Prop) (hPb:∀b,Pb b→b<w.heap.size) (hok:qnq b e) (har:ArT b) (hrb:RepP w Pb b B cb) (hre:RepT w w.heap.size e E ce) :
  Calls Tryz.prog 108 #[b.val B cb,e.val E ce] w (OkN Pb (qbc b e) w):=by
 obtain⟨hofe,hexp,htm⟩:=hok;obtain⟨V,hV⟩:∃V,V=((w.alloc (qag b B cb)).alloc (qag e E ce)).alloc (.cells #[.int .i64 0,.string ⟨#[]⟩,.int .i64 0,.slice none 0 0] 24):=⟨_,rfl⟩;have s1:(w.alloc (qag b B cb)).heap.size=w.heap.size+1:=by simp
 have s2:((w.alloc (qag b B cb)).alloc (qag e E ce)).heap.size=w.heap.size+1+1:=by simp
 have hbV:Below w.heap.size w V:=by rw[hV];exact(((Below.refl _ _).alloc (Nat.le_refl _) _).alloc (by simp) _).alloc (by simp;omega) _
 have H0:Hid (RsB Pb w b e B E cb ce V):=hdzz (by
  refine⟨?_,?_,?_,hbV,RepP.mono (fun _ h=>h) (fun p h=>hbV.cell (hPb _ h)) _ _ _ hrb,hPb⟩
  ·rw[hV,Below.heap_alloc _ _ _ (by rw[s2];omega),Below.heap_alloc _ _ _ (by rw[s1];omega)];exact heap_alloc_new w _
  ·rw[hV,Below.heap_alloc _ _ _ (by rw[s2];omega)];have h:=heap_alloc_new (w.alloc (qag b B cb)) (qag e E ce);rw[s1]at h;exact h
  ·rw[hV];have h:=heap_alloc_new ((w.alloc (qag b B cb)).alloc (qag e E ce)) (.cells #[.int .i64 0,.string ⟨#[]⟩,.int .i64 0,.slice none 0 0] 24);rw[s2]at h;exact h)
 have hszV:=H0.out.size;have OE:=qh0 e E ce V hofe (hre.go hbV (by omega));obtain⟨res,hres⟩:∃r,r=qbc b e:=⟨_,rfl⟩;rw[←hres];rw[qbc]at hres;have HRES:=hdzz hres;have HEXP:=hdzz hexp;have HTM:=hdzz htm;have HOE:=hdzz (Okp.ofT e);obtain⟨pe,hpe⟩:∃p,p=ofT e:=⟨_,rfl⟩;have HPE:=hdzz hpe;rw[←hpe]at OE HOE HRES HEXP HTM;obtain⟨ne,hne⟩:∃n,n=pe.length:=⟨_,rfl⟩;have HNE:=hdzz hne;simp only[qag]at hV;simp only[Tm.val]at OE ⊢;have OE:=hdzz OE;have HV:=hdzz hV;obtain⟨x0,x1,x2,x3,xf⟩:=qaa H0.out.b1;obtain⟨y0,y1,y2,y3,yf⟩:=qaa H0.out.b2;clear s1 s2 hV hbV hrb hre hofe hexp htm hres hpe hne;go_enter Tryz.func108,Tryz.ntmps108
 go_wp2_with fail
 rw[←HV.out];clear HV;go_wp2_with fail
 refine OE.out.mono ?_;clear OE x0 x1 x2 x3 xf y0 y1 y2 y3 yf;rintro e w1 ⟨Ae,ca,rfl,hre1,hb1⟩;rw[←HNE.out];have H1:=hdzz (H0.out.go hb1);have HRE1:=hdzz hre1;have hs1:=hb1.size;clear hre1 hb1 H0;have IS:=qcc b nExp B cb w1;obtain⟨x0,x1,x2,x3,xf⟩:=qaa H1.out.b1;by_cases hx:b.isA nExp
 case neg=>
  rw[decide_eq_false hx]at IS;simp only[Tm.val,nExp]at IS;have IS:=hdzz IS;have HRS:Hid (mkE b pe=res):=hdzz (by rw[HRES.out,Tm.baseE,if_neg hx,Tm.expoE,if_neg hx,qgn HOE.out.1]);have HTM2:Hid (pe≠[]→qds pe):=hdzz (by have h:=HTM.out;rw[Tm.expoE,if_neg hx,qgn HOE.out.1]at h;exact h);clear HRES HEXP hx;go_wp2_with fail
  refine IS.out.mono ?_;clear IS x0 x1 x2 x3 xf;rintro e w2 ⟨rfl,hl2⟩;have H0:=hdzz (H1.out.go hl2.below);have HRW:=hdzz (HRE1.out.mono (w':=w2) (P':=fun b=>V.heap.size≤b∧b<w2.heap.size) (fun b h=>⟨h.1,by have:=hl2.size;omega⟩) (fun p h=>hl2.below.cell h.2));have HOR:=HOE;obtain⟨W,hW⟩:∃x,x=w2:=⟨_,rfl⟩;subst hW;obtain⟨b0,hb0⟩:∃x,x=b:=⟨_,rfl⟩;subst hb0;obtain⟨r,hr⟩:∃x,x=pe:=⟨_,rfl⟩;subst hr;obtain⟨nr,hnr⟩:∃x,x=ne:=⟨_,rfl⟩;subst hnr;obtain⟨Ar,hAr⟩:∃x,x=Ae:=⟨_,rfl⟩;subst hAr;obtain⟨cr,hcr⟩:∃x,x=ca:=⟨_,rfl⟩;subst hcr;obtain⟨B0,hB0⟩:∃x,x=B:=⟨_,rfl⟩;subst hB0;obtain⟨c0,hc0⟩:∃x,x=cb:=⟨_,rfl⟩;subst hc0;have HNR:=HNE;clear hl2 H1 HRE1 HOE HNE;by_cases hnr:nr=0
  ·have hr0:r=[]:=List.eq_nil_of_length_eq_zero (by rw[←HNR.out];exact hnr);have hres2:b0=res:=by have:=HRS.out;rw[hr0,mkE,if_pos rfl]at this;exact this
   have hnI:((nr:Int)==0)=true:=by rw[hnr];rfl
   have HR2:=hdzz hres2;clear hnr hr0 hres2;obtain⟨x0,x1,x2,x3,xf⟩:=qaa H0.out.b1;obtain⟨z0,z1,z2,z3,zf⟩:=qaa H0.out.b3;go_wp2_with fail
   refine bodyPost_ret (v:=.tuple #[b0.val B0 c0,.int .i64 0]) ?_ rfl ?_
   ·simp[results,Tryz.results108,go_sem,z0,z1,z2,z3,Tm.val]
   rw[←HR2.out];refine⟨B0,c0,rfl,RepP.mono (fun b h=>.inl h) (fun p hp=>qaq (by have:=hPb _ hp;omega)) _ _ _ H0.out.rb,?_⟩
   iterate 4 refine Below.setCell ?_ (by show _≤w.heap.size+1+1;omega) _
   exact H0.out.bel
  ·have hr0:r≠[]:=fun e=>hnr (by rw[HNR.out,e];rfl);have hnI:((nr:Int)==0)=false:=by rw[beq_eq_false_iff_ne];omega
   have hres2:.mk 3 nExp 0 [b0,prodT r]=res:=by have:=HRS.out;rw[mkE,if_neg hr0]at this;exact this
   have HR2:=hdzz hres2;have TM:=qew r Ar cr W (HTM2.out hr0) HOR.out (HRW.out.mono (fun _ h=>h.2) (fun _ _=>rfl));rw[←HNR.out]at TM;obtain⟨pr,hpr⟩:∃p,p=prodT r:=⟨_,rfl⟩;rw[←hpr]at TM HR2;clear hnr hr0 hres2 hpr;have TM:=hdzz TM;obtain⟨x0,x1,x2,x3,xf⟩:=qaa H0.out.b1;go_wp2_with fail
   refine TM.out.mono ?_;clear TM x0 x1 x2 x3 xf;rintro e w6 ⟨A6,c6,rfl,hr6,hb6⟩;have H6:=hdzz (H0.out.go hb6);have hs6:=hb6.size;have hs0:=H0.out.size;obtain⟨y0,y1,y2,y3,yf⟩:=qaa H6.out.b2;obtain⟨W7,hW7,hx7,hb7,hs7,hc7⟩:=qcm (W:=w6) (B:=w.heap.size+1) (a:=.int .i64 pr.kind) (b:=.string pr.name) (c:=.int .i64 pr.sort) (d:=.slice A6 pr.kids.length c6) H6.out.b2;have H7:Hid (RsB Pb w b0 pr B0 A6 c0 c6 W7):=hdzz ⟨(hc7.2 _ (by omega)).trans H6.out.b1,hx7,(hc7.2 _ (by omega)).trans H6.out.b3,H6.out.bel.trans (hb7.mono (by omega)),RepP.mono (fun _ h=>h) (fun p (h:Pb p.block)=>hc7.1 p (by have:=hPb _ h;omega)) _ _ _ H6.out.rb,hPb⟩;have HP7:=hdzz (RepP.mono (w':=W7) (P':=fun b=>w.heap.size+1+1<b∧b<W7.heap.size) (fun b h=>⟨by omega,by omega⟩) (fun p h=>hc7.1 p (by omega)) _ _ _ hr6)
   obtain⟨X,hX⟩:∃X,X=W7.alloc (.cells (itCells [((b0,B0,c0):It),(pr,A6,c6)]).toArray 24):=⟨_,rfl⟩;have hbX:Below W7.heap.size W7 X:=by rw[hX];exact qad (Nat.le_refl _) _
   have hsX:X.heap.size=W7.heap.size+1:=by rw[hX];simp
   have hxX:X.heap[W7.heap.size]?=some (.cells (itCells [((b0,B0,c0):It),(pr,A6,c6)]).toArray 24 (0,0)):=by rw[hX];exact heap_alloc_new _ _
   have HRX:Hid (RepP X (fun b=>(Pb b∨w.heap.size+1+1<b)∧b<X.heap.size) (.mk 3 nExp 0 [b0,pr]) (some ⟨W7.heap.size,0,none⟩) 2):=hdzz (by
    rw[RepP_mk];have hs7':=H7.out.size;refine⟨by decide,Nat.le_refl _,by unfold maxLen;omega,.inr ⟨W7.heap.size,0,rfl,⟨.inr (by omega),by omega⟩,?_⟩⟩;refine RepLP.of_its [((b0,B0,c0):It),(pr,A6,c6)] _ 0 (fun j u hj=>?_) (fun x hx=>?_)
    ·rw[Nat.zero_add];unfold World.cell?;rw[hxX];simpa using hj
    ·simp only[List.mem_cons,List.not_mem_nil,or_false]at hx;rcases hx with rfl|rfl
     ·exact RepP.mono (w:=W7) (P:=Pb) (fun b h=>⟨.inl h,by have:=hPb _ h;omega⟩) (fun p h=>hbX.cell (by have:=hPb _ h;omega)) _ _ _ H7.out.rb
     ·exact RepP.mono (fun b h=>⟨.inr h.1,by have:=h.2;omega⟩) (fun p h=>hbX.cell h.2) _ _ _ HP7.out)
   have H8:=hdzz (H7.out.go hbX);have AP:=qav nExp (some ⟨W7.heap.size,0,none⟩) 2 2 X;simp only[nExp,hs7]at AP;have AP:=hdzz AP;have HSW7:=hdzz hs7;have HW7:=hdzz hW7;simp only[itCells,Tm.cells,List.cons_append,List.nil_append,List.append_nil]at hX;have HX:=hdzz hX;obtain⟨x0,x1,x2,x3,xf⟩:=qaa H6.out.b1;clear hr6 hb6 hW7 hx7 hb7 hc7 hX hbX hxX H6 HP7;simp only[Tm.val];go_wp2_with fail
   rw[←HW7.out,←HX.out];refine AP.out.mono ?_;clear AP x0 x1 x2 x3 xf;rintro e w9 ⟨rfl,hb9⟩;have H9:=hdzz (H8.out.go hb9);have HR9:=hdzz (RepP.mono (w':=w9) (P':=fun b=>(Pb b∨w.heap.size+1+1<b)∧b<w9.heap.size) (fun b h=>⟨h.1,by have:=hb9.size;omega⟩) (fun p h=>hb9.cell h.2) _ _ _ HRX.out);obtain⟨z0,z1,z2,z3,zf⟩:=qaa H9.out.b3;clear hb9 H8 H7;go_wp2_with fail
   refine bodyPost_ret (v:=.tuple #[Tm.val (.mk 3 nExp 0 [b0,pr]) (some ⟨w6.heap.size,0,none⟩) 2,.int .i64 0]) ?_ rfl ?_
   ·simp[results,Tryz.results108,go_sem,z0,z1,z2,z3,Tm.val,Tm.kind,Tm.name,Tm.sort,Tm.kids,nExp]
   rw[←HR2.out];refine⟨some ⟨w6.heap.size,0,none⟩,2,rfl,?_,?_⟩
   ·have h:=HR9.out;rw[HSW7.out]at h;exact RepP.mono (fun b h=>h.1.imp id fun h1=>⟨by omega,by have:=h.2;simp[World.setCell];omega⟩) (fun p hp=>qaq (hp.1.elim (fun h1=>by have:=hPb _ h1;omega) (fun h1=>by omega))) _ _ _ h
   ·iterate 4 refine Below.setCell ?_ (by show _≤w.heap.size+1+1;omega) _
    exact H9.out.bel
 have hbl:b.kids.length=2:=(har.num hx).2.1 (by decide);obtain⟨hof1,hvp1,hvpe,hrp⟩:=HEXP.out hx;have hb1e:ofT (kidT b.kids 1)=b.expoE:=by rw[Tm.expoE,if_pos hx]
 rw[hb1e]at hvp1;have hok1:Okp b.expoE:=Okp.expo b;have HRS:Hid (mkE (kidT b.kids 0) (mulP b.expoE pe)=res):=hdzz (by rw[HRES.out,Tm.baseE,if_pos hx]);rw[decide_eq_true hx]at IS;simp only[Tm.val,nExp]at IS;have IS:=hdzz IS;have HBL:=hdzz hbl;clear HRES HEXP hx hbl;go_wp2_with fail
 refine IS.out.mono ?_;clear IS x0 x1 x2 x3 xf;rintro e w2 ⟨rfl,hl2⟩;have H2:=hdzz (H1.out.go hl2.below);have HRE2:=hdzz (HRE1.out.mono (w':=w2) (P':=fun b=>V.heap.size≤b∧b<w2.heap.size) (fun b h=>⟨h.1,by have:=hl2.size;omega⟩) (fun p h=>hl2.below.cell h.2));have hs12:=hl2.size;clear hl2 H1 HRE1;obtain⟨kb,ko,A1,c1,hke,hkb,k0,k1,k2,k3,k1r⟩:=qal H2.out.rb 1 (by have:=HBL.out;omega);obtain⟨kb',ko',A0,c0,hke0,-,j0,j1,j2,j3,k0r⟩:=qal H2.out.rb 0 (by have:=HBL.out;omega);have hkb:kb<w.heap.size:=hPb _ hkb;subst hke;injection hke0 with hke0;injection hke0 with e1 e2;subst e1 e2;rw[Nat.one_mul]at k0 k1 k2 k3;rw[Nat.zero_mul,Nat.add_zero]at j0 j1 j2 j3;have hsz2:=H2.out.size;have OF:=qh0 (kidT b.kids 1) A1 c1 w2 hof1 (RepP.mono (fun b (h:Pb b)=>by have:=hPb _ h;omega) (fun _ _=>rfl) _ _ _ k1r)
 rw[hb1e]at OF;obtain⟨u1,hu1⟩:∃u,u=kidT b.kids 1:=⟨_,rfl⟩;obtain⟨b0,hb0⟩:∃u,u=kidT b.kids 0:=⟨_,rfl⟩;rw[←hu1]at k0 k1 k2 k3 OF;rw[←hb0]at j0 j1 j2 j3 k0r HRS;obtain⟨q,hq⟩:∃q,q=b.expoE:=⟨_,rfl⟩;rw[←hq]at hvp1 hrp hok1 HRS HTM OF;simp only[Tm.val]at OF;have OF:=hdzz OF;have HK0:=hdzz k0r;have MU:Hid (∀(Z:World) (A A':Option Addr) (c c':Nat),RepW Z (fun b=>b<Z.heap.size) q A c→RepW Z (fun b=>b<Z.heap.size) pe A' c'→Calls Tryz.prog 138 #[.slice A q.length c,.slice A' pe.length c'] Z (OkW (mulP q pe) Z)):=hdzz fun Z A A' c c' h h'=>emul_any q pe A A' c c' Z hvp1 hok1 hvpe HOE.out hrp h h';have HOR:=hdzz (hok1.mul HOE.out);rw[←HNE.out]at MU;obtain⟨x0,x1,x2,x3,xf⟩:=qaa H2.out.b1;rw[HBL.out]at x3;clear hu1 hb0 hq hb1e k1r k0r hof1 hvp1 hvpe hrp hok1;go_wp2_with fail
 refine OF.out.mono ?_;clear OF x0 x1 x2 x3 xf k0 k1 k2 k3;rintro e w3 ⟨A3,c3,rfl,hr3,hb3⟩;have H3:=hdzz (H2.out.go hb3);have hs3:=hb3.size;have MU:=hdzz (MU.out w3 A3 Ae c3 ca (hr3.mono (fun _ h=>h.2) (fun _ _=>rfl)) (HRE2.out.mono (fun b h=>by omega) (fun p h=>hb3.cell h.2)));have HCL3:Hid (∀p:Addr,p.block<w.heap.size→w3.cell? p=w2.cell? p):=hdzz fun p hp=>hb3.cell (by omega);obtain⟨nq,hnq⟩:∃n,n=q.length:=⟨_,rfl⟩;rw[←hnq]at MU ⊢;obtain⟨r,hr⟩:∃r,r=mulP q pe:=⟨_,rfl⟩;rw[←hr]at MU HRS HTM HOR;clear hr3 hb3 H2 HRE2 hnq hr;go_wp2_with fail
 refine MU.out.mono ?_;clear MU;rintro e w4 ⟨Ar,cr,rfl,hr4,hb4⟩;have H4:=hdzz (H3.out.go hb4);have hs4:=hb4.size;have hsz3:=H3.out.size;have HCL4:Hid (∀p:Addr,p.block<w.heap.size→w4.cell? p=w2.cell? p):=hdzz fun p hp=>(hb4.cell (by omega)).trans (HCL3.out p hp);have HR4:=hdzz hr4;have j0:=(HCL4.out ⟨kb,ko,none⟩ hkb).trans j0;have j1:=(HCL4.out ⟨kb,ko+1,none⟩ hkb).trans j1;have j2:=(HCL4.out ⟨kb,ko+2,none⟩ hkb).trans j2;have j3:=(HCL4.out ⟨kb,ko+3,none⟩ hkb).trans j3;obtain⟨x0,x1,x2,x3,xf⟩:=qaa H4.out.b1;rw[HBL.out]at x3;obtain⟨nr,hnr⟩:∃n,n=r.length:=⟨_,rfl⟩;rw[←hnr];have HNR:=hdzz hnr;obtain⟨W,hW,hx5,hb5,hs5,hc5⟩:=qcm (W:=w4) (B:=w.heap.size) (a:=.int .i64 b0.kind) (b:=.string b0.name) (c:=.int .i64 b0.sort) (d:=.slice A0 b0.kids.length c0) H4.out.b1
 have H0:Hid (RsB Pb w b0 e A0 E c0 ce W):=hdzz ⟨hx5,(hc5.2 _ (by omega)).trans H4.out.b2,(hc5.2 _ (by omega)).trans H4.out.b3,H4.out.bel.trans (hb5.mono (Nat.le_refl _)),RepP.mono (w:=w2) (fun _ h=>h) (fun p (h:Pb p.block)=>(hc5.1 p (by have:=hPb _ h;omega)).trans (HCL4.out p (hPb _ h))) _ _ _ HK0.out,hPb⟩;have HRW:=hdzz (HR4.out.mono (w':=W) (P':=fun b=>V.heap.size≤b∧b<W.heap.size) (fun b h=>by omega) (fun p h=>hc5.1 p (by omega)));have HTM2:=HTM;have HW:=hdzz hW;obtain⟨B0,hB0⟩:∃x,x=A0:=⟨_,rfl⟩;subst hB0;clear hr4 hb4 H3 hW hx5 hb5 hc5 hnr;have hnrI:True:=trivial;go_upto_region 12 with fail
 rw[←HW.out];clear x0 x1 x2 x3 xf j0 j1 j2 j3 HW HCL3 HCL4 HR4;by_cases hnr:nr=0
 ·have hr0:r=[]:=List.eq_nil_of_length_eq_zero (by rw[←HNR.out];exact hnr);have hres2:b0=res:=by have:=HRS.out;rw[hr0,mkE,if_pos rfl]at this;exact this
  have hnI:((nr:Int)==0)=true:=by rw[hnr];rfl
  have HR2:=hdzz hres2;clear hnr hr0 hres2;obtain⟨x0,x1,x2,x3,xf⟩:=qaa H0.out.b1;obtain⟨z0,z1,z2,z3,zf⟩:=qaa H0.out.b3;go_wp2_with fail
  refine bodyPost_ret (v:=.tuple #[b0.val B0 c0,.int .i64 0]) ?_ rfl ?_
  ·simp[results,Tryz.results108,go_sem,z0,z1,z2,z3,Tm.val]
  rw[←HR2.out];refine⟨B0,c0,rfl,RepP.mono (fun b h=>.inl h) (fun p hp=>qaq (by have:=hPb _ hp;omega)) _ _ _ H0.out.rb,?_⟩
  iterate 4 refine Below.setCell ?_ (by show _≤w.heap.size+1+1;omega) _
  exact H0.out.bel
 ·have hr0:r≠[]:=fun e=>hnr (by rw[HNR.out,e];rfl);have hnI:((nr:Int)==0)=false:=by rw[beq_eq_false_iff_ne];omega
  have hres2:.mk 3 nExp 0 [b0,prodT r]=res:=by have:=HRS.out;rw[mkE,if_neg hr0]at this;exact this
  have HR2:=hdzz hres2;have TM:=qew r Ar cr W (HTM2.out hr0) HOR.out (HRW.out.mono (fun _ h=>h.2) (fun _ _=>rfl));rw[←HNR.out]at TM;obtain⟨pr,hpr⟩:∃p,p=prodT r:=⟨_,rfl⟩;rw[←hpr]at TM HR2;clear hnr hr0 hres2 hpr;have TM:=hdzz TM;obtain⟨x0,x1,x2,x3,xf⟩:=qaa H0.out.b1;go_wp2_with fail
  refine TM.out.mono ?_;clear TM x0 x1 x2 x3 xf;rintro e w6 ⟨A6,c6,rfl,hr6,hb6⟩;have H6:=hdzz (H0.out.go hb6);have hs6:=hb6.size;have hs0:=H0.out.size;obtain⟨y0,y1,y2,y3,yf⟩:=qaa H6.out.b2;obtain⟨W7,hW7,hx7,hb7,hs7,hc7⟩:=qcm (W:=w6) (B:=w.heap.size+1) (a:=.int .i64 pr.kind) (b:=.string pr.name) (c:=.int .i64 pr.sort) (d:=.slice A6 pr.kids.length c6) H6.out.b2;have H7:Hid (RsB Pb w b0 pr B0 A6 c0 c6 W7):=hdzz ⟨(hc7.2 _ (by omega)).trans H6.out.b1,hx7,(hc7.2 _ (by omega)).trans H6.out.b3,H6.out.bel.trans (hb7.mono (by omega)),RepP.mono (fun _ h=>h) (fun p (h:Pb p.block)=>hc7.1 p (by have:=hPb _ h;omega)) _ _ _ H6.out.rb,hPb⟩;have HP7:=hdzz (RepP.mono (w':=W7) (P':=fun b=>w.heap.size+1+1<b∧b<W7.heap.size) (fun b h=>⟨by omega,by omega⟩) (fun p h=>hc7.1 p (by omega)) _ _ _ hr6)
  obtain⟨X,hX⟩:∃X,X=W7.alloc (.cells (itCells [((b0,B0,c0):It),(pr,A6,c6)]).toArray 24):=⟨_,rfl⟩;have hbX:Below W7.heap.size W7 X:=by rw[hX];exact qad (Nat.le_refl _) _
  have hsX:X.heap.size=W7.heap.size+1:=by rw[hX];simp
  have hxX:X.heap[W7.heap.size]?=some (.cells (itCells [((b0,B0,c0):It),(pr,A6,c6)]).toArray 24 (0,0)):=by rw[hX];exact heap_alloc_new _ _
  have HRX:Hid (RepP X (fun b=>(Pb b∨w.heap.size+1+1<b)∧b<X.heap.size) (.mk 3 nExp 0 [b0,pr]) (some ⟨W7.heap.size,0,none⟩) 2):=hdzz (by
   rw[RepP_mk];have hs7':=H7.out.size;refine⟨by decide,Nat.le_refl _,by unfold maxLen;omega,.inr ⟨W7.heap.size,0,rfl,⟨.inr (by omega),by omega⟩,?_⟩⟩;refine RepLP.of_its [((b0,B0,c0):It),(pr,A6,c6)] _ 0 (fun j u hj=>?_) (fun x hx=>?_)
   ·rw[Nat.zero_add];unfold World.cell?;rw[hxX];simpa using hj
   ·simp only[List.mem_cons,List.not_mem_nil,or_false]at hx;rcases hx with rfl|rfl
    ·exact RepP.mono (w:=W7) (P:=Pb) (fun b h=>⟨.inl h,by have:=hPb _ h;omega⟩) (fun p h=>hbX.cell (by have:=hPb _ h;omega)) _ _ _ H7.out.rb
    ·exact RepP.mono (fun b h=>⟨.inr h.1,by have:=h.2;omega⟩) (fun p h=>hbX.cell h.2) _ _ _ HP7.out)
  have H8:=hdzz (H7.out.go hbX);have AP:=qav nExp (some ⟨W7.heap.size,0,none⟩) 2 2 X;simp only[nExp,hs7]at AP;have AP:=hdzz AP;have HSW7:=hdzz hs7;have HW7:=hdzz hW7;simp only[itCells,Tm.cells,List.cons_append,List.nil_append,List.append_nil]at hX;have HX:=hdzz hX;obtain⟨x0,x1,x2,x3,xf⟩:=qaa H6.out.b1;clear hr6 hb6 hW7 hx7 hb7 hc7 hX hbX hxX H6 HP7;simp only[Tm.val];go_wp2_with fail
  rw[←HW7.out,←HX.out];refine AP.out.mono ?_;clear AP x0 x1 x2 x3 xf;rintro e w9 ⟨rfl,hb9⟩;have H9:=hdzz (H8.out.go hb9);have HR9:=hdzz (RepP.mono (w':=w9) (P':=fun b=>(Pb b∨w.heap.size+1+1<b)∧b<w9.heap.size) (fun b h=>⟨h.1,by have:=hb9.size;omega⟩) (fun p h=>hb9.cell h.2) _ _ _ HRX.out);obtain⟨z0,z1,z2,z3,zf⟩:=qaa H9.out.b3;clear hb9 H8 H7;go_wp2_with fail
  refine bodyPost_ret (v:=.tuple #[Tm.val (.mk 3 nExp 0 [b0,pr]) (some ⟨w6.heap.size,0,none⟩) 2,.int .i64 0]) ?_ rfl ?_
  ·simp[results,Tryz.results108,go_sem,z0,z1,z2,z3,Tm.val,Tm.kind,Tm.name,Tm.sort,Tm.kids,nExp]
  rw[←HR2.out];refine⟨some ⟨w6.heap.size,0,none⟩,2,rfl,?_,?_⟩
  ·have h:=HR9.out;rw[HSW7.out]at h;exact RepP.mono (fun b h=>h.1.imp id fun h1=>⟨by omega,by have:=h.2;simp[World.setCell];omega⟩) (fun p hp=>qaq (hp.1.elim (fun h1=>by have:=hPb _ h1;omega) (fun h1=>by omega))) _ _ _ h
  ·iterate 4 refine Below.setCell ?_ (by show _≤w.heap.size+1+1;omega) _
   exact H9.out.bel
theorem qb5 (x:ByteArray) (l:List Tm) (A:Option Addr) (c:Nat) (w:World) (P:Nat→Prop) (hP:∀b,P b→b<w.heap.size) (hx:x.size≤maxLen) (hl:l≠[]) (hl2:l.length≤1000000) (hrep:RepS w P l A c) :
  Calls Tryz.prog 20 #[.string x,.slice A l.length c] w fun e w'=>∃A' c',e=.returned ((Tm.mk 3 x 0 l).val A' c')∧RepP w' (fun b=>P b∨w.heap.size≤b∧b<w'.heap.size) (.mk 3 x 0 l) A' c'∧Below w.heap.size w w':=by
 obtain⟨h1,h2,h3⟩:=hrep;rcases h3 with h3|⟨b,off,rfl,hb,hL⟩
 ·exact absurd h3 hl
 obtain⟨its,hm,hc,hr⟩:=RepLP.its l b off hL;have hb1:Below w.heap.size w ((w.alloc (.cells #[.int .i64 0,.string ⟨#[]⟩,.int .i64 0,.slice none 0 0] 24)).alloc (.cells #[] 24)):=(qad (Nat.le_refl _) _).alloc (by simp) _;have hr0:RowT ((w.alloc (.cells #[.int .i64 0,.string ⟨#[]⟩,.int .i64 0,.slice none 0 0] 24)).alloc (.cells #[] 24)) (w.heap.size+1) P (.slice (some ⟨w.heap.size+1,0,none⟩) 0 0) []:=by
  refine⟨?_,by simp⟩;have h:=World.ownsRow_made (base:=w.heap.size+1) (e:=24) (size:=4) (w.alloc (.cells #[.int .i64 0,.string ⟨#[]⟩,.int .i64 0,.slice none 0 0] 24)) #[] 0 (by simp) (by simp[maxLen]) rfl;rw[World.size_alloc]at h;exact h
 have hlen:l.length=its.length:=by rw[←hm,List.length_map]
 obtain⟨A',c',w',hap,hrow,hg,hsome⟩:=hr0.more (fun b h=>by have:=hP b h;omega) (by simp) b off c l.length its hlen (fun j u hj=>by rw[hb1.cell (by exact hP _ hb)];exact hc j u hj) (fun y hy=>RepP.mono (fun _ h=>h) (fun q hq=>hb1.cell (hP _ hq)) _ _ _ (hr y hy)) (by simp;omega);simp only[List.length_nil,Nat.zero_add,List.nil_append]at hap hrow;have HM:=hdzz hm;clear hm;have HLEN:=hdzz hlen;clear hlen;have HROW:=hdzz hrow;clear hrow;have hbx:w'.heap[w.heap.size]?=some (.cells #[.int .i64 0,.string ⟨#[]⟩,.int .i64 0,.slice none 0 0] 24 (0,0)):=by
  rw[hg.block _ (by simp;omega) (by simp[Value.ownBlock]),Below.heap_alloc _ _ _ (by simp)];exact heap_alloc_new _ _
 obtain⟨r0,r1,r2,r3,rf⟩:=qaa hbx;have hbw:Below w.heap.size w w':=qaw hb1 (by simp;omega) hg (fun k hk=>by simp[Value.ownBlock]at hk;omega);have HBW:=hdzz hbw;clear hbw hbx hg;clear hr0 hc hr hsome hL;simp only[Tm.val,Tm.kind,Tm.name,Tm.sort,Tm.kids];go_enter Tryz.func20,Tryz.ntmps20
 go_wp2_with (at_builtin;refine qab rfl _ _ rfl rfl rfl hap ?_)
 refine bodyPost_ret (v:=.agg #[.int .i64 3,.string x,.int .i64 0,.slice A' l.length c']) ?_ rfl ?_
 ·simp[results,Tryz.results20,go_sem,r0,r1,r2,r3]
 refine⟨A',c',rfl,?_,?_⟩
 ·obtain⟨A1,c1,he,hS⟩:=HROW.out.toS (P:=fun b=>P b∨w.heap.size+1≤b∧b<w'.heap.size) (fun b h h'=>.inl h) (fun b h h'=>.inr ⟨h,h'⟩);injection he with he1 _ he3;subst he1 he3;rw[HM.out]at hS;rw[RepP_mk];refine⟨hx,RepS.mono ?_ ?_ hS⟩
  ·rintro b (h1|h1)
   ·exact .inl h1
   ·exact .inr ⟨by omega,by simpa[World.setCell]using h1.2⟩
  ·rintro q hq;have h2:q.block≠w.heap.size:=hq.elim (fun h=>by have:=hP _ h;omega) (fun h=>by omega);have hne:∀o,(⟨w.heap.size,o,none⟩:Addr)≠q:=fun o e=>h2 (by rw[←e]);rw[World.cell?_setCell_other _ _ _ _ (hne _),World.cell?_setCell_other _ _ _ _ (hne _),World.cell?_setCell_other _ _ _ _ (hne _),World.cell?_setCell_other _ _ _ _ (hne _)]
 ·iterate 4 refine Below.setCell ?_ (by exact Nat.le_refl _) _
  exact HBW.out
def EoT (ok:Prop) (P:Nat→Prop) (r:Tm) (w:World) (e:Ending) (w':World):Prop:=
 (∃k:Int,k≠0∧e=.returned (.tuple #[.agg #[.int .i64 0,.string ⟨#[]⟩,.int .i64 0,.slice none 0 0],.int .i64 k])∧Below w.heap.size w w')∨(ok∧OkN P r w e w')
theorem qbn {ok:Prop} {P:Nat→Prop} {r:Tm} {w Y:World} {B:Nat} {x y z u:Value} {k:Int} (hk:k≠0) (hB:Below w.heap.size w Y) (hb:w.heap.size≤B) :
  EoT ok P r w (.returned (.tuple #[.agg #[.int .i64 0,.string ⟨#[]⟩,.int .i64 0,.slice none 0 0],.int .i64 k])) ((((Y.setCell ⟨B,0,none⟩ x).setCell ⟨B,1,none⟩ y).setCell ⟨B,2,none⟩ z).setCell ⟨B,3,none⟩ u):=by
 refine .inl ⟨k,hk,rfl,?_⟩
 iterate 4 refine Below.setCell ?_ hb _
 exact hB
theorem qdg {ok:Prop} {P:Nat→Prop} {r:Tm} {w Y:World} {B:Nat} {x y z u:Value} {A:Option Addr} {c:Nat} (hok:ok) (hB:Below w.heap.size w Y) (hP:∀b,P b→b<w.heap.size) (hb:w.heap.size≤B) (hr:RepP Y (fun b=>(P b∨w.heap.size≤b∧b≠B)∧b<Y.heap.size) r A c) :
  EoT ok P r w (.returned (.tuple #[r.val A c,.int .i64 0])) ((((Y.setCell ⟨B,0,none⟩ x).setCell ⟨B,1,none⟩ y).setCell ⟨B,2,none⟩ z).setCell ⟨B,3,none⟩ u):=by
 refine .inr ⟨hok,A,c,rfl,RepP.mono (fun b h=>h.1.imp id fun h1=>⟨h1.1,by have:=h.2;simp[World.setCell];omega⟩) (fun p hp=>qaq (hp.1.elim (fun h1=>by have:=hP _ h1;omega) (fun h1=>h1.2))) _ _ _ hr,?_⟩
 iterate 4 refine Below.setCell ?_ hb _
 exact hB
theorem qj6 {M:Nat}:∀{l:List Tm},(∀t∈l,t.size≤M)→Tm.sizes l≤M*l.length
 | [],_=>by simp[Tm.sizes]
 | t::r,h=>by
  have h1:=h t (List.mem_cons_self ..);have h2:=qj6 (l:=r) fun x hx=>h x (List.mem_cons_of_mem _ hx);rw[Tm.sizes,List.length_cons,Nat.mul_add,Nat.mul_one];omega
theorem oper_size {l:List (Tm×Int)} (h:VP l):∀t∈posP l++negP l,t.size≤401:=by
 intro t ht;rcases List.mem_append.1 ht with ht|ht
 ·obtain⟨p,hp,ht⟩:=List.mem_flatMap.1 ht;rw[List.eq_of_mem_replicate ht];have:=(qap (h.2 p hp).1).2.1;omega
 ·obtain⟨p,hp,ht⟩:=List.mem_flatMap.1 ht;rw[List.eq_of_mem_replicate ht];have:=(qap (h.2 p hp).1).2.1;rw[Tm.size,Tm.sizes,Tm.sizes];omega
theorem repS_get1 {w:World} {P:Nat→Prop} {a:Tm} {A:Option Addr} {c:Nat} (h:RepS w P [a] A c):∃b off,A=some ⟨b,off,none⟩∧P b∧∃A' c',w.cell? ⟨b,off,none⟩=some (.int .i64 a.kind)∧w.cell? ⟨b,off+1,none⟩=some (.string a.name)∧w.cell? ⟨b,off+2,none⟩=some (.int .i64 a.sort)∧w.cell? ⟨b,off+3,none⟩=some (.slice A' a.kids.length c')∧RepP w P a A' c':=by
 obtain⟨-,-,h3⟩:=h;rcases h3 with h3|⟨b,off,rfl,hb,hL⟩
 ·cases h3
 ·obtain⟨A',c',h0,h1,h2,h3,h5⟩:=RepLP.get hL 0 (by simp);rw[Nat.zero_mul,Nat.add_zero]at h0 h1 h2 h3;exact⟨b,off,rfl,hb,A',c',h0,h1,h2,h3,h5⟩
theorem qdc (n:ByteArray) (w:World):Calls Tryz.prog 20 #[.string n,.slice none 0 0] w fun e w'=>(∃A,e=.returned (.agg #[.int .i64 3,.string n,.int .i64 0,.slice A 0 0]))∧Below w.heap.size w w':=by
 go_enter Tryz.func20,Tryz.ntmps20
 go_wp2_with fail
 have hx:((w.alloc (.cells #[.int .i64 3,.string n,.int .i64 0,.slice (some ⟨w.heap.size+1,0,none⟩) 0 0] 24)).alloc (.cells #[] 24)).heap[w.heap.size]?=some (.cells #[.int .i64 3,.string n,.int .i64 0,.slice (some ⟨w.heap.size+1,0,none⟩) 0 0] 24 (0,0)):=by rw[Below.heap_alloc _ _ _ (by simp)];exact heap_alloc_new w _
 obtain⟨r0,r1,r2,r3,rf⟩:=qaa hx;refine bodyPost_ret (v:=.agg #[.int .i64 3,.string n,.int .i64 0,.slice (some ⟨w.heap.size+1,0,none⟩) 0 0]) ?_ rfl ?_
 ·simp[results,Tryz.results20,go_sem,r0,r1,r2,r3]
 exact⟨⟨_,rfl⟩,((Below.refl _ _).alloc (Nat.le_refl _) _).alloc (by simp) _⟩
theorem rzero_any (w:World):Calls Tryz.prog 116 #[] w fun e w'=>(∃A,e=.returned (Tm.val (.mk 3 qch 0 []) A 0))∧Below w.heap.size w w':=by
 obtain⟨V,hV⟩:∃V,V=w.alloc (.cells #[.int .i64 0,.string ⟨#[]⟩,.int .i64 0,.slice none 0 0] 24):=⟨_,rfl⟩;have hbV:Below w.heap.size w V:=by rw[hV];exact qad (Nat.le_refl _) _
 have hsV:V.heap.size=w.heap.size+1:=by rw[hV];simp
 have hx:V.heap[w.heap.size]?=some (.cells #[.int .i64 0,.string ⟨#[]⟩,.int .i64 0,.slice none 0 0] 24 (0,0)):=by rw[hV];exact heap_alloc_new _ _
 have AP:=hdzz (qdc ⟨#[122,101,114,111]⟩ V);have HV:=hdzz hV;clear hV;go_enter Tryz.func116,Tryz.ntmps116
 go_upto_region 1 with fail
 rw[←HV.out];clear HV;go_wp2_with fail
 refine AP.out.mono ?_;clear AP;rintro e w1 ⟨⟨A,rfl⟩,hb1⟩;have hz:=(hb1.block _ (by omega)).trans hx;obtain⟨z0,z1,z2,z3,zf⟩:=qaa hz;have HB:=hdzz (hbV.trans (hb1.mono (by omega)));clear hz hx hbV hb1 hsV;go_wp2_with fail
 refine bodyPost_ret (v:=Tm.val (.mk 3 qch 0 []) A 0) ?_ rfl ?_
 ·simp[results,Tryz.results116,go_sem,z0,z1,z2,z3,Tm.val,Tm.kind,Tm.name,Tm.sort,Tm.kids,qch]
 refine⟨⟨A,rfl⟩,?_⟩
 iterate 4 refine Below.setCell ?_ (by show _≤w.heap.size;omega) _
 exact HB.out
structure OneT (w:World) (x:Tm) (A:Option Addr) (c:Nat) (V:World):Prop where
 lay:Lay w.heap.size w V
 one:V.heap[w.heap.size]?=some ((.cells #[.int .i64 x.kind,.string x.name,.int .i64 x.sort,.slice A x.kids.length c] 24))
theorem OneT.new (w:World) (x:Tm) (A:Option Addr) (c:Nat):OneT w x A c (w.alloc ((.cells #[.int .i64 x.kind,.string x.name,.int .i64 x.sort,.slice A x.kids.length c] 24))):=⟨(Lay.refl _ _).alloc (Nat.le_refl _) _,heap_alloc_new _ _⟩
theorem OneT.lt {w V:World} {x:Tm} {A:Option Addr} {c:Nat} (h:OneT w x A c V):w.heap.size<V.heap.size:=(sltz h.one)
theorem OneT.go {w V W:World} {x:Tm} {A:Option Addr} {c:Nat} (h:OneT w x A c V) (hl:Lay V.heap.size V W):OneT w x A c W:=
 ⟨h.lay.trans (hl.mono h.lay.size),(hl.below.block _ h.lt).trans h.one⟩
def hasT (l:List Tm) (x:Tm):Bool:=l.any (fun t=>t.same x)
theorem any_drop {α:Type} (f:α→Bool) (l:List α) (k:Nat) (h:k<l.length):(l.drop k).any f=(f l[k] || (l.drop (k+1)).any f):=by
 rw[List.drop_eq_getElem_cons h,List.any_cons]
theorem rhas_any (l:List Tm) (A0:Option Addr) (cap0:Nat) (x:Tm) (A:Option Addr) (c:Nat) (w:World) (hsz:∀t∈l,t.size≤1000000) (hx:x.size≤1000000) (hrep:RepS w (fun b=>b<w.heap.size) l A0 cap0) (hrx:RepT w w.heap.size x A c) :
  Calls Tryz.prog 88 #[.slice A0 l.length cap0,x.val A c] w fun e w'=>e=.returned (.bool (hasT l x))∧Lay w.heap.size w w':=by
 have mixed:=mixz;obtain⟨V,hV⟩:∃V,V=w.alloc (.cells #[.int .i64 x.kind,.string x.name,.int .i64 x.sort,.slice A x.kids.length c] 24):=⟨_,rfl⟩;have h2:OneT w x A c V:=by rw[hV];exact OneT.new w x A c
 obtain⟨u,hu⟩:∃u,u=hasT l x:=⟨_,rfl⟩;rw[←hu];have HU:Hid (u=(l.drop 0).any (fun t=>t.same x)):=hu;clear hu;obtain⟨h0,h1,h3⟩:=hrep;unfold maxLen at h1;have HSZ:=hdzz hsz;clear hsz;have HRX:=hdzz hrx;clear hrx;have HV:=hdzz hV;clear hV;have H2:=hdzz h2;clear h2;simp only[Tm.val];go_enter Tryz.func88,Tryz.ntmps88
 go_wp2_with fail
 rw[←HV.out];go_loopw [5] (fun i wr=>∃k:Nat,k≤l.length∧i=.int .i64 k∧Hid (u=(l.drop k).any (fun t=>t.same x))∧Hid (OneT w x A c wr)) (fun i _=>l.length - (intOf i).toNat)
 case atStart=>exact⟨0,Nat.zero_le _,rfl,HU,H2⟩
 case round=>
  obtain⟨k,hk,rfl,HG,HT⟩:=hrel;have i1:(0:Int)≤(k:Int):=Int.natCast_nonneg _;have hlt2:=HT.out.lt;by_cases hlt:k<l.length
  ·have i2:(k:Int)<(l.length:Int):=by omega
   rcases h3 with rfl|⟨kb,off,rfl,hbB,hl⟩
   ·simp at hlt
   have hlr:RepLP wr (fun b=>b<w.heap.size) l kb off:=RepLP.mono (fun _ h=>h) (fun p hp=>HT.out.lay.below.cell hp) _ _ _ hbB hl;obtain⟨A1,c1,t0,t1,t2,t3,hr1⟩:=hlr.get k hlt;have hb1:=HSZ.out l[k] (List.getElem_mem hlt);have hss:=HT.out.lay.size;have C1:Hid (∀X,Lay wr.heap.size wr X→Calls Tryz.prog 31 #[l[k].val A1 c1,x.val A c] X fun e w'=>e=.returned (.bool (l[k].same x))∧Lay X.heap.size X w'):=hdzz fun X hX=>
    qd3 _ _ _ _ _ _ X hb1 hx (RepP.mono (fun b (h:b<w.heap.size)=>by have:=hX.size;omega) (fun p (hp:p.block<w.heap.size)=>hX.below.cell (by omega)) _ _ _ hr1)
     (HRX.out.go (qa7 HT.out.lay.below hX.below hss) (Nat.le_trans hss hX.size))
   have hst:=any_drop (fun t=>t.same x) l k hlt;rw[←HG.out]at hst;obtain⟨q1,hq1⟩:∃c,c=l[k].same x:=⟨_,rfl⟩;rw[←hq1]at C1 hst;clear hq1;have hcell:∀n os o,(grow (wr.drewN n) os).cell? ⟨kb,o,none⟩=wr.cell? ⟨kb,o,none⟩:=fun n os o=>(Lay.of_grow (w:=wr) n os).below.cell (by show kb<_;omega);have p0:=fun n os=>(hcell n os _).trans t0;have p1:=fun n os=>(hcell n os _).trans t1;have p2:=fun n os=>(hcell n os _).trans t2;have p3:=fun n os=>(hcell n os _).trans t3;obtain⟨d0,d1,d2,d3,-⟩:=qaa HT.out.one;have hcellx:∀n os o,(grow (wr.drewN n) os).cell? ⟨w.heap.size,o,none⟩=wr.cell? ⟨w.heap.size,o,none⟩:=fun n os o=>(Lay.of_grow (w:=wr) n os).below.cell (by show w.heap.size<_;omega);have y0:=fun n os=>(hcellx n os _).trans d0;have y1:=fun n os=>(hcellx n os _).trans d1
   have y2:=fun n os=>(hcellx n os _).trans d2;have y3:=fun n os=>(hcellx n os _).trans d3;clear hcell hcellx hl hlr d0 d1 d2 d3 t0 t1 t2 t3 hr1;simp only[Tm.val]at C1;have HST:=hdzz hst;clear hst
   cases q1 with
   | true=>
    have hE:u=true:=by rw[HST.out,Bool.true_or]
    subst hE;clear HST;go_wp2_with fail
    go_quiet_grown ((go_at_call 31;with_reducible exact qak (C1.out _ (Lay.of_grow _ _))))
    go_wp2_with fail
    go_ret
    exact⟨rfl,HT.out.lay.trans ((Lay.of_grow _ _).mono hss)⟩
   | false=>
    have HE:Hid (u=(l.drop (k+1)).any (fun t=>t.same x)):=by rw[HST.out,Bool.false_or];exact rfl
    clear HST;go_wp2_with fail
    go_quiet_grown ((go_at_call 31;with_reducible exact qak (C1.out _ (Lay.of_grow _ _))))
    go_wp2_with fail
    go_roundw
    case rel=>exact⟨k+1,by omega,by go_num,HE,HT.out.go (Lay.of_grow _ _)⟩
    case measure=>simp[intOf];omega
  ·obtain rfl:k=l.length:=by omega
   have hE:u=false:=by have:=HG.out;rw[List.drop_length]at this;exact this
   subst hE;go_wp2_with fail
   go_ret
   exact⟨rfl,HT.out.lay⟩
def ql5 (w:World) (P:Nat→Prop) (l:List Tm) (e:Ending) (w':World):Prop:=
 ∃A cap n its,e=.returned (.slice A n cap)∧n=l.length∧RowT w' w.heap.size P (.slice A n cap) its∧Below w.heap.size w w'∧its.map (·.1)=l
theorem raddT_any (its0:List It) (base0:Nat) (A0:Option Addr) (n0 c0:Nat) (t:Tm) (A:Option Addr) (cap:Nat) (w:World) (P:Nat→Prop) (hP:∀b,P b→b<w.heap.size) (hrow0:RowT w base0 P (.slice A0 n0 c0) its0) (hrep:RepP w P t A cap)
  (hn0:n0≤1000000) (ht:t.size≤1000000) (hsz:∀x∈its0,x.1.size≤1000000) :
  Calls Tryz.prog 89 #[.slice A0 n0 c0,t.val A cap] w (ql5 w P (Tm.add t (its0.map (·.1)))):=by
 have mixed:=mixz;obtain⟨l,hl⟩:∃l,l=its0.map (·.1):=⟨_,rfl⟩;rw[←hl];have hlen0:=hrow0.len;have hll:l.length=n0:=by rw[hl,List.length_map];omega
 obtain⟨W0,hW0⟩:∃W0,W0=w.alloc (.cells #[.int .i64 t.kind,.string t.name,.int .i64 t.sort,.slice A t.kids.length cap] 24):=⟨_,rfl⟩;have hs0:W0.heap.size=w.heap.size+1:=by rw[hW0];simp
 have hb0:Below w.heap.size w W0:=by rw[hW0];exact qad (Nat.le_refl _) _
 have hbx:W0.heap[w.heap.size]?=some (.cells #[.int .i64 t.kind,.string t.name,.int .i64 t.sort,.slice A t.kids.length cap] 24 (0,0)):=by rw[hW0];exact heap_alloc_new _ _
 have hg0:∀k,(Value.slice A0 n0 c0).ownBlock=some k→k<w.heap.size:=fun k hk=>(hrow0.lt k hk).2;have HB0:=hdzz hb0;clear hb0;have HBX:=hdzz hbx;clear hbx;have HS0:=hdzz hs0;clear hs0;have HW0:=hdzz hW0;clear hW0;have HL:=hdzz hl;clear hl;have HLL:=hdzz hll;clear hll;have HLEN:=hdzz hlen0;clear hlen0;have HR0:=hdzz hrow0;clear hrow0;have HREP:=hdzz hrep;clear hrep;have HSZ:=hdzz hsz;clear hsz;have HG0:=hdzz hg0;clear hg0;simp only[Tm.val];go_enter Tryz.func89,Tryz.ntmps89
 go_wp2_with fail
 go_loopw [5,6,7] (fun v dv i wr=>∃(k m c:Nat) (d:Bool) (A':Option Addr) (its:List It),k≤n0∧i=.int .i64 k∧dv=.bool d∧v=.slice A' m c∧m≤k+1∧Hid (d=false→m≤k)∧Hid (RowT wr (w.heap.size+1) P (.slice A' m c) its)∧
   Hid (qey t l its d k)∧Hid (Below (w.heap.size+1) W0 wr))
  (fun _ _ i _=>n0 - (intOf i).toNat)
 case atStart=>exact⟨0,0,0,false,none,[],Nat.zero_le _,rfl,rfl,rfl,by omega,fun _=>Nat.le_refl _,RowT.nil _ _ _,by simp[qey,Hid],by rw[HW0.out];exact Below.refl _ _⟩
 case round=>
  obtain⟨k,m,c,d,A',its,hk,rfl,rfl,rfl,hmk,HMD,HR,HS,HBW⟩:=hrel;have HBWW:Hid (Below w.heap.size w wr):=HB0.out.trans (HBW.out.mono (by omega));have HSW:Hid (w.heap.size+1≤wr.heap.size):=by have:=HBW.out.size;have:=HS0.out;exact(by omega:w.heap.size+1≤wr.heap.size)
  have HML:Hid (m=its.length):=HR.out.len;obtain⟨b0,b1,b2,b3⟩:=qcj ((HBW.out.block w.heap.size (by omega)).trans HBX.out);have hTm:∀X,Below w.heap.size w X→RepP X P t A cap:=fun X hX=>RepP.mono (fun _ h=>h) (fun p hp=>hX.cell (hP _ hp)) _ _ _ HREP.out;have HTM:=hdzz hTm;clear hTm;by_cases hlt:k<n0
  ·have hki:k<its0.length:=by have:=HLEN.out;omega
   obtain⟨g0,hA0⟩:=HR0.out.some (by omega);subst hA0;have hrowk:=HR0.out.below (HBWW.out);obtain⟨a0,a1,a2,a3⟩:=hrowk.slot_grown HLEN.out k hki;have hxrep:∀X,Below w.heap.size w X→RepP X P its0[k].1 its0[k].2.1 its0[k].2.2:=fun X hX=>
    RepP.mono (fun _ h=>h.1) (fun p hp=>hX.cell hp.2.1) _ _ _ (HR0.out.reps _ (List.getElem_mem hki))
   have HXR:=hdzz hxrep;clear hxrep;have hxsz:=HSZ.out _ (List.getElem_mem hki);have hdrop:l.drop k=its0[k].1::l.drop (k+1):=by
    have hkl:k<l.length:=by have:=HLL.out;omega
    rw[List.drop_eq_getElem_cons hkl]
    congr 1
    have h2:=HL.out;subst h2;simp
   have HD:=hdzz hdrop;clear hdrop;have hslot:∀X,Below w.heap.size w X→X.cell? ⟨g0,k*4,none⟩=some (.int .i64 its0[k].1.kind)∧X.cell? ⟨g0,k*4+1,none⟩=some (.string its0[k].1.name)∧X.cell? ⟨g0,k*4+2,none⟩=some (.int .i64 its0[k].1.sort)∧
     X.cell? ⟨g0,k*4+3,none⟩=some (.slice its0[k].2.1 its0[k].1.kids.length its0[k].2.2):=fun X hX=>by
    obtain⟨h0,h1,h2,h3,_⟩:=(HR0.out.below hX).slot HLEN.out k hki;exact⟨h0,h1,h2,h3⟩
   have HSL:=hdzz hslot;clear hslot hrowk;obtain⟨x,hx⟩:∃x,x=its0[k]:=⟨_,rfl⟩;rw[←hx]at a0 a1 a2 a3 HXR hxsz HD HSL;clear hx;have CK:Hid (∀X,Lay wr.heap.size wr X→Calls Tryz.prog 69 #[t.val A cap,x.1.val x.2.1 x.2.2] X fun e w'=>e=.returned (.int .i64 (t.cmp x.1))∧Lay X.heap.size X w'):=fun X hX=>
    have hb:Below w.heap.size w X:=HBWW.out.trans (hX.below.mono (by have:=HSW.out;omega))
    qdx 1000000 t x.1 A x.2.1 cap x.2.2 X ht (Nat.le_refl _) hxsz (RepP.mono (fun b h=>by have:=hP b h;have:=hb.size;show b<_;omega) (fun _ _=>rfl) _ _ _ (HTM.out X hb)) (RepP.mono (fun b h=>by have:=hP b h;have:=hb.size;show b<_;omega) (fun _ _=>rfl) _ _ _ (HXR.out X hb))
   have hu:=Tm.cmp_unit t x.1;obtain⟨q,hq⟩:∃q,q=t.cmp x.1:=⟨_,rfl⟩;rw[←hq]at CK hu;have HQ:=hdzz hq;clear hq;simp only[Tm.val]at CK;have hZ:∀nq osq,Below w.heap.size w (grow (wr.drewN nq) osq)∧Below (w.heap.size+1) W0 (grow (wr.drewN nq) osq)∧RowT (grow (wr.drewN nq) osq) (w.heap.size+1) P (.slice A' m c) its∧wr.heap.size≤(grow (wr.drewN nq) osq).heap.size:=fun nq osq=>by
    have hX:Lay wr.heap.size wr (grow (wr.drewN nq) osq):=Lay.of_grow _ _;have:=HSW.out;exact⟨HBWW.out.trans (hX.below.mono (by omega)),HBW.out.trans (hX.below.mono (by omega)),HR.out.below hX.below,hX.size⟩
   have HZ:=hdzz hZ;clear hZ;have hcase:d=true∨(d=false∧q=0)∨(d=false∧q=1)∨(d=false∧q = -1):=by
    cases d
    ·rcases hu with h|h|h<;>simp[h]
    ·exact .inl rfl
   clear hu;rcases hcase with rfl|⟨rfl,rfl⟩|⟨rfl,rfl⟩|⟨rfl,rfl⟩
   ·go_wp2_with fail
    go_quiet_grown ((go_at_call 69;exact qak (CK.out _ (Lay.of_grow _ _))))
    obtain⟨hz1,hz2,hz3,hz4⟩:=HZ.out nq osq;clear HZ CK a0 a1 a2 a3;generalize grow (wr.drewN nq) osq=Z at *;obtain⟨s0,s1,s2,s3⟩:=HSL.out Z hz1;have hzs:=HSW.out;obtain⟨A1,c1,w1,hap,hr1,hg1⟩:=hz3.more1 (fun b h=>by have:=hP b h;omega) (by omega) x (HXR.out Z hz1) (by have:=HML.out;omega);have hb1:Below (w.heap.size+1) W0 w1:=qaw (hz2.trans (qad (by omega) _)) (by simp;omega) hg1 (fun q hq=>(HR.out.lt q hq).1);rw[←HML.out]at hap hr1;have HR1:=hdzz hr1;clear hr1;have HB1:=hdzz hb1;clear hb1;clear hz1 hz2 hz3 hg1;go_wp2_with (at_builtin;refine qab rfl _ _ rfl rfl rfl hap ?_)
    go_roundw
    case rel=>
     refine⟨k+1,_,c1,true,A1,_,by omega,by go_num,rfl,rfl,by omega,fun h=>(by cases h),HR1.out,?_,HB1.out⟩;have h:=HS.out;unfold qey at h ⊢;rw[HD.out]at h;rw[List.map_append,List.append_assoc];exact h
    case measure=>simp[intOf];omega
   ·go_wp2_with fail
    go_quiet_grown ((go_at_call 69;exact qak (CK.out _ (Lay.of_grow _ _))))
    obtain⟨hz1,hz2,hz3,hz4⟩:=HZ.out nq osq;clear HZ CK a0 a1 a2 a3;generalize grow (wr.drewN nq) osq=Z at *;obtain⟨s0,s1,s2,s3⟩:=HSL.out Z hz1;have hzs:=HSW.out;obtain⟨A1,c1,w1,hap,hr1,hg1⟩:=hz3.more1 (fun b h=>by have:=hP b h;omega) (by omega) x (HXR.out Z hz1) (by have:=HML.out;omega);have hb1:Below (w.heap.size+1) W0 w1:=qaw (hz2.trans (qad (by omega) _)) (by simp;omega) hg1 (fun q hq=>(HR.out.lt q hq).1);rw[←HML.out]at hap hr1;have HR1:=hdzz hr1;clear hr1;have HB1:=hdzz hb1;clear hb1;clear hz1 hz2 hz3 hg1;go_wp2_with (at_builtin;refine qab rfl _ _ rfl rfl rfl hap ?_)
    go_roundw
    case rel=>
     refine⟨k+1,_,c1,true,A1,_,by omega,by go_num,rfl,rfl,by omega,fun h=>(by cases h),HR1.out,?_,HB1.out⟩;have h:=HS.out;unfold qey at h ⊢;rw[HD.out]at h;simp only[Bool.false_eq_true,if_false,if_true]at h ⊢;rw[add_eq HQ.out.symm]at h;rw[List.map_append,List.append_assoc];exact h
    case measure=>simp[intOf];omega
   ·go_wp2_with fail
    go_quiet_grown ((go_at_call 69;exact qak (CK.out _ (Lay.of_grow _ _))))
    obtain⟨hz1,hz2,hz3,hz4⟩:=HZ.out nq osq;clear HZ CK a0 a1 a2 a3;generalize grow (wr.drewN nq) osq=Z at *;obtain⟨s0,s1,s2,s3⟩:=HSL.out Z hz1;have hzs:=HSW.out;obtain⟨A1,c1,w1,hap,hr1,hg1⟩:=hz3.more1 (fun b h=>by have:=hP b h;omega) (by omega) x (HXR.out Z hz1) (by have:=HML.out;omega);have hb1:Below (w.heap.size+1) W0 w1:=qaw (hz2.trans (qad (by omega) _)) (by simp;omega) hg1 (fun q hq=>(HR.out.lt q hq).1);rw[←HML.out]at hap hr1;have HR1:=hdzz hr1;clear hr1;have HB1:=hdzz hb1;clear hb1;clear hz1 hz2 hz3 hg1;go_wp2_with (at_builtin;refine qab rfl _ _ rfl rfl rfl hap ?_)
    go_roundw
    case rel=>
     refine⟨k+1,_,c1,false,A1,_,by omega,by go_num,rfl,rfl,by omega,fun _=>(by have:=HMD.out (by simp);omega),HR1.out,?_,HB1.out⟩;have h:=HS.out;unfold qey at h ⊢;rw[HD.out]at h;simp only[Bool.false_eq_true,if_false]at h ⊢;rw[add_gt HQ.out.symm]at h;rw[List.map_append,List.append_assoc];exact h
    case measure=>simp[intOf];omega
   ·go_wp2_with fail
    go_quiet_grown ((go_at_call 69;exact qak (CK.out _ (Lay.of_grow _ _))))
    obtain⟨hz1,hz2,hz3,hz4⟩:=HZ.out nq osq;clear HZ CK a0 a1 a2 a3;have hbz:=b0 nq osq;have hbz1:=b1 nq osq;have hbz2:=b2 nq osq;have hbz3:=b3 nq osq;clear b0 b1 b2 b3;generalize grow (wr.drewN nq) osq=Z at *;have hzs:=HSW.out;obtain⟨A1,c1,w1,hap,hr1,hg1⟩:=hz3.more1 (fun b h=>by have:=hP b h;omega) (by omega) (t,A,cap) (HTM.out Z hz1) (by have:=HML.out;omega);have hb1:Below (w.heap.size+1) W0 w1:=qaw (hz2.trans (qad (by omega) _)) (by simp;omega) hg1 (fun q hq=>(HR.out.lt q hq).1);have hw1:Below w.heap.size w w1:=HB0.out.trans (hb1.mono (by omega));have hs1:Z.heap.size+1≤w1.heap.size:=by have:=hg1.size;rwa[World.size_alloc]at this
    obtain⟨s0,s1,s2,s3⟩:=HSL.out w1 hw1;have hml:(its++[(t,A,cap)]).length=m+1:=by rw[List.length_append,←HML.out];rfl
    rw[←HML.out]at hap hr1;obtain⟨A2,c2,w2,hap2,hr2,hg2⟩:=hr1.more1 (fun b h=>by have:=hP b h;omega) (by omega) x (HXR.out w1 hw1) (by omega);have hb2:Below (w.heap.size+1) W0 w2:=qaw (hb1.trans (qad (by omega) _)) (by simp;omega) hg2 (fun q hq=>(hr1.lt q hq).1);rw[hml]at hap2 hr2;have HR2:=hdzz hr2;clear hr2;have HB2:=hdzz hb2;clear hb2;clear hz1 hz2 hz3 hg1 hr1 hg2 hb1 hw1 hml;go_wp2_with (at_builtin;first|refine qab rfl _ _ rfl rfl rfl hap ?_|refine qab rfl _ _ rfl rfl rfl hap2 ?_)
    go_roundw
    case rel=>
     refine⟨k+1,_,c2,true,A2,_,by omega,by go_num,rfl,rfl,by have:=HMD.out (by simp);omega,fun h=>(by cases h),HR2.out,?_,HB2.out⟩;have h:=HS.out;unfold qey at h ⊢;rw[HD.out]at h;simp only[Bool.false_eq_true,if_false,if_true]at h ⊢;rw[add_lt HQ.out.symm]at h;rw[List.map_append,List.map_append,List.append_assoc,List.append_assoc];exact h
    case measure=>simp[intOf];omega
  ·obtain rfl:k=n0:=by omega
   have hkl:l.drop k=[]:=List.drop_eq_nil_of_le (by have:=HLL.out;omega);have HKL:=hdzz hkl;clear hkl
   cases d with
   | true=>
    have hm:its.map (·.1)=Tm.add t l:=by
     have h:=HS.out;unfold qey at h;rw[HKL.out]at h;simpa using h
    have HM:=hdzz hm;clear hm;go_wp2_with fail
    go_ret
    exact⟨A',c,m,its,rfl,by rw[←HM.out,List.length_map];exact HML.out,HR.out.loosen (by omega) (fun _ h=>h),HBWW.out,HM.out⟩
   | false=>
    have hm:(its++[(t,A,cap)]).map (·.1)=Tm.add t l:=by
     have h:=HS.out;unfold qey at h;rw[HKL.out]at h;simp only[Bool.false_eq_true,if_false,Tm.add]at h;rw[List.map_append];exact h
    have HM:=hdzz hm;clear hm;have hzs:=HSW.out;obtain⟨A1,c1,w1,hap,hr1,hg1⟩:=HR.out.more1 (fun b h=>by have:=hP b h;omega) (by omega) (t,A,cap) (HTM.out wr HBWW.out) (by have:=HML.out;omega);have hb1:Below w.heap.size w w1:=qaw (HBWW.out.trans (qad (by omega) _)) (by simp;omega) hg1 (fun q hq=>by have:=(HR.out.lt q hq).1;omega);rw[←HML.out]at hap hr1;have HR1:=hdzz hr1;clear hr1;have HB1:=hdzz hb1;clear hb1;clear hg1;have hb0':=b0 0 #[];have hb1':=b1 0 #[];have hb2':=b2 0 #[];have hb3':=b3 0 #[];rw[grow_empty]at hb0' hb1' hb2' hb3';rw[World.drewN_zero]at hb0' hb1' hb2' hb3';clear b0 b1 b2 b3;go_wp2_with (at_builtin;refine qab rfl _ _ rfl rfl rfl hap ?_)
    go_ret
    exact⟨A1,c1,m+1,_,rfl,by rw[←HM.out,List.length_map,List.length_append,←HML.out];rfl,HR1.out.loosen (by omega) (fun _ h=>h),HB1.out,HM.out⟩
end Go.Proofs.YtjhjoiplpmjepaaGreat
