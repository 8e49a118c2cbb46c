/- Trrep, Trules, Trsym (joined by shake.py). -/
import Derived.Test.YtjhjoiplpmjepaaGreatL0
import Derived.Test.YtjhjoiplpmjepaaGreatL10
import Derived.Test.YtjhjoiplpmjepaaGreatL15
import Derived.Test.YtjhjoiplpmjepaaGreatL18
import Derived.BigQuiet
import Derived.Deep.QuietTactic
set_option maxRecDepth 100000
set_option linter.unusedVariables false
set_option linter.unusedSimpArgs false
set_option maxHeartbeats 16000000
namespace Go.Proofs.YtjhjoiplpmjepaaGreat
open Go.RowKit
theorem RepP.nameS {w:World} {P:Nat→Prop} {t:Tm} {A:Option Addr} {c:Nat} (h:RepP w P t A c):t.name.size≤maxLen:=by
 obtain⟨k,n,s,l⟩:=t;rw[RepP_mk]at h;exact h.1
def RrepP (w:World) (P:Nat→Prop) (r:Option Tm) (e:Ending) (w':World):Prop:=
 Below w.heap.size w w'∧∃y A c ec,e=.returned (.tuple #[y.val A c,.int .i64 ec])∧RepP w' (fun b=>(P b∨w.heap.size≤b)∧b<w'.heap.size) y A c∧((r=none∧ec=7∧y.val A c=qj1.val none 0∧y=qj1)∨(r=some y∧ec=0))
theorem qeb (P:Nat→Prop) (u:Tm) (hu:u.size≤1000000):∀(p:List Int) (t:Tm) (A Au:Option Addr) (cap cu:Nat) (Ap:Option Addr) (cp:Nat) (w:World),(∀b,P b→b<w.heap.size)→t.size≤1000000→p.length≤1000000→
  RepP w P t A cap→RepP w P u Au cu→RepI w (fun b=>b<w.heap.size) p Ap cp→
  Calls Tryz.prog 12 #[t.val A cap,.slice Ap p.length cp,u.val Au cu] w (RrepP w P (Tm.repl p t u)):=by
 have mixed:=mixz;intro p
 induction p with
 | nil=>
  intro t A Au cap cu Ap cp w hBw ht hp hrep hrepu hrp;have hb:Below w.heap.size w (((w.alloc (.cells #[.int .i64 t.kind,.string t.name,.int .i64 t.sort,.slice A t.kids.length cap] 24)).alloc (.cells #[.int .i64 u.kind,.string u.name,.int .i64 u.sort,.slice Au u.kids.length cu] 24)).alloc (.cells #[.int .i64 u.kind,.string u.name,.int .i64 u.sort,.slice Au u.kids.length cu] 24)):=((qad (Nat.le_refl _) _).alloc (by simp) _).alloc (by simp;omega) _;have HREP:=hdzz (RepP.mono (fun _ h=>h) (fun p hp=>hb.cell (hBw _ hp)) _ _ _ hrepu);clear hrep hrepu hrp;have HB:=hdzz hb;clear hb;simp only[Tm.val];go_enter Tryz.func12,Tryz.ntmps12
  go_wp2_with fail
  refine bodyPost_ret (v:=.tuple #[.agg #[.int .i64 u.kind,.string u.name,.int .i64 u.sort,.slice Au u.kids.length cu],.int .i64 0]) ?_ rfl ?_
  ·simp[results,Tryz.results12,go_sem]
  refine⟨HB.out,u,Au,cu,0,rfl,?_,.inr ⟨rfl,rfl⟩⟩;exact RepP.mono (fun b h=>⟨.inl h,by have:=hBw b h;have:=HB.out.size;omega⟩) (fun q h=>rfl) _ _ _ HREP.out
 | cons i r ih=>
  intro t A Au cap cu Ap cp w hBw ht hp hrep hrepu hrp;obtain⟨V,hV,hxt,hxu,hxz,hs3,hbV⟩:=boxes3 (RepP.mono (fun b h=>hBw b h) (fun _ _=>rfl) _ _ _ hrep) (RepP.mono (fun b h=>hBw b h) (fun _ _=>rfl) _ _ _ hrepu);have HRU:=hdzz (RepP.mono (w':=V) (P':=P) (fun _ h=>h) (fun p hp=>hbV.cell (hBw _ hp)) _ _ _ hrepu);have HRT:=hdzz (RepP.mono (w':=V) (P':=P) (fun _ h=>h) (fun p hp=>hbV.cell (hBw _ hp)) _ _ _ hrep);have HRP:=hdzz (hrp.below hbV);clear hrp hrep hrepu;have HBV:=hdzz hbV;clear hbV;have HXT:=hdzz hxt;clear hxt;have HXU:=hdzz hxu;clear hxu;have HXZ:=hdzz hxz;clear hxz;have HS3:=hdzz hs3;clear hs3;have HT:=hdzz ht;clear ht;have HU:=hdzz hu;clear hu;have HV:=hdzz hV;clear hV;obtain⟨a0,a1,a2,a3,a4⟩:=HXT.out.cells;obtain⟨u0,u1,u2,u3,u4⟩:=HXU.out.cells;obtain⟨r0,r1,r2,r3,r4⟩:=qaa HXZ.out
  simp only[Tm.kind,Tm.name,Tm.sort,Tm.kids,List.length_nil]at r0 r1 r2 r3;simp only[Tm.val];go_enter Tryz.func12,Tryz.ntmps12
  have hbp:∃bp offp,Ap=some ⟨bp,offp,none⟩∧bp<w.heap.size∧V.cell? ⟨bp,offp,none⟩=some (.int .i64 i)∧r.length+1≤cp:=by
   obtain⟨h1,-,h3⟩:=HRP.out;rcases h3 with h3|⟨bp,offp,rfl,h4,h5⟩
   ·cases h3
   ·exact⟨bp,offp,rfl,h4,h5 0 (by simp),by simpa using h1⟩
  obtain⟨bp,offp,rfl,hbp1,hx,hcp⟩:=hbp;have hne:((r.length:Int)+1==0)=false:=by simp;omega
  simp only[List.length_cons]at hp ⊢;by_cases hx0:i<0
  ·have hn:=Tm.kid_none (t:=t) (.inl hx0);have hres:Tm.repl (i::r) t u=none:=by rw[Tm.repl_cons,hn]
   have HRES:=hdzz hres;clear hres hn;have d1:decide (i<0)=true:=decide_eq_true hx0;go_wp2_with fail
   rw[←HV.out];go_quiet (fail)
   have hz:∀o,(V.drewN nq).cell? o=V.cell? o:=fun _=>rfl;go_wp2_with fail
   refine bodyPost_ret (v:=.tuple #[.agg #[.int .i64 0,.string ⟨#[]⟩,.int .i64 0,.slice none 0 0],.int .i64 7]) ?_ rfl ?_
   ·simp[results,Tryz.results12,go_sem,r0,r1,r2,r3]
   refine⟨qa2 (HBV.out.trans ((Lay.refl _ _).drewN nq).below) (by omega),qj1,none,0,7,rfl,qha _ _,.inl ⟨HRES.out,rfl,rfl,rfl⟩⟩
  ·have d1:decide (i<0)=false:=decide_eq_false hx0;by_cases hx1:(t.kids.length:Int)≤i
   ·have hn:=Tm.kid_none (t:=t) (.inr hx1);have hres:Tm.repl (i::r) t u=none:=by rw[Tm.repl_cons,hn]
    have HRES:=hdzz hres;clear hres hn;have d2:decide ((t.kids.length:Int)≤i)=true:=decide_eq_true hx1;go_wp2_with fail
    rw[←HV.out];go_quiet (fail)
    have hz:∀o,(V.drewN nq).cell? o=V.cell? o:=fun _=>rfl;go_wp2_with fail
    refine bodyPost_ret (v:=.tuple #[.agg #[.int .i64 0,.string ⟨#[]⟩,.int .i64 0,.slice none 0 0],.int .i64 7]) ?_ rfl ?_
    ·simp[results,Tryz.results12,go_sem,r0,r1,r2,r3]
    refine⟨qa2 (HBV.out.trans ((Lay.refl _ _).drewN nq).below) (by omega),qj1,none,0,7,rfl,qha _ _,.inl ⟨HRES.out,rfl,rfl,rfl⟩⟩
   ·have d2:decide ((t.kids.length:Int)≤i)=false:=decide_eq_false hx1;have hxl:i.toNat<t.kids.length:=by omega
    have hn:=Tm.kid_some (t:=t) (i:=i) (by omega) (by omega);have hkids:=HRT.out.kidsS.2.2;rcases hkids with h0|⟨bk,off,rfl,hbk,hl⟩
    ·rw[h0]at hxl;simp at hxl
    obtain⟨C,ck,e0,e1,e2,e3,e5⟩:=hl.get i.toNat hxl;have hvs:t.kids[i.toNat].size≤1000000:=by have:=Tm.kid_size (List.getElem_mem hxl);have:=HT.out;omega
    have hres:=Tm.repl_cons i r t u;rw[hn]at hres;obtain⟨kd,hkd⟩:∃k,k=t.kids[i.toNat]:=⟨_,rfl⟩;rw[←hkd]at e0 e1 e2 e3 e5 hvs hres;simp only at hres;have x0:0≤i:=by omega
    have x1:i<(t.kids.length:Int):=by omega
    have hwV:=HBV.out.size;have HIH:Hid (∀Y,Below V.heap.size V Y→Calls Tryz.prog 12 #[.agg #[.int .i64 kd.kind,.string kd.name,.int .i64 kd.sort,.slice C kd.kids.length ck],.slice (if cp=1 then some ⟨bp,offp,none⟩else some ⟨bp,offp+1,none⟩) r.length (cp - 1),.agg #[.int .i64 u.kind,.string u.name,.int .i64 u.sort,.slice Au u.kids.length cu]] Y (RrepP Y P (Tm.repl r kd u))):=fun Y h=>
     ih kd C Au ck cu _ _ Y (fun b hb=>by have:=hBw b hb;have:=h.size;omega) hvs (by omega) (RepP.mono (fun _ h=>h) (fun p hp=>h.cell (by have:=hBw _ hp;omega)) _ _ _ e5) (RepP.mono (fun _ h=>h) (fun p hp=>h.cell (by have:=hBw _ hp;omega)) _ _ _ HRU.out) (((HRP.out.below (h.mono (by omega))).tail hcp).mono (fun b hb=>by have:=h.size;omega) (fun _ _=>rfl))
    have j1:(1:Int)≤(r.length:Int)+1:=by omega
    have HF:Hid (∀Y,Below V.heap.size V Y→(Y.cell? ⟨w.heap.size,0,none⟩=some (.int .i64 t.kind)∧Y.cell? ⟨w.heap.size,1,none⟩=some (.string t.name)∧Y.cell? ⟨w.heap.size,2,none⟩=some (.int .i64 t.sort)∧Y.cell? ⟨w.heap.size,3,none⟩=some (.slice (some ⟨bk,off,none⟩) t.kids.length cap))∧
      (Y.cell? ⟨w.heap.size+1,0,none⟩=some (.int .i64 u.kind)∧Y.cell? ⟨w.heap.size+1,1,none⟩=some (.string u.name)∧Y.cell? ⟨w.heap.size+1,2,none⟩=some (.int .i64 u.sort)∧Y.cell? ⟨w.heap.size+1,3,none⟩=some (.slice Au u.kids.length cu))∧
      Y.cell? ⟨bp,offp,none⟩=some (.int .i64 i)∧Y.cell? ⟨bk,off+i.toNat*4,none⟩=some (.int .i64 kd.kind)∧Y.cell? ⟨bk,off+i.toNat*4+1,none⟩=some (.string kd.name)∧Y.cell? ⟨bk,off+i.toNat*4+2,none⟩=some (.int .i64 kd.sort)∧Y.cell? ⟨bk,off+i.toNat*4+3,none⟩=some (.slice C kd.kids.length ck)):=fun Y h=>by
     obtain⟨h0,h1,h2,h3,-⟩:=(HXT.out.below h).cells;obtain⟨g0,g1,g2,g3,-⟩:=(HXU.out.below h).cells;have hb1:bk<V.heap.size:=by have:=hBw bk hbk;omega
     exact⟨⟨h0,h1,h2,h3⟩,⟨g0,g1,g2,g3⟩,(h.cell (by show bp<_;omega)).trans hx,(h.cell hb1).trans e0,(h.cell hb1).trans e1,(h.cell hb1).trans e2,(h.cell hb1).trans e3⟩
    go_wp2_with fail
    rw[←HV.out];go_quiet (fail)
    have hS:Below V.heap.size V (V.drewN nq):=((Lay.refl _ _).drewN nq).below;have HRES:=hdzz hres;clear hres hn hkd hl e0 e1 e2 e3 e5 hx a0 a1 a2 a3 a4 u0 u1 u2 u3 u4 r0 r1 r2 r3 r4;generalize V.drewN nq=Z at *;go_wp2_with fail
    have hS':=qa7 hS (Lay.refl _ Z).drew.below hS.size;have HS:=hdzz hS';clear hS' hS;refine qbk (fun Y=>Below V.heap.size V Y) 17 (.held 0 (.held 1 (.held 2 (.held 3 (.held 4 (.held 5 (.held 6 (.held 7 (.held 8 (.held 9 (.two 10 14 (.held 11 (.held 12 (.held 13 (.op 14 (.op 15 (.op 16 .nil)))))) (.op 10 (.held 11 (.held 12 (.held 13 (.op 15 (.op 16 .nil))))))))))))))))) mixed (by kernel_rfl) ?_;refine qai (v:=.pointer (some ⟨w.heap.size,3,none⟩)) rfl rfl (fun _ _ _ h=>h) HS.out (fun Y hY=>by obtain⟨⟨b0,b1,b2,b3⟩,⟨c0,c1,c2,c3⟩,b4,b5,b6,b7,b8⟩:=HF.out Y hY;(try simp only[Act.put]);go_simp) ?_;refine qai (v:=.slice (some ⟨bk,off,none⟩) t.kids.length cap) rfl rfl (fun _ _ _ h=>h) HS.out (fun Y hY=>by obtain⟨⟨b0,b1,b2,b3⟩,⟨c0,c1,c2,c3⟩,b4,b5,b6,b7,b8⟩:=HF.out Y hY;(try simp only[Act.put]);go_simp) ?_
    refine qai (v:=.slice (some ⟨bp,offp,none⟩) (r.length+1) cp) rfl rfl (fun _ _ _ h=>h) HS.out (fun Y hY=>by obtain⟨⟨b0,b1,b2,b3⟩,⟨c0,c1,c2,c3⟩,b4,b5,b6,b7,b8⟩:=HF.out Y hY;(try simp only[Act.put]);go_simp) ?_;refine qai (v:=.pointer (some ⟨bp,offp,none⟩)) rfl rfl (fun _ _ _ h=>h) HS.out (fun Y hY=>by obtain⟨⟨b0,b1,b2,b3⟩,⟨c0,c1,c2,c3⟩,b4,b5,b6,b7,b8⟩:=HF.out Y hY;(try simp only[Act.put]);go_simp) ?_;refine qai (v:=.int .i64 i) rfl rfl (fun _ _ _ h=>h) HS.out (fun Y hY=>by obtain⟨⟨b0,b1,b2,b3⟩,⟨c0,c1,c2,c3⟩,b4,b5,b6,b7,b8⟩:=HF.out Y hY;(try simp only[Act.put]);go_simp) ?_
    refine qai (v:=.pointer (some ⟨bk,off+i.toNat*4,none⟩)) rfl rfl (fun _ _ _ h=>h) HS.out (fun Y hY=>by obtain⟨⟨b0,b1,b2,b3⟩,⟨c0,c1,c2,c3⟩,b4,b5,b6,b7,b8⟩:=HF.out Y hY;(try simp only[Act.put]);go_simp) ?_;refine qai (v:=.agg #[.int .i64 kd.kind,.string kd.name,.int .i64 kd.sort,.slice C kd.kids.length ck]) rfl rfl (fun _ _ _ h=>h) HS.out (fun Y hY=>by obtain⟨⟨b0,b1,b2,b3⟩,⟨c0,c1,c2,c3⟩,b4,b5,b6,b7,b8⟩:=HF.out Y hY;(try simp only[Act.put]);go_simp) ?_;refine qai (v:=.slice (some ⟨bp,offp,none⟩) (r.length+1) cp) rfl rfl (fun _ _ _ h=>h) HS.out (fun Y hY=>by obtain⟨⟨b0,b1,b2,b3⟩,⟨c0,c1,c2,c3⟩,b4,b5,b6,b7,b8⟩:=HF.out Y hY;(try simp only[Act.put]);go_simp) ?_
    refine qai (v:=.slice (if cp=1 then some ⟨bp,offp,none⟩else some ⟨bp,offp+1,none⟩) r.length (cp - 1)) rfl rfl (fun _ _ _ h=>h) HS.out (fun Y hY=>by obtain⟨⟨b0,b1,b2,b3⟩,⟨c0,c1,c2,c3⟩,b4,b5,b6,b7,b8⟩:=HF.out Y hY;(try simp only[Act.put]);go_simp) ?_;refine qai (v:=.agg #[.int .i64 u.kind,.string u.name,.int .i64 u.sort,.slice Au u.kids.length cu]) rfl rfl (fun _ _ _ h=>h) HS.out (fun Y hY=>by obtain⟨⟨b0,b1,b2,b3⟩,⟨c0,c1,c2,c3⟩,b4,b5,b6,b7,b8⟩:=HF.out Y hY;(try simp only[Act.put]);go_simp) ?_;simp only[Act.put,List.setIfInBounds_toArray];generalize (if cp=1 then (some ⟨bp,offp,none⟩:Option Addr)else some ⟨bp,offp+1,none⟩)=Aq at *;refine mix_two ?_ ?_
    ·skip
     refine qbu rfl rfl (fun K hK=>?_);go_wp2_with fail
     refine(HIH.out Z.drew HS.out).mono ?_;rintro e y4 ⟨hb4,y,Ay,cy,ec,rfl,hry,hcase⟩;have hS:=qa7 HS.out hb4 HS.out.size;have HCASE:=hdzz hcase;clear hcase;clear HIH;have hZsz:=HS.out.size;clear HS;have HS:=hdzz hS;clear hS hb4;have hy':RepP y4 (fun b=>(P b∨w.heap.size+3≤b)∧b<y4.heap.size) y Ay cy:=RepP.mono (fun b ⟨h1,h2⟩=>⟨h1.imp id (fun h=>by have:=HS3.out;have:=hZsz;omega),h2⟩) (fun _ _=>rfl) _ _ _ hry;have HR4:=hdzz hy';clear hy' hry;simp only[Tm.val];refine hK _ _ ⟨fun _=>HS.out,?_⟩;clear hK K;refine qai (v:=.tuple #[.agg #[.int .i64 y.kind,.string y.name,.int .i64 y.sort,.slice Ay y.kids.length cy],.int .i64 ec]) rfl rfl (fun _ _ _ h=>h) HS.out (fun Y hY=>by obtain⟨⟨b0,b1,b2,b3⟩,⟨c0,c1,c2,c3⟩,b4,b5,b6,b7,b8⟩:=HF.out Y hY;(try simp only[Act.put]);go_simp) ?_
     refine qai (v:=.agg #[.int .i64 y.kind,.string y.name,.int .i64 y.sort,.slice Ay y.kids.length cy]) rfl rfl (fun _ _ _ h=>h) HS.out (fun Y hY=>by obtain⟨⟨b0,b1,b2,b3⟩,⟨c0,c1,c2,c3⟩,b4,b5,b6,b7,b8⟩:=HF.out Y hY;(try simp only[Act.put]);go_simp) ?_;refine qai (v:=.int .i64 ec) rfl rfl (fun _ _ _ h=>h) HS.out (fun Y hY=>by obtain⟨⟨b0,b1,b2,b3⟩,⟨c0,c1,c2,c3⟩,b4,b5,b6,b7,b8⟩:=HF.out Y hY;(try simp only[Act.put]);go_simp) ?_;simp only[Act.put,List.setIfInBounds_toArray];refine qbu rfl rfl (fun K hK=>?_);go_wp2_with fail
     refine⟨fun _=>HS.out.alloc HS.out.size _,?_⟩;refine qbu rfl rfl (fun K hK=>?_);go_wp2_with fail
     have hbx:=BoxT.new (show RepT y4 y4.heap.size y Ay cy from RepP.mono (fun b h=>h.2) (fun _ _=>rfl) _ _ _ HR4.out);have hyE:RepP (y4.alloc (.cells #[.int .i64 y.kind,.string y.name,.int .i64 y.sort,.slice Ay y.kids.length cy] 24)) (fun b=>(P b∨w.heap.size+3≤b)∧b<(y4.alloc (.cells #[.int .i64 y.kind,.string y.name,.int .i64 y.sort,.slice Ay y.kids.length cy] 24)).heap.size) y Ay cy:=RepP.mono (fun b ⟨h1,h2⟩=>⟨h1,by simp;omega⟩) (fun q ⟨_,h2⟩=>(qad (Nat.le_refl _) _).cell h2) _ _ _ HR4.out;simp only[qag]at hbx;have hs4:=HS.out.alloc HS.out.size (.cells #[.int .i64 y.kind,.string y.name,.int .i64 y.sort,.slice Ay y.kids.length cy] 24);obtain⟨bx,hbx0⟩:∃b,b=y4.heap.size:=⟨_,rfl⟩;rw[←hbx0]at hbx;rw[←hbx0];clear HS HR4 hbx0
     generalize y4.alloc (.cells #[.int .i64 y.kind,.string y.name,.int .i64 y.sort,.slice Ay y.kids.length cy] 24)=E at *;have HS:=hdzz hs4;clear hs4;have HY:=hdzz hyE;clear hyE;have HBX:=hdzz hbx;clear hbx;refine⟨fun _=>HS.out,?_⟩;refine qbu rfl rfl (fun K hK=>?_);go_wp2_with fail
     refine⟨fun _=>HS.out,qd0 ?_⟩;have hbE:Below w.heap.size w E:=HBV.out.trans (HS.out.mono HBV.out.size);have hzE:=(HS.out.block (w.heap.size+1+1) (by have:=HS3.out;omega)).trans HXZ.out;obtain⟨r0,r1,r2,r3,r4⟩:=qaa hzE;simp only[Tm.kind,Tm.name,Tm.sort,Tm.kids,List.length_nil]at r0 r1 r2 r3;have HBE:=hdzz hbE;clear hbE;have HZE:=hdzz hzE;clear hzE;obtain⟨⟨b0,b1,b2,b3⟩,-,b4,-⟩:=HF.out E HS.out;rcases HCASE.out with⟨hc1,rfl,-,-⟩|⟨hc1,rfl⟩
     ·skip
      have hres2:Tm.repl (i::r) t u=none:=by rw[HRES.out,hc1];rfl
      have HRES2:=hdzz hres2;clear hres2;go_wp2_with fail
      refine bodyPost_ret (v:=.tuple #[.agg #[.int .i64 0,.string ⟨#[]⟩,.int .i64 0,.slice none 0 0],.int .i64 7]) ?_ rfl ?_
      ·simp[results,Tryz.results12,go_sem,r0,r1,r2,r3]
      exact⟨qa2 HBE.out (by omega),qj1,none,0,7,rfl,qha _ _,.inl ⟨HRES2.out,rfl,rfl,rfl⟩⟩
     ·skip
      have hres2:Tm.repl (i::r) t u=some (.mk t.kind t.name t.sort (t.kids.set i.toNat y)):=by rw[HRES.out,hc1];rfl
      have HRES2:=hdzz hres2;clear hres2 hc1 HCASE;have hEs:w.heap.size+3≤E.heap.size:=by have:=HS.out.size;have:=HS3.out;omega
      have hl1:w.heap.size<E.heap.size:=by omega
      have hl2:w.heap.size<E.heap.size+1:=by omega
      obtain⟨E1,hE1⟩:∃X,X=E.alloc (.cells #[.int .i64 t.kind,.string t.name,.int .i64 t.sort,.slice (some ⟨bk,off,none⟩) t.kids.length cap] 24):=⟨_,rfl⟩;obtain⟨E2,hE2⟩:∃X,X=E1.alloc (.cells #[] 24):=⟨_,rfl⟩;have hs1:E1.heap.size=E.heap.size+1:=by rw[hE1];simp
      have hs2:E2.heap.size=E.heap.size+1+1:=by rw[hE2];simp[hs1]
      have hb1:Below E.heap.size E E1:=by rw[hE1];exact qad (Nat.le_refl _) _
      have hb2:Below E1.heap.size E1 E2:=by rw[hE2];exact qad (Nat.le_refl _) _
      have hb12:=qa7 hb1 hb2 hb1.size;have hrow0:RowT E2 (E.heap.size+1) (fun b=>(P b∨w.heap.size+3≤b)∧b<E.heap.size) (.slice (some ⟨E.heap.size+1,0,none⟩) 0 0) []:=by
       refine⟨?_,by simp⟩;have:=World.ownsRow_lit (base:=E.heap.size+1) (e:=24) (size:=4) E1 #[] 0 (by omega) (by simp[maxLen]) rfl;rw[hs1]at this;rw[hE2];exact this
      have hLV:RepLP E2 P t.kids bk off:=by
       rcases HRT.out.kidsS.2.2 with h0|⟨bk',off',he,_,hl⟩
       ·rw[h0];rw[RepLP];trivial
       ·injection he with he;injection he with e1 e2;subst e1 e2;exact RepLP.mono (fun _ h=>h) (fun p hp=>((HS.out.mono (by have:=HBV.out.size;omega)).trans (hb12.mono (by omega))).cell (hBw _ hp)) _ _ _ hbk hl
      obtain⟨nits,hnm,hnc,hnr⟩:=RepLP.its t.kids bk off hLV;have hnl:nits.length=t.kids.length:=by rw[←hnm];simp
      have hkl:=Tm.kids_size t;have hkt:=HT.out;obtain⟨A2,c2,w2,hap,hrow2,hgr,hsome⟩:=hrow0.more (fun b h=>by have:=h.2;omega) (by omega) bk off cap t.kids.length nits hnl.symm hnc
       (fun x hx=>RepP.mono (fun b h=>⟨.inl h,by have:=hBw b h;omega⟩) (fun _ _=>rfl) _ _ _ (hnr x hx)) (by simp;omega)
      simp only[List.length_nil,Nat.zero_add,List.nil_append]at hap hrow2 hsome;obtain⟨g2,rfl⟩:=hsome (fun e=>by rw[e]at hnl;simp at hnl;omega);have hbw2:Below E.heap.size E w2:=qaw hb12 (by omega) hgr (fun g hg=>by have:=(hrow0.lt g hg).1;omega);have hw2n:w2.heap[E.heap.size]?=some (.cells #[.int .i64 t.kind,.string t.name,.int .i64 t.sort,.slice (some ⟨bk,off,none⟩) t.kids.length cap] 24):=by
       rw[hgr.block E.heap.size (by omega) (fun e=>by have:=(hrow0.lt _ e.symm).1;omega),hb2.block _ (by omega),hE1];exact heap_alloc_new _ _
      obtain⟨Z2,hZ2⟩:∃X,X=w2.setCell ⟨E.heap.size,3,none⟩ (.slice (some ⟨g2,0,none⟩) t.kids.length c2):=⟨_,rfl⟩;have hZn:Z2.heap[E.heap.size]?=some (.cells #[.int .i64 t.kind,.string t.name,.int .i64 t.sort,.slice (some ⟨g2,0,none⟩) t.kids.length c2] 24):=by rw[hZ2];exact qd6 hw2n
      have hrowZ:RowT Z2 (E.heap.size+1) (fun b=>(P b∨w.heap.size+3≤b)∧b<E.heap.size) (.slice (some ⟨g2,0,none⟩) t.kids.length c2) nits:=by rw[hZ2];exact hrow2.setCell (by simp) (by simp) _
      have hEZ:Below E.heap.size E Z2:=by rw[hZ2];exact hbw2.setCell (Nat.le_refl _) _
      have hg2:=(hrowZ.lt g2 rfl);have hnit:i.toNat<nits.length:=by rw[hnl];exact hxl
      have hbxZ:=HBX.out.below hEZ;obtain⟨z0,z1,z2,z3,z4⟩:=qaa hw2n;rw[hE2,hE1]at hap;clear hE1 hE2 hs1 hs2 hb1 hb2 hb12 hrow0 hLV hnc hnr hrow2 hgr hsome hbw2;have HZN:=hdzz hZn;clear hZn;have HROWZ:=hdzz hrowZ;clear hrowZ;have HEZ:=hdzz hEZ;clear hEZ;have HG2:=hdzz hg2;clear hg2;have HBXZ:=hdzz hbxZ;clear hbxZ;have HNL:=hdzz hnl;clear hnl;have HNM:=hdzz hnm;clear hnm;have HW2N:=hdzz hw2n;clear hw2n;have HZ2:=hdzz hZ2;clear hZ2;go_wp2_with (at_builtin;refine qab rfl _ _ rfl rfl rfl hap ?_)
      rw[←HZ2.out];clear z0 z1 z2 z3 z4 b0 b1 b2 b3 r0 r1 r2 r3 r4 hap;obtain⟨z0,z1,z2,z3,z4⟩:=qaa HZN.out;have b4':Z2.cell? ⟨bp,offp,none⟩=some (.int .i64 i):=(HEZ.out.cell (by show bp<_;omega)).trans b4;obtain⟨y0,y1,y2,y3,-⟩:=HBXZ.out.cells;obtain⟨n0,n1,n2,n3,n4⟩:=HROWZ.out.slot HNL.out.symm i.toNat hnit;obtain⟨W4a,hW4,s0,s1,s2,s3,hoth,hsz4,hblk4,hbel4,-⟩:=qlc (W:=Z2) (b:=g2) (o:=i.toNat*4) (.int .i64 y.kind) (.string y.name) (.int .i64 y.sort) (.slice Ay y.kids.length cy) n0 n1 n2 n3;have hg2a:=HG2.out.1;have hrow4:RowT W4a.drew (E.heap.size+1) (fun b=>(P b∨w.heap.size+3≤b)∧b<E.heap.size) (.slice (some ⟨g2,0,none⟩) t.kids.length c2) (nits.set i.toNat (y,Ay,cy)):=by
       rw[hW4];exact(HROWZ.out.set HNL.out.symm i.toNat (by omega) (y,Ay,cy) (show RepP Z2 (fun b=>((P b∨w.heap.size+3≤b)∧b<E.heap.size)∧b<Z2.heap.size∧g2≠b) y Ay cy from
        RepP.mono (w:=E) (w':=Z2) (P:=fun b=>(P b∨w.heap.size+3≤b)∧b<E.heap.size) (fun b h=>⟨h,by have:=HEZ.out.size;omega,by omega⟩) (fun q h=>HEZ.out.cell h.2) _ _ _ HY.out)).drew
      have hW4n:W4a.drew.heap[E.heap.size]?=some (.cells #[.int .i64 t.kind,.string t.name,.int .i64 t.sort,.slice (some ⟨g2,0,none⟩) t.kids.length c2] 24):=(hblk4 _ (by omega)).trans HZN.out;have hW4z:W4a.drew.heap[w.heap.size+1+1]?=some (qag (.mk 0 ⟨#[]⟩ 0 []) none 0):=(hblk4 _ (by omega)).trans ((HEZ.out.block _ (by omega)).trans HZE.out);have hbW4:Below w.heap.size w W4a.drew:=(hbel4 _ (by omega) _ (HBE.out.trans (HEZ.out.mono HBE.out.size))).drew;have HW4N:=hdzz hW4n;clear hW4n;have HW4Z:=hdzz hW4z;clear hW4z;have HBW4:=hdzz hbW4;clear hbW4;have HROW4:=hdzz hrow4;clear hrow4;have HW4:=hdzz hW4;clear hW4 s0 s1 s2 s3 hoth hsz4 hblk4 hbel4;refine qbk (fun Y=>Y=Z2.drew) 7 (.held 0 (.held 1 (.held 2 (.held 3 (.held 4 (.held 5 (.held 6 (.op 7 .nil)))))))) mixed (by kernel_rfl) ?_
      refine qai (v:=.pointer (some ⟨E.heap.size,3,none⟩)) rfl rfl (fun _ _ _ h=>h) rfl (fun Y hY=>by subst hY;(try simp only[Act.put]);go_simp) ?_;refine qai (v:=.slice (some ⟨g2,0,none⟩) t.kids.length c2) rfl rfl (fun _ _ _ h=>h) rfl (fun Y hY=>by subst hY;(try simp only[Act.put]);go_simp) ?_;refine qai (v:=.slice (some ⟨bp,offp,none⟩) (r.length+1) cp) rfl rfl (fun _ _ _ h=>h) rfl (fun Y hY=>by subst hY;(try simp only[Act.put]);go_simp) ?_;refine qai (v:=.pointer (some ⟨bp,offp,none⟩)) rfl rfl (fun _ _ _ h=>h) rfl (fun Y hY=>by subst hY;(try simp only[Act.put]);go_simp) ?_;refine qai (v:=.int .i64 i) rfl rfl (fun _ _ _ h=>h) rfl (fun Y hY=>by subst hY;(try simp only[Act.put]);go_simp) ?_
      refine qai (v:=.agg #[.int .i64 y.kind,.string y.name,.int .i64 y.sort,.slice Ay y.kids.length cy]) rfl rfl (fun _ _ _ h=>h) rfl (fun Y hY=>by subst hY;(try simp only[Act.put]);go_simp) ?_;refine qai (v:=.pointer (some ⟨g2,i.toNat*4,none⟩)) rfl rfl (fun _ _ _ h=>h) rfl (fun Y hY=>by subst hY;(try simp only[Act.put]);go_simp) ?_;simp only[Act.put,List.setIfInBounds_toArray];refine qbu rfl rfl (fun K hK=>?_);go_wp2_with fail
      refine⟨fun h=>absurd h (by decide),qd0 ?_⟩;rw[←HW4.out];generalize W4a.drew=W4 at *;clear z0 z1 z2 z3 z4 b4 b4' y0 y1 y2 y3 n0 n1 n2 n3 n4;obtain⟨z0,z1,z2,z3,z4⟩:=qaa HW4N.out;obtain⟨r0,r1,r2,r3,r4⟩:=qaa HW4Z.out;simp only[Tm.kind,Tm.name,Tm.sort,Tm.kids,List.length_nil]at r0 r1 r2 r3;go_wp2_with fail
      refine bodyPost_ret (v:=.tuple #[.agg #[.int .i64 t.kind,.string t.name,.int .i64 t.sort,.slice (some ⟨g2,0,none⟩) t.kids.length c2],.int .i64 0]) ?_ rfl ?_
      ·simp[results,Tryz.results12,go_sem,r0,r1,r2,r3]
      have hws4:=HBW4.out.size;refine⟨qa2 HBW4.out (by omega),.mk t.kind t.name t.sort (t.kids.set i.toNat y),some ⟨g2,0,none⟩,c2,0,by simp[Tm.val,Tm.kind,Tm.name,Tm.sort,Tm.kids],?_,.inr ⟨HRES2.out,rfl⟩⟩;obtain⟨A',c',he,hS4⟩:=HROW4.out.toS (P:=fun b=>(P b∨w.heap.size+3≤b)∧b<W4.heap.size) (fun b h h2=>⟨h.1,h2⟩) (fun b h h2=>⟨.inr (by omega),h2⟩);injection he with e1 e2 e3;subst e1 e3;have hmap:(nits.set i.toNat (y,Ay,cy)).map (·.1)=t.kids.set i.toNat y:=by rw[List.map_set,HNM.out]
      rw[hmap]at hS4;rw[RepP_mk];refine⟨(show t.name.size≤maxLen from HRT.out.nameS),?_⟩;exact RepS.mono (fun b ⟨h1,h2⟩=>⟨h1.imp id (fun h=>by omega),by simpa[World.setCell]using h2⟩) (fun q ⟨h1,_⟩=>World.cell?_of_block (qay (by rcases h1 with h|h<;>(first|omega|(have:=hBw _ h;omega))))) hS4
    ·skip
     refine qbu rfl rfl (fun K hK=>?_);go_wp2_with fail
     refine⟨fun _=>HS.out.alloc HS.out.size _,?_⟩;obtain⟨X,hX⟩:∃X,X=(Z.alloc (.cells #[.int .i64 0,.string ⟨#[]⟩,.int .i64 0,.slice none 0 0] 24)).drew:=⟨_,rfl⟩;have hXn:X.heap[Z.heap.size]?=some (.cells #[.int .i64 0,.string ⟨#[]⟩,.int .i64 0,.slice none 0 0] 24):=by rw[hX];exact heap_alloc_new Z _
     have hXs:X.heap.size=Z.heap.size+1:=by rw[hX];simp
     have hS:Below V.heap.size V X:=by rw[hX];exact HS.out.alloc HS.out.size _
     have hZV:V.heap.size≤Z.heap.size:=HS.out.size;rw[←hX];clear HS hX;have HS:=hdzz hS;clear hS;have HXN:=hdzz hXn;clear hXn;have HXS:=hdzz hXs;clear hXs;refine qbu rfl rfl (fun K hK=>?_);go_wp2_with fail
     refine(HIH.out X HS.out).mono ?_;rintro e y4 ⟨hb4,y,Ay,cy,ec,rfl,hry,hcase⟩;have hS:=qa7 HS.out hb4 HS.out.size;have HCASE:=hdzz hcase;clear hcase;clear HIH;have hYn:=(hb4.block Z.heap.size (by rw[HXS.out];omega)).trans HXN.out;have hy':RepP y4 (fun b=>(P b∨Z.heap.size+1≤b)∧b<y4.heap.size) y Ay cy:=by rw[←HXS.out];exact hry
     clear HS hry hb4 HXN HXS;have HS:=hdzz hS;clear hS;have HR4:=hdzz hy';clear hy';obtain⟨z0,z1,z2,z3,z4⟩:=qaa hYn;have HYN:=hdzz hYn;clear hYn;simp only[Tm.val];refine hK _ _ ⟨fun _=>HS.out,?_⟩;clear hK K;refine qai (v:=.tuple #[.agg #[.int .i64 y.kind,.string y.name,.int .i64 y.sort,.slice Ay y.kids.length cy],.int .i64 ec]) rfl rfl (fun _ _ _ h=>h) HS.out (fun Y hY=>by obtain⟨⟨b0,b1,b2,b3⟩,⟨c0,c1,c2,c3⟩,b4,b5,b6,b7,b8⟩:=HF.out Y hY;(try simp only[Act.put]);go_simp) ?_;refine qai (v:=.agg #[.int .i64 y.kind,.string y.name,.int .i64 y.sort,.slice Ay y.kids.length cy]) rfl rfl (fun _ _ _ h=>h) HS.out (fun Y hY=>by obtain⟨⟨b0,b1,b2,b3⟩,⟨c0,c1,c2,c3⟩,b4,b5,b6,b7,b8⟩:=HF.out Y hY;(try simp only[Act.put]);go_simp) ?_
     refine qai (v:=.int .i64 ec) rfl rfl (fun _ _ _ h=>h) HS.out (fun Y hY=>by obtain⟨⟨b0,b1,b2,b3⟩,⟨c0,c1,c2,c3⟩,b4,b5,b6,b7,b8⟩:=HF.out Y hY;(try simp only[Act.put]);go_simp) ?_;simp only[Act.put,List.setIfInBounds_toArray];have hE4:BoxT ((((y4.setCell ⟨Z.heap.size,0,none⟩ (.int .i64 y.kind)).setCell ⟨Z.heap.size,1,none⟩ (.string y.name)).setCell ⟨Z.heap.size,2,none⟩ (.int .i64 y.sort)).setCell ⟨Z.heap.size,3,none⟩ (.slice Ay y.kids.length cy)) Z.heap.size y Ay cy:=
      ⟨qf6 HYN.out,RepP.mono (fun b ⟨_,h2⟩=>by simpa[World.setCell]using h2) (fun q ⟨h1,_⟩=>World.cell?_of_block (qay (by have:=HBV.out.size;rcases h1 with h|h<;>(first|omega|(have:=hBw _ h;omega))))) _ _ _ HR4.out⟩
     have hY4:RepP ((((y4.setCell ⟨Z.heap.size,0,none⟩ (.int .i64 y.kind)).setCell ⟨Z.heap.size,1,none⟩ (.string y.name)).setCell ⟨Z.heap.size,2,none⟩ (.int .i64 y.sort)).setCell ⟨Z.heap.size,3,none⟩ (.slice Ay y.kids.length cy)) (fun b=>(P b∨w.heap.size+3≤b)∧b<((((y4.setCell ⟨Z.heap.size,0,none⟩ (.int .i64 y.kind)).setCell ⟨Z.heap.size,1,none⟩ (.string y.name)).setCell ⟨Z.heap.size,2,none⟩ (.int .i64 y.sort)).setCell ⟨Z.heap.size,3,none⟩ (.slice Ay y.kids.length cy)).heap.size) y Ay cy:=
      RepP.mono (fun b ⟨h1,h2⟩=>⟨h1.imp id (fun h=>by have:=HS3.out;omega),by simpa[World.setCell]using h2⟩) (fun q ⟨h1,_⟩=>World.cell?_of_block (qay (by have:=HBV.out.size;rcases h1 with h|h<;>(first|omega|(have:=hBw _ h;omega))))) _ _ _ HR4.out
     have hS4:Below V.heap.size V ((((y4.setCell ⟨Z.heap.size,0,none⟩ (.int .i64 y.kind)).setCell ⟨Z.heap.size,1,none⟩ (.string y.name)).setCell ⟨Z.heap.size,2,none⟩ (.int .i64 y.sort)).setCell ⟨Z.heap.size,3,none⟩ (.slice Ay y.kids.length cy)):=qa2 HS.out hZV;have HE4:=hdzz hE4;clear hE4;have HY4:=hdzz hY4;clear hY4;have HS4:=hdzz hS4;clear hS4;clear HS HR4 HYN;refine qbu rfl rfl (fun K hK=>?_);go_wp2_with fail
     have hbx:=HE4.out;have hs4:=HS4.out;have hy4:=HY4.out;clear HE4 HS4 HY4 z0 z1 z2 z3 z4;generalize ((((y4.setCell ⟨Z.heap.size,0,none⟩ (.int .i64 y.kind)).setCell ⟨Z.heap.size,1,none⟩ (.string y.name)).setCell ⟨Z.heap.size,2,none⟩ (.int .i64 y.sort)).setCell ⟨Z.heap.size,3,none⟩ (.slice Ay y.kids.length cy))=E at *;have HS:=hdzz hs4;clear hs4;have HY:=hdzz hy4;clear hy4;have HBX:=hdzz hbx;clear hbx;refine⟨fun _=>HS.out,?_⟩;refine qbu rfl rfl (fun K hK=>?_);go_wp2_with fail
     refine⟨fun _=>HS.out,qd0 ?_⟩;have hbE:Below w.heap.size w E:=HBV.out.trans (HS.out.mono HBV.out.size);have hzE:=(HS.out.block (w.heap.size+1+1) (by have:=HS3.out;omega)).trans HXZ.out;obtain⟨r0,r1,r2,r3,r4⟩:=qaa hzE;simp only[Tm.kind,Tm.name,Tm.sort,Tm.kids,List.length_nil]at r0 r1 r2 r3;have HBE:=hdzz hbE;clear hbE;have HZE:=hdzz hzE;clear hzE;obtain⟨⟨b0,b1,b2,b3⟩,-,b4,-⟩:=HF.out E HS.out;rcases HCASE.out with⟨hc1,rfl,-,-⟩|⟨hc1,rfl⟩
     ·skip
      have hres2:Tm.repl (i::r) t u=none:=by rw[HRES.out,hc1];rfl
      have HRES2:=hdzz hres2;clear hres2;go_wp2_with fail
      refine bodyPost_ret (v:=.tuple #[.agg #[.int .i64 0,.string ⟨#[]⟩,.int .i64 0,.slice none 0 0],.int .i64 7]) ?_ rfl ?_
      ·simp[results,Tryz.results12,go_sem,r0,r1,r2,r3]
      exact⟨qa2 HBE.out (by omega),qj1,none,0,7,rfl,qha _ _,.inl ⟨HRES2.out,rfl,rfl,rfl⟩⟩
     ·skip
      have hres2:Tm.repl (i::r) t u=some (.mk t.kind t.name t.sort (t.kids.set i.toNat y)):=by rw[HRES.out,hc1];rfl
      have HRES2:=hdzz hres2;clear hres2 hc1 HCASE;have hEs:w.heap.size+3≤E.heap.size:=by have:=HS.out.size;have:=HS3.out;omega
      have hl1:w.heap.size<E.heap.size:=by omega
      have hl2:w.heap.size<E.heap.size+1:=by omega
      obtain⟨E1,hE1⟩:∃X,X=E.alloc (.cells #[.int .i64 t.kind,.string t.name,.int .i64 t.sort,.slice (some ⟨bk,off,none⟩) t.kids.length cap] 24):=⟨_,rfl⟩;obtain⟨E2,hE2⟩:∃X,X=E1.alloc (.cells #[] 24):=⟨_,rfl⟩;have hs1:E1.heap.size=E.heap.size+1:=by rw[hE1];simp
      have hs2:E2.heap.size=E.heap.size+1+1:=by rw[hE2];simp[hs1]
      have hb1:Below E.heap.size E E1:=by rw[hE1];exact qad (Nat.le_refl _) _
      have hb2:Below E1.heap.size E1 E2:=by rw[hE2];exact qad (Nat.le_refl _) _
      have hb12:=qa7 hb1 hb2 hb1.size;have hrow0:RowT E2 (E.heap.size+1) (fun b=>(P b∨w.heap.size+3≤b)∧b<E.heap.size) (.slice (some ⟨E.heap.size+1,0,none⟩) 0 0) []:=by
       refine⟨?_,by simp⟩;have:=World.ownsRow_lit (base:=E.heap.size+1) (e:=24) (size:=4) E1 #[] 0 (by omega) (by simp[maxLen]) rfl;rw[hs1]at this;rw[hE2];exact this
      have hLV:RepLP E2 P t.kids bk off:=by
       rcases HRT.out.kidsS.2.2 with h0|⟨bk',off',he,_,hl⟩
       ·rw[h0];rw[RepLP];trivial
       ·injection he with he;injection he with e1 e2;subst e1 e2;exact RepLP.mono (fun _ h=>h) (fun p hp=>((HS.out.mono (by have:=HBV.out.size;omega)).trans (hb12.mono (by omega))).cell (hBw _ hp)) _ _ _ hbk hl
      obtain⟨nits,hnm,hnc,hnr⟩:=RepLP.its t.kids bk off hLV;have hnl:nits.length=t.kids.length:=by rw[←hnm];simp
      have hkl:=Tm.kids_size t;have hkt:=HT.out;obtain⟨A2,c2,w2,hap,hrow2,hgr,hsome⟩:=hrow0.more (fun b h=>by have:=h.2;omega) (by omega) bk off cap t.kids.length nits hnl.symm hnc
       (fun x hx=>RepP.mono (fun b h=>⟨.inl h,by have:=hBw b h;omega⟩) (fun _ _=>rfl) _ _ _ (hnr x hx)) (by simp;omega)
      simp only[List.length_nil,Nat.zero_add,List.nil_append]at hap hrow2 hsome;obtain⟨g2,rfl⟩:=hsome (fun e=>by rw[e]at hnl;simp at hnl;omega);have hbw2:Below E.heap.size E w2:=qaw hb12 (by omega) hgr (fun g hg=>by have:=(hrow0.lt g hg).1;omega);have hw2n:w2.heap[E.heap.size]?=some (.cells #[.int .i64 t.kind,.string t.name,.int .i64 t.sort,.slice (some ⟨bk,off,none⟩) t.kids.length cap] 24):=by
       rw[hgr.block E.heap.size (by omega) (fun e=>by have:=(hrow0.lt _ e.symm).1;omega),hb2.block _ (by omega),hE1];exact heap_alloc_new _ _
      obtain⟨Z2,hZ2⟩:∃X,X=w2.setCell ⟨E.heap.size,3,none⟩ (.slice (some ⟨g2,0,none⟩) t.kids.length c2):=⟨_,rfl⟩;have hZn:Z2.heap[E.heap.size]?=some (.cells #[.int .i64 t.kind,.string t.name,.int .i64 t.sort,.slice (some ⟨g2,0,none⟩) t.kids.length c2] 24):=by rw[hZ2];exact qd6 hw2n
      have hrowZ:RowT Z2 (E.heap.size+1) (fun b=>(P b∨w.heap.size+3≤b)∧b<E.heap.size) (.slice (some ⟨g2,0,none⟩) t.kids.length c2) nits:=by rw[hZ2];exact hrow2.setCell (by simp) (by simp) _
      have hEZ:Below E.heap.size E Z2:=by rw[hZ2];exact hbw2.setCell (Nat.le_refl _) _
      have hg2:=(hrowZ.lt g2 rfl);have hnit:i.toNat<nits.length:=by rw[hnl];exact hxl
      have hbxZ:=HBX.out.below hEZ;obtain⟨z0,z1,z2,z3,z4⟩:=qaa hw2n;rw[hE2,hE1]at hap;clear hE1 hE2 hs1 hs2 hb1 hb2 hb12 hrow0 hLV hnc hnr hrow2 hgr hsome hbw2;have HZN:=hdzz hZn;clear hZn;have HROWZ:=hdzz hrowZ;clear hrowZ;have HEZ:=hdzz hEZ;clear hEZ;have HG2:=hdzz hg2;clear hg2;have HBXZ:=hdzz hbxZ;clear hbxZ;have HNL:=hdzz hnl;clear hnl;have HNM:=hdzz hnm;clear hnm;have HW2N:=hdzz hw2n;clear hw2n;have HZ2:=hdzz hZ2;clear hZ2;go_wp2_with (at_builtin;refine qab rfl _ _ rfl rfl rfl hap ?_)
      rw[←HZ2.out];clear z0 z1 z2 z3 z4 b0 b1 b2 b3 r0 r1 r2 r3 r4 hap;obtain⟨z0,z1,z2,z3,z4⟩:=qaa HZN.out;have b4':Z2.cell? ⟨bp,offp,none⟩=some (.int .i64 i):=(HEZ.out.cell (by show bp<_;omega)).trans b4;obtain⟨y0,y1,y2,y3,-⟩:=HBXZ.out.cells;obtain⟨n0,n1,n2,n3,n4⟩:=HROWZ.out.slot HNL.out.symm i.toNat hnit;obtain⟨W4a,hW4,s0,s1,s2,s3,hoth,hsz4,hblk4,hbel4,-⟩:=qlc (W:=Z2) (b:=g2) (o:=i.toNat*4) (.int .i64 y.kind) (.string y.name) (.int .i64 y.sort) (.slice Ay y.kids.length cy) n0 n1 n2 n3;have hg2a:=HG2.out.1;have hrow4:RowT W4a.drew (E.heap.size+1) (fun b=>(P b∨w.heap.size+3≤b)∧b<E.heap.size) (.slice (some ⟨g2,0,none⟩) t.kids.length c2) (nits.set i.toNat (y,Ay,cy)):=by
       rw[hW4];exact(HROWZ.out.set HNL.out.symm i.toNat (by omega) (y,Ay,cy) (show RepP Z2 (fun b=>((P b∨w.heap.size+3≤b)∧b<E.heap.size)∧b<Z2.heap.size∧g2≠b) y Ay cy from
        RepP.mono (w:=E) (w':=Z2) (P:=fun b=>(P b∨w.heap.size+3≤b)∧b<E.heap.size) (fun b h=>⟨h,by have:=HEZ.out.size;omega,by omega⟩) (fun q h=>HEZ.out.cell h.2) _ _ _ HY.out)).drew
      have hW4n:W4a.drew.heap[E.heap.size]?=some (.cells #[.int .i64 t.kind,.string t.name,.int .i64 t.sort,.slice (some ⟨g2,0,none⟩) t.kids.length c2] 24):=(hblk4 _ (by omega)).trans HZN.out;have hW4z:W4a.drew.heap[w.heap.size+1+1]?=some (qag (.mk 0 ⟨#[]⟩ 0 []) none 0):=(hblk4 _ (by omega)).trans ((HEZ.out.block _ (by omega)).trans HZE.out);have hbW4:Below w.heap.size w W4a.drew:=(hbel4 _ (by omega) _ (HBE.out.trans (HEZ.out.mono HBE.out.size))).drew;have HW4N:=hdzz hW4n;clear hW4n;have HW4Z:=hdzz hW4z;clear hW4z;have HBW4:=hdzz hbW4;clear hbW4;have HROW4:=hdzz hrow4;clear hrow4;have HW4:=hdzz hW4;clear hW4 s0 s1 s2 s3 hoth hsz4 hblk4 hbel4;refine qbk (fun Y=>Y=Z2.drew) 7 (.held 0 (.held 1 (.held 2 (.held 3 (.held 4 (.held 5 (.held 6 (.op 7 .nil)))))))) mixed (by kernel_rfl) ?_
      refine qai (v:=.pointer (some ⟨E.heap.size,3,none⟩)) rfl rfl (fun _ _ _ h=>h) rfl (fun Y hY=>by subst hY;(try simp only[Act.put]);go_simp) ?_;refine qai (v:=.slice (some ⟨g2,0,none⟩) t.kids.length c2) rfl rfl (fun _ _ _ h=>h) rfl (fun Y hY=>by subst hY;(try simp only[Act.put]);go_simp) ?_;refine qai (v:=.slice (some ⟨bp,offp,none⟩) (r.length+1) cp) rfl rfl (fun _ _ _ h=>h) rfl (fun Y hY=>by subst hY;(try simp only[Act.put]);go_simp) ?_;refine qai (v:=.pointer (some ⟨bp,offp,none⟩)) rfl rfl (fun _ _ _ h=>h) rfl (fun Y hY=>by subst hY;(try simp only[Act.put]);go_simp) ?_;refine qai (v:=.int .i64 i) rfl rfl (fun _ _ _ h=>h) rfl (fun Y hY=>by subst hY;(try simp only[Act.put]);go_simp) ?_
      refine qai (v:=.agg #[.int .i64 y.kind,.string y.name,.int .i64 y.sort,.slice Ay y.kids.length cy]) rfl rfl (fun _ _ _ h=>h) rfl (fun Y hY=>by subst hY;(try simp only[Act.put]);go_simp) ?_;refine qai (v:=.pointer (some ⟨g2,i.toNat*4,none⟩)) rfl rfl (fun _ _ _ h=>h) rfl (fun Y hY=>by subst hY;(try simp only[Act.put]);go_simp) ?_;simp only[Act.put,List.setIfInBounds_toArray];refine qbu rfl rfl (fun K hK=>?_);go_wp2_with fail
      refine⟨fun h=>absurd h (by decide),qd0 ?_⟩;rw[←HW4.out];generalize W4a.drew=W4 at *;clear z0 z1 z2 z3 z4 b4 b4' y0 y1 y2 y3 n0 n1 n2 n3 n4;obtain⟨z0,z1,z2,z3,z4⟩:=qaa HW4N.out;obtain⟨r0,r1,r2,r3,r4⟩:=qaa HW4Z.out;simp only[Tm.kind,Tm.name,Tm.sort,Tm.kids,List.length_nil]at r0 r1 r2 r3;go_wp2_with fail
      refine bodyPost_ret (v:=.tuple #[.agg #[.int .i64 t.kind,.string t.name,.int .i64 t.sort,.slice (some ⟨g2,0,none⟩) t.kids.length c2],.int .i64 0]) ?_ rfl ?_
      ·simp[results,Tryz.results12,go_sem,r0,r1,r2,r3]
      have hws4:=HBW4.out.size;refine⟨qa2 HBW4.out (by omega),.mk t.kind t.name t.sort (t.kids.set i.toNat y),some ⟨g2,0,none⟩,c2,0,by simp[Tm.val,Tm.kind,Tm.name,Tm.sort,Tm.kids],?_,.inr ⟨HRES2.out,rfl⟩⟩;obtain⟨A',c',he,hS4⟩:=HROW4.out.toS (P:=fun b=>(P b∨w.heap.size+3≤b)∧b<W4.heap.size) (fun b h h2=>⟨h.1,h2⟩) (fun b h h2=>⟨.inr (by omega),h2⟩);injection he with e1 e2 e3;subst e1 e3;have hmap:(nits.set i.toNat (y,Ay,cy)).map (·.1)=t.kids.set i.toNat y:=by rw[List.map_set,HNM.out]
      rw[hmap]at hS4;rw[RepP_mk];refine⟨(show t.name.size≤maxLen from HRT.out.nameS),?_⟩;exact RepS.mono (fun b ⟨h1,h2⟩=>⟨h1.imp id (fun h=>by omega),by simpa[World.setCell]using h2⟩) (fun q ⟨h1,_⟩=>World.cell?_of_block (qay (by rcases h1 with h|h<;>(first|omega|(have:=hBw _ h;omega))))) hS4
end Go.Proofs.YtjhjoiplpmjepaaGreat
namespace Go.Proofs.YtjhjoiplpmjepaaGreat
open Go.RowKit Go.Sort
theorem box8_at {W:World} {B:Nat} {a b c d e f g h:Value} {T:TypeId} (hx:W.heap[B]?=some (.cells #[a,b,c,d,e,f,g,h] T (0,0))) :
  W.cell? ⟨B,0,none⟩=some a∧W.cell? ⟨B,1,none⟩=some b∧W.cell? ⟨B,2,none⟩=some c∧W.cell? ⟨B,3,none⟩=some d∧W.cell? ⟨B,4,none⟩=some e∧W.cell? ⟨B,5,none⟩=some f∧W.cell? ⟨B,6,none⟩=some g∧W.cell? ⟨B,7,none⟩=some h∧∀o,W.frozen? ⟨B,o,none⟩=false:=by
 refine⟨?_,?_,?_,?_,?_,?_,?_,?_,fun o=>?_⟩<;>simp[World.cell?,World.frozen?,hx]
theorem qao (w:World):Calls Tryz.prog 58 #[] w fun e w'=>e=.returned (.agg #[.int .i64 1,.string ⟨#[120]⟩,.int .i64 0,.slice none 0 0])∧Below w.heap.size w w':=by
 go_enter Tryz.func58,Tryz.ntmps58
 go_wp2_with fail
 have hx:=heap_alloc_new w (.cells #[.int .i64 1,.string ⟨#[120]⟩,.int .i64 0,.slice none 0 0] 24);obtain⟨r0,r1,r2,r3,rf⟩:=qaa hx;refine bodyPost_ret (v:=.agg #[.int .i64 1,.string ⟨#[120]⟩,.int .i64 0,.slice none 0 0]) ?_ rfl ?_
 ·simp[results,Tryz.results58,go_sem,r0,r1,r2,r3]
 exact⟨rfl,qad (Nat.le_refl _) _⟩
theorem qan (w:World):Calls Tryz.prog 59 #[] w fun e w'=>e=.returned (.agg #[.int .i64 1,.string ⟨#[121]⟩,.int .i64 0,.slice none 0 0])∧Below w.heap.size w w':=by
 go_enter Tryz.func59,Tryz.ntmps59
 go_wp2_with fail
 have hx:=heap_alloc_new w (.cells #[.int .i64 1,.string ⟨#[121]⟩,.int .i64 0,.slice none 0 0] 24);obtain⟨r0,r1,r2,r3,rf⟩:=qaa hx;refine bodyPost_ret (v:=.agg #[.int .i64 1,.string ⟨#[121]⟩,.int .i64 0,.slice none 0 0]) ?_ rfl ?_
 ·simp[results,Tryz.results59,go_sem,r0,r1,r2,r3]
 exact⟨rfl,qad (Nat.le_refl _) _⟩
theorem qam (k:Int) (x n:ByteArray) (s:Int) (A B:Option Addr) (i c m d:Nat) (w:World):Calls Tryz.prog 60 #[.agg #[.int .i64 k,.string x,.int .i64 s,.slice A i c],.string n,.slice B m d] w fun e w'=>
  e=.returned (.agg #[.int .i64 3,.string n,.int .i64 0,.slice B m d,.int .i64 k,.string x,.int .i64 s,.slice A i c])∧Below w.heap.size w w':=by
 have mixed:=mixz;obtain⟨V,hV⟩:∃V,V=(w.alloc (.cells #[.int .i64 k,.string x,.int .i64 s,.slice A i c] 24)).alloc (.cells #[.int .i64 0,.string ⟨#[]⟩,.int .i64 0,.slice none 0 0,.int .i64 0,.string ⟨#[]⟩,.int .i64 0,.slice none 0 0] 98):=⟨_,rfl⟩;have hbV:Below w.heap.size w V:=by rw[hV];exact((Below.refl _ _).alloc (Nat.le_refl _) _).alloc (by simp) _
 have hsV:V.heap.size=w.heap.size+1+1:=by rw[hV];simp
 have hx1:V.heap[w.heap.size]?=some (.cells #[.int .i64 k,.string x,.int .i64 s,.slice A i c] 24 (0,0)):=by rw[hV,Below.heap_alloc _ _ _ (by simp)];exact heap_alloc_new w _
 have hx2:V.heap[w.heap.size+1]?=some (.cells #[.int .i64 0,.string ⟨#[]⟩,.int .i64 0,.slice none 0 0,.int .i64 0,.string ⟨#[]⟩,.int .i64 0,.slice none 0 0] 98 (0,0)):=by
  rw[hV];have h:=heap_alloc_new (w.alloc (.cells #[.int .i64 k,.string x,.int .i64 s,.slice A i c] 24)) (.cells #[.int .i64 0,.string ⟨#[]⟩,.int .i64 0,.slice none 0 0,.int .i64 0,.string ⟨#[]⟩,.int .i64 0,.slice none 0 0] 98);rw[World.size_alloc]at h;exact h
 have AP:=hdzz (qav n B m d V.drew);obtain⟨x0,x1,x2,x3,xf⟩:=qaa (show V.drew.heap[w.heap.size]?=_ from hx1);have HX2:Hid (V.drew.heap[w.heap.size+1]?=_):=hdzz hx2;have hsD:w.heap.size+1<V.drew.heap.size:=by show _<V.heap.size;omega
 have HBD:Hid (Below w.heap.size w V.drew):=hdzz hbV.drew;have HV:=hdzz hV;clear hV hbV hx1 hx2 hsV;go_enter Tryz.func60,Tryz.ntmps60
 go_upto_region 1 with fail
 rw[←HV.out];clear HV;refine qbk (fun Y=>Below V.drew.heap.size V.drew Y) 5 (.held 0 (.held 1 (.held 3 (.op 2 (.held 4 (.op 5 .nil)))))) mixed (by kernel_rfl) ?_;generalize V.drew=Z at *;refine qai (v:=.string n) rfl rfl (fun _ _ _ h=>h) (Below.refl _ _) (fun Y hY=>by(try simp only[Act.put]);go_simp) ?_;refine qai (v:=.slice B m d) rfl rfl (fun _ _ _ h=>h) (Below.refl _ _) (fun Y hY=>by(try simp only[Act.put]);go_simp) ?_;refine qai (v:=.agg #[.int .i64 k,.string x,.int .i64 s,.slice A i c]) rfl rfl (fun _ _ _ h=>h) (Below.refl _ _) (fun Y hY=>by
  have z0:=sclz hY x0 (by omega);have z1:=sclz hY x1 (by omega);have z2:=sclz hY x2 (by omega);have z3:=sclz hY x3 (by omega)
  (try simp only[Act.put]);go_simp) ?_
 simp only[Act.put,fsa,fsb,fsc,fsd,fse,fsf];refine qbu rfl rfl (fun K hK=>?_);go_wp2_with fail
 refine AP.out.mono ?_;clear AP x0 x1 x2 x3 xf;rintro e w5 ⟨rfl,hb5⟩;refine hK _ _ ⟨fun _=>hb5,?_⟩;clear hK K;have hs5:=hb5.size;have hz:=(hb5.block _ hsD).trans HX2.out;obtain⟨z0,z1,z2,z3,z4,z5,z6,z7,zf⟩:=box8_at hz;have HB5:=hdzz (HBD.out.trans (hb5.mono (by omega)));clear hz;refine qai (v:=.agg #[.int .i64 3,.string n,.int .i64 0,.slice B m d,.int .i64 k,.string x,.int .i64 s,.slice A i c]) rfl rfl (fun _ _ _ h=>h) hb5 (fun Y hY=>by(try simp only[Act.put]);go_simp) ?_;simp only[Act.put,fsa,fsb,fsc,fsd,fse,fsf];refine qbu rfl rfl (fun K hK=>?_);go_wp2_with fail
 refine⟨fun h=>absurd h (by decide),qd0 ?_⟩;go_wp2_with fail
 refine bodyPost_ret (v:=.agg #[.int .i64 3,.string n,.int .i64 0,.slice B m d,.int .i64 k,.string x,.int .i64 s,.slice A i c]) ?_ rfl ?_
 ·simp[results,Tryz.results60,go_sem,z0,z1,z2,z3,z4,z5,z6,z7]
 refine⟨rfl,?_⟩
 iterate 8 refine Below.setCell ?_ (by show _≤w.heap.size+1;omega) _
 exact HB5.out
theorem qmq (w:World):Calls Tryz.prog 28 #[] w fun e w'=>(∃A c,e=.returned (.slice A 6 c))∧Below w.heap.size w w':=by
 have HB:Hid (Below w.heap.size w w):=hdzz (Below.refl _ _);go_enter Tryz.func28,Tryz.ntmps28
 go_wp2_with fail
 first | refine(qao _).mono ?_|refine(qan _).mono ?_|refine(qav _ _ _ _ _).mono ?_|refine(qam _ _ _ _ _ _ _ _ _ _ _).mono ?_
 rintro e w1 ⟨rfl,hb⟩;have HB:=hdzz (show Below w.heap.size w w1 from(by first|exact HB.out.trans (hb.mono HB.out.size)|exact(HB.out.alloc HB.out.size _).trans (hb.mono (by have:=HB.out.size;simp;omega))));clear hb;go_wp2_with fail
 first | refine(qao _).mono ?_|refine(qan _).mono ?_|refine(qav _ _ _ _ _).mono ?_|refine(qam _ _ _ _ _ _ _ _ _ _ _).mono ?_
 rintro e w2 ⟨rfl,hb⟩;have HB:=hdzz (show Below w.heap.size w w2 from(by first|exact HB.out.trans (hb.mono HB.out.size)|exact(HB.out.alloc HB.out.size _).trans (hb.mono (by have:=HB.out.size;simp;omega))));clear hb;go_wp2_with fail
 first | refine(qao _).mono ?_|refine(qan _).mono ?_|refine(qav _ _ _ _ _).mono ?_|refine(qam _ _ _ _ _ _ _ _ _ _ _).mono ?_
 rintro e w3 ⟨rfl,hb⟩;have HB:=hdzz (show Below w.heap.size w w3 from(by first|exact HB.out.trans (hb.mono HB.out.size)|exact(HB.out.alloc HB.out.size _).trans (hb.mono (by have:=HB.out.size;simp;omega))));clear hb;go_wp2_with fail
 first | refine(qao _).mono ?_|refine(qan _).mono ?_|refine(qav _ _ _ _ _).mono ?_|refine(qam _ _ _ _ _ _ _ _ _ _ _).mono ?_
 rintro e w4 ⟨rfl,hb⟩;have HB:=hdzz (show Below w.heap.size w w4 from(by first|exact HB.out.trans (hb.mono HB.out.size)|exact(HB.out.alloc HB.out.size _).trans (hb.mono (by have:=HB.out.size;simp;omega))));clear hb;go_wp2_with fail
 first | refine(qao _).mono ?_|refine(qan _).mono ?_|refine(qav _ _ _ _ _).mono ?_|refine(qam _ _ _ _ _ _ _ _ _ _ _).mono ?_
 rintro e w5 ⟨rfl,hb⟩;have HB:=hdzz (show Below w.heap.size w w5 from(by first|exact HB.out.trans (hb.mono HB.out.size)|exact(HB.out.alloc HB.out.size _).trans (hb.mono (by have:=HB.out.size;simp;omega))));clear hb;go_wp2_with fail
 first | refine(qao _).mono ?_|refine(qan _).mono ?_|refine(qav _ _ _ _ _).mono ?_|refine(qam _ _ _ _ _ _ _ _ _ _ _).mono ?_
 rintro e w6 ⟨rfl,hb⟩;have HB:=hdzz (show Below w.heap.size w w6 from(by first|exact HB.out.trans (hb.mono HB.out.size)|exact(HB.out.alloc HB.out.size _).trans (hb.mono (by have:=HB.out.size;simp;omega))));clear hb;go_wp2_with fail
 first | refine(qao _).mono ?_|refine(qan _).mono ?_|refine(qav _ _ _ _ _).mono ?_|refine(qam _ _ _ _ _ _ _ _ _ _ _).mono ?_
 rintro e w7 ⟨rfl,hb⟩;have HB:=hdzz (show Below w.heap.size w w7 from(by first|exact HB.out.trans (hb.mono HB.out.size)|exact(HB.out.alloc HB.out.size _).trans (hb.mono (by have:=HB.out.size;simp;omega))));clear hb;go_wp2_with fail
 first | refine(qao _).mono ?_|refine(qan _).mono ?_|refine(qav _ _ _ _ _).mono ?_|refine(qam _ _ _ _ _ _ _ _ _ _ _).mono ?_
 rintro e w8 ⟨rfl,hb⟩;have HB:=hdzz (show Below w.heap.size w w8 from(by first|exact HB.out.trans (hb.mono HB.out.size)|exact(HB.out.alloc HB.out.size _).trans (hb.mono (by have:=HB.out.size;simp;omega))));clear hb;go_wp2_with fail
 first | refine(qao _).mono ?_|refine(qan _).mono ?_|refine(qav _ _ _ _ _).mono ?_|refine(qam _ _ _ _ _ _ _ _ _ _ _).mono ?_
 rintro e w9 ⟨rfl,hb⟩;have HB:=hdzz (show Below w.heap.size w w9 from(by first|exact HB.out.trans (hb.mono HB.out.size)|exact(HB.out.alloc HB.out.size _).trans (hb.mono (by have:=HB.out.size;simp;omega))));clear hb;go_wp2_with fail
 first | refine(qao _).mono ?_|refine(qan _).mono ?_|refine(qav _ _ _ _ _).mono ?_|refine(qam _ _ _ _ _ _ _ _ _ _ _).mono ?_
 rintro e w10 ⟨rfl,hb⟩;have HB:=hdzz (show Below w.heap.size w w10 from(by first|exact HB.out.trans (hb.mono HB.out.size)|exact(HB.out.alloc HB.out.size _).trans (hb.mono (by have:=HB.out.size;simp;omega))));clear hb;go_wp2_with fail
 first | refine(qao _).mono ?_|refine(qan _).mono ?_|refine(qav _ _ _ _ _).mono ?_|refine(qam _ _ _ _ _ _ _ _ _ _ _).mono ?_
 rintro e w11 ⟨rfl,hb⟩;have HB:=hdzz (show Below w.heap.size w w11 from(by first|exact HB.out.trans (hb.mono HB.out.size)|exact(HB.out.alloc HB.out.size _).trans (hb.mono (by have:=HB.out.size;simp;omega))));clear hb;go_wp2_with fail
 first | refine(qao _).mono ?_|refine(qan _).mono ?_|refine(qav _ _ _ _ _).mono ?_|refine(qam _ _ _ _ _ _ _ _ _ _ _).mono ?_
 rintro e w12 ⟨rfl,hb⟩;have HB:=hdzz (show Below w.heap.size w w12 from(by first|exact HB.out.trans (hb.mono HB.out.size)|exact(HB.out.alloc HB.out.size _).trans (hb.mono (by have:=HB.out.size;simp;omega))));clear hb;go_wp2_with fail
 first | refine(qao _).mono ?_|refine(qan _).mono ?_|refine(qav _ _ _ _ _).mono ?_|refine(qam _ _ _ _ _ _ _ _ _ _ _).mono ?_
 rintro e w13 ⟨rfl,hb⟩;have HB:=hdzz (show Below w.heap.size w w13 from(by first|exact HB.out.trans (hb.mono HB.out.size)|exact(HB.out.alloc HB.out.size _).trans (hb.mono (by have:=HB.out.size;simp;omega))));clear hb;go_wp2_with fail
 first | refine(qao _).mono ?_|refine(qan _).mono ?_|refine(qav _ _ _ _ _).mono ?_|refine(qam _ _ _ _ _ _ _ _ _ _ _).mono ?_
 rintro e w14 ⟨rfl,hb⟩;have HB:=hdzz (show Below w.heap.size w w14 from(by first|exact HB.out.trans (hb.mono HB.out.size)|exact(HB.out.alloc HB.out.size _).trans (hb.mono (by have:=HB.out.size;simp;omega))));clear hb;go_wp2_with fail
 first | refine(qao _).mono ?_|refine(qan _).mono ?_|refine(qav _ _ _ _ _).mono ?_|refine(qam _ _ _ _ _ _ _ _ _ _ _).mono ?_
 rintro e w15 ⟨rfl,hb⟩;have HB:=hdzz (show Below w.heap.size w w15 from(by first|exact HB.out.trans (hb.mono HB.out.size)|exact(HB.out.alloc HB.out.size _).trans (hb.mono (by have:=HB.out.size;simp;omega))));clear hb;go_wp2_with fail
 first | refine(qao _).mono ?_|refine(qan _).mono ?_|refine(qav _ _ _ _ _).mono ?_|refine(qam _ _ _ _ _ _ _ _ _ _ _).mono ?_
 rintro e w16 ⟨rfl,hb⟩;have HB:=hdzz (show Below w.heap.size w w16 from(by first|exact HB.out.trans (hb.mono HB.out.size)|exact(HB.out.alloc HB.out.size _).trans (hb.mono (by have:=HB.out.size;simp;omega))));clear hb;go_wp2_with fail
 first | refine(qao _).mono ?_|refine(qan _).mono ?_|refine(qav _ _ _ _ _).mono ?_|refine(qam _ _ _ _ _ _ _ _ _ _ _).mono ?_
 rintro e w17 ⟨rfl,hb⟩;have HB:=hdzz (show Below w.heap.size w w17 from(by first|exact HB.out.trans (hb.mono HB.out.size)|exact(HB.out.alloc HB.out.size _).trans (hb.mono (by have:=HB.out.size;simp;omega))));clear hb;go_wp2_with fail
 first | refine(qao _).mono ?_|refine(qan _).mono ?_|refine(qav _ _ _ _ _).mono ?_|refine(qam _ _ _ _ _ _ _ _ _ _ _).mono ?_
 rintro e w18 ⟨rfl,hb⟩;have HB:=hdzz (show Below w.heap.size w w18 from(by first|exact HB.out.trans (hb.mono HB.out.size)|exact(HB.out.alloc HB.out.size _).trans (hb.mono (by have:=HB.out.size;simp;omega))));clear hb;go_wp2_with fail
 first | refine(qao _).mono ?_|refine(qan _).mono ?_|refine(qav _ _ _ _ _).mono ?_|refine(qam _ _ _ _ _ _ _ _ _ _ _).mono ?_
 rintro e w19 ⟨rfl,hb⟩;have HB:=hdzz (show Below w.heap.size w w19 from(by first|exact HB.out.trans (hb.mono HB.out.size)|exact(HB.out.alloc HB.out.size _).trans (hb.mono (by have:=HB.out.size;simp;omega))));clear hb;go_wp2_with fail
 first | refine(qao _).mono ?_|refine(qan _).mono ?_|refine(qav _ _ _ _ _).mono ?_|refine(qam _ _ _ _ _ _ _ _ _ _ _).mono ?_
 rintro e w20 ⟨rfl,hb⟩;have HB:=hdzz (show Below w.heap.size w w20 from(by first|exact HB.out.trans (hb.mono HB.out.size)|exact(HB.out.alloc HB.out.size _).trans (hb.mono (by have:=HB.out.size;simp;omega))));clear hb;go_wp2_with fail
 first | refine(qao _).mono ?_|refine(qan _).mono ?_|refine(qav _ _ _ _ _).mono ?_|refine(qam _ _ _ _ _ _ _ _ _ _ _).mono ?_
 rintro e w21 ⟨rfl,hb⟩;have HB:=hdzz (show Below w.heap.size w w21 from(by first|exact HB.out.trans (hb.mono HB.out.size)|exact(HB.out.alloc HB.out.size _).trans (hb.mono (by have:=HB.out.size;simp;omega))));clear hb;go_wp2_with fail
 first | refine(qao _).mono ?_|refine(qan _).mono ?_|refine(qav _ _ _ _ _).mono ?_|refine(qam _ _ _ _ _ _ _ _ _ _ _).mono ?_
 rintro e w22 ⟨rfl,hb⟩;have HB:=hdzz (show Below w.heap.size w w22 from(by first|exact HB.out.trans (hb.mono HB.out.size)|exact(HB.out.alloc HB.out.size _).trans (hb.mono (by have:=HB.out.size;simp;omega))));clear hb;go_wp2_with fail
 first | refine(qao _).mono ?_|refine(qan _).mono ?_|refine(qav _ _ _ _ _).mono ?_|refine(qam _ _ _ _ _ _ _ _ _ _ _).mono ?_
 rintro e w23 ⟨rfl,hb⟩;have HB:=hdzz (show Below w.heap.size w w23 from(by first|exact HB.out.trans (hb.mono HB.out.size)|exact(HB.out.alloc HB.out.size _).trans (hb.mono (by have:=HB.out.size;simp;omega))));clear hb;go_wp2_with fail
 first | refine(qao _).mono ?_|refine(qan _).mono ?_|refine(qav _ _ _ _ _).mono ?_|refine(qam _ _ _ _ _ _ _ _ _ _ _).mono ?_
 rintro e w24 ⟨rfl,hb⟩;have HB:=hdzz (show Below w.heap.size w w24 from(by first|exact HB.out.trans (hb.mono HB.out.size)|exact(HB.out.alloc HB.out.size _).trans (hb.mono (by have:=HB.out.size;simp;omega))));clear hb;go_wp2_with fail
 first | refine(qao _).mono ?_|refine(qan _).mono ?_|refine(qav _ _ _ _ _).mono ?_|refine(qam _ _ _ _ _ _ _ _ _ _ _).mono ?_
 rintro e w25 ⟨rfl,hb⟩;have HB:=hdzz (show Below w.heap.size w w25 from(by first|exact HB.out.trans (hb.mono HB.out.size)|exact(HB.out.alloc HB.out.size _).trans (hb.mono (by have:=HB.out.size;simp;omega))));clear hb;go_wp2_with fail
 first | refine(qao _).mono ?_|refine(qan _).mono ?_|refine(qav _ _ _ _ _).mono ?_|refine(qam _ _ _ _ _ _ _ _ _ _ _).mono ?_
 rintro e w26 ⟨rfl,hb⟩;have HB:=hdzz (show Below w.heap.size w w26 from(by first|exact HB.out.trans (hb.mono HB.out.size)|exact(HB.out.alloc HB.out.size _).trans (hb.mono (by have:=HB.out.size;simp;omega))));clear hb;go_wp2_with fail
 first | refine(qao _).mono ?_|refine(qan _).mono ?_|refine(qav _ _ _ _ _).mono ?_|refine(qam _ _ _ _ _ _ _ _ _ _ _).mono ?_
 rintro e w27 ⟨rfl,hb⟩;have HB:=hdzz (show Below w.heap.size w w27 from(by first|exact HB.out.trans (hb.mono HB.out.size)|exact(HB.out.alloc HB.out.size _).trans (hb.mono (by have:=HB.out.size;simp;omega))));clear hb;go_wp2_with fail
 first | refine(qao _).mono ?_|refine(qan _).mono ?_|refine(qav _ _ _ _ _).mono ?_|refine(qam _ _ _ _ _ _ _ _ _ _ _).mono ?_
 rintro e w28 ⟨rfl,hb⟩;have HB:=hdzz (show Below w.heap.size w w28 from(by first|exact HB.out.trans (hb.mono HB.out.size)|exact(HB.out.alloc HB.out.size _).trans (hb.mono (by have:=HB.out.size;simp;omega))));clear hb;go_wp2_with fail
 first | refine(qao _).mono ?_|refine(qan _).mono ?_|refine(qav _ _ _ _ _).mono ?_|refine(qam _ _ _ _ _ _ _ _ _ _ _).mono ?_
 rintro e w29 ⟨rfl,hb⟩;have HB:=hdzz (show Below w.heap.size w w29 from(by first|exact HB.out.trans (hb.mono HB.out.size)|exact(HB.out.alloc HB.out.size _).trans (hb.mono (by have:=HB.out.size;simp;omega))));clear hb;go_wp2_with fail
 first | refine(qao _).mono ?_|refine(qan _).mono ?_|refine(qav _ _ _ _ _).mono ?_|refine(qam _ _ _ _ _ _ _ _ _ _ _).mono ?_
 rintro e w30 ⟨rfl,hb⟩;have HB:=hdzz (show Below w.heap.size w w30 from(by first|exact HB.out.trans (hb.mono HB.out.size)|exact(HB.out.alloc HB.out.size _).trans (hb.mono (by have:=HB.out.size;simp;omega))));clear hb;go_wp2_with fail
 first | refine(qao _).mono ?_|refine(qan _).mono ?_|refine(qav _ _ _ _ _).mono ?_|refine(qam _ _ _ _ _ _ _ _ _ _ _).mono ?_
 rintro e w31 ⟨rfl,hb⟩;have HB:=hdzz (show Below w.heap.size w w31 from(by first|exact HB.out.trans (hb.mono HB.out.size)|exact(HB.out.alloc HB.out.size _).trans (hb.mono (by have:=HB.out.size;simp;omega))));clear hb;go_wp2_with fail
 first | refine(qao _).mono ?_|refine(qan _).mono ?_|refine(qav _ _ _ _ _).mono ?_|refine(qam _ _ _ _ _ _ _ _ _ _ _).mono ?_
 rintro e w32 ⟨rfl,hb⟩;have HB:=hdzz (show Below w.heap.size w w32 from(by first|exact HB.out.trans (hb.mono HB.out.size)|exact(HB.out.alloc HB.out.size _).trans (hb.mono (by have:=HB.out.size;simp;omega))));clear hb;go_wp2_with fail
 first | refine(qao _).mono ?_|refine(qan _).mono ?_|refine(qav _ _ _ _ _).mono ?_|refine(qam _ _ _ _ _ _ _ _ _ _ _).mono ?_
 rintro e w33 ⟨rfl,hb⟩;have HB:=hdzz (show Below w.heap.size w w33 from(by first|exact HB.out.trans (hb.mono HB.out.size)|exact(HB.out.alloc HB.out.size _).trans (hb.mono (by have:=HB.out.size;simp;omega))));clear hb;go_wp2_with fail
 first | refine(qao _).mono ?_|refine(qan _).mono ?_|refine(qav _ _ _ _ _).mono ?_|refine(qam _ _ _ _ _ _ _ _ _ _ _).mono ?_
 rintro e w34 ⟨rfl,hb⟩;have HB:=hdzz (show Below w.heap.size w w34 from(by first|exact HB.out.trans (hb.mono HB.out.size)|exact(HB.out.alloc HB.out.size _).trans (hb.mono (by have:=HB.out.size;simp;omega))));clear hb;go_wp2_with fail
 first | refine(qao _).mono ?_|refine(qan _).mono ?_|refine(qav _ _ _ _ _).mono ?_|refine(qam _ _ _ _ _ _ _ _ _ _ _).mono ?_
 rintro e w35 ⟨rfl,hb⟩;have HB:=hdzz (show Below w.heap.size w w35 from(by first|exact HB.out.trans (hb.mono HB.out.size)|exact(HB.out.alloc HB.out.size _).trans (hb.mono (by have:=HB.out.size;simp;omega))));clear hb;go_wp2_with fail
 go_ret
 exact⟨⟨_,_,rfl⟩,HB.out.alloc HB.out.size _⟩
def kdS:Option Sy→Int
 | some s=>s.kd
 | none=>0
def kdOf (n:ByteArray):Int:=kdS (qeo n)
theorem qg0 (w:World):Calls Tryz.prog 114 #[] w fun e w'=>∃b,e=.returned (.slice (some ⟨b,0,none⟩) 21 21)∧b<w'.heap.size∧(∀j u,(qbv tabS)[j]?=some u→w'.cell? ⟨b,j,none⟩=some u)∧Below w.heap.size w w':=by
 go_enter Tryz.func114,Tryz.ntmps114
 go_wp2_with fail
 go_ret
 refine⟨w.heap.size,rfl,by simp,fun j u hj=>?_,qad (Nat.le_refl _) _⟩;have h:(qbv tabS).toArray[j]?=some u:=by simpa using hj
 have e:∀(o:Obj),o=.cells (qbv tabS).toArray 140→(w.alloc o).cell? ⟨w.heap.size,j,none⟩=some u:=by
  rintro o rfl;rw[World.cell?_alloc_at _ _ _ _ rfl];exact h
 exact e _ rfl
theorem sym_row {b k:Nat} {w wr:World} (hb:b<w.heap.size) (hc:∀j u,(qbv tabS)[j]?=some u→w.cell? ⟨b,j,none⟩=some u) (hB:Below w.heap.size w wr) (hk:k<tabS.length) :
  wr.cell? ⟨b,k*4,none⟩=some (.string tabS[k].nm)∧wr.cell? ⟨b,k*4+1,none⟩=some (.int .i64 tabS[k].lo)∧wr.cell? ⟨b,k*4+2,none⟩=some (.int .i64 tabS[k].hi)∧wr.cell? ⟨b,k*4+3,none⟩=some (.int .i64 tabS[k].kd):=by
 obtain⟨g0,g1,g2,g3⟩:=qgy tabS k hk;have hcell:∀o,wr.cell? ⟨b,o,none⟩=w.cell? ⟨b,o,none⟩:=fun o=>hB.cell (by exact hb);exact⟨(hcell _).trans (hc _ _ g0),(hcell _).trans (hc _ _ g1),(hcell _).trans (hc _ _ g2),(hcell _).trans (hc _ _ g3)⟩
theorem qkt {k:Nat} {n:ByteArray} {r:Option Sy} (hk:k<tabS.length) (h:(tabS.drop k).find? (fun s=>decide (s.nm=n))=r) :
  ((tabS[k].nm.toList==n.toList)=true→some tabS[k]=r)∧((tabS[k].nm.toList==n.toList)=false→(tabS.drop (k+1)).find? (fun s=>decide (s.nm=n))=r):=by
 rw[List.drop_eq_getElem_cons hk,List.find?_cons,qg3]at h;refine⟨fun e=>?_,fun e=>?_⟩<;>rw[e]at h<;>exact h
theorem qio (n:ByteArray) (w:World):Calls Tryz.prog 73 #[.string n] w fun e w'=>e=.returned (.int .i64 (kdOf n))∧Below w.heap.size w w':=by
 have SY:=hdzz (qg0 w);obtain⟨r,hr⟩:∃r,r=qeo n:=⟨_,rfl⟩;unfold kdOf;rw[←hr];obtain⟨q,hq⟩:∃q:Int,q=kdS r:=⟨_,rfl⟩;rw[←hq];have HQ:=hdzz hq;clear hq;have HR:=hdzz hr;clear hr;go_enter Tryz.func73,Tryz.ntmps73
 go_wp2_with fail
 refine SY.out.mono ?_;clear SY;rintro e w1 ⟨b,rfl,hb,hcl,hb1⟩;have HCL:=hdzz hcl;have B1:=hdzz hb1;have hs1:=hb1.size;clear hcl hb1;go_wp2_with fail
 go_loopw [4] (fun i wr=>∃k:Nat,k≤21∧i=.int .i64 k∧Hid (Below w1.heap.size w1 wr)∧Hid ((tabS.drop k).find? (fun s=>decide (s.nm=n))=r)) (fun i _=>21 - (intOf i).toNat)
 case atStart=>exact⟨0,Nat.zero_le _,rfl,Below.refl _ _,HR.out.symm⟩
 case round=>
  obtain⟨k,hk,rfl,HB,HF⟩:=hrel;have i1:(0:Int)≤(k:Int):=Int.natCast_nonneg _;have BR:=hdzz (B1.out.trans (HB.out.mono (by omega)));by_cases hlt:k<21
  ·have i2:(k:Int)<21:=by omega
   have hlen:k<tabS.length:=hlt;obtain⟨h0,h1,h2,h3⟩:=sym_row hb HCL.out HB.out hlen;have hf:=qkt hlen HF.out;obtain⟨s,hs⟩:∃s,s=tabS[k]:=⟨_,rfl⟩;rw[←hs]at h0 h1 h2 h3 hf;clear hs;have HFN:=hdzz hf;clear hf;generalize hq:(s.nm.toList==n.toList)=q at HFN
   cases q with
   | true=>
    have hf:some s=r:=HFN.out.1 rfl;subst hf;have hq:=HQ.out;simp only[kdS]at hq;subst hq;go_wp2_with fail
    go_ret
    exact⟨rfl,BR.out⟩
   | false=>
    have HF2:=hdzz (HFN.out.2 rfl);go_wp2_with fail
    go_roundw
    case rel=>exact⟨k+1,by omega,by go_num,HB.out,HF2⟩
    case measure=>simp[intOf];omega
  ·obtain rfl:k=21:=by omega
   have hf:none=r:=HF.out;subst hf;have hq:=HQ.out;simp only[kdS]at hq;subst hq;go_wp2_with fail
   go_ret
   exact⟨rfl,BR.out⟩
def fitsS:Option Sy→Nat→Bool
 | some s,m=>decide (s.lo≤(m:Int)) && decide ((m:Int)≤s.hi)
 | none,_=>false
def qkr (n:ByteArray) (m:Nat):Bool:=fitsS (qeo n) m
theorem qm4 (t:Tm) (A:Option Addr) (cap:Nat) (w:World) (hl:t.kids.length≤1000000):Calls Tryz.prog 79 #[t.val A cap] w fun e w'=>e=.returned (.bool (qkr t.name t.kids.length))∧Below w.heap.size w w':=by
 have mixed:=mixz;obtain⟨V,hV⟩:∃V,V=w.alloc (qag t A cap):=⟨_,rfl⟩;have hbV:Below w.heap.size w V:=by rw[hV];exact qad (Nat.le_refl _) _
 have hsV:V.heap.size=w.heap.size+1:=by rw[hV];simp
 have hbx:V.heap[w.heap.size]?=some (qag t A cap):=by rw[hV];exact heap_alloc_new _ _
 have SY:=hdzz (qg0 V);obtain⟨n,hn⟩:∃n,n=t.name:=⟨_,rfl⟩;obtain⟨m,hm⟩:∃m,m=t.kids.length:=⟨_,rfl⟩;unfold qkr;simp only[qag]at hV hbx;simp only[Tm.val];rw[←hn,←hm]at hV hbx;rw[←hm]at hl;rw[←hn,←hm];clear hn hm;obtain⟨r,hr⟩:∃r,r=qeo n:=⟨_,rfl⟩;rw[←hr];obtain⟨q,hq⟩:∃q:Bool,q=fitsS r m:=⟨_,rfl⟩;rw[←hq];have HQ:=hdzz hq;clear hq;have HR:=hdzz hr;clear hr;have HBX:=hdzz hbx;have HV:=hdzz hV;clear hV hbx;have HBV:=hdzz hbV;clear hbV;have hl1:(m:Int)≤9223372036854775807:=by omega
 go_enter Tryz.func79,Tryz.ntmps79
 go_wp2_with fail
 rw[←HV.out];clear HV;go_wp2_with fail
 refine SY.out.mono ?_;clear SY;rintro e w1 ⟨b,rfl,hb,hcl,hb1⟩;have HCL:=hdzz hcl;have hs1:=hb1.size;have B1:=hdzz (HBV.out.trans (hb1.mono (by omega)));have HX1:=hdzz ((hb1.block _ (by omega)).trans HBX.out);clear hcl hb1 HBX HBV;go_wp2_with fail
 go_loopw [4] (fun i wr=>∃k:Nat,k≤21∧i=.int .i64 k∧Hid (Below w1.heap.size w1 wr)∧Hid ((tabS.drop k).find? (fun s=>decide (s.nm=n))=r)) (fun i _=>21 - (intOf i).toNat)
 case atStart=>exact⟨0,Nat.zero_le _,rfl,Below.refl _ _,HR.out.symm⟩
 case round=>
  obtain⟨k,hk,rfl,HB,HF⟩:=hrel;have i1:(0:Int)≤(k:Int):=Int.natCast_nonneg _;have BR:=hdzz (B1.out.trans (HB.out.mono (by omega)));obtain⟨x0,x1,x2,x3,xf⟩:=qaa ((HB.out.block _ (by omega)).trans HX1.out);by_cases hlt:k<21
  ·have i2:(k:Int)<21:=by omega
   have hlen:k<tabS.length:=hlt;obtain⟨h0,h1,h2,h3⟩:=sym_row hb HCL.out HB.out hlen;have hf:=qkt hlen HF.out;obtain⟨s,hs⟩:∃s,s=tabS[k]:=⟨_,rfl⟩;rw[←hs]at h0 h1 h2 h3 hf;clear hs;have HFN:=hdzz hf;clear hf;generalize hq:(s.nm.toList==n.toList)=q at HFN
   cases q with
   | true=>
    have hf:some s=r:=HFN.out.1 rfl;subst hf;have hq:=HQ.out;simp only[fitsS]at hq;clear HQ HFN;go_wp2_with fail
    go_quiet (fail)
    go_wp2_with fail
    have y0:(wr.drewN nq).cell? ⟨b,k*4,none⟩=_:=h0;have y1:(wr.drewN nq).cell? ⟨b,k*4+1,none⟩=_:=h1;have y2:(wr.drewN nq).cell? ⟨b,k*4+2,none⟩=_:=h2;have y3:(wr.drewN nq).cell? ⟨w.heap.size,3,none⟩=_:=x3;have HBQ:Hid (Below w.heap.size w (wr.drewN nq)):=BR.out.trans ((Lay.refl _ _).drewN nq).below;clear h0 h1 h2 h3 x0 x1 x2 x3 xf;generalize wr.drewN nq=Z at *;by_cases hlo:s.lo≤(m:Int)
    ·have d1:decide (s.lo≤(m:Int))=true:=decide_eq_true hlo;rw[d1,Bool.true_and]at hq;subst hq;go_quiet (fail)
     go_wp2_with fail
     go_ret
     exact⟨rfl,HBQ.out.trans ((Lay.refl _ _).drewN _).below⟩
    ·have d1:decide (s.lo≤(m:Int))=false:=decide_eq_false hlo;rw[d1,Bool.false_and]at hq;subst hq;go_quiet (fail)
     go_wp2_with fail
     go_ret
     exact⟨rfl,HBQ.out.trans ((Lay.refl _ _).drewN _).below⟩
   | false=>
    have HF2:=hdzz (HFN.out.2 rfl);go_wp2_with fail
    go_quiet (fail)
    go_wp2_with fail
    go_roundw
    case rel=>exact⟨k+1,by omega,by go_num,HB.out.trans ((Lay.refl _ _).drewN nq).below,HF2⟩
    case measure=>simp[intOf];omega
  ·obtain rfl:k=21:=by omega
   have hf:none=r:=HF.out;subst hf;have hq:=HQ.out;simp only[fitsS]at hq;subst hq;go_wp2_with fail
   go_ret
   exact⟨rfl,BR.out⟩
def agB (n:ByteArray) (l:List Tm):Bool:=if n=nNew then decide ((kidT l 0).kind=2)else !(l.any noAg)
theorem tabS_two:∀s∈tabS,(s.kd=2↔(s.nm=nSk∨s.nm=nShk∨s.nm=nNew)):=by decide
theorem thN_ref (n:ByteArray) (l:List Tm):thN n l=if kdOf n=0 then 10 else if qkr n l.length=false then 6 else if kdOf n=2∧agB n l=false then 10 else 0:=by
 unfold thN kdOf qkr
 cases hs:qeo n with
 | none=>rfl
 | some s=>
  obtain⟨hm,hn⟩:=qhl hs;have h2:=tabS_two s hm;rw[hn]at h2;have h0:kdS (some s)≠0:=tabS_kd s hm;rw[if_neg h0];show(if (l.length:Int)<s.lo∨s.hi<l.length then 6 else _)=if (decide (s.lo≤(l.length:Int)) && decide ((l.length:Int)≤s.hi))=false then 6 else _
  by_cases h6:(l.length:Int)<s.lo∨s.hi<l.length
  ·rw[if_pos h6,if_pos];rcases h6 with h|h
   ·rw[decide_eq_false (by omega:¬s.lo≤(l.length:Int)),Bool.false_and]
   ·rw[decide_eq_false (by omega:¬(l.length:Int)≤s.hi),Bool.and_false]
  ·have e6:(decide (s.lo≤(l.length:Int)) && decide ((l.length:Int)≤s.hi))=true:=by
    rw[decide_eq_true (by omega:s.lo≤(l.length:Int)),decide_eq_true (by omega:(l.length:Int)≤s.hi)];rfl
   rw[if_neg h6,e6]
   ·show _=if s.kd=2∧agB n l=false then (10:Int)else 0
    unfold agB;have e:(l.any fun k=>decide (k.kind=3∨k.sort≠1))=l.any noAg:=rfl;rw[e];by_cases hN:n=nNew
    ·rw[if_pos hN,if_neg (fun h=>by rcases h.1 with h|h<;>rw[hN]at h<;>exact absurd h (by decide))];have:s.kd=2:=h2.2 (.inr (.inr hN));by_cases hk:(kidT l 0).kind=2
     ·rw[if_neg (fun h=>h.2 hk),if_neg (fun h=>by rw[decide_eq_true hk]at h;exact absurd h.2 (by decide))]
     ·rw[if_pos ⟨hN,hk⟩,if_pos ⟨this,by rw[decide_eq_false hk]⟩]
    ·rw[if_neg hN];by_cases hsk:n=nSk∨n=nShk
     ·have:s.kd=2:=h2.2 (hsk.imp id .inl);by_cases ha:l.any noAg=true
      ·rw[if_pos ⟨hsk,ha⟩,if_pos ⟨this,by rw[ha];rfl⟩]
      ·rw[if_neg (fun h=>ha h.2),if_neg (fun h=>hN h.1),if_neg (fun h=>by rw[Bool.not_eq_true]at ha;rw[ha]at h;exact absurd h.2 (by decide))]
     ·have:s.kd≠2:=fun h=>(h2.1 h).elim (fun h=>hsk (.inl h)) (fun h=>h.elim (fun h=>hsk (.inr h)) hN);rw[if_neg (fun h=>hsk h.1),if_neg (fun h=>hN h.1),if_neg (fun h=>this h.1)]
theorem new_fits {n:ByteArray} {m:Nat} (h:qkr n m=true) (hn:n=nNew):0<m:=by
 subst hn;have:qkr nNew m=(decide ((1:Int)≤(m:Int)) && decide ((m:Int)≤8)):=rfl;rw[this,Bool.and_eq_true,decide_eq_true_iff]at h;omega
theorem qlk (t:Tm) (A:Option Addr) (cap:Nat) (w:World) (hl:t.kids.length≤1000000) (h0:t.name=nNew→0<t.kids.length) (hrep:RepT w w.heap.size t A cap) :
  Calls Tryz.prog 80 #[t.val A cap] w fun e w'=>e=.returned (.bool (agB t.name t.kids))∧Below w.heap.size w w':=by
 obtain⟨tk,tn,ts,l⟩:=t;rw[qbh]at hrep;obtain⟨hr1,hr2,hr3,hr4⟩:=hrep;unfold maxLen at hr3;obtain⟨V,hV⟩:∃V,V=w.alloc (.cells #[.int .i64 tk,.string tn,.int .i64 ts,.slice A l.length cap] 24):=⟨_,rfl⟩;have hbV:Below w.heap.size w V:=by rw[hV];exact qad (Nat.le_refl _) _
 have hsV:V.heap.size=w.heap.size+1:=by rw[hV];simp
 have hbx:V.heap[w.heap.size]?=some (.cells #[.int .i64 tk,.string tn,.int .i64 ts,.slice A l.length cap] 24 (0,0)):=by rw[hV];exact heap_alloc_new _ _
 have hlen:(l.length:Int)≤9223372036854775807:=by omega
 simp only[Tm.val,Tm.kind,Tm.name,Tm.sort,Tm.kids]at hl h0 ⊢;obtain⟨r,hr⟩:∃r,r=agB tn l:=⟨_,rfl⟩;rw[←hr];unfold agB at hr;have N3:Hid (tn=nNew↔(tn.toList==[110,101,119])=true):=qjk (c:=nNew) rfl;generalize hq3:(tn.toList==[110,101,119])=q3 at N3;have HBV:=hdzz hbV;clear hbV;have HBX:=hdzz hbx;obtain⟨r0,r1,r2,r3,rf⟩:=qaa hbx;have HV:=hdzz hV;clear hV hbx
 cases q3 with
 | true=>
  have hN:=N3.out.2 rfl;have hl0:=h0 hN;rw[if_pos hN]at hr;have e0:kidT l 0=l[0]'hl0:=by unfold kidT;rw[List.getElem?_eq_getElem hl0];rfl
  rw[e0]at hr;rcases hr4 with rfl|⟨b,off,rfl,hbB,hl'⟩
  ·simp at hl0
  obtain⟨A',cap',c0,c1,c2,c3,c5⟩:=RepL.get hl' 0 hl0;rw[Nat.zero_mul,Nat.add_zero]at c0;clear c1 c2 c3 c5 N3 hN h0 hl';obtain⟨x,hx⟩:∃x,x=l[0].kind:=⟨_,rfl⟩;rw[←hx]at c0 hr;clear hx;have hr:r=(x==2):=by rw[hr,Bool.eq_iff_iff,decide_eq_true_iff,beq_iff_eq]
  subst hr;go_enter Tryz.func80,Tryz.ntmps80
  go_wp2_with fail
  go_ret
  rw[←HV.out];exact⟨rfl,HBV.out⟩
 | false=>
  have hN:tn≠nNew:=fun h=>by have:=N3.out.1 h;cases this
  rw[if_neg hN]at hr;clear hN N3 h0;have HR:=hdzz hr;clear hr;go_enter Tryz.func80,Tryz.ntmps80
  go_wp2_with fail
  rw[←HV.out];clear HV;go_wp2_with fail
  clear r0 r1 r2 r3 rf;go_loopw [3] (fun i wr=>∃k:Nat,k≤l.length∧i=.int .i64 k∧Hid (Below V.heap.size V wr)∧Hid ((l.take k).any noAg=false)) (fun i _=>l.length - (intOf i).toNat)
  case atStart=>exact⟨0,Nat.zero_le _,rfl,Below.refl _ _,by rw[List.take_zero];exact rfl⟩
  case round=>
   obtain⟨k,hk,rfl,HB,HA⟩:=hrel;have i1:(0:Int)≤(k:Int):=Int.natCast_nonneg _;have hsr:=HB.out.size;have HBR:=hdzz (HBV.out.trans (HB.out.mono (by omega)));obtain⟨r0,r1,r2,r3,rf⟩:=qaa ((HB.out.block _ (by omega)).trans HBX.out);by_cases hlt:k<l.length
   ·have i2:(k:Int)<(l.length:Int):=by omega
    rcases hr4 with rfl|⟨b,off,rfl,hbB,hl'⟩
    ·simp at hlt
    obtain⟨A',cap',h0,h1,h2,h3,h5⟩:=(hl'.below HBR.out hbB).get k hlt;have hat:=qmk hlt HA.out;have hna:=noAg_eq l[k];clear h5 hl';obtain⟨x,hx⟩:∃x,x=l[k]:=⟨_,rfl⟩;rw[←hx]at h0 h1 h2 h3 hat hna;clear hx;have HAT:=hdzz hat;clear hat;generalize hp1:(x.kind==3)=p1 at hna;generalize hp2:(x.sort != 1)=p2 at hna;have hp2':(x.sort==1) = !p2:=by rw[←hp2];unfold bne;rw[Bool.not_not]
    have HNA:=hdzz hna;clear hna
    cases p1 with
    | true=>
     have hr:r=false:=by rw[HR.out,HAT.out.1 HNA.out];rfl
     subst hr;go_wp2_with fail
     go_ret
     exact⟨rfl,HBR.out⟩
    | false=>
     cases p2 with
     | true=>
      have hr:r=false:=by rw[HR.out,HAT.out.1 HNA.out];rfl
      subst hr;go_wp2_with fail
      go_ret
      exact⟨rfl,HBR.out⟩
     | false=>
      go_wp2_with fail
      go_roundw
      case rel=>exact⟨k+1,by omega,by go_num,HB.out,HAT.out.2 HNA.out⟩
      case measure=>simp[intOf];omega
   ·obtain rfl:k=l.length:=by omega
    have hr:r=true:=by
     have ha:=HA.out;rw[List.take_length]at ha;rw[HR.out,ha];rfl
    subst hr;go_wp2_with fail
    go_ret
    exact⟨rfl,HBR.out⟩
end Go.Proofs.YtjhjoiplpmjepaaGreat
