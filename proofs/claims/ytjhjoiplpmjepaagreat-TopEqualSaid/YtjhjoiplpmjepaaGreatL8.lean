/- Texp1, Tput2, Tnf, Texp0, Tbend, Tfine (joined by shake.py). -/
import Derived.Test.YtjhjoiplpmjepaaGreatL0
import Derived.Test.YtjhjoiplpmjepaaGreatL4
import Derived.Test.YtjhjoiplpmjepaaGreatL5
import Derived.Test.YtjhjoiplpmjepaaGreatL6
import Derived.Test.YtjhjoiplpmjepaaGreatL7
set_option maxRecDepth 100000
set_option linter.unusedVariables false
set_option linter.unusedSimpArgs false
set_option maxHeartbeats 8000000
namespace Go.Proofs.YtjhjoiplpmjepaaGreat
open Go.RowKit Go.Sort
theorem rowT_copy {w:World} {base:Nat} {F:Nat→Prop} {v:Value} (hrow:RowT w base F v []) (hF:∀b,F b→b<base) (hbase:base≤w.heap.size) (a:Addr) (c m:Nat) (news:List It) (hm:m=news.length)
  (hc:∀j u,(itCells news)[j]?=some u→w.cell? (a.add j)=some u) (hN:∀x∈news,RepP w F x.1 x.2.1 x.2.2) (hlen:m≤100000000) (hne:v≠.slice none 0 0) :
  ∃g c' w',(∀ty,(Builtin.append_ #[22,22] ty #[v,.slice (some a) m c]).run Tryz.prog w=.ok (.slice (some ⟨g,0,none⟩) m c') w')∧
   RowT w' base F (.slice (some ⟨g,0,none⟩) m c') news∧w.grownBy w' v.ownBlock:=by
 subst hm;obtain⟨i0,hi0,hz0,hz1,hz2⟩:=info_parts qcv;obtain⟨v',w',hr,ho,hg,hnil⟩:=run_append_own (P:=Tryz.prog) w base 22 0 24 i0 _ 4 56 Tryz.underlying22 hi0 hz0 hz1 hz2 rfl (by omega) v 0 [] hrow.own a news.length c (itCells news)
  (qb2 news) hc (qb8 news) (by unfold maxLen;omega) (by omega) hbase
 rw[Nat.zero_add,List.nil_append]at ho;have hrow':RowT w' base F v' news:=by
  refine⟨ho,fun x hx=>?_⟩;refine RepP.mono ?_ ?_ _ _ _ (hN x hx)
  ·intro k h1;have hk:=hF k h1;refine⟨h1,by have:=hg.size;omega,fun e=>?_⟩;have:=(ho.lt k e).1;omega
  ·intro p h1;have hk:=hF p.block h1;exact World.cell?_of_block (hg.block p.block (by omega) (fun e=>by have:=(hrow.own.lt _ e.symm).1;omega))
 rcases ho.2 with⟨rfl,h0⟩|⟨g,c',cur,rfl,_⟩
 ·exact absurd (hnil.1 rfl).1 hne
 ·exact⟨g,c',w',fun ty=>hr,hrow',hg⟩
def TClone (P:Nat→Prop) (l:List Tm) (w:World) (e:Ending) (w':World):Prop:=
 Below w.heap.size w w'∧∃(A:Option Addr) (c:Nat) (its:List It),e=.returned (.slice A l.length c)∧its.map (·.1)=l∧RowT w' w.heap.size P (.slice A l.length c) its
theorem qms (P:Nat→Prop) (l:List Tm) (A:Option Addr) (cap:Nat) (w:World) (hP:∀b,P b→b<w.heap.size) (hlen:l.length≤1000000) (hrep:RepS w P l A cap) :
  Calls Tryz.prog 82 #[.slice A l.length cap] w (TClone P l w):=by
 cases A with
 | none=>
  obtain rfl:l=[]:=by
   rcases hrep.2.2 with h|⟨b,off,h,_⟩
   ·exact h
   ·cases h
  have q22:∀(w:World) (n c n' c':Nat),(binOp .eql 22 (.slice none n c) (.slice none n' c')).run Tryz.prog w=.ok (.bool true) w:=fun w n c n' c'=>Lib.run_eql_slice_nil w _ _ none n c n' c' Tryz.underlying22;go_enter Tryz.func82,Tryz.ntmps82
  go_wp2_with fail
  go_ret
  exact⟨Below.refl _ _,none,0,[],rfl,rfl,RowT.nil _ _ _⟩
 | some a=>
  have q22:∀(w:World) (n c n' c':Nat),(binOp .eql 22 (.slice (some a) n c) (.slice none n' c')).run Tryz.prog w=.ok (.bool false) w:=fun w n c n' c'=>Lib.run_eql_slice_nil w _ _ (some a) n c n' c' Tryz.underlying22;obtain⟨V,hV⟩:∃V,V=w.alloc (.cells #[] 24):=⟨_,rfl⟩;have hbV:Below w.heap.size w V:=by rw[hV];exact qad (Nat.le_refl _) _
  have hrow:RowT V w.heap.size P (.slice (some ⟨w.heap.size,0,none⟩) 0 0) []:=by
   rw[hV];exact⟨World.ownsRow_made w #[] 0 (Nat.le_refl _) (by unfold maxLen;omega) rfl,by simp⟩
  obtain⟨its,hits,hc,hN⟩:∃its:List It,its.map (·.1)=l∧(∀j u,(itCells its)[j]?=some u→V.cell? (a.add j)=some u)∧(∀x∈its,RepP V P x.1 x.2.1 x.2.2):=by
   rcases hrep.2.2 with rfl|⟨b,off,h,hbb,hl⟩
   ·exact⟨[],rfl,by simp[itCells],by simp⟩
   ·injection h with h;subst h;obtain⟨its,h1,h2,h3⟩:=RepLP.its (w:=V) (P:=P) l b off (RepLP.mono (w':=V) (fun _ h=>h) (fun p hp=>hbV.cell (hP _ hp)) _ _ _ hbb hl);refine⟨its,h1,fun j u hj=>?_,h3⟩;have:=h2 j u hj;unfold Addr.add;split
    ·rename_i h;rw[h,Nat.add_zero]at this;exact this
    ·exact this
  have hil:its.length=l.length:=by rw[←hits];simp
  obtain⟨g,c',w',hr,hrow',hg⟩:=rowT_copy hrow hP hbV.size a cap l.length its hil.symm hc hN (by omega) (by simp);have hV2:=hV;have HV:=hdzz hV;clear hV;rw[hV2]at hr;have hb2:Below w.heap.size w w':=⟨hg.os.trans hbV.os,hg.tape.trans hbV.tape,hg.output.trans hbV.output,Nat.le_trans hbV.size hg.size,fun b hb=>(hg.block b (by have:=hbV.size;omega) (fun e=>by have e':=Option.some.inj e;simp only at e';omega)).trans (hbV.block b hb)⟩;have HRO:=hdzz hrow';clear hrow' hrow hc hN hg hV2 hbV;have HB:=hdzz hb2;clear hb2;have HM:=hdzz hits;clear hits hil hrep;go_enter Tryz.func82,Tryz.ntmps82
  go_wp2_with (at_builtin;refine qab rfl _ _ rfl rfl rfl hr ?_)
  go_ret
  exact⟨HB.out,_,_,its,rfl,HM.out,HRO.out⟩
def Copied (t:Tm) (w:World) (e:Ending) (w':World):Prop:=
 ∃A c,e=.returned (t.val A c)∧RepP w' (fun b=>w.heap.size≤b∧b<w'.heap.size) t A c∧Below w.heap.size w w'
structure ClRel (w:World) (P:Nat→Prop) (tk:Int) (tn:ByteArray) (ts:Int) (l:List Tm) (A1:Option Addr) (c1:Nat) (k:Nat) (its:List It) (wr:World):Prop where
 eq:its.map (·.1)=l
 b1:wr.heap[w.heap.size]?=some (.cells #[.int .i64 tk,.string tn,.int .i64 ts,.slice A1 l.length c1] 24 (0,0))
 b2:wr.heap[w.heap.size+1]?=some (.cells #[.int .i64 0,.string ⟨#[]⟩,.int .i64 0,.slice none 0 0] 24 (0,0))
 row:RowT wr (w.heap.size+2) (fun b=>P b∨w.heap.size+2≤b) (.slice A1 l.length c1) its
 bel:Below w.heap.size w wr
 new:∀j (h:j<its.length),j<k→RepP wr (fun b=>w.heap.size+2≤b∧b<wr.heap.size∧(Value.slice A1 l.length c1).ownBlock≠some b) its[j].1 its[j].2.1 its[j].2.2
attribute [local irreducible] qax
theorem qe7 (n:Nat):∀(t:Tm) (A:Option Addr) (cap:Nat) (w:World) (P:Nat→Prop),t.size≤n→n≤1000000→(∀b,P b→b<w.heap.size)→RepP w P t A cap→
  Calls Tryz.prog 136 #[t.val A cap] w (Copied t w):=by
 have mixed:=mixz
 induction n with
 | zero=>intro t _ _ _ _ h;have:=t.size_pos;omega
 | succ n ih=>
  intro t A cap w P hn hb hP hrep;obtain⟨tk,tn,ts,l⟩:=t;rw[Tm.size]at hn;rw[RepP_mk]at hrep;obtain⟨hr1,hrS⟩:=hrep;have hls:=Tm.length_le_sizes l;unfold maxLen at hr1;obtain⟨V,hV⟩:∃V,V=(w.alloc (.cells #[.int .i64 tk,.string tn,.int .i64 ts,.slice A l.length cap] 24)).alloc (.cells #[.int .i64 0,.string ⟨#[]⟩,.int .i64 0,.slice none 0 0] 24):=⟨_,rfl⟩;have hbV:Below w.heap.size w V:=by rw[hV];exact((Below.refl _ _).alloc (Nat.le_refl _) _).alloc (by simp) _
  have hsV:V.heap.size=w.heap.size+2:=by rw[hV];simp
  have hx1:V.heap[w.heap.size]?=some (.cells #[.int .i64 tk,.string tn,.int .i64 ts,.slice A l.length cap] 24 (0,0)):=by
   rw[hV,Below.heap_alloc _ _ _ (by simp)];exact heap_alloc_new _ _
  have hx2:V.heap[w.heap.size+1]?=some (.cells #[.int .i64 0,.string ⟨#[]⟩,.int .i64 0,.slice none 0 0] 24 (0,0)):=by
   have h:=heap_alloc_new (w.alloc (.cells #[.int .i64 tk,.string tn,.int .i64 ts,.slice A l.length cap] 24)) (.cells #[.int .i64 0,.string ⟨#[]⟩,.int .i64 0,.slice none 0 0] 24);rw[World.size_alloc]at h;rw[hV];exact h
  have CL:=hdzz (qms P l A cap V (fun b h=>by have:=hP b h;omega) (by omega) (RepS.mono (fun _ h=>h) (fun p h=>hbV.cell (hP _ h)) hrS));have HP:=hdzz hP;clear hP hrS;obtain⟨r0,r1,r2,r3,rf⟩:=qaa hx1;have HX1:=hdzz hx1;clear hx1;have HX2:=hdzz hx2;clear hx2;have HBV:=hdzz hbV;clear hbV;have HV:=hdzz hV;clear hV;have IH:=hdzz ih;clear ih;simp only[Tm.val,Tm.kind,Tm.name,Tm.sort,Tm.kids];go_enter Tryz.func136,Tryz.ntmps136
  go_wp2_with fail
  rw[←HV.out];clear HV;go_wp2_with fail
  refine CL.out.mono ?_;clear CL;rintro e w1 ⟨hb1,A1,c1,its,rfl,hm,hrow⟩;have hs1:=hb1.size;have hx1:=(hb1.block _ (by omega)).trans HX1.out;have hx2:=(hb1.block _ (by omega)).trans HX2.out;have HB1:=hdzz (HBV.out.trans (hb1.mono (by omega)));clear hb1 HX1 HX2 HBV r0 r1 r2 r3 rf;obtain⟨r0,r1,r2,r3,rf⟩:=qaa hx1;obtain⟨W2,hW2⟩:∃W2,W2=w1.setCell ⟨w.heap.size,3,none⟩ (.slice A1 l.length c1):=⟨_,rfl⟩;have hsW:W2.heap.size=w1.heap.size:=by rw[hW2];simp[World.setCell]
  have hy1:W2.heap[w.heap.size]?=some (.cells #[.int .i64 tk,.string tn,.int .i64 ts,.slice A1 l.length c1] 24 (0,0)):=by rw[hW2];exact qd6 hx1
  have hy2:W2.heap[w.heap.size+1]?=some (.cells #[.int .i64 0,.string ⟨#[]⟩,.int .i64 0,.slice none 0 0] 24 (0,0)):=by rw[hW2,Below.heap_setCell _ _ _ _ (by simp)];exact hx2
  have hbW:Below w.heap.size w W2:=by rw[hW2];exact HB1.out.setCell (Nat.le_refl _) _
  have hrW:RowT W2 (w.heap.size+2) (fun b=>P b∨w.heap.size+2≤b) (.slice A1 l.length c1) its:=by
   rw[hW2];have h:=hrow.setCell (p:=⟨w.heap.size,3,none⟩) (fun h=>by have:=HP.out _ h;simp at this) (by simp;omega) (.slice A1 l.length c1);rw[hsV]at h;exact h.loosen (Nat.le_refl _) (fun b h=>Or.inl h)
  have HW:=hdzz hW2;clear hW2;clear hx1 hx2 hrow HB1;go_wp2_with fail
  rw[←HW.out];clear HW r0 r1 r2 r3 rf;obtain⟨r0,r1,r2,r3,rf⟩:=qaa hy1;go_wp2_with fail
  go_loopw [12] (fun i wr=>∃(k:Nat) (jts:List It),k≤l.length∧i=.int .i64 k∧Hid (ClRel w P tk tn ts l A1 c1 k jts wr)) (fun i _=>l.length - (intOf i).toNat)
  case atStart=>exact⟨0,its,Nat.zero_le _,rfl,⟨hm,hy1,hy2,hrW,hbW,fun j _ h=>absurd h (Nat.not_lt_zero j)⟩⟩
  case round=>
   clear r0 r1 r2 r3 rf hy1 hy2 hrW hbW hm its;obtain⟨k,jts,hk,rfl,HR⟩:=hrel;obtain⟨hm,hy1,hy2,hrow,hbel,hnew⟩:=HR.out;have i1:(0:Int)≤(k:Int):=Int.natCast_nonneg _;have hsr:w.heap.size+2≤wr.heap.size:=by have:=(sltz hy2);omega
   obtain⟨r0,r1,r2,r3,rf⟩:=qaa hy1;by_cases hlt:k<l.length
   ·have i2:(k:Int)<(l.length:Int):=by omega
    have hjl:jts.length=l.length:=by rw[←hm];simp
    obtain⟨g,rfl⟩:∃g,A1=some ⟨g,0,none⟩:=by
     rcases hrow.own.2 with⟨-,h0⟩|⟨g,cap',cur,hv,-⟩
     ·omega
     ·injection hv with h1;exact⟨g,h1⟩
    have hgb:=hrow.lt g rfl;obtain⟨h0,h1,h2,h3,hz⟩:=hrow.slot hjl.symm k (by omega);have hx:=hrow.reps _ (List.getElem_mem (show k<jts.length by omega));have hjk:(jts[k]'(by omega)).1=l[k]:=by
     have:=congrArg (fun z=>z[k]?) hm;simp only[List.getElem?_map]at this;rw[List.getElem?_eq_getElem hlt,List.getElem?_eq_getElem (by omega)]at this;simpa using this
    have hsg:=Tm.sizes_get l k hlt;obtain⟨A',c',hAc⟩:∃A' c',(jts[k]'(by omega)).2=(A',c'):=⟨_,_,rfl⟩;rw[hjk,hAc]at h3 hx;rw[hjk]at h0 h1 h2;dsimp only at h3 hx;obtain⟨x,hxl⟩:∃x,x=l[k]:=⟨_,rfl⟩;rw[←hxl]at h0 h1 h2 h3 hx hsg;have hset:(jts.set k (x,A',c')).map (·.1)=l:=by
     rw[List.map_set,hm,hxl];exact List.set_getElem_self _
    have HSET:Hid (∀A5 c5,(jts.set k (x,A5,c5)).map (·.1)=l):=hdzz fun A5 c5=>by
     rw[List.map_set,hm,hxl];exact List.set_getElem_self _
    clear hxl hset hAc hjk;obtain⟨X,hX⟩:∃X,X=wr.alloc (.cells #[.int .i64 x.kind,.string x.name,.int .i64 x.sort,.slice A' x.kids.length c'] 24):=⟨_,rfl⟩;have hbX:Below wr.heap.size wr X.drew:=by rw[hX];exact(qad (Nat.le_refl _) _).drew
    have hsX:X.drew.heap.size=wr.heap.size+1:=by rw[hX];simp
    have hxX:X.drew.heap[wr.heap.size]?=some (.cells #[.int .i64 x.kind,.string x.name,.int .i64 x.sort,.slice A' x.kids.length c'] 24 (0,0)):=by
     rw[hX];exact heap_alloc_new wr _
    have HX:=hdzz hX;clear hX;go_wp2_with fail
    rw[←HX.out];refine qaf (fun Y=>Below X.drew.heap.size X.drew Y) (fun _=>True) [6] (.held 0 (.held 1 (.held 2 (.held 3 (.op 4 (.op 5 (.op 6 .nil))))))) mixed (by kernel_rfl) ?_;clear HX;generalize X.drew=D at *;have CON:=IH.out x A' c' D _ (by omega) (by omega) (fun b h=>by have:=h.2.1;omega) (RepP.mono (fun _ h=>h) (fun p h=>hbX.cell h.2.1) _ _ _ hx);have s3:=sclz hbX r3 (by omega);obtain⟨x0,x1,x2,x3,xf⟩:=qaa hxX;have g0:=sclz hbX h0 (by omega);have g1:=sclz hbX h1 (by omega);have g2:=sclz hbX h2 (by omega);have g3:=sclz hbX h3 (by omega);have gz:=fun o=>(hbX.frozen (p:=⟨g,o,none⟩) (by show g<_;omega)).trans (hz o);have hrowD:=hdzz (hrow.below hbX);have HBX:=hdzz hbX;have HXX:=hdzz hx;clear h0 h1 h2 h3 hz r0 r1 r2 r3 rf hbX hx hrow hy1 hy2 hm xf;simp only[Tm.val]at CON;have CON:=hdzz CON
    refine qci (v:=.pointer (some ⟨w.heap.size,3,none⟩)) rfl rfl rfl (fun _ _ _ h=>h) (Below.refl _ _) trivial (fun Y hY _=>by
     (try simp only[Act.put]);go_simp) ?_
    refine qci (v:=.slice (some ⟨g,0,none⟩) l.length c1) rfl rfl rfl (fun _ _ _ h=>h) (Below.refl _ _) trivial (fun Y hY _=>by
     have z0:=sclz hY s3 (by omega)
     (try simp only[Act.put]);go_simp) ?_
    refine qci (v:=.int .i64 k) rfl rfl rfl (fun _ _ _ h=>h) (Below.refl _ _) trivial (fun Y hY _=>by
     (try simp only[Act.put]);go_simp) ?_
    refine qci (v:=.agg #[.int .i64 x.kind,.string x.name,.int .i64 x.sort,.slice A' x.kids.length c']) rfl rfl rfl (fun _ _ _ h=>h) (Below.refl _ _) trivial (fun Y hY _=>by
     have z0:=sclz hY x0 (by omega);have z1:=sclz hY x1 (by omega);have z2:=sclz hY x2 (by omega);have z3:=sclz hY x3 (by omega)
     (try simp only[Act.put]);go_simp) ?_
    simp only[Act.put,List.setIfInBounds_toArray];refine qae rfl rfl (fun K hK=>?_);go_wp2_with fail
    refine CON.out.mono ?_;clear CON x0 x1 x2 x3 s3;rintro e w5 ⟨A5,c5,rfl,hrep5,hb5⟩;refine hK _ _ ⟨⟨fun _=>hb5,trivial⟩,?_⟩;clear hK K;have hs5:=hb5.size;have k0:=sclz hb5 g0 (by omega);have k1:=sclz hb5 g1 (by omega);have k2:=sclz hb5 g2 (by omega);have k3:=sclz hb5 g3 (by omega);have kz:=fun o=>(hb5.frozen (p:=⟨g,o,none⟩) (by show g<_;omega)).trans (gz o);clear g0 g1 g2 g3 gz;have HB5:=hdzz (HBX.out.trans (hb5.mono (by omega)));have HRW:=hdzz ((hrowD.out.below hb5).set hjl.symm k (by omega) (x,A5,c5) (RepP.mono (fun b h=>by
     obtain⟨h1,h2⟩:=h;exact⟨Or.inr (by omega),h2,by omega⟩) (fun _ _=>rfl) _ _ _ hrep5))
    have HD5:=hdzz hb5;have HREP5:=hdzz hrep5;have HNEW:=hdzz hnew;clear hnew;clear hrep5 hb5 hrowD HBX HXX;simp only[Tm.val];refine qae rfl rfl (fun K hK=>?_);go_wp2_with fail
    refine⟨⟨fun _=>HD5.out.mono (by omega),trivial⟩,?_⟩;refine qae rfl rfl (fun K hK=>?_);go_wp2_with fail
    refine⟨⟨fun h=>absurd h (by decide),trivial⟩,qar ?_⟩;go_wp2_with fail
    go_roundw
    case rel=>
     have hb5:=HB5.out;refine⟨k+1,jts.set k (x,A5,c5),by omega,by go_num,⟨HSET.out A5 c5,?_,?_,HRW.out,?_,fun j hj hjk=>?_⟩⟩
     ·iterate 4 rw[Below.heap_setCell _ _ _ _ (by show _≠g;omega)]
      exact(hb5.block _ (by omega)).trans HR.out.b1
     ·iterate 4 rw[Below.heap_setCell _ _ _ _ (by show _≠g;omega)]
      exact(hb5.block _ (by omega)).trans HR.out.b2
     ·iterate 4 refine Below.setCell ?_ (by show _≤g;omega) _
      exact HR.out.bel.trans (hb5.mono (by omega))
     ·have hcl:∀(p:Addr),p.block≠g→((((w5.setCell ⟨g,k*4,none⟩ (.int .i64 x.kind)).setCell ⟨g,k*4+1,none⟩ (.string x.name)).setCell ⟨g,k*4+2,none⟩ (.int .i64 x.sort)).setCell ⟨g,k*4+3,none⟩ (.slice A5 x.kids.length c5)).cell? p=w5.cell? p:=fun p hp=>by
       have hne:∀o,(⟨g,o,none⟩:Addr)≠p:=fun o e=>hp (by rw[←e]);rw[World.cell?_setCell_other _ _ _ _ (hne _),World.cell?_setCell_other _ _ _ _ (hne _),World.cell?_setCell_other _ _ _ _ (hne _),World.cell?_setCell_other _ _ _ _ (hne _)]
      by_cases hjk2:j=k
      ·subst hjk2;rw[List.getElem_set_self];refine RepP.mono (fun b h=>⟨by omega,by simpa[World.setCell]using h.2,fun e=>?_⟩) (fun p h=>hcl p (by omega)) _ _ _ HREP5.out;have e:g=b:=Option.some.inj e;omega
      ·rw[List.getElem_set_ne (Ne.symm hjk2)];have hjl2:j<jts.length:=by simpa using hj
       refine RepP.mono (fun b h=>⟨h.1,by have:=h.2.1;simp[World.setCell];omega,h.2.2⟩) (fun p h=>(hcl p (fun e=>h.2.2 (by rw[e];rfl))).trans (hb5.cell h.2.1)) _ _ _ (HNEW.out j hjl2 (by omega))
    case measure=>simp[intOf];omega
   ·obtain rfl:k=l.length:=by omega
    obtain⟨b0,b1,b2,b3,bf⟩:=qaa hy2;have hjl:jts.length=l.length:=by rw[←hm];simp
    have hrow2:RowT wr (w.heap.size+2) (fun b=>w.heap.size+2≤b) (.slice A1 l.length c1) jts:=⟨hrow.own,fun x hx=>by
     obtain⟨j,hj,rfl⟩:=List.getElem_of_mem hx;exact hnew j hj (by omega)⟩
    obtain⟨Av,cv,hv,hS⟩:=hrow2.toS (P:=fun b=>w.heap.size+2≤b∧b<wr.heap.size) (fun b h h'=>⟨h,h'⟩) (fun b h h'=>⟨h,h'⟩);injection hv with e1 e2 e3;subst e1 e3;rw[hm]at hS;have HS:=hdzz hS;clear hS hrow hrow2 hnew hjl hy1 hy2 e2;go_wp2_with fail
    refine bodyPost_ret (v:=.agg #[.int .i64 tk,.string tn,.int .i64 ts,.slice A1 l.length c1]) ?_ rfl ?_
    ·simp[results,Tryz.results136,go_sem,b0,b1,b2,b3]
    refine⟨A1,c1,rfl,?_,?_⟩
    ·rw[RepP_mk];refine⟨by unfold maxLen;omega,RepS.mono (w:=wr) (fun b h=>⟨by omega,by simpa[World.setCell]using h.2⟩) (fun p hp=>?_) HS.out⟩;have hne:∀o,(⟨w.heap.size+1,o,none⟩:Addr)≠p:=fun o e=>by
      rw[←e]at hp;obtain⟨h,-⟩:=hp;simp at h
     rw[World.cell?_setCell_other _ _ _ _ (hne _),World.cell?_setCell_other _ _ _ _ (hne _),World.cell?_setCell_other _ _ _ _ (hne _),World.cell?_setCell_other _ _ _ _ (hne _)]
    ·iterate 4 refine Below.setCell ?_ (by simp) _
     exact hbel
theorem RowW.grew {w w':World} {base:Nat} {F:Nat→Prop} {v v':Value} {jts:List IW} (ho:w'.ownsRow base 163 5 v' jts.length (wCells jts)) (hg:GrewV base w w' v v')
  (hj:∀x∈jts,RepP w (fun b=>F b∧b<w.heap.size∧v.ownBlock≠some b) x.1.1 x.1.2.1 x.1.2.2):RowW w' base F v' jts:=by
 refine⟨ho,fun x hx=>RepP.mono ?_ ?_ _ _ _ (hj x hx)⟩
 ·rintro b ⟨h1,h2,h3⟩;refine⟨h1,Nat.lt_of_lt_of_le h2 hg.size,fun e=>?_⟩;rcases hg.own with h|h
  ·rw[h]at e;exact h3 e
  ·have:=h b e;omega
 ·rintro p ⟨h1,h2,h3⟩;exact World.cell?_of_block (hg.old p.block h2 h3)
theorem qmo (its:List IW) (i:Nat) (X:IW):(wCells its).take (i*5)++(wCells [X]++(wCells its).drop (i*5))=wCells (its.take i++X::its.drop i):=by
 rw[qff,qfg,←qcu,←qcu];rfl
theorem wCells_del (its:List IW) (i:Nat):(wCells its).take (i*5)++(wCells its).drop ((i+1)*5)=wCells (its.eraseIdx i):=by
 rw[qff,qfg,←qcu,List.eraseIdx_eq_take_drop_succ]
def Inst (base:Nat) (l:List Pw) (w:World) (e:Ending) (w':World):Prop:=
 ∃v' jts,e=.returned v'∧RowW w' base (fun b=>base≤b) v' jts∧jts.map IW.pw=l∧Below base w w'
theorem qh1 (w:World) (base:Nat) (v:Value) (its:List IW) (t:Tm) (n:Int) (A:Option Addr) (c:Nat) (hrow:RowW w base (fun b=>base≤b) v its) (hbase:base≤w.heap.size) (hg:qbj (its.map IW.pw)) (hlen:its.length≤50000)
  (hsz:∀x∈its,x.1.1.size≤1000000) (hm:∀x∈its,-1000000000≤x.2∧x.2≤1000000000) (hn:-1000000000≤n∧n≤1000000000) (ht:t.size≤1000000) (hrep:RepP w (fun b=>b<w.heap.size∧v.ownBlock≠some b) t A c) :
  Calls Tryz.prog 169 #[v,pval t A c n] w (Inst base (insP t n (its.map IW.pw)) w):=by
 have mixed:=mixz;obtain⟨V,hV⟩:∃V,V=w.alloc (.cells #[.int .i64 t.kind,.string t.name,.int .i64 t.sort,.slice A t.kids.length c,.int .i64 n] 163):=⟨_,rfl⟩;have hbV:Below w.heap.size w V:=by rw[hV];exact qad (Nat.le_refl _) _
 have hsV:V.heap.size=w.heap.size+1:=by rw[hV];simp
 have hbx:V.heap[w.heap.size]?=some (.cells #[.int .i64 t.kind,.string t.name,.int .i64 t.sort,.slice A t.kids.length c,.int .i64 n] 163 (0,0)):=by rw[hV];exact heap_alloc_new _ _
 have hrV:=hrow.below hbV;have htV:RepP V (fun b=>b<w.heap.size∧v.ownBlock≠some b) t A c:=RepP.mono (fun _ h=>h) (fun p h=>hbV.cell h.1) _ _ _ hrep;have hvo:v.ownBlock≠some w.heap.size:=fun e=>by have:=(hrow.lt _ e).2;omega
 obtain⟨l,hl⟩:∃l,l=its.map IW.pw:=⟨_,rfl⟩;have hll:l.length=its.length:=by rw[hl];simp
 rw[←hl]at hg ⊢;obtain⟨Av,cv,hv,hW⟩:=hrV.toW (P:=fun b=>b<V.heap.size) (fun b _ h=>h) (fun b h=>(hrV.lt b h).2);rw[←hl]at hW;have BS:=ql2 l Av cv t A c V hg (by omega) (fun p hp=>by rw[hl]at hp;obtain⟨x,hx,rfl⟩:=List.mem_map.1 hp;exact hsz x hx) ht hW (RepP.mono (fun b h=>by omega) (fun _ _=>rfl) _ _ _ htV);rw[hll]at BS;simp only[Tm.val]at BS;have HBS:=hdzz BS;have HV:=hdzz hV;have HBX:=hdzz hbx;have HBV:=hdzz hbV;have HRV:=hdzz hrV;have HTV:=hdzz htV;have HL:=hdzz hl;have HLL:=hdzz hll;have HG:=hdzz hg;have HSZ:=hdzz hsz;have HM:=hdzz hm;obtain⟨r0,r1,r2,r3,r4,rf⟩:=qcd hbx;clear hV hbx hbV hrV htV hl hll hg hsz hm hrow hrep hW BS;obtain⟨k,hk⟩:∃k,k=its.length:=⟨_,rfl⟩;rw[←hk]at hv hlen HBS;have HK:=hdzz hk;clear hk;subst hv;simp only[pval]
 obtain⟨res,hres⟩:∃r,r=insP t n l:=⟨_,rfl⟩;rw[←hres];have HR0:=hdzz hres;clear hres;go_enter Tryz.func169,Tryz.ntmps169
 go_wp2_with fail
 rw[←HV.out];clear HV;go_wp2_with fail
 refine HBS.out.mono ?_;clear HBS;rintro e w1 ⟨i,rfl,hi,hlo,hhi,hb1⟩;have hs1:=hb1.size;have hrow1:=HRV.out.below hb1;have hx1:=(hb1.block _ (by omega)).trans HBX.out;have HB1:=hdzz (HBV.out.trans (hb1.mono (by omega)));have ht1:RepP w1 (fun b=>b<w.heap.size∧(Value.slice Av k cv).ownBlock≠some b) t A c:=RepP.mono (fun _ h=>h) (fun p h=>hb1.cell (by omega)) _ _ _ HTV.out;clear r0 r1 r2 r3 r4 rf HBX HRV HTV HBV hb1;obtain⟨r0,r1,r2,r3,r4,rf⟩:=qcd hx1;have HX1:=hdzz hx1;clear hx1;have hins:insP t n l=qni l t n i:=insP_at t n l i hi hlo (fun h=>Int.not_lt.2 (hhi i h (Nat.le_refl _)));clear hlo hhi;have hr0:=HR0.out.trans hins;unfold qni at hr0;clear hins HR0;have hik:i≤k:=by have:=HLL.out;have:=HK.out;omega
 by_cases hf:∃h:i<l.length,l[i].1.same t=true
 ·-- found
  obtain⟨hil,hsame⟩:=hf;rw[dif_pos hil,if_pos (show l[i].1.cmp t=0 from by unfold Tm.same at hsame;exact of_decide_eq_true hsame)]at hr0;rw[dif_pos hil,hsame];have hit:i<its.length:=by have:=HLL.out;omega
  have hik2:i<k:=by have:=HK.out;omega
  obtain⟨g,cap,hv,hbg,hgl,-⟩:=hrow1.head (by omega);injection hv with e1 e2 e3;subst e1 e3;clear e2;have hsl:=hrow1.slot i hit;have hset:=hrow1.setN HK.out i hit (its[i].2+n);have hmi:=HM.out its[i] (List.getElem_mem hit);have hli:l[i]=its[i].pw:=by have:=HL.out;subst this;simp
  rw[hli]at hr0;have hpw:(its[i].pw).1=its[i].1.1∧(its[i].pw).2=its[i].2:=⟨rfl,rfl⟩;have HER:Hid (l.eraseIdx i=((its.set i (its[i].1,its[i].2+n)).eraseIdx i).map IW.pw):=hdzz (by
   rw[HL.out,List.eraseIdx_set_eq,List.eraseIdx_eq_take_drop_succ,List.eraseIdx_eq_take_drop_succ,List.map_append,List.map_take,List.map_drop])
  have HST:Hid (l.set i (its[i].pw.1,its[i].pw.2+n)=(its.set i (its[i].1,its[i].2+n)).map IW.pw):=hdzz (by
   rw[HL.out,List.map_set];rfl)
  have hjl:(its.set i (its[i].1,its[i].2+n)).length=k:=by rw[List.length_set];exact HK.out.symm
  obtain⟨jts,hjts⟩:∃j,j=its.set i (its[i].1,its[i].2+n):=⟨_,rfl⟩;rw[←hjts]at hset HER HST hjl;have hjn:(jts[i]'(by omega)).2=its[i].2+n:=by simp[hjts]
  obtain⟨m,hm⟩:∃m,m=its[i].2:=⟨_,rfl⟩;have hr:(if its[i].pw.2+n=0 then l.eraseIdx i else l.set i (its[i].pw.1,its[i].pw.2+n))=(if m+n=0 then (jts.eraseIdx i).map IW.pw else jts.map IW.pw):=by rw[HER.out,HST.out,hm];rfl
  rw[hr]at hr0;have HR0:=hdzz hr0;clear hr0 hr HER HST hli hpw;obtain⟨-,-,-,-,s4,sf⟩:=hsl;rw[←hm]at hset s4 hmi hjn;clear hm hjts hsame;have hw:IntKind.i64.wrap (m+n)=m+n:=by rw[IntKind.wrap_i64];omega
  have hi0:(0:Int)≤(i:Int):=Int.natCast_nonneg _;have hiI:(i:Int)<(k:Int):=by omega
  have HSET:=hdzz hset;have HJN:=hdzz hjn;clear hset hjn hrow1 ht1;go_wp2_with fail
  have hgw:g≠w.heap.size:=fun e=>hvo (by rw[e];rfl);have t4:w1.drew.cell? ⟨g,i*5+4,none⟩=_:=s4;have u4:w1.drew.cell? ⟨w.heap.size,4,none⟩=_:=r4;have tf:w1.drew.frozen? ⟨g,i*5+4,none⟩=false:=sf _;have HD:Hid (RowW (w1.drew.setCell ⟨g,i*5+4,none⟩ (.int .i64 (m+n))) base (fun b=>base≤b) (.slice (some ⟨g,0,none⟩) k cv) jts):=hdzz (HSET.out.keep (by simp[World.setCell]) (fun b _ _=>rfl));have HB2:=hdzz ((HB1.out.mono hbase).drew.setCell (p:=⟨g,i*5+4,none⟩) hbg (.int .i64 (m+n)));clear HSET s4 sf r0 r1 r2 r3 r4 rf
  refine qaf (fun Y=>Y.cell? ⟨g,i*5+4,none⟩=some (.int .i64 m)∧Y.cell? ⟨w.heap.size,4,none⟩=some (.int .i64 n)∧Y.frozen? ⟨g,i*5+4,none⟩=false) (fun _=>True) [10] (.held 0 (.held 1 (.held 2 (.held 3 (.held 4 (.held 5 (.held 6 (.held 7 (.op 8 (.op 9 (.op 10 .nil))))))))))) mixed (by kernel_rfl) ?_;generalize w1.drew=D at *;refine stkz (.slice (some ⟨g,0,none⟩) k cv) rfl rfl rfl (fun _ _ _ h=>h) ⟨t4,u4,tf⟩ (fun Y hY=>by
    obtain⟨y0,y1,y2⟩:=hY
    (try simp only[Act.put]);go_simp) ?_
  refine stkz (.int .i64 i) rfl rfl rfl (fun _ _ _ h=>h) ⟨t4,u4,tf⟩ (fun Y hY=>by
    obtain⟨y0,y1,y2⟩:=hY
    (try simp only[Act.put]);go_simp) ?_
  refine stkz (.pointer (some ⟨g,i*5,none⟩)) rfl rfl rfl (fun _ _ _ h=>h) ⟨t4,u4,tf⟩ (fun Y hY=>by
    obtain⟨y0,y1,y2⟩:=hY
    (try simp only[Act.put]);go_simp) ?_
  refine stkz (.pointer (some ⟨g,i*5+4,none⟩)) rfl rfl rfl (fun _ _ _ h=>h) ⟨t4,u4,tf⟩ (fun Y hY=>by
    obtain⟨y0,y1,y2⟩:=hY
    (try simp only[Act.put]);go_simp) ?_
  refine stkz (.int .i64 m) rfl rfl rfl (fun _ _ _ h=>h) ⟨t4,u4,tf⟩ (fun Y hY=>by
    obtain⟨y0,y1,y2⟩:=hY
    (try simp only[Act.put]);go_simp) ?_
  refine stkz (.pointer (some ⟨w.heap.size,4,none⟩)) rfl rfl rfl (fun _ _ _ h=>h) ⟨t4,u4,tf⟩ (fun Y hY=>by
    obtain⟨y0,y1,y2⟩:=hY
    (try simp only[Act.put]);go_simp) ?_
  refine stkz (.int .i64 n) rfl rfl rfl (fun _ _ _ h=>h) ⟨t4,u4,tf⟩ (fun Y hY=>by
    obtain⟨y0,y1,y2⟩:=hY
    (try simp only[Act.put]);go_simp) ?_
  refine stkz (.int .i64 (m+n)) rfl rfl rfl (fun _ _ _ h=>h) ⟨t4,u4,tf⟩ (fun Y hY=>by
    obtain⟨y0,y1,y2⟩:=hY
    (try simp only[Act.put]);go_simp) ?_
  simp only[Act.put,fsa,fsb,fsc,fsd,fse,fsf];refine qae rfl rfl (fun K hK=>?_);go_wp2_with fail
  refine⟨⟨fun _=>⟨t4,u4,tf⟩,trivial⟩,?_⟩;refine qae rfl rfl (fun K hK=>?_);go_wp2_with fail
  refine⟨⟨fun _=>⟨t4,u4,tf⟩,trivial⟩,?_⟩;refine qae rfl rfl (fun K hK=>?_);go_wp2_with fail
  refine⟨⟨fun h=>absurd h (by decide),trivial⟩,qar ?_⟩;obtain⟨W2,hW2⟩:∃W,W=D.setCell ⟨g,i*5+4,none⟩ (.int .i64 (m+n)):=⟨_,rfl⟩;rw[←hW2]at HD HB2 ⊢;clear hW2 t4 u4 tf;obtain⟨-,-,-,-,s4,sf⟩:=HD.out.slot i (by omega);rw[HJN.out]at s4;have HSZ2:=hdzz HD.out;have hown:=HD.out.own;rw[hjl]at hown;have hb2s:=HB2.out.size;have HDEL:=hdzz (delW_any W2 base k i _ (wCells jts) hown (by omega) (by omega) (by omega) (qd1 jts));clear hown;by_cases hz:m+n=0
  ·rw[hz]at s4;have hr0:=HR0.out;rw[if_pos hz]at hr0;subst hr0;clear hz hw HR0;go_wp2_with fail
   refine HDEL.out.mono ?_;clear HDEL;rintro e w3 ⟨v',rfl,ho,hgr⟩;rw[wCells_del]at ho;have hel:(jts.eraseIdx i).length=k - 1:=by rw[List.length_eraseIdx_of_lt (by omega),hjl]
   rw[←hel]at ho;have hres:=RowW.grew (F:=fun b=>base≤b) ho hgr (fun x hx=>HD.out.reps x (List.mem_of_mem_eraseIdx hx));have HRES:Hid (Inst base ((jts.eraseIdx i).map IW.pw) w (.returned v') w3):=hdzz ⟨v',_,rfl,hres,rfl,(HB2.out.trans hgr.below)⟩;clear ho hgr hres hel;go_wp2_with fail
   go_ret
   exact HRES.out
  ·have hr0:=HR0.out;rw[if_neg hz]at hr0;subst hr0;clear HR0;have q:(m+n==0)=false:=by rw[beq_eq_false_iff_ne];exact hz
   have HRES:Hid (Inst base (jts.map IW.pw) w (.returned (.slice (some ⟨g,0,none⟩) k cv)) W2):=hdzz ⟨_,jts,rfl,HD.out,rfl,HB2.out⟩;clear hz;go_wp2_with fail
   go_ret
   exact HRES.out
 ·-- not found
  have hbf:(if h:i<l.length then l[i].1.same t else false)=false:=by
   split
   ·rename_i h
    rw[←Bool.not_eq_true];exact fun e=>hf ⟨h,e⟩
   ·rfl
  rw[hbf];have hr1:res=l.take i++(t,n)::l.drop i:=by
   rw[hr0]
   split
   ·rename_i h
    rw[if_neg (fun e=>hf ⟨h,by unfold Tm.same;exact decide_eq_true e⟩)]
   ·rfl
  have HR1:=hdzz hr1;clear hr0 hr1 hbf hf;go_wp2_with fail
  have hbD:Below w1.heap.size w1 w1.drew:=(Below.refl _ _).drew;have u0:w1.drew.cell? ⟨w.heap.size,0,none⟩=_:=r0;have u1:w1.drew.cell? ⟨w.heap.size,1,none⟩=_:=r1;have u2:w1.drew.cell? ⟨w.heap.size,2,none⟩=_:=r2;have u3:w1.drew.cell? ⟨w.heap.size,3,none⟩=_:=r3;have u4:w1.drew.cell? ⟨w.heap.size,4,none⟩=_:=r4;have ht1D:RepP w1.drew (fun b=>b<w.heap.size∧(Value.slice Av k cv).ownBlock≠some b) t A c:=RepP.mono (w:=w1) (w':=w1.drew) (fun _ h=>h) (fun _ _=>rfl) _ _ _ ht1;have CC:=qe7 1000000 t A c w1.drew _ ht (Nat.le_refl _) (fun b h=>by show b<w1.heap.size;have:=h.1;omega) ht1D;simp only[Tm.val]at CC;have CC:=hdzz CC;have HRD:=hdzz (hrow1.below hbD);have HBD:=hdzz (HB1.out.drew);have hsD:w1.drew.heap.size=w1.heap.size:=rfl;clear r0 r1 r2 r3 r4 rf hbD hrow1 ht1 ht1D
  refine qaf (fun Y=>∀q,q<w1.drew.heap.size→(Value.slice Av k cv).ownBlock≠some q→Y.heap[q]?=w1.drew.heap[q]?) (fun _=>True) [] (.held 0 (.held 1 (.held 2 (.held 3 (.held 5 (.held 6 (.op 4 (.held 7 (.op 8 (.op 9 (.held 10 .nil))))))))))) mixed (by kernel_rfl) ?_;generalize w1.drew=D at *;refine stkz (.slice Av k cv) rfl rfl rfl (fun _ _ _ h=>h) (fun _ _ _=>rfl) (fun Y hY=>by
    (try simp only[Act.put]);go_simp) ?_
  refine stkz (.int .i64 i) rfl rfl rfl (fun _ _ _ h=>h) (fun _ _ _=>rfl) (fun Y hY=>by
    (try simp only[Act.put]);go_simp) ?_
  refine stkz (.pointer (some ⟨w.heap.size,0,none⟩)) rfl rfl rfl (fun _ _ _ h=>h) (fun _ _ _=>rfl) (fun Y hY=>by
    (try simp only[Act.put]);go_simp) ?_
  refine stkz (.agg #[.int .i64 t.kind,.string t.name,.int .i64 t.sort,.slice A t.kids.length c]) rfl rfl rfl (fun _ _ _ h=>h) (fun _ _ _=>rfl) (fun Y hY=>by
    have z0:Y.cell? ⟨w.heap.size,0,none⟩=_:=(World.cell?_of_block (hY w.heap.size (by omega) hvo)).trans u0;have z1:Y.cell? ⟨w.heap.size,1,none⟩=_:=(World.cell?_of_block (hY w.heap.size (by omega) hvo)).trans u1;have z2:Y.cell? ⟨w.heap.size,2,none⟩=_:=(World.cell?_of_block (hY w.heap.size (by omega) hvo)).trans u2;have z3:Y.cell? ⟨w.heap.size,3,none⟩=_:=(World.cell?_of_block (hY w.heap.size (by omega) hvo)).trans u3
    (try simp only[Act.put]);go_simp) ?_
  refine stkz (.pointer (some ⟨w.heap.size,4,none⟩)) rfl rfl rfl (fun _ _ _ h=>h) (fun _ _ _=>rfl) (fun Y hY=>by
    (try simp only[Act.put]);go_simp) ?_
  refine stkz (.int .i64 n) rfl rfl rfl (fun _ _ _ h=>h) (fun _ _ _=>rfl) (fun Y hY=>by
    have z4:Y.cell? ⟨w.heap.size,4,none⟩=_:=(World.cell?_of_block (hY w.heap.size (by omega) hvo)).trans u4
    (try simp only[Act.put]);go_simp) ?_
  simp only[Act.put,fsa,fsb,fsc,fsd,fse,fsf];refine qae rfl rfl (fun K hK=>?_);go_wp2_with fail
  refine CC.out.mono ?_;clear CC u0 u1 u2 u3 u4;rintro e w5 ⟨A5,c5,rfl,hrep5,hb5⟩;have hS5:∀q,q<D.heap.size→(Value.slice Av k cv).ownBlock≠some q→w5.heap[q]?=D.heap[q]?:=fun q hq _=>hb5.block q hq;refine hK _ _ ⟨⟨fun _=>hS5,trivial⟩,?_⟩;clear hK K;have hs5:=hb5.size;obtain⟨W6,hW6⟩:∃W6,W6=w5.alloc (.cells #[.int .i64 t.kind,.string t.name,.int .i64 t.sort,.slice A5 t.kids.length c5,.int .i64 n] 163):=⟨_,rfl⟩;have hb6:Below w5.heap.size w5 W6:=by rw[hW6];exact qad (Nat.le_refl _) _
  have hs6:W6.heap.size=w5.heap.size+1:=by rw[hW6];simp
  have hx6:W6.heap[w5.heap.size]?=some (.cells (wCells [((t,A5,c5),n)]).toArray 163 (0,0)):=by rw[hW6];exact heap_alloc_new _ _
  have hrow6:=HRD.out.below (hb5.trans (hb6.mono hs5));have hown6:=hrow6.own;have hkl:=HK.out;rw[←hkl]at hown6;have IN:=insW_any W6 base k i w5.heap.size _ (wCells its) (wCells [((t,A5,c5),n)]) hown6 (by omega) (by omega) hik (qd1 its) (fun e=>by have:=(HRD.out.lt _ e).2;omega) hx6 rfl (qd1 _);have HIN:=hdzz IN;have HR6:=hdzz hrow6;have HP5:=hdzz hrep5;have HB6:=hdzz (HBD.out.trans ((hb5.mono (by omega)).trans (hb6.mono (by omega))));have HS6:Hid (∀q,q<D.heap.size→(Value.slice Av k cv).ownBlock≠some q→W6.heap[q]?=D.heap[q]?):=hdzz fun q hq hne=>(hb6.block q (by omega)).trans (hS5 q hq hne);have H56:=hdzz hb6;clear hown6 hkl IN hrow6 hrep5 hb5 hb6 hx6;simp only[Tm.val]
  refine stkz (.agg #[.int .i64 t.kind,.string t.name,.int .i64 t.sort,.slice A5 t.kids.length c5,.int .i64 n]) rfl rfl rfl (fun _ _ _ h=>h) hS5 (fun Y hY=>by
    (try simp only[Act.put]);go_simp) ?_
  simp only[Act.put,fsa,fsb,fsc,fsd,fse,fsf];clear hS5;refine qae rfl rfl (fun K hK=>?_);go_wp2_with fail
  rw[←hW6];refine⟨⟨fun _ q hq hne=>HS6.out q (by omega) hne,trivial⟩,?_⟩;clear hW6;refine qae rfl rfl (fun K hK=>?_);go_wp2_with fail
  refine HIN.out.mono ?_;clear HIN;rintro e w7 ⟨v',rfl,ho,hgr⟩;have hS7:∀q,q<D.heap.size→(Value.slice Av k cv).ownBlock≠some q→w7.heap[q]?=D.heap[q]?:=fun q hq hne=>(hgr.old q (by omega) hne).trans (HS6.out q hq hne);refine hK _ _ ⟨⟨fun _ q hq hne=>hS7 q (by omega) hne,trivial⟩,?_⟩;clear hK K;rw[qmo]at ho;have hjl:(its.take i++((t,A5,c5),n)::its.drop i).length=k+1:=by
   have:=HK.out;simp only[List.length_append,List.length_cons,List.length_take,List.length_drop];omega
  rw[←hjl]at ho;have hres:=RowW.grew (F:=fun b=>base≤b) ho hgr (fun x hx=>by
   rcases List.mem_append.1 hx with hx|hx
   ·exact HR6.out.reps x (List.mem_of_mem_take hx)
   ·rcases List.mem_cons.1 hx with rfl|hx
    ·refine RepP.mono (fun b h=>?_) (fun p h=>H56.out.cell (by omega)) _ _ _ HP5.out;obtain⟨h1,h2⟩:=h;exact⟨by omega,by omega,fun e=>by have:=(HRD.out.lt _ e).2;omega⟩
    ·exact HR6.out.reps x (List.mem_of_mem_drop hx))
  have hmap:(its.take i++((t,A5,c5),n)::its.drop i).map IW.pw=res:=by
   rw[HR1.out,HL.out,List.map_append,List.map_cons,List.map_take,List.map_drop];rfl
  have HRES:Hid (Inst base res w (.returned v') w7):=hdzz ⟨v',_,rfl,hres,hmap,(HB6.out.mono hbase).trans hgr.below⟩;clear hres hmap hjl ho hgr;refine stkz (v') rfl rfl rfl (fun _ _ _ h=>h) (fun q hq hne=>hS7 q (by omega) hne) (fun Y hY=>by
    (try simp only[Act.put]);go_simp) ?_
  refine qar ?_;clear hS7;simp only[Act.put,fsa,fsb,fsc,fsd,fse,fsf];go_wp2_with fail
  go_ret
  exact HRES.out
end Go.Proofs.YtjhjoiplpmjepaaGreat
namespace Go.Proofs.YtjhjoiplpmjepaaGreat
def qbm:ByteArray:=⟨#[112,97,105,114]⟩
def nEnc:ByteArray:=⟨#[101,110,99]⟩
def qc5:ByteArray:=⟨#[97,101,110,99]⟩
def nPk:ByteArray:=⟨#[112,107]⟩
def qbg:ByteArray:=⟨#[115,105,103,110]⟩
def nExp:ByteArray:=⟨#[101,120,112]⟩
def nFst:ByteArray:=⟨#[102,115,116]⟩
def nSnd:ByteArray:=⟨#[115,110,100]⟩
def nDec:ByteArray:=⟨#[100,101,99]⟩
def qbq:ByteArray:=⟨#[97,100,101,99]⟩
def qbp:ByteArray:=⟨#[111,112,101,110]⟩
def qc1:ByteArray:=⟨#[114,101,97,100]⟩
def Tm.isA (t:Tm) (n:ByteArray):Prop:=t.kind=3∧t.name=n
instance (t:Tm) (n:ByteArray):Decidable (t.isA n):=by unfold Tm.isA;infer_instance
def kidT (l:List Tm) (i:Nat):Tm:=(l[i]?).getD (.mk 0 .empty 0 [])
def fitD (n:ByteArray) (l:List Tm):Prop:=
 n=nFst∧(kidT l 0).isA qbm∨n=nSnd∧(kidT l 0).isA qbm
 ∨n=nDec∧(kidT l 0).isA nEnc∧kidT (kidT l 0).kids 1=kidT l 1
 ∨n=qbq∧(kidT l 0).isA qc5∧(kidT (kidT l 0).kids 1).isA nPk∧kidT (kidT (kidT l 0).kids 1).kids 0=kidT l 1
 ∨n=qbp∧(kidT l 0).isA qbg∧(kidT l 1).isA nPk∧kidT (kidT l 0).kids 1=kidT (kidT l 1).kids 0
 ∨n=qc1∧(kidT l 0).isA qbg
instance (n:ByteArray) (l:List Tm):Decidable (fitD n l):=by unfold fitD;infer_instance
def qau (n:ByteArray) (l:List Tm):Tm:=if fitD n l then kidT (kidT l 0).kids (if n=nSnd then 1 else 0)else .mk 3 n 0 l
def Tm.baseE (t:Tm):Tm:=if t.isA nExp then kidT t.kids 0 else t
def Tm.expoE (t:Tm):List (Tm×Int):=if t.isA nExp then ofT (kidT t.kids 1)else []
def mkE (b:Tm) (p:List (Tm×Int)):Tm:=if p=[]then b else .mk 3 nExp 0 [b,prodT p]
def qbc (b e:Tm):Tm:=mkE b.baseE (mulP b.expoE (ofT e))
def desN (n:ByteArray):Prop:=n=nFst∨n=nSnd∨n=nDec∨n=qbq∨n=qbp∨n=qc1
instance (n:ByteArray):Decidable (desN n):=by unfold desN;infer_instance
def symN (n:ByteArray):Prop:=n=nMul∨n=nInv∨n=nOne
instance (n:ByteArray):Decidable (symN n):=by unfold symN;infer_instance
def nodeF (n:ByteArray) (l:List Tm):Tm:=
 if desN n then qau n l else if n=nXor then xorT (Tm.sumds l [])else if symN n then prodT (ofT (.mk 3 n 0 l))else if n=nExp then qbc (kidT l 0) (kidT l 1)else .mk 3 n 0 l
mutual
def Tm.nf:Tm→Tm
 | .mk k n s l=>if k=3 then nodeF n (Tm.nfs l)else .mk k n s l
def Tm.nfs:List Tm→List Tm
 | []=>[]
 | t::r=>Tm.nf t::Tm.nfs r
end
mutual
def NF:Tm→Prop
 | .mk k n s l=>k=3→NFs l∧nodeF n l=.mk 3 n s l
def NFs:List Tm→Prop
 | []=>True
 | t::r=>NF t∧NFs r
end
theorem qeh:∀{l:List Tm},NFs l↔∀t∈l,NF t
 | []=>by rw[NFs];simp
 | t::r=>by rw[NFs,qeh (l:=r)];simp
theorem qc0:∀l:List Tm,Tm.nfs l=l.map Tm.nf
 | []=>rfl
 | t::r=>by rw[Tm.nfs,List.map_cons,qc0 r]
theorem qlq {n:ByteArray} (h:n=nXor∨n=qch∨n=nMul∨n=nInv∨n=nOne∨n=nExp):¬desN n:=by
 rcases h with h|h|h|h|h|h<;>subst h<;>decide
theorem qbl (l:List Tm):nodeF nXor l=xorT (Tm.sumds l []):=by rw[nodeF,if_neg (by decide),if_pos rfl]
theorem qa5 {n:ByteArray} (h:symN n) (l:List Tm):nodeF n l=prodT (ofT (.mk 3 n 0 l)):=by
 rw[nodeF,if_neg,if_neg,if_pos h]<;>rcases h with h|h|h<;>subst h<;>decide
theorem qbz (l:List Tm):nodeF nExp l=qbc (kidT l 0) (kidT l 1):=by rw[nodeF,if_neg (by decide),if_neg (by decide),if_neg (by decide),if_pos rfl]
theorem qa6 {n:ByteArray} (h:desN n) (l:List Tm):nodeF n l=qau n l:=by rw[nodeF,if_pos h]
theorem qbd {n:ByteArray} (h1:¬desN n) (h2:n≠nXor) (h3:¬symN n) (h4:n≠nExp) (l:List Tm):nodeF n l=.mk 3 n 0 l:=by
 rw[nodeF,if_neg h1,if_neg h2,if_neg h3,if_neg h4]
theorem NF.kids {t:Tm} (h:NF t) (hk:t.kind=3):∀k∈t.kids,NF k:=by
 obtain⟨k,n,s,l⟩:=t;rw[NF]at h;exact qeh.1 (h hk).1
theorem NF.node {t:Tm} (h:NF t) (hk:t.kind=3):nodeF t.name t.kids=t:=by
 obtain⟨k,n,s,l⟩:=t;rw[NF]at h;have hk':k=3:=hk;subst hk';exact(h rfl).2
theorem NF.zero:NF (.mk 3 qch 0 []):=by
 rw[NF];exact fun _=>⟨by rw[NFs];trivial,qbd (by decide) (by decide) (by decide) (by decide) []⟩
theorem NF.kid {t:Tm} (h:NF t) (hk:t.kind=3) (i:Nat):NF (kidT t.kids i):=by
 unfold kidT
 cases he:t.kids[i]? with
 | none=>show NF (.mk 0 .empty 0 []);rw[NF];exact fun h=>absurd h (by decide)
 | some x=>exact h.kids hk x (List.mem_of_getElem? he)
theorem NF.kidl {l:List Tm} (h:∀t∈l,NF t) (i:Nat):NF (kidT l i):=by
 unfold kidT
 cases he:l[i]? with
 | none=>show NF (.mk 0 .empty 0 []);rw[NF];exact fun h=>absurd h (by decide)
 | some x=>exact h x (List.mem_of_getElem? he)
mutual
theorem NF.sumd:∀{t:Tm},NF t→∀p∈t.sumd,NF p
 | .mk k n s l,h,p,hp=>by
  rw[Tm.sumd]at hp
  split at hp
  ·cases hp
  ·split at hp
   ·rename_i hx
    rw[NF]at h;exact NFs.sumds l [] (h hx.1).1 (by simp) p hp
   ·rw[List.mem_singleton.1 hp];exact h
theorem NFs.sumds:∀(l a:List Tm),NFs l→(∀p∈a,NF p)→∀p∈Tm.sumds l a,NF p
 | [],_,_,ha,p,hp=>ha p hp
 | t::r,a,hl,ha,p,hp=>by
  rw[NFs]at hl;refine NFs.sumds r _ hl.2 (fun q hq=>?_) p hp;rcases (qdj t.sumd a q (qcb (qcw t))).1 hq with⟨h1,-⟩|⟨-,h2⟩
  ·exact ha q h1
  ·exact hl.1.sumd q h2
end
theorem NF.xorT {L:List Tm} (ha:Asc L) (hs:∀p∈L,p.sumd=[p]) (h:∀p∈L,NF p):NF (xorT L):=by
 match L,ha,hs,h with
 | [],_,_,_=>exact NF.zero
 | [p],_,_,h=>exact h p (List.mem_cons_self ..)
 | a::b::r,ha,hs,h=>
  show NF (.mk 3 nXor 0 (a::b::r));rw[NF];refine fun _=>⟨qeh.2 h,?_⟩;rw[qbl,qhm ha hs];rfl
theorem NF.sum {t:Tm} (h:NF t):Go.Proofs.YtjhjoiplpmjepaaGreat.xorT t.sumd=t:=by
 obtain⟨k,n,s,l⟩:=t;rw[NF]at h;rw[Tm.sumd]
 split
 ·rename_i hz
  obtain⟨rfl,rfl,rfl⟩:=hz;have h2:=(h rfl).2;rw[qbd (by decide) (by decide) (by decide) (by decide)]at h2;exact h2
 ·split
  ·rename_i hx
   obtain⟨rfl,rfl⟩:=hx;have h2:=(h rfl).2;rw[qbl]at h2;exact h2
  ·rfl
mutual
theorem NF.facs:∀{t:Tm},NF t→AllF NF t
 | .mk k n s l,h=>by
  rw[AllF]
  split
  ·rename_i hs
   rw[NF]at h;exact NFs.facs (h hs.1).1
  ·exact h
theorem NFs.facs:∀{l:List Tm},NFs l→AllFs NF l
 | [],_=>by rw[AllFs];trivial
 | t::r,h=>by rw[NFs]at h;rw[AllFs];exact⟨h.1.facs,NFs.facs h.2⟩
end
theorem NF.ofT {t:Tm} (h:NF t):∀p∈Go.Proofs.YtjhjoiplpmjepaaGreat.ofT t,NF p.1:=qed h.facs
theorem sym_mk {n:ByteArray} {l:List Tm} {s:Int}:(Tm.mk 3 n s l).sym↔symN n:=⟨fun h=>h.2,fun h=>⟨rfl,h⟩⟩
theorem NF.prod {t:Tm} (h:NF t):prodT (Go.Proofs.YtjhjoiplpmjepaaGreat.ofT t)=t:=by
 by_cases hs:t.sym
 ·obtain⟨k,n,s,l⟩:=t;have hk:k=3:=hs.1;subst hk;have h2:=h.node rfl;have h2:nodeF n l=.mk 3 n s l:=h2;rw[qa5 (n:=n) hs.2]at h2;have e:Go.Proofs.YtjhjoiplpmjepaaGreat.ofT (.mk 3 n s l)=Go.Proofs.YtjhjoiplpmjepaaGreat.ofT (.mk 3 n 0 l):=qjg fun x=>by
   rw[qdr,qdr,if_pos (sym_mk (n:=n).2 hs.2),if_pos (sym_mk (n:=n).2 hs.2)]
  rw[e,h2]
 ·rw[ofT_leaf hs,qm9]
theorem NF.inv {t:Tm} (h:NF t) (hs:¬t.sym):NF (.mk 3 nInv 0 [t]):=by
 rw[NF];refine fun _=>⟨by rw[NFs,NFs];exact⟨h,trivial⟩,?_⟩;rw[qa5 (.inr (.inl rfl)),ofT_inv hs,qkl]
theorem NF.prodT {l:List (Tm×Int)} (hg:qbj l) (hs:∀p∈l,¬p.1.sym) (h:∀p∈l,NF p.1):NF (prodT l):=by
 have ho:=qf2 hg hs;have hm:∀t∈posP l++negP l,NF t:=by
  intro t ht;rcases List.mem_append.1 ht with ht|ht
  ·obtain⟨p,hp,ht⟩:=List.mem_flatMap.1 ht;rw[List.eq_of_mem_replicate ht];exact h p hp
  ·obtain⟨p,hp,ht⟩:=List.mem_flatMap.1 ht;rw[List.eq_of_mem_replicate ht];exact(h p hp).inv (hs p hp)
 unfold Go.Proofs.YtjhjoiplpmjepaaGreat.prodT at ho ⊢
 match hL:posP l++negP l,hm with
 | [],_=>
  rw[hL]at ho;show NF (.mk 3 nOne 0 []);rw[NF];refine fun _=>⟨by rw[NFs];trivial,?_⟩;rw[qa5 (.inr (.inr rfl)),qlp];rfl
 | [t],hm=>exact hm t (List.mem_cons_self ..)
 | a::b::r,hm=>
  rw[hL]at ho;show NF (.mk 3 nMul 0 (a::b::r));rw[NF];refine fun _=>⟨qeh.2 hm,?_⟩;have ho:Go.Proofs.YtjhjoiplpmjepaaGreat.ofT (.mk 3 nMul 0 (a::b::r))=l:=ho;rw[qa5 (.inl rfl),ho,Go.Proofs.YtjhjoiplpmjepaaGreat.prodT,hL];rfl
def Okp (p:List (Tm×Int)):Prop:=qbj p∧∀q∈p,¬q.1.sym
theorem Okp.ofT (t:Tm):Okp (Go.Proofs.YtjhjoiplpmjepaaGreat.ofT t):=⟨qe5 t,qmb t⟩
theorem Okp.nil:Okp []:=⟨qbj.nil,by simp⟩
theorem Okp.mul {a b:List (Tm×Int)} (ha:Okp a) (hb:Okp b):Okp (mulP a b):=⟨qhd b ha.1 hb.1.2,qf3 (Q:=fun x=>¬x.sym) b a ha.2 hb.2⟩
theorem Okp.expo (t:Tm):Okp t.expoE:=by
 unfold Tm.expoE
 split
 ·exact Okp.ofT _
 ·exact Okp.nil
theorem qjt {b:Tm} {p:List (Tm×Int)} (h:¬b.isA nExp):(mkE b p).baseE=b:=by
 unfold mkE;split
 ·rw[Tm.baseE,if_neg h]
 ·rw[Tm.baseE,if_pos ⟨rfl,rfl⟩];rfl
theorem qjo {b:Tm} {p:List (Tm×Int)} (h:¬b.isA nExp) (hp:Okp p):(mkE b p).expoE=p:=by
 unfold mkE;split
 ·rename_i h0;rw[Tm.expoE,if_neg h,h0]
 ·rw[Tm.expoE,if_pos ⟨rfl,rfl⟩];exact qf2 hp.1 hp.2
theorem qhe {t k:Tm} (h:k∈t.kids):k.size<t.size:=by
 obtain⟨k0,n,s,l⟩:=t;obtain⟨i,hi,e⟩:=List.mem_iff_getElem.1 h;have h1:=Tm.sizes_get l i hi;have h2:l[i]=k:=e;rw[h2]at h1;rw[Tm.size];exact Nat.lt_of_le_of_lt h1 (Nat.lt_add_of_pos_left Nat.one_pos)
theorem qmd {l:List Tm} {i:Nat} (h:(kidT l i).kind=3):kidT l i∈l:=by
 unfold kidT at h ⊢
 cases he:l[i]? with
 | none=>rw[he]at h;exact absurd h (by decide)
 | some x=>exact List.mem_of_getElem? he
theorem qgp {t:Tm} {i:Nat}:(kidT t.kids i).size≤t.size:=by
 unfold kidT
 cases he:t.kids[i]? with
 | none=>exact t.size_pos
 | some x=>exact Nat.le_of_lt (qhe (List.mem_of_getElem? he))
theorem qi3 (t:Tm):t.baseE.size≤t.size:=by
 unfold Tm.baseE;split
 ·exact qgp
 ·exact Nat.le_refl _
theorem NF.base {t:Tm} (h:NF t):¬t.baseE.isA nExp:=by
 unfold Tm.baseE
 split
 ·rename_i hx
  intro hb;obtain⟨k,n,s,l⟩:=t;have hx':=hx;obtain⟨rfl,rfl⟩:k=3∧n=nExp:=hx';have h2:=h.node rfl;have h2:nodeF nExp l=.mk 3 nExp s l:=h2;have hb:(kidT l 0).isA nExp:=hb;rw[qbz,qbc,mkE]at h2;have hm:=qmd hb.1;have hsz:(kidT l 0).baseE.size<(Tm.mk 3 nExp s l).size:=Nat.lt_of_le_of_lt (qi3 _) (qhe (t:=.mk 3 nExp s l) hm)
  split at h2
  ·rw[h2]at hsz;omega
  ·injection h2 with _ _ _ h3;have h5:kidT l 0=(kidT l 0).baseE:=by
    have:=congrArg (fun z=>kidT z 0) h3;exact this.symm
   have h7:(kidT l 0).baseE.size<(kidT l 0).size:=by
    have h8:((kidT l 0).baseE).isA nExp:=by rw[←h5];exact hb
    rw[Tm.baseE,if_pos hb]at h8 ⊢;exact qhe (qmd h8.1)
   rw[←h5]at h7;omega
 ·assumption
theorem NF.power {t:Tm} (h:NF t):mkE t.baseE t.expoE=t:=by
 by_cases hx:t.isA nExp
 ·obtain⟨k,n,s,l⟩:=t;have hx':=hx;obtain⟨rfl,rfl⟩:k=3∧n=nExp:=hx';have h2:=h.node rfl;have h2:nodeF nExp l=.mk 3 nExp s l:=h2;have hb:=h.base;rw[Tm.baseE,if_pos hx]at hb;have hb:¬(kidT l 0).isA nExp:=hb;rw[qbz,qbc,Tm.baseE,if_neg hb,Tm.expoE,if_neg hb,qgn (qe5 _)]at h2;rw[Tm.baseE,if_pos hx,Tm.expoE,if_pos hx];exact h2
 ·rw[Tm.baseE,if_neg hx,Tm.expoE,if_neg hx,mkE,if_pos rfl]
theorem NF.baseN {t:Tm} (h:NF t):NF t.baseE:=by
 unfold Tm.baseE;split
 ·rename_i hx;exact h.kid hx.1 0
 ·exact h
theorem NF.expoN {t:Tm} (h:NF t):∀p∈t.expoE,NF p.1:=by
 unfold Tm.expoE;split
 ·rename_i hx;exact(h.kid hx.1 1).ofT
 ·simp
theorem NF.mkE {b:Tm} {p:List (Tm×Int)} (hb:NF b) (hx:¬b.isA nExp) (hp:Okp p) (hn:∀q∈p,NF q.1):NF (mkE b p):=by
 unfold Go.Proofs.YtjhjoiplpmjepaaGreat.mkE;split
 ·exact hb
 ·rename_i h0
  rw[NF];refine fun _=>⟨by rw[NFs,NFs,NFs];exact⟨hb,NF.prodT hp.1 hp.2 hn,trivial⟩,?_⟩;rw[qbz,qbc];have e0:kidT [b,Go.Proofs.YtjhjoiplpmjepaaGreat.prodT p] 0=b:=rfl;have e1:kidT [b,Go.Proofs.YtjhjoiplpmjepaaGreat.prodT p] 1=Go.Proofs.YtjhjoiplpmjepaaGreat.prodT p:=rfl;rw[e0,e1,Tm.baseE,if_neg hx,Tm.expoE,if_neg hx,qf2 hp.1 hp.2,qgn hp.1,Go.Proofs.YtjhjoiplpmjepaaGreat.mkE,if_neg h0]
theorem NF.nodeF {n:ByteArray} {l:List Tm} (h:∀t∈l,NF t):NF (nodeF n l):=by
 by_cases h1:desN n
 ·rw[qa6 h1,qau]
  split
  ·by_cases hk:(kidT l 0).kind=3
   ·exact(NF.kidl h 0).kid hk _
   ·rename_i hf
    exfalso;rcases hf with⟨-,hf⟩|⟨-,hf⟩|⟨-,hf,-⟩|⟨-,hf,-⟩|⟨-,hf,-⟩|⟨-,hf⟩<;>exact hk hf.1
  ·rename_i hf
   rw[NF];refine fun _=>⟨qeh.2 h,?_⟩;rw[qa6 h1,qau,if_neg hf]
 ·by_cases h2:n=nXor
  ·subst h2;rw[qbl];exact NF.xorT (qdb l [] List.Pairwise.nil) (qe0 l [] (by simp)) (NFs.sumds l [] (qeh.2 h) (by simp))
  ·by_cases h3:symN n
   ·rw[qa5 h3];refine NF.prodT (qe5 _) (qmb _) (qed ?_);rw[AllF,if_pos (sym_mk.2 h3)];exact NFs.facs (qeh.2 h)
   ·by_cases h4:n=nExp
    ·subst h4;rw[qbz,qbc];have hb:=NF.kidl h 0;have he:=NF.kidl h 1;exact NF.mkE hb.baseN hb.base ((Okp.expo _).mul (Okp.ofT _)) (qf3 (Q:=NF) _ _ hb.expoN he.ofT)
    ·rw[qbd h1 h2 h3 h4,NF];exact fun _=>⟨qeh.2 h,qbd h1 h2 h3 h4 l⟩
mutual
theorem NF.nf:∀t:Tm,NF t.nf
 | .mk k n s l=>by
  rw[Tm.nf]
  split
  ·exact NF.nodeF (qeh.1 (NFs.nfs l))
  ·rename_i hk;rw[NF];exact fun h=>absurd h hk
theorem NFs.nfs:∀l:List Tm,NFs (Tm.nfs l)
 | []=>by rw[Tm.nfs,NFs];trivial
 | t::r=>by rw[Tm.nfs,NFs];exact⟨NF.nf t,NFs.nfs r⟩
end
end Go.Proofs.YtjhjoiplpmjepaaGreat
namespace Go.Proofs.YtjhjoiplpmjepaaGreat
open Go.RowKit Go.Sort
theorem qat {n c:ByteArray} {L:List UInt8} (h:c.data.toList=L):(n=c)↔(n.toList==L)=true:=by
 rw[beq_iff_eq,ByteArray.toList_eq,←h];exact⟨fun e=>by rw[e],fun e=>ByteArray.ext (Array.toList_inj.1 e)⟩
def symB (k:Int) (n:ByteArray):Bool:=(k==3) && ((n.toList==[109,117,108]) || (n.toList==[105,110,118]) || (n.toList==[111,110,101]))
theorem symB_eq (t:Tm):decide t.sym=symB t.kind t.name:=by
 rw[Bool.eq_iff_iff,decide_eq_true_iff];unfold symB Tm.sym;rw[Bool.and_eq_true,Bool.or_eq_true,Bool.or_eq_true,beq_iff_eq,←qat (n:=t.name) (c:=nMul) (L:=[109,117,108]) rfl,←qat (n:=t.name) (c:=nInv) (L:=[105,110,118]) rfl,←qat (n:=t.name) (c:=nOne) (L:=[111,110,101]) rfl];exact⟨fun⟨h,h2⟩=>⟨h,or_assoc.2 h2⟩,fun⟨h,h2⟩=>⟨h,or_assoc.1 h2⟩⟩
theorem qi1 (k a b c:Bool):(k=false)∨(k=true∧a=true)∨(k=true∧a=false∧b=true)∨(k=true∧a=false∧b=false∧c=true)∨(k=true∧a=false∧b=false∧c=false):=by
 cases k<;>cases a<;>cases b<;>cases c<;>simp
theorem qmf (t:Tm) (A:Option Addr) (cap:Nat) (w:World):Calls Tryz.prog 168 #[t.val A cap] w fun e w'=>e=.returned (.bool (decide t.sym))∧Lay w.heap.size w w':=by
 obtain⟨V,hV⟩:∃V,V=w.alloc (qag t A cap):=⟨_,rfl⟩;have hbV:Lay w.heap.size w V:=by rw[hV];exact(Lay.refl _ _).alloc (Nat.le_refl _) _
 have hbx:V.heap[w.heap.size]?=some (qag t A cap):=by rw[hV];exact heap_alloc_new _ _
 rw[symB_eq];unfold symB;obtain⟨r0,r1,r2,r3,rf⟩:=qaa hbx;simp only[qag]at hV;simp only[Tm.val];have HV:=hdzz hV;have HBV:=hdzz hbV;clear hV hbV hbx;generalize t.kind=tk at *;generalize t.name=tn at *;generalize hk:(tk==3)=k;generalize h1:(tn.toList==[109,117,108])=q1;generalize h2:(tn.toList==[105,110,118])=q2;generalize h3:(tn.toList==[111,110,101])=q3;rcases qi1 k q1 q2 q3 with rfl|⟨rfl,rfl⟩|⟨rfl,rfl,rfl⟩|⟨rfl,rfl,rfl,rfl⟩|⟨rfl,rfl,rfl,rfl⟩
 all_goals
  go_enter Tryz.func168,Tryz.ntmps168
  go_wp2_with fail
  rw[←HV.out];go_wp2_with fail
  go_ret
  exact⟨rfl,HBV.out⟩
theorem qer (t:Tm) (A:Option Addr) (cap:Nat) (w:World):Calls Tryz.prog 172 #[t.val A cap] w fun e w'=>e=.returned (.bool (decide t.sym))∧Lay w.heap.size w w':=by
 obtain⟨V,hV⟩:∃V,V=w.alloc (qag t A cap):=⟨_,rfl⟩;have hbV:Lay w.heap.size w V:=by rw[hV];exact(Lay.refl _ _).alloc (Nat.le_refl _) _
 have hbx:V.heap[w.heap.size]?=some (qag t A cap):=by rw[hV];exact heap_alloc_new _ _
 rw[symB_eq];unfold symB;obtain⟨r0,r1,r2,r3,rf⟩:=qaa hbx;simp only[qag]at hV;simp only[Tm.val];have HV:=hdzz hV;have HBV:=hdzz hbV;clear hV hbV hbx;generalize t.kind=tk at *;generalize t.name=tn at *;generalize hk:(tk==3)=k;generalize h1:(tn.toList==[109,117,108])=q1;generalize h2:(tn.toList==[105,110,118])=q2;generalize h3:(tn.toList==[111,110,101])=q3;rcases qi1 k q1 q2 q3 with rfl|⟨rfl,rfl⟩|⟨rfl,rfl,rfl⟩|⟨rfl,rfl,rfl,rfl⟩|⟨rfl,rfl,rfl,rfl⟩
 all_goals
  go_enter Tryz.func172,Tryz.ntmps172
  go_wp2_with fail
  rw[←HV.out];go_wp2_with fail
  go_ret
  exact⟨rfl,HBV.out⟩
theorem isA_eq (t:Tm) (n:ByteArray):decide (t.isA n)=((t.kind==3) && (t.name.toList==n.toList)):=by
 rw[Bool.eq_iff_iff,decide_eq_true_iff];unfold Tm.isA;rw[Bool.and_eq_true,beq_iff_eq,beq_iff_eq];refine⟨fun⟨h,h2⟩=>⟨h,by rw[h2]⟩,fun⟨h,h2⟩=>⟨h,?_⟩⟩;rw[ByteArray.toList_eq,ByteArray.toList_eq]at h2;exact ByteArray.ext (Array.toList_inj.1 h2)
theorem qcc (t:Tm) (n:ByteArray) (A:Option Addr) (cap:Nat) (w:World):Calls Tryz.prog 133 #[t.val A cap,.string n] w fun e w'=>e=.returned (.bool (decide (t.isA n)))∧Lay w.heap.size w w':=by
 obtain⟨V,hV⟩:∃V,V=w.alloc (qag t A cap):=⟨_,rfl⟩;have hbV:Lay w.heap.size w V:=by rw[hV];exact(Lay.refl _ _).alloc (Nat.le_refl _) _
 have hbx:V.heap[w.heap.size]?=some (qag t A cap):=by rw[hV];exact heap_alloc_new _ _
 rw[isA_eq];obtain⟨r0,r1,r2,r3,rf⟩:=qaa hbx;simp only[qag]at hV;simp only[Tm.val];have HV:=hdzz hV;have HBV:=hdzz hbV;clear hV hbV hbx;generalize t.kind=tk at *;generalize t.name=tn at *;generalize hk:(tk==3)=k;generalize h1:(tn.toList==n.toList)=q1;cases k
 case' true=>cases q1
 all_goals
  go_enter Tryz.func133,Tryz.ntmps133
  go_wp2_with fail
  rw[←HV.out];go_wp2_with fail
  go_ret
  exact⟨rfl,HBV.out⟩
theorem qbs (t:Tm) (n:ByteArray) (A:Option Addr) (cap:Nat) (w:World):Calls Tryz.prog 27 #[t.val A cap,.string n] w fun e w'=>e=.returned (.bool (decide (t.isA n)))∧Lay w.heap.size w w':=by
 obtain⟨V,hV⟩:∃V,V=w.alloc (qag t A cap):=⟨_,rfl⟩;have hbV:Lay w.heap.size w V:=by rw[hV];exact(Lay.refl _ _).alloc (Nat.le_refl _) _
 have hbx:V.heap[w.heap.size]?=some (qag t A cap):=by rw[hV];exact heap_alloc_new _ _
 rw[isA_eq];obtain⟨r0,r1,r2,r3,rf⟩:=qaa hbx;simp only[qag]at hV;simp only[Tm.val];have HV:=hdzz hV;have HBV:=hdzz hbV;clear hV hbV hbx;generalize t.kind=tk at *;generalize t.name=tn at *;generalize hk:(tk==3)=k;generalize h1:(tn.toList==n.toList)=q1;cases k
 case' true=>cases q1
 all_goals
  go_enter Tryz.func27,Tryz.ntmps27
  go_wp2_with fail
  rw[←HV.out];go_wp2_with fail
  go_ret
  exact⟨rfl,HBV.out⟩
end Go.Proofs.YtjhjoiplpmjepaaGreat
namespace Go.Proofs.YtjhjoiplpmjepaaGreat
def appT (n:ByteArray) (l:List Tm):Tm:=.mk 3 n 0 l
theorem qbt (n:ByteArray) (l:List Tm):(appT n l).nf=nodeF n (l.map Tm.nf):=by rw[appT,Tm.nf,if_pos rfl,qc0]
theorem nf_leaf {t:Tm} (h:t.kind≠3):t.nf=t:=by obtain⟨k,n,s,l⟩:=t;rw[Tm.nf];exact if_neg h
theorem qhh (l:List Tm) (x:Tm):qdr (.mk 3 nMul 0 l) x=qb3 l x:=by rw[qdr,if_pos ⟨rfl,.inl rfl⟩,if_neg (by decide)]
theorem qmi (x:Tm):qdr (.mk 3 nOne 0 []) x=0:=by rw[qdr,if_pos ⟨rfl,.inr (.inr rfl)⟩,if_neg (by decide),qb3]
theorem coefs_rev (l:List Tm) (x:Tm):qb3 l.reverse x=qb3 l x:=by
 induction l with
 | nil=>rfl
 | cons a r ih=>rw[List.reverse_cons,qde,ih,qb3,qb3,qb3];omega
def qex (u:Tm):Tm:=
 if u.isA nXor∨u.isA nMul then appT u.name u.kids.reverse
 else if u.isA nExp∧(kidT u.kids 0).isA nExp then appT nExp [appT nExp [kidT (kidT u.kids 0).kids 0,kidT u.kids 1],kidT (kidT u.kids 0).kids 1]
 else u
def qfd (k:Nat) (n u:Tm):Tm:=match k with
 | 0=>appT nXor [u,appT nXor [n,n]]
 | 1=>appT nXor [n,appT nXor [u,n]]
 | 2=>appT nFst [appT qbm [u,n]]
 | 3=>appT nSnd [appT qbm [n,u]]
 | 4=>appT nDec [appT nEnc [u,n],n]
 | 5=>appT qc1 [appT qbg [u,n]]
 | 6=>appT nExp [u,appT nOne []]
 | 7=>appT qbq [appT qc5 [u,appT nPk [n]],n]
 | 8=>appT qbp [appT qbg [u,n],appT nPk [n]]
 | 9=>appT nExp [appT nExp [u,n],appT nInv [n]]
 | 10=>appT nMul [u,appT nMul [n,appT nInv [n]]]
 | 11=>appT nXor [u,appT qch []]
 | _=>qex u
theorem qne {n:ByteArray} (h:n=nXor) (l:List Tm):nodeF n l=xorT (Tm.sumds l []):=h ▸ qbl l
theorem qi9 {L M:List Tm} (h:Asc M) (k:∀x,parL L x=decide (x∈M)):Tm.sumds L []=M:=
 qd8 (qdb L [] List.Pairwise.nil) h fun x=>by rw[qd5,k x];simp
theorem qjf (x:Tm):parL [] x=false:=rfl
theorem qcg (a:Tm) (r:List Tm) (x:Tm):parL (a::r) x=(decide (x∈a.sumd) ^^ parL r x):=rfl
theorem qj3 (K:List Tm) (x:Tm):decide (x∈(xorT (Tm.sumds K [])).sumd)=parL K x:=by
 rw[sumd_sum,Bool.eq_iff_iff,decide_eq_true_eq,qd5];simp
theorem nf_bent (k:Nat) (n u:Tm) (hn:n.kind≠3) (hu:u.isA nExp→u.kids.length=2∧((kidT u.kids 0).isA nExp→(kidT u.kids 0).kids.length=2)):(qfd k n u).nf=u.nf:=by
 have hnn:n.nf=n:=nf_leaf hn;have hns:¬n.sym:=fun h=>hn h.1;have hns':¬n.isA nExp:=fun h=>hn h.1;have hu1:=NF.nf u;have hpr:∀l,nodeF qbm l=.mk 3 qbm 0 l:=qbd (by decide) (by decide) (by decide) (by decide);have hen:∀l,nodeF nEnc l=.mk 3 nEnc 0 l:=qbd (by decide) (by decide) (by decide) (by decide);have hae:∀l,nodeF qc5 l=.mk 3 qc5 0 l:=qbd (by decide) (by decide) (by decide) (by decide);have hpk:∀l,nodeF nPk l=.mk 3 nPk 0 l:=qbd (by decide) (by decide) (by decide) (by decide);have hsg:∀l,nodeF qbg l=.mk 3 qbg 0 l:=qbd (by decide) (by decide) (by decide) (by decide);have hze:nodeF qch []=.mk 3 qch 0 []:=qbd (by decide) (by decide) (by decide) (by decide) [];have hon:nodeF nOne []=.mk 3 nOne 0 []:=by rw[qa5 (.inr (.inr rfl)),qlp];rfl
 have hiv:nodeF nInv [n]=.mk 3 nInv 0 [n]:=by rw[qa5 (.inr (.inl rfl)),ofT_inv hns,qkl]
 have hzs:(Tm.mk 3 qch 0 []).sumd=[]:=by rw[Tm.sumd,if_pos ⟨rfl,rfl,rfl⟩]
 match k with
 | 0=>
  show(appT nXor [u,appT nXor [n,n]]).nf=_;rw[qbt];simp only[List.map_cons,List.map_nil,qbt,hnn];rw[qbl,qbl]
  conv=>rhs;rw[←hu1.sum]
  congr 1
  refine qi9 (qcw _) fun x=>?_;rw[qcg,qcg,qj3,qcg,qcg,qjf];simp
 | 1=>
  show(appT nXor [n,appT nXor [u,n]]).nf=_;rw[qbt];simp only[List.map_cons,List.map_nil,qbt,hnn];rw[qbl,qbl]
  conv=>rhs;rw[←hu1.sum]
  congr 1
  refine qi9 (qcw _) fun x=>?_;rw[qcg,qcg,qj3,qcg,qcg,qjf];cases decide (x∈n.sumd)<;>cases decide (x∈u.nf.sumd)<;>rfl
 | 2=>
  show(appT nFst [appT qbm [u,n]]).nf=_;rw[qbt];simp only[List.map_cons,List.map_nil,qbt,hnn,hpr];rw[qa6 (by decide),qau,if_pos (.inl ⟨rfl,rfl,rfl⟩)];rfl
 | 3=>
  show(appT nSnd [appT qbm [n,u]]).nf=_;rw[qbt];simp only[List.map_cons,List.map_nil,qbt,hnn,hpr];rw[qa6 (by decide),qau,if_pos (.inr (.inl ⟨rfl,rfl,rfl⟩))];rfl
 | 4=>
  show(appT nDec [appT nEnc [u,n],n]).nf=_;rw[qbt];simp only[List.map_cons,List.map_nil,qbt,hnn,hen];rw[qa6 (by decide),qau,if_pos (.inr (.inr (.inl ⟨rfl,⟨rfl,rfl⟩,rfl⟩)))];rfl
 | 5=>
  show(appT qc1 [appT qbg [u,n]]).nf=_;rw[qbt];simp only[List.map_cons,List.map_nil,qbt,hnn,hsg];rw[qa6 (by decide),qau,if_pos (.inr (.inr (.inr (.inr (.inr ⟨rfl,rfl,rfl⟩)))))];rfl
 | 6=>
  show(appT nExp [u,appT nOne []]).nf=_;rw[qbt];simp only[List.map_cons,List.map_nil,qbt,hon];rw[qbz];show qbc u.nf (.mk 3 nOne 0 [])=_;rw[qbc,qlp];exact hu1.power
 | 7=>
  show(appT qbq [appT qc5 [u,appT nPk [n]],n]).nf=_;rw[qbt];simp only[List.map_cons,List.map_nil,qbt,hnn,hae,hpk];rw[qa6 (by decide),qau,if_pos (.inr (.inr (.inr (.inl ⟨rfl,⟨rfl,rfl⟩,⟨rfl,rfl⟩,rfl⟩))))];rfl
 | 8=>
  show(appT qbp [appT qbg [u,n],appT nPk [n]]).nf=_;rw[qbt];simp only[List.map_cons,List.map_nil,qbt,hnn,hsg,hpk];rw[qa6 (by decide),qau,if_pos (.inr (.inr (.inr (.inr (.inl ⟨rfl,⟨rfl,rfl⟩,⟨rfl,rfl⟩,rfl⟩)))))];rfl
 | 9=>
  show(appT nExp [appT nExp [u,n],appT nInv [n]]).nf=_;rw[qbt];simp only[List.map_cons,List.map_nil,qbt,hnn,hiv];rw[qbz,qbz];show qbc (qbc u.nf n) (.mk 3 nInv 0 [n])=_;have hp:Okp (mulP u.nf.expoE (ofT n)):=(Okp.expo _).mul (Okp.ofT _);rw[qbc,qbc,qjt hu1.base,qjo hu1.base hp]
  conv=>rhs;rw[←hu1.power]
  congr 1
  refine qc6 (hp.mul (Okp.ofT _)).1 (Okp.expo _).1 fun x=>?_;rw[qdy,qdy,qf5,qf5,qjq];omega
 | 10=>
  show(appT nMul [u,appT nMul [n,appT nInv [n]]]).nf=_;rw[qbt];simp only[List.map_cons,List.map_nil,qbt,hnn,hiv]
  conv=>rhs;rw[←hu1.prod]
  have e1:nodeF nMul [n,.mk 3 nInv 0 [n]]=.mk 3 nOne 0 []:=by
   rw[qa5 (.inl rfl),←hon,qa5 (.inr (.inr rfl))]
   congr 1
   refine qjg fun x=>?_;rw[qhh,qb3,qb3,qb3,qjq,qmi];omega
  rw[e1,qa5 (.inl rfl)];show prodT (ofT _)=prodT (ofT _);refine congrArg prodT (qjg fun x=>?_);rw[qhh,qb3,qb3,qb3,qmi];omega
 | 11=>
  show(appT nXor [u,appT qch []]).nf=_;rw[qbt];simp only[List.map_cons,List.map_nil,qbt,hze];rw[qbl]
  conv=>rhs;rw[←hu1.sum]
  congr 1
  refine qi9 (qcw _) fun x=>?_;rw[qcg,qcg,qjf,hzs];simp
 | _+12=>
  show(qex u).nf=u.nf;unfold qex
  split
  ·rename_i hx
   obtain⟨k',m,s,l⟩:=u;rw[qbt];rcases hx with hx|hx
   ·obtain⟨rfl,rfl⟩:k'=3∧m=nXor:=hx;rw[Tm.nf,if_pos rfl,qc0];show nodeF nXor (l.reverse.map Tm.nf)=_;rw[List.map_reverse,qbl,qbl]
    congr 1
    exact sumds_ext fun x=>parL_perm (List.reverse_perm _) x
   ·obtain⟨rfl,rfl⟩:k'=3∧m=nMul:=hx;rw[Tm.nf,if_pos rfl,qc0];show nodeF nMul (l.reverse.map Tm.nf)=_;rw[List.map_reverse,qa5 (.inl rfl),qa5 (.inl rfl)]
    congr 1
    refine qjg fun x=>?_;rw[qhh,qhh,coefs_rev]
  split
  ·rename_i hx
   obtain⟨hx1,hx2⟩:=hx;obtain⟨h1,h2⟩:=hu hx1;have h2:=h2 hx2;obtain⟨k',m,s,l⟩:=u;obtain⟨rfl,rfl⟩:k'=3∧m=nExp:=hx1
   match l,h1,hx2,h2 with
   | [a,c],_,hx2,h2=>
    obtain⟨k2,m2,s2,l2⟩:=a;obtain⟨rfl,rfl⟩:k2=3∧m2=nExp:=hx2
    match l2,h2 with
    | [a,b],_=>
     show(appT nExp [appT nExp [a,c],b]).nf=(appT nExp [appT nExp [a,b],c]).nf;simp only[List.map_cons,List.map_nil,qbt,qbz];show qbc (qbc a.nf c.nf) b.nf=qbc (qbc a.nf b.nf) c.nf;have ha:=NF.nf a;have hp:∀y,Okp (mulP a.nf.expoE (ofT y)):=fun y=>(Okp.expo _).mul (Okp.ofT _);rw[qbc,qbc,qbc,qbc,qjt ha.base,qjo ha.base (hp _),qjt ha.base,qjo ha.base (hp _)]
     congr 1
     refine qc6 ((hp _).mul (Okp.ofT _)).1 ((hp _).mul (Okp.ofT _)).1 fun x=>?_;rw[qdy,qdy,qdy,qdy];omega
  ·rfl
def nHash:ByteArray:=⟨#[104,97,115,104]⟩
def nSk:ByteArray:=⟨#[115,107]⟩
def nShk:ByteArray:=⟨#[115,104,107]⟩
def nNew:ByteArray:=⟨#[110,101,119]⟩
structure Sy where
 nm:ByteArray
 lo:Int
 hi:Int
 kd:Int
def tabS:List Sy:=
 [⟨qbm,2,2,1⟩,⟨nEnc,2,2,1⟩,⟨qc5,2,2,1⟩,⟨nPk,1,1,1⟩,⟨qbg,2,2,1⟩,⟨nHash,1,1,1⟩,⟨nXor,2,8,1⟩,⟨qch,0,0,1⟩,⟨nExp,2,2,1⟩,⟨nMul,2,8,1⟩,⟨nInv,1,1,1⟩,⟨nOne,0,0,1⟩,
  ⟨nSk,1,1,2⟩,⟨nShk,2,2,2⟩,⟨nNew,1,8,2⟩,⟨nFst,1,1,3⟩,⟨nSnd,1,1,3⟩,⟨nDec,2,2,3⟩,⟨qbq,2,2,3⟩,⟨qbp,2,2,3⟩,⟨qc1,1,1,3⟩]
def qeo (n:ByteArray):Option Sy:=tabS.find? fun s=>decide (s.nm=n)
def thN (n:ByteArray) (l:List Tm):Int:=match qeo n with
 | none=>10
 | some s=>if (l.length:Int)<s.lo∨s.hi<l.length then 6
  else if (n=nSk∨n=nShk)∧(l.any fun k=>decide (k.kind=3∨k.sort≠1))=true then 10
  else if n=nNew∧(kidT l 0).kind≠2 then 10 else 0
mutual
def Tm.th:Tm→Int
 | .mk k n _ l=>if k=3 then (if thN n l≠0 then thN n l else Tm.ths l)else 0
def Tm.ths:List Tm→Int
 | []=>0
 | t::r=>if t.th≠0 then t.th else Tm.ths r
end
def Tm.validT (t:Tm):Int:=if t.valid≠0 then t.valid else t.th
def arE (n:ByteArray) (m:Nat):Prop:=(n=nMul→2≤m)∧(n=nInv→m=1)∧(n=nOne→m=0)
instance (n:ByteArray) (m:Nat):Decidable (arE n m):=by unfold arE;infer_instance
mutual
def Tm.arB:Tm→Bool
 | .mk k n s l=>if (Tm.mk k n s l).sym then decide (arE n l.length) && Tm.arBs l else true
def Tm.arBs:List Tm→Bool
 | []=>true
 | t::r=>t.arB && Tm.arBs r
end
def OfOK (t:Tm):Prop:=t.valid=0∧t.arB=true∧(ofT t).length≤200
def VP (l:List (Tm×Int)):Prop:=l.length≤200∧∀p∈l,p.1.valid=0∧-1000≤p.2∧p.2≤1000
def RP (l:List (Tm×Int)):Prop:=l.length≤200∧∀p∈l,-1000≤p.2∧p.2≤1000
def qds (l:List (Tm×Int)):Prop:=VP l∧(posP l++negP l).length≤8∧(prodT l).valid=0
def qnq (b e:Tm):Prop:=OfOK e∧(b.isA nExp→OfOK (kidT b.kids 1)∧VP (ofT (kidT b.kids 1))∧VP (ofT e)∧RP (mulP b.expoE (ofT e)))∧(mulP b.expoE (ofT e)≠[]→qds (mulP b.expoE (ofT e)))
def qic (n:ByteArray) (l:List Tm):Prop:=
 (n=nXor→l.length≤200∧(∀t∈l,t.valid=0)∧(xorT (Tm.sumds l [])).valid=0)
 ∧(symN n→OfOK (.mk 3 n 0 l)∧qds (ofT (.mk 3 n 0 l)))
 ∧(n=nExp→qnq (kidT l 0) (kidT l 1))
mutual
def qce:Tm→Prop
 | .mk k n _ l=>k=3→qd9 l∧qic n (Tm.nfs l)
def qd9:List Tm→Prop
 | []=>True
 | t::r=>qce t∧qd9 r
end
theorem qfa:∀{l:List Tm},qd9 l↔∀t∈l,qce t
 | []=>by rw[qd9];simp
 | t::r=>by rw[qd9,qfa (l:=r)];simp
theorem qap {t:Tm} (h:t.valid=0):t.check=0∧t.size≤400∧t.depth≤40:=by
 unfold Tm.valid at h
 split at h
 ·rename_i hc;exact absurd h hc
 ·rename_i hc
  split at h
  ·exact absurd h (by decide)
  ·exact⟨Classical.not_not.1 hc,by omega,by omega⟩
theorem qd2 {l:List Tm} {t:Tm} (h:t∈l):t.size≤Tm.sizes l:=by
 obtain⟨i,hi,e⟩:=List.mem_iff_getElem.1 h;rw[←e];exact Tm.sizes_get l i hi
theorem qhz (l:List Tm) (i:Nat):(kidT l i).size≤Tm.sizes l+1:=by
 unfold kidT
 cases he:l[i]? with
 | none=>show(Tm.mk 0 .empty 0 []).size≤_;rw[Tm.size,Tm.sizes];omega
 | some x=>exact Nat.le_succ_of_le (qd2 (List.mem_of_getElem? he))
theorem qgo (t:Tm) (i:Nat):(kidT t.kids i).size≤t.size:=by
 have:=qhz t.kids i;obtain⟨k,n,s,l⟩:=t;rw[Tm.size];exact Nat.le_trans this (Nat.le_of_eq (Nat.add_comm _ _))
mutual
theorem qji:∀{t:Tm},qce t→t.nf.size≤500*t.size
 | .mk k n s l,h=>by
  rw[Tm.nf]
  split
  ·rename_i hk
   rw[qce]at h;obtain⟨h1,h2,h3,h4⟩:=h hk;have hs:=qjh h1;rw[Tm.size,Nat.mul_add];have hmk:(Tm.mk 3 n 0 (Tm.nfs l)).size≤500*1+500*Tm.sizes l:=by rw[Tm.size];omega
   by_cases hd:desN n
   ·rw[qa6 hd,qau]
    split
    ·have e1:=qgo (kidT (Tm.nfs l) 0) (if n=nSnd then 1 else 0);have e2:=qhz (Tm.nfs l) 0;omega
    ·exact hmk
   by_cases hx:n=nXor
   ·have e1:=(qap (h2 hx).2.2).2.1;subst hx;rw[qbl];omega
   by_cases hy:symN n
   ·have e1:=(qap (h3 hy).2.2.2).2.1;rw[qa5 hy];omega
   by_cases he:n=nExp
   ·subst he;obtain⟨-,-,h5⟩:=h4 rfl;have e1:=qi3 (kidT (Tm.nfs l) 0);have e2:=qhz (Tm.nfs l) 0;rw[qbz,qbc,mkE]
    split
    ·omega
    ·rename_i hp
     have e3:=(qap (h5 hp).2.2).2.1;rw[Tm.size,Tm.sizes,Tm.sizes,Tm.sizes];omega
   ·rw[qbd hd hx hy he];exact hmk
  ·have:=(Tm.mk k n s l).size_pos;omega
theorem qjh:∀{l:List Tm},qd9 l→Tm.sizes (Tm.nfs l)≤500*Tm.sizes l
 | [],_=>by rw[Tm.nfs,Tm.sizes];omega
 | t::r,h=>by
  rw[qd9]at h;have h1:=qji h.1;have h2:=qjh h.2;rw[Tm.nfs,Tm.sizes,Tm.sizes];omega
end
def arN (n:ByteArray) (m:Nat):Prop:=
 ((n=qbm∨n=nEnc∨n=qc5∨n=qbg∨n=nExp∨n=nDec∨n=qbq∨n=qbp)→m=2)∧((n=nPk∨n=nFst∨n=nSnd∨n=qc1)→m=1)
mutual
def ArT:Tm→Prop
 | .mk k n s l=>(k=3→s=0∧arN n l.length)∧ArTs l
def ArTs:List Tm→Prop
 | []=>True
 | t::r=>ArT t∧ArTs r
end
theorem qda:∀{l:List Tm},ArTs l↔∀t∈l,ArT t
 | []=>by rw[ArTs];simp
 | t::r=>by rw[ArTs,qda (l:=r)];simp
theorem ArT.none:ArT (.mk 0 .empty 0 []):=by rw[ArT,ArTs];exact⟨fun h=>absurd h (by decide),trivial⟩
theorem ArT.kidl {l:List Tm} (h:∀t∈l,ArT t) (i:Nat):ArT (kidT l i):=by
 unfold kidT
 cases he:l[i]? with
 | none=>exact ArT.none
 | some x=>exact h x (List.mem_of_getElem? he)
theorem ArT.kids {t:Tm} (h:ArT t):∀k∈t.kids,ArT k:=by obtain⟨k,n,s,l⟩:=t;rw[ArT]at h;exact qda.1 h.2
theorem ArT.num {t:Tm} (h:ArT t) {n:ByteArray} (hn:t.isA n):t.sort=0∧arN n t.kids.length:=by
 obtain⟨k,m,s,l⟩:=t;rw[ArT]at h;obtain⟨rfl,rfl⟩:k=3∧m=n:=hn;exact h.1 rfl
mutual
theorem ArT.sumd:∀{t:Tm},ArT t→∀p∈t.sumd,ArT p
 | .mk k n s l,h,p,hp=>by
  rw[Tm.sumd]at hp
  split at hp
  ·cases hp
  ·split at hp
   ·rw[ArT]at h;exact ArTs.sumds l [] h.2 (by simp) p hp
   ·rw[List.mem_singleton.1 hp];exact h
theorem ArTs.sumds:∀(l a:List Tm),ArTs l→(∀p∈a,ArT p)→∀p∈Tm.sumds l a,ArT p
 | [],_,_,ha,p,hp=>ha p hp
 | t::r,a,hl,ha,p,hp=>by
  rw[ArTs]at hl;refine ArTs.sumds r _ hl.2 (fun q hq=>?_) p hp;rcases (qdj t.sumd a q (qcb (qcw t))).1 hq with⟨h1,-⟩|⟨-,h2⟩
  ·exact ha q h1
  ·exact hl.1.sumd q h2
end
mutual
theorem ArT.facs:∀{t:Tm},ArT t→AllF ArT t
 | .mk k n s l,h=>by
  rw[AllF]
  split
  ·rw[ArT]at h;exact ArTs.facs h.2
  ·exact h
theorem ArTs.facs:∀{l:List Tm},ArTs l→AllFs ArT l
 | [],_=>by rw[AllFs];trivial
 | t::r,h=>by rw[ArTs]at h;rw[AllFs];exact⟨h.1.facs,ArTs.facs h.2⟩
end
theorem arN_any {n:ByteArray} (h:n=nXor∨n=qch∨n=nMul∨n=nInv∨n=nOne) (m:Nat):arN n m:=by
 rcases h with h|h|h|h|h<;>subst h<;>exact⟨fun h=>absurd h (by decide),fun h=>absurd h (by decide)⟩
theorem ArT.alg {n:ByteArray} {l:List Tm} (h:n=nXor∨n=qch∨n=nMul∨n=nInv∨n=nOne) (hl:∀t∈l,ArT t):ArT (.mk 3 n 0 l):=by
 rw[ArT];exact⟨fun _=>⟨rfl,arN_any h _⟩,qda.2 hl⟩
theorem ArT.xorT {L:List Tm} (h:∀p∈L,ArT p):ArT (Go.Proofs.YtjhjoiplpmjepaaGreat.xorT L):=by
 match L,h with
 | [],_=>exact ArT.alg (.inr (.inl rfl)) (by simp)
 | [p],h=>exact h p (List.mem_cons_self ..)
 | a::b::r,h=>exact ArT.alg (n:=nXor) (.inl rfl) h
theorem ArT.prodT {l:List (Tm×Int)} (h:∀p∈l,ArT p.1):ArT (Go.Proofs.YtjhjoiplpmjepaaGreat.prodT l):=by
 have hm:∀t∈posP l++negP l,ArT t:=by
  intro t ht;rcases List.mem_append.1 ht with ht|ht
  ·obtain⟨p,hp,ht⟩:=List.mem_flatMap.1 ht;rw[List.eq_of_mem_replicate ht];exact h p hp
  ·obtain⟨p,hp,ht⟩:=List.mem_flatMap.1 ht;rw[List.eq_of_mem_replicate ht];exact ArT.alg (.inr (.inr (.inr (.inl rfl)))) fun t ht=>by rw[List.mem_singleton.1 ht];exact h p hp
 unfold Go.Proofs.YtjhjoiplpmjepaaGreat.prodT
 match posP l++negP l,hm with
 | [],_=>exact ArT.alg (n:=nOne) (.inr (.inr (.inr (.inr rfl)))) (by simp)
 | [t],hm=>exact hm t (List.mem_cons_self ..)
 | a::b::r,hm=>exact ArT.alg (n:=nMul) (.inr (.inr (.inl rfl))) hm
theorem ArT.nodeF {n:ByteArray} {l:List Tm} (h:∀t∈l,ArT t) (hn:arN n l.length):ArT (nodeF n l):=by
 have hmk:ArT (.mk 3 n 0 l):=by rw[ArT];exact⟨fun _=>⟨rfl,hn⟩,qda.2 h⟩
 by_cases h1:desN n
 ·rw[qa6 h1,qau]
  split
  ·exact ArT.kidl (ArT.kidl h 0).kids _
  ·exact hmk
 ·by_cases h2:n=nXor
  ·subst h2;rw[qbl];exact ArT.xorT (ArTs.sumds l [] (qda.2 h) (by simp))
  ·by_cases h3:symN n
   ·rw[qa5 h3];exact ArT.prodT (qed hmk.facs)
   ·by_cases h4:n=nExp
    ·subst h4;have hb:=ArT.kidl h 0;have he:=ArT.kidl h 1;have hbb:ArT (kidT l 0).baseE:=by
      unfold Tm.baseE;split
      ·exact ArT.kidl hb.kids 0
      ·exact hb
     have hbe:∀p∈(kidT l 0).expoE,ArT p.1:=by
      unfold Tm.expoE;split
      ·exact qed (ArT.kidl hb.kids 1).facs
      ·simp
     rw[qbz,qbc,mkE]
     split
     ·exact hbb
     ·rw[ArT,ArTs,ArTs,ArTs];exact⟨fun _=>⟨rfl,fun _=>rfl,fun h=>absurd h (by decide)⟩,hbb,ArT.prodT (qf3 (Q:=ArT) _ _ hbe (qed he.facs)),trivial⟩
    ·rw[qbd h1 h2 h3 h4];exact hmk
mutual
theorem ArT.nf:∀{t:Tm},ArT t→ArT t.nf
 | .mk k n s l,h=>by
  rw[Tm.nf]
  split
  ·rename_i hk
   rw[ArT]at h;refine ArT.nodeF (qda.1 (ArTs.nfs h.2)) ?_;rw[qc0,List.length_map];exact(h.1 hk).2
  ·exact h
theorem ArTs.nfs:∀{l:List Tm},ArTs l→ArTs (Tm.nfs l)
 | [],_=>by rw[Tm.nfs,ArTs];trivial
 | t::r,h=>by rw[ArTs]at h;rw[Tm.nfs,ArTs];exact⟨h.1.nf,ArTs.nfs h.2⟩
end
theorem qhl {n:ByteArray} {s:Sy} (h:qeo n=some s):s∈tabS∧s.nm=n:=by
 unfold qeo at h;exact⟨List.mem_of_find?_eq_some h,by simpa using List.find?_some h⟩
theorem arN_of {n:ByteArray} {l:List Tm} (h:thN n l=0):arN n l.length:=by
 unfold thN at h
 cases hs:qeo n with
 | none=>rw[hs]at h;exact absurd h (show ¬(10:Int)=0 by decide)
 | some s=>
  rw[hs]at h;simp only at h
  split at h
  ·exact absurd h (by decide)
  ·rename_i hl
   refine⟨fun hn=>?_,fun hn=>?_⟩
   ·have:s.lo=2∧s.hi=2:=by
     rcases hn with e|e|e|e|e|e|e|e<;>subst e<;>(injection hs with hs;subst hs;exact⟨rfl,rfl⟩)
    omega
   ·have:s.lo=1∧s.hi=1:=by
     rcases hn with e|e|e|e<;>subst e<;>(injection hs with hs;subst hs;exact⟨rfl,rfl⟩)
    omega
mutual
theorem ArT.of_th:∀{t:Tm},t.check=0→t.th=0→ArT t
 | .mk k n s l,hc,h=>by
  rw[Tm.check]at hc;rw[Tm.th]at h;rw[ArT]
  split at hc
  ·rename_i hk
   split at hc
   ·exact absurd hc (by decide)
   ·rename_i h1
    have hl:l=[]:=Classical.byContradiction fun e=>h1 (.inr (.inr e));subst hl;exact⟨fun e=>by omega,by rw[ArTs];trivial⟩
  ·split at hc
   ·rename_i hk
    rw[if_pos hk]at h
    split at hc
    ·exact absurd hc (by decide)
    ·rename_i hs0
     split at hc
     ·exact absurd hc (by decide)
     ·split at hc
      ·exact absurd hc (by decide)
      ·split at h
       ·rename_i hn;exact absurd h hn
       ·rename_i hn
        exact⟨fun _=>⟨Classical.not_not.1 hs0,arN_of (Classical.not_not.1 hn)⟩,ArTs.of_th hc h⟩
   ·exact absurd hc (by decide)
theorem ArTs.of_th:∀{l:List Tm},Tm.checks l=0→Tm.ths l=0→ArTs l
 | [],_,_=>by rw[ArTs];trivial
 | t::r,hc,h=>by
  rw[Tm.checks]at hc;rw[Tm.ths]at h;rw[ArTs]
  split at hc
  ·rename_i hn;exact absurd hc hn
  ·rename_i hn
   split at h
   ·rename_i hm;exact absurd h hm
   ·rename_i hm
    exact⟨ArT.of_th (Classical.not_not.1 hn) (Classical.not_not.1 hm),ArTs.of_th hc h⟩
end
end Go.Proofs.YtjhjoiplpmjepaaGreat
