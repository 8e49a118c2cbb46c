/- Tsym, Tcheck, Tnormal, Tequal, Vfine, Vlaw0, Tbenta (joined by shake.py). -/
import Derived.Test.YtjhjoiplpmjepaaGreatW0
import Derived.Test.YtjhjoiplpmjepaaGreatW6
import Derived.Test.YtjhjoiplpmjepaaGreatW13
import Derived.Test.YtjhjoiplpmjepaaGreatW14
import Derived.Test.YtjhjoiplpmjepaaGreatW15
import Derived.Test.YtjhjoiplpmjepaaGreatW17
import Derived.Test.YtjhjoiplpmjepaaGreatW19
set_option maxRecDepth 100000
set_option linter.unusedVariables false
set_option linter.unusedSimpArgs false
set_option maxHeartbeats 16000000
namespace Go.Proofs.YtjhjoiplpmjepaaGreat
open Go.RowKit Go.Sort
def qfu (s:Sy):List Value:=[.string s.nm,.int .i64 s.lo,.int .i64 s.hi,.int .i64 s.kd]
def qbs (l:List Sy):List Value:=l.flatMap qfu
theorem qkb (l:List Sy) (s:Sy):qbs (l++[s])=qbs l++qfu s:=by simp[qbs]
theorem slSym:SlT 137 140 4 40 (.agg #[.string ⟨#[]⟩,.int .i64 0,.int .i64 0,.int .i64 0]):=⟨Tryz.underlying137,by kernel_rfl,rfl,by decide,by decide⟩
structure SyAt (ob:Nat) (w:World) (l:List Sy):Prop where
 box:∃v,w.heap[ob]?=some (.cells #[v] 137 (0,0))∧w.ownsRow (ob+1) 140 4 v l.length (qbs l)
 lt:ob<w.heap.size
theorem SyAt.below {ob:Nat} {w w':World} {l:List Sy} (h:SyAt ob w l) (hb:Below w.heap.size w w'):SyAt ob w' l:=by
 obtain⟨⟨v,h1,h2⟩,h3⟩:=h;exact⟨⟨v,(hb.block ob h3).trans h1,qie h2 hb⟩,Nat.lt_of_lt_of_le h3 hb.size⟩
theorem qqo (s:Sy) (ob:Nat) (l:List Sy) (w:World) (hl:l.length≤100) (h:SyAt ob w l) :
  Calls Tryz.prog 179 #[.int .i64 s.kd,.string s.nm,.int .i64 s.lo,.int .i64 s.hi,.pointer (some ⟨ob,0,none⟩)] w fun e w'=>e=.returned (.tuple #[])∧SyAt ob w' (l++[s])∧Below ob w w':=by
 obtain⟨⟨v,hbx,hrow⟩,hlt⟩:=h;have r0:w.cell? ⟨ob,0,none⟩=some v:=by simp[World.cell?,hbx]
 obtain⟨g,c,w5,hap,hr5,hg5⟩:=row_add slSym hrow (Nat.succ_le_of_lt hlt) (qfu s) rfl (fun u hu=>by
  simp only[qfu,List.mem_cons,List.not_mem_nil,or_false]at hu;rcases hu with rfl|rfl|rfl|rfl<;>rfl) (by omega)
 have hne:∀k,v.ownBlock=some k→k≠ob:=fun k hk e=>by have:=(hrow.lt k hk).1;omega
 have hz:w5.heap[ob]?=some (.cells #[v] 137 (0,0)):=(hg5.old ob hlt (fun e=>hne ob e rfl)).trans hbx;have q0:w5.cell? ⟨ob,0,none⟩=some v:=by simp[World.cell?,hz]
 have q1:w5.frozen? ⟨ob,0,none⟩=false:=by simp[World.frozen?,hz]
 have hfin:SyAt ob (w5.setCell ⟨ob,0,none⟩ (.slice (some ⟨g,0,none⟩) (l.length+1) c)) (l++[s])∧Below ob w (w5.setCell ⟨ob,0,none⟩ (.slice (some ⟨g,0,none⟩) (l.length+1) c)):=by
  refine⟨⟨⟨.slice (some ⟨g,0,none⟩) (l.length+1) c,?_,?_⟩,by have:=hg5.size;simp[World.setCell];omega⟩,(hg5.below.mono (Nat.le_succ _)).setCell (Nat.le_refl _) _⟩
  ·simp[World.setCell,Array.getElem?_modify,hz]
  ·rw[List.length_append,qkb];exact own_keep hr5 (fun q hq=>Below.heap_setCell _ _ _ _ (by have:=(hr5.lt _ hq).1;show q≠ob;omega))
 have HF:=hdzz hfin;clear hfin hrow hr5 hg5 hz hne;simp only[qfu]at hap;go_enter Tryz.func179,Tryz.ntmps179
 go_wp2_with (at_builtin;refine qag rfl _ _ rfl rfl rfl hap ?_)
 refine bodyPost_end (results_none Tryz.results179 _ _ _) rfl ?_;exact⟨rfl,HF.out⟩
theorem qm8 (w:World):Calls Tryz.prog 167 #[] w fun e w'=>∃A c,e=.returned (.slice A 21 c)∧RepV w' (fun b=>w.heap.size≤b∧b<w'.heap.size) 4 (qbs tabS) A 21 c∧Below w.heap.size w w':=by
 obtain⟨V,hV⟩:∃V,V=w.alloc (.cells #[.slice none 0 0] 137):=⟨_,rfl⟩;have h0:SyAt w.heap.size V []:=by rw[hV];exact⟨⟨_,heap_alloc_new _ _,World.ownsRow_nil _ _ _ _⟩,by simp⟩
 have b0:Below w.heap.size w V:=by rw[hV];exact qab (Nat.le_refl _) _
 have HV:=hdzz hV;clear hV;have H0:=hdzz h0;clear h0;have B0:=hdzz b0;clear b0;have AD:Hid (∀(s:Sy) (l:List Sy) (W:World),l.length≤100→Hid (SyAt w.heap.size W l)→Calls Tryz.prog 179 #[.int .i64 s.kd,.string s.nm,.int .i64 s.lo,.int .i64 s.hi,.pointer (some ⟨w.heap.size,0,none⟩)] W fun e w'=>e=.returned (.tuple #[])∧SyAt w.heap.size w' (l++[s])∧Below w.heap.size W w'):=
  hdzz fun s l W hl h=>qqo s w.heap.size l W hl h.out
 go_enter Tryz.func167,Tryz.ntmps167
 go_wp2_with fail
 rw[←HV.out];clear HV;go_wp2_with fail
 refine(AD.out tabS[0] (tabS.take 0) _ (by decide) H0).mono ?_;rintro e w1 ⟨rfl,h1,b1⟩;have H1:=hdzz h1;clear h1 H0;have B1:=hdzz (B0.out.trans b1);clear b1 B0;go_wp2_with fail
 refine(AD.out tabS[1] (tabS.take 1) _ (by decide) H1).mono ?_;rintro e w2 ⟨rfl,h2,b2⟩;have H2:=hdzz h2;clear h2 H1;have B2:=hdzz (B1.out.trans b2);clear b2 B1;go_wp2_with fail
 refine(AD.out tabS[2] (tabS.take 2) _ (by decide) H2).mono ?_;rintro e w3 ⟨rfl,h3,b3⟩;have H3:=hdzz h3;clear h3 H2;have B3:=hdzz (B2.out.trans b3);clear b3 B2;go_wp2_with fail
 refine(AD.out tabS[3] (tabS.take 3) _ (by decide) H3).mono ?_;rintro e w4 ⟨rfl,h4,b4⟩;have H4:=hdzz h4;clear h4 H3;have B4:=hdzz (B3.out.trans b4);clear b4 B3;go_wp2_with fail
 refine(AD.out tabS[4] (tabS.take 4) _ (by decide) H4).mono ?_;rintro e w5 ⟨rfl,h5,b5⟩;have H5:=hdzz h5;clear h5 H4;have B5:=hdzz (B4.out.trans b5);clear b5 B4;go_wp2_with fail
 refine(AD.out tabS[5] (tabS.take 5) _ (by decide) H5).mono ?_;rintro e w6 ⟨rfl,h6,b6⟩;have H6:=hdzz h6;clear h6 H5;have B6:=hdzz (B5.out.trans b6);clear b6 B5;go_wp2_with fail
 refine(AD.out tabS[6] (tabS.take 6) _ (by decide) H6).mono ?_;rintro e w7 ⟨rfl,h7,b7⟩;have H7:=hdzz h7;clear h7 H6;have B7:=hdzz (B6.out.trans b7);clear b7 B6;go_wp2_with fail
 refine(AD.out tabS[7] (tabS.take 7) _ (by decide) H7).mono ?_;rintro e w8 ⟨rfl,h8,b8⟩;have H8:=hdzz h8;clear h8 H7;have B8:=hdzz (B7.out.trans b8);clear b8 B7;go_wp2_with fail
 refine(AD.out tabS[8] (tabS.take 8) _ (by decide) H8).mono ?_;rintro e w9 ⟨rfl,h9,b9⟩;have H9:=hdzz h9;clear h9 H8;have B9:=hdzz (B8.out.trans b9);clear b9 B8;go_wp2_with fail
 refine(AD.out tabS[9] (tabS.take 9) _ (by decide) H9).mono ?_;rintro e w10 ⟨rfl,h10,b10⟩;have H10:=hdzz h10;clear h10 H9;have B10:=hdzz (B9.out.trans b10);clear b10 B9;go_wp2_with fail
 refine(AD.out tabS[10] (tabS.take 10) _ (by decide) H10).mono ?_;rintro e w11 ⟨rfl,h11,b11⟩;have H11:=hdzz h11;clear h11 H10;have B11:=hdzz (B10.out.trans b11);clear b11 B10;go_wp2_with fail
 refine(AD.out tabS[11] (tabS.take 11) _ (by decide) H11).mono ?_;rintro e w12 ⟨rfl,h12,b12⟩;have H12:=hdzz h12;clear h12 H11;have B12:=hdzz (B11.out.trans b12);clear b12 B11;go_wp2_with fail
 refine(AD.out tabS[12] (tabS.take 12) _ (by decide) H12).mono ?_;rintro e w13 ⟨rfl,h13,b13⟩;have H13:=hdzz h13;clear h13 H12;have B13:=hdzz (B12.out.trans b13);clear b13 B12;go_wp2_with fail
 refine(AD.out tabS[13] (tabS.take 13) _ (by decide) H13).mono ?_;rintro e w14 ⟨rfl,h14,b14⟩;have H14:=hdzz h14;clear h14 H13;have B14:=hdzz (B13.out.trans b14);clear b14 B13;go_wp2_with fail
 refine(AD.out tabS[14] (tabS.take 14) _ (by decide) H14).mono ?_;rintro e w15 ⟨rfl,h15,b15⟩;have H15:=hdzz h15;clear h15 H14;have B15:=hdzz (B14.out.trans b15);clear b15 B14;go_wp2_with fail
 refine(AD.out tabS[15] (tabS.take 15) _ (by decide) H15).mono ?_;rintro e w16 ⟨rfl,h16,b16⟩;have H16:=hdzz h16;clear h16 H15;have B16:=hdzz (B15.out.trans b16);clear b16 B15;go_wp2_with fail
 refine(AD.out tabS[16] (tabS.take 16) _ (by decide) H16).mono ?_;rintro e w17 ⟨rfl,h17,b17⟩;have H17:=hdzz h17;clear h17 H16;have B17:=hdzz (B16.out.trans b17);clear b17 B16;go_wp2_with fail
 refine(AD.out tabS[17] (tabS.take 17) _ (by decide) H17).mono ?_;rintro e w18 ⟨rfl,h18,b18⟩;have H18:=hdzz h18;clear h18 H17;have B18:=hdzz (B17.out.trans b18);clear b18 B17;go_wp2_with fail
 refine(AD.out tabS[18] (tabS.take 18) _ (by decide) H18).mono ?_;rintro e w19 ⟨rfl,h19,b19⟩;have H19:=hdzz h19;clear h19 H18;have B19:=hdzz (B18.out.trans b19);clear b19 B18;go_wp2_with fail
 refine(AD.out tabS[19] (tabS.take 19) _ (by decide) H19).mono ?_;rintro e w20 ⟨rfl,h20,b20⟩;have H20:=hdzz h20;clear h20 H19;have B20:=hdzz (B19.out.trans b20);clear b20 B19;go_wp2_with fail
 refine(AD.out tabS[20] (tabS.take 20) _ (by decide) H20).mono ?_;rintro e w21 ⟨rfl,h21,b21⟩;have H21:=hdzz h21;clear h21 H20;have B21:=hdzz (B20.out.trans b21);clear b21 B20;obtain⟨⟨v,hbx,hrow⟩,hlt⟩:=H21.out;obtain⟨A,c,rfl,hrep⟩:=qok hrow;have hbx:w21.heap[w.heap.size]?=some (.cells #[.slice A 21 c] 137 (0,0)):=hbx;have r0:w21.cell? ⟨w.heap.size,0,none⟩=some (.slice A 21 c):=by simp[World.cell?,hbx]
 have HR:=hdzz hrep;clear hbx hrow hrep;go_wp2_with fail
 go_ret
 exact⟨A,c,rfl,HR.out _ (fun b h1 h2 _=>⟨by omega,h2⟩),B21.out⟩
def symV:Option Sy→Value
 | some s=>.agg #[.string s.nm,.int .i64 s.lo,.int .i64 s.hi,.int .i64 s.kd]
 | none=>.agg #[.string ⟨#[]⟩,.int .i64 0,.int .i64 0,.int .i64 0]
theorem qhd (l:List Sy) (i:Nat) (h:i<l.length):(qbs l)[i*4]?=some (.string l[i].nm)∧(qbs l)[i*4+1]?=some (.int .i64 l[i].lo)∧(qbs l)[i*4+2]?=some (.int .i64 l[i].hi)∧(qbs l)[i*4+3]?=some (.int .i64 l[i].kd):=by
 induction l generalizing i with
 | nil=>simp at h
 | cons x r ih=>
  cases i with
  | zero=>simp[qbs,qfu]
  | succ i=>
   have g:=ih i (by simpa using h);have e0:(i+1)*4=4+i*4:=by omega
   simp only[qbs,qfu,List.flatMap_cons,List.getElem_cons_succ,List.cons_append,List.nil_append];rw[e0,Nat.add_assoc 4 (i*4) 1,Nat.add_assoc 4 (i*4) 2,Nat.add_assoc 4 (i*4) 3,qc0,qc0,qc0,qc0];exact g
theorem qhl (a b:ByteArray):decide (a=b)=(a.toList==b.toList):=by
 rw[Bool.eq_iff_iff,decide_eq_true_iff,beq_iff_eq];exact⟨fun h=>by rw[h],fun h=>by rw[ByteArray.toList_eq,ByteArray.toList_eq]at h;exact ByteArray.ext (Array.toList_inj.1 h)⟩
theorem qps {W:World} {B:Nat} {a b c d x y z u:Value} {T:TypeId} (h:W.heap[B]?=some (.cells #[a,b,c,d] T (0,0))) :
  ∃Y,Y=((((W.setCell ⟨B,0,none⟩ x).setCell ⟨B,1,none⟩ y).setCell ⟨B,2,none⟩ z).setCell ⟨B,3,none⟩ u)∧Y.heap[B]?=some (.cells #[x,y,z,u] T (0,0))∧(∀C,C≤B→∀w,Below C w W→Below C w Y)∧Y.heap.size=W.heap.size∧
   (∀k,k≠B→Y.heap[k]?=W.heap[k]?):=by
 refine⟨_,rfl,?_,fun C hC w hw=>?_,by simp[World.setCell],fun k hk=>?_⟩
 ·simp[World.setCell,Array.getElem?_modify,h]
 ·iterate 4 refine Below.setCell ?_ (by exact hC) _
  exact hw
 ·rw[Below.heap_setCell _ _ _ _ (by exact hk),Below.heap_setCell _ _ _ _ (by exact hk),Below.heap_setCell _ _ _ _ (by exact hk),Below.heap_setCell _ _ _ _ (by exact hk)]
theorem qgl {Y:World} {B:Nat} {o o':Obj} (h:Y.heap[B]?=some o):(Y.alloc o').heap[B]?=some o:=by
 have hlt:=(sltz h);rw[Below.heap_alloc _ _ _ hlt];exact h
theorem tabS_kd:∀s∈tabS,s.kd≠0:=by decide
theorem qpq (n:ByteArray) (w:World):Calls Tryz.prog 132 #[.string n] w fun e w'=>e=.returned (symV (qft n))∧Below w.heap.size w w':=by
 obtain⟨V,hV⟩:∃V,V=w.alloc (.cells #[.string ⟨#[]⟩,.int .i64 0,.int .i64 0,.int .i64 0] 140):=⟨_,rfl⟩;have hx:V.heap[w.heap.size]?=some (.cells #[.string ⟨#[]⟩,.int .i64 0,.int .i64 0,.int .i64 0] 140 (0,0)):=by rw[hV];exact heap_alloc_new _ _
 have b0:Below w.heap.size w V:=by rw[hV];exact qab (Nat.le_refl _) _
 have s0:V.heap.size=w.heap.size+1:=by rw[hV];simp
 have SY:=hdzz (qm8 V);have HV:=hdzz hV;clear hV;have HX:=hdzz hx;clear hx;have B0:=hdzz b0;clear b0;obtain⟨r,hr⟩:∃r,r=qft n:=⟨_,rfl⟩;rw[←hr];have HR:=hdzz hr;clear hr;go_enter Tryz.func132,Tryz.ntmps132
 go_wp2_with fail
 rw[←HV.out];clear HV;go_wp2_with fail
 refine SY.out.mono ?_;clear SY;rintro e w1 ⟨A,c,rfl,hrep,hb1⟩;obtain⟨b,off,rfl,hbP,hcl⟩:=hrep.at (by omega);have hs1:=hb1.size;have HX1:=hdzz ((hb1.block _ (by omega)).trans HX.out);have B1:=hdzz (B0.out.trans (hb1.mono (by omega)));have HCL:=hdzz hcl;have HBP:=hdzz hbP;clear hcl hrep hb1 HX B0 hbP;go_wp2_with fail
 go_loopw [7] (fun i wr=>∃k:Nat,k≤21∧i=.int .i64 k∧Hid (Below w1.heap.size w1 wr)∧Hid ((tabS.drop k).find? (fun s=>decide (s.nm=n))=r)) (fun i _=>21 - (intOf i).toNat)
 case atStart=>exact⟨0,Nat.zero_le _,rfl,Below.refl _ _,HR.out.symm⟩
 case round=>
  obtain⟨k,hk,rfl,HB,HF⟩:=hrel;have i1:(0:Int)≤(k:Int):=Int.natCast_nonneg _;have hxr:=(HB.out.block _ (by omega)).trans HX1.out;obtain⟨x0,x1,x2,x3,xf⟩:=qaa hxr;have hsr:=HB.out.size;have hlt0:w.heap.size<wr.heap.size:=by omega
  have BR:=hdzz (B1.out.trans (HB.out.mono (by omega)));have HXR:=hdzz hxr;clear hxr;by_cases hlt:k<21
  ·have i2:(k:Int)<21:=by omega
   have hlen:k<tabS.length:=hlt;obtain⟨g0,g1,g2,g3⟩:=qhd tabS k hlen;have hcell:∀o,wr.cell? ⟨b,o,none⟩=w1.cell? ⟨b,o,none⟩:=fun o=>HB.out.cell (by exact HBP.out.2);have h0:=(hcell _).trans (HCL.out _ _ g0);have h1:=(hcell _).trans (HCL.out _ _ g1);have h2:=(hcell _).trans (HCL.out _ _ g2);have h3:=(hcell _).trans (HCL.out _ _ g3);rw[←Nat.add_assoc]at h1 h2 h3;clear g0 g1 g2 g3 hcell;have hd:=List.drop_eq_getElem_cons hlen;have hf:=HF.out;rw[hd,List.find?_cons]at hf;clear hd HF;obtain⟨s,hs⟩:∃s,s=tabS[k]:=⟨_,rfl⟩;rw[←hs]at h0 h1 h2 h3 hf;clear hs;rw[qhl]at hf;generalize hq:(s.nm.toList==n.toList)=q at hf
   cases q with
   | true=>
    have hf:some s=r:=hf;subst hf;obtain⟨Y,hY,hYB,hYb,hYs,-⟩:=qps (x:=.string s.nm) (y:=.int .i64 s.lo) (z:=.int .i64 s.hi) (u:=.int .i64 s.kd) HXR.out;have hZ:=qgl (o':=.cells #[.string s.nm,.int .i64 s.lo,.int .i64 s.hi,.int .i64 s.kd] 140) hYB;have HY:=hdzz hY;have HYB:=hdzz hYb;have HZ:=hdzz (qaa hZ);clear hY hYB hYb hZ;go_wp2_with fail
    rw[←HY.out];obtain⟨y0,y1,y2,y3,-⟩:=HZ.out;refine bodyPost_ret (v:=symV (some s)) ?_ rfl ?_
    ·simp[results,Tryz.results132,go_sem,symV,y0,y1,y2,y3]
    ·exact⟨rfl,(HYB.out _ (Nat.le_refl _) _ BR.out).alloc (by omega) _⟩
   | false=>
    have hf:(tabS.drop (k+1)).find? (fun s=>decide (s.nm=n))=r:=hf;have HF2:=hdzz hf;clear hf;go_wp2_with fail
    go_roundw
    case rel=>exact⟨k+1,by omega,by go_num,HB.out.alloc (by omega) _,HF2⟩
    case measure=>simp[intOf];omega
  ·obtain rfl:k=21:=by omega
   have hf:none=r:=HF.out;subst hf;go_wp2_with fail
   refine bodyPost_ret (v:=symV none) ?_ rfl ?_
   ·simp[results,Tryz.results132,go_sem,symV,x0,x1,x2,x3]
   ·refine⟨rfl,?_⟩
    iterate 4 refine Below.setCell ?_ (by exact Nat.le_refl _) _
    exact BR.out
theorem qf8 (l:List Tm) (k:Nat) (h:k<l.length):Tm.ths (l.drop k)=if l[k].th≠0 then l[k].th else Tm.ths (l.drop (k+1)):=by
 rw[List.drop_eq_getElem_cons h,Tm.ths]
def noAg (k:Tm):Bool:=decide (k.kind=3∨k.sort≠1)
theorem noAg_eq (k:Tm):noAg k=if (k.kind==3)=true then true else (k.sort != 1):=by
 unfold noAg;by_cases h:k.kind=3
 ·simp[h]
 ·by_cases h2:k.sort=1<;>simp[h,h2]
theorem thN_none {n:ByteArray} {l:List Tm} (h:qft n=none):thN n l=10:=by unfold thN;rw[h]
theorem thN_some {n:ByteArray} {l:List Tm} {s:Sy} (h:qft n=some s):thN n l=if (l.length:Int)<s.lo∨s.hi<l.length then 6
  else if (n=nSk∨n=nShk)∧(l.any noAg)=true then 10
  else if n=nNew∧(kidT l 0).kind≠2 then 10 else 0:=by unfold thN;rw[h];rfl
theorem qkl {n c:ByteArray} {L:List UInt8} (h:c.data.toList=L):(n=c)↔(n.toList==L)=true:=by
 rw[beq_iff_eq,ByteArray.toList_eq,←h];exact⟨fun e=>by rw[e],fun e=>ByteArray.ext (Array.toList_inj.1 e)⟩
theorem qo4 {l:List Tm} {k:Nat} (hk:k<l.length) (h:(l.take k).any noAg=false):(noAg l[k]=true→l.any noAg=true)∧(noAg l[k]=false→(l.take (k+1)).any noAg=false):=by
 refine⟨fun e=>List.any_eq_true.2 ⟨l[k],List.getElem_mem hk,e⟩,fun e=>?_⟩;rw[List.take_add_one,List.getElem?_eq_getElem hk,List.any_append,h];simp[e]
theorem sk_arity {n:ByteArray} {s:Sy} (h:qft n=some s) (hn:n=nNew):s.lo=1:=by
 subst hn;injection h with h;subst h;rfl
theorem qpp (n:Nat):∀(t:Tm) (A:Option Addr) (cap:Nat) (w:World),t.size≤n→n≤1000000→RepT w w.heap.size t A cap→
  Calls Tryz.prog 103 #[t.val A cap] w fun e w'=>e=.returned (.int .i64 t.th)∧Below w.heap.size w w':=by
 induction n with
 | zero=>intro t _ _ _ h;have:=t.size_pos;omega
 | succ n ih=>
  intro t A cap w hn hb hrep;obtain⟨tk,tn,ts,l⟩:=t;have IH:=hdzz ih;clear ih;rw[Tm.size]at hn;rw[qbe]at hrep;obtain⟨hr1,hr2,hr3,hr4⟩:=hrep;have hls:=Tm.length_le_sizes l;unfold maxLen at hr1 hr3;obtain⟨V,hV⟩:∃V,V=w.alloc (.cells #[.int .i64 tk,.string tn,.int .i64 ts,.slice A l.length cap] 24):=⟨_,rfl⟩;have hbV:Below w.heap.size w V:=by rw[hV];exact qab (Nat.le_refl _) _
  have hsV:V.heap.size=w.heap.size+1:=by rw[hV];simp
  have hbx:V.heap[w.heap.size]?=some (.cells #[.int .i64 tk,.string tn,.int .i64 ts,.slice A l.length cap] 24 (0,0)):=by rw[hV];exact heap_alloc_new _ _
  have HBV:=hdzz hbV;clear hbV;simp only[Tm.val,Tm.kind,Tm.name,Tm.sort,Tm.kids];by_cases hk:tk=3
  case neg=>
   have h0:(Tm.mk tk tn ts l).th=0:=by rw[Tm.th,if_neg hk]
   rw[h0];clear h0;have q:(tk==3)=false:=by rw[beq_eq_false_iff_ne];exact hk
   have q':(tk != 3)=true:=by simp[hk]
   obtain⟨r0,r1,r2,r3,rf⟩:=qaa hbx;have HV:=hdzz hV;clear hV;clear hbx hk;go_enter Tryz.func103,Tryz.ntmps103
   go_wp2_with fail
   rw[←HV.out];go_wp2_with fail
   go_ret
   exact⟨rfl,HBV.out⟩
  subst hk;have hth:(Tm.mk 3 tn ts l).th=if thN tn l≠0 then thN tn l else Tm.ths l:=by rw[Tm.th,if_pos rfl]
  obtain⟨r,hr⟩:∃r,r=(Tm.mk 3 tn ts l).th:=⟨_,rfl⟩;rw[←hr]at hth ⊢;clear hr;have HTV:Hid (∀v:Int,v≠0→thN tn l=v→r=v):=hdzz fun v h0 h=>by rw[hth,h,if_pos h0]
  have HTZ:Hid (thN tn l=0→r=Tm.ths l):=hdzz fun h=>by rw[hth,h];rfl
  clear hth;have SB:=qpq tn V;obtain⟨so,hso⟩:∃so,so=qft tn:=⟨_,rfl⟩;rw[←hso]at SB;have SB:=hdzz SB;have HV:=hdzz hV;clear hV;have HBX:=hdzz (qaa hbx);have HBXX:=hdzz hbx;clear hbx
  cases so with
  | none=>
   have hN:=thN_none (l:=l) hso.symm;have hr:r=10:=HTV.out 10 (by decide) hN;subst hr;clear HTV HTZ hN hso;obtain⟨r0,r1,r2,r3,rf⟩:=HBX.out;go_enter Tryz.func103,Tryz.ntmps103
   go_wp2_with fail
   rw[←HV.out];go_wp2_with fail
   refine SB.out.mono ?_;rintro e w1 ⟨rfl,hb1⟩;have HB1:=hdzz (HBV.out.trans (hb1.mono (by omega)));clear SB hb1 r0 r1 r2 r3 rf;simp only[symV];go_wp2_with fail
   go_ret
   exact⟨rfl,HB1.out.alloc (by have:=HB1.out.size;omega) _⟩
  | some s=>
   have hN:=thN_some (l:=l) hso.symm;have hmem:=(qlj hso.symm).1;have hkd:s.kd≠0:=tabS_kd s hmem;have hlo:=fun h=>sk_arity hso.symm h;have hq:(s.kd==0)=false:=by rw[beq_eq_false_iff_ne];exact hkd
   have HN:=hdzz hN;clear hN;have HLO:=hdzz hlo;clear hkd hmem hso hlo;have hlen:(l.length:Int)≤9223372036854775807:=by omega
   obtain⟨r0,r1,r2,r3,rf⟩:=HBX.out;go_enter Tryz.func103,Tryz.ntmps103
   go_wp2_with fail
   rw[←HV.out];go_wp2_with fail
   refine SB.out.mono ?_;rintro e w1 ⟨rfl,hb1⟩;have hs1:=hb1.size;have hxx:=(hb1.block _ (by omega)).trans HBXX.out;have HB1:=hdzz (HBV.out.trans (hb1.mono (by omega)));clear SB hb1 r0 r1 r2 r3 rf;simp only[symV];obtain⟨X,hX⟩:∃X,X=w1.alloc (.cells #[.string s.nm,.int .i64 s.lo,.int .i64 s.hi,.int .i64 s.kd] 140):=⟨_,rfl⟩;have hbX:Below w.heap.size w X:=by rw[hX];exact HB1.out.alloc (by omega) _
   have hsX:X.heap.size=w1.heap.size+1:=by rw[hX];simp
   have hX1:X.heap[w.heap.size]?=some (.cells #[.int .i64 3,.string tn,.int .i64 ts,.slice A l.length cap] 24 (0,0)):=by rw[hX];exact qgl hxx
   have hX2:X.heap[w1.heap.size]?=some (.cells #[.string s.nm,.int .i64 s.lo,.int .i64 s.hi,.int .i64 s.kd] 140 (0,0)):=by rw[hX];exact heap_alloc_new _ _
   obtain⟨y0,y1,y2,y3,yf⟩:=qaa hX2;have HXX:=hdzz hX1;obtain⟨r0,r1,r2,r3,rf⟩:=qaa hX1;have HBW:=hdzz hbX;clear hbX hX1 hX2 hxx HB1 HBXX HBX HV HBV;subst hX;by_cases h6:(l.length:Int)<s.lo
   ·have hr:r=6:=HTV.out 6 (by decide) (HN.out.trans (if_pos (.inl h6)));subst hr;go_wp2_with fail
    go_ret
    exact⟨rfl,HBW.out⟩
   by_cases h7:s.hi<(l.length:Int)
   ·have hr:r=6:=HTV.out 6 (by decide) (HN.out.trans (if_pos (.inr h7)));subst hr;go_wp2_with fail
    go_ret
    exact⟨rfl,HBW.out⟩
   have HN2:=hdzz (HN.out.trans (if_neg (fun h=>h.elim h6 h7)));clear HN;have H67:Hid (¬(l.length:Int)<s.lo):=h6;have g6:(decide ((l.length:Int)<s.lo))=false:=decide_eq_false h6;have g7:(decide (s.hi<(l.length:Int)))=false:=decide_eq_false h7;have N1:Hid (tn=nSk↔(tn.toList==[115,107])=true):=qkl (c:=nSk) rfl;have N2:Hid (tn=nShk↔(tn.toList==[115,104,107])=true):=qkl (c:=nShk) rfl;have N3:Hid (tn=nNew↔(tn.toList==[110,101,119])=true):=qkl (c:=nNew) rfl;have D23:Hid (nSk≠nNew∧nShk≠nNew):=⟨by decide,by decide⟩;clear y0 y3;generalize hq1:(tn.toList==[115,107])=q1 at N1;generalize hq2:(tn.toList==[115,104,107])=q2 at N2;generalize hq3:(tn.toList==[110,101,119])=q3 at N3
   have hcase:(q1=true∨(q1=false∧q2=true))∨(q1=false∧q2=false∧q3=true)∨(q1=false∧q2=false∧q3=false):=by
    cases q1<;>cases q2<;>cases q3<;>simp
   rcases hcase with hcase|hcase
   ·-- sk and shk
    have HSK:Hid ((tn=nSk∨tn=nShk)∧tn≠nNew):=by
     rcases hcase with h|h
     ·have e:=N1.out.2 h;exact⟨.inl e,fun e2=>D23.out.1 (e.symm.trans e2)⟩
     ·have e:=N2.out.2 h.2;exact⟨.inr e,fun e2=>D23.out.2 (e.symm.trans e2)⟩
    clear N1 N2 N3 D23;have HN3:Hid (thN tn l=if l.any noAg=true then 10 else 0):=by
     have e:=HN2.out;by_cases ha:l.any noAg=true
     ·rw[if_pos ⟨HSK.out.1,ha⟩]at e;rw[if_pos ha];exact e
     ·rw[if_neg (fun h=>ha h.2),if_neg (fun h=>HSK.out.2 h.1)]at e;rw[if_neg ha];exact e
    clear HN2 HSK;rcases hcase with rfl|⟨rfl,rfl⟩
    all_goals
     go_wp2_with fail
     generalize w1.alloc (.cells #[.string s.nm,.int .i64 s.lo,.int .i64 s.hi,.int .i64 s.kd] 140)=X at *;go_loopw [40] (fun i wr=>∃k:Nat,k≤l.length∧i=.int .i64 k∧Hid (Below X.heap.size X wr)∧Hid ((l.take k).any noAg=false)) (fun i _=>l.length - (intOf i).toNat)
     case atStart=>exact⟨0,Nat.zero_le _,rfl,Below.refl _ _,by rw[List.take_zero];exact rfl⟩
     case round=>
      obtain⟨k,hk,rfl,HB,HA⟩:=hrel;have i1:(0:Int)≤(k:Int):=Int.natCast_nonneg _;clear r0 r1 r2 r3 rf y1 y2 yf;have hsr:=HB.out.size;have HBR:=hdzz (HBW.out.trans (HB.out.mono (by have:=HBW.out.size;omega)));have HXR:=hdzz ((HB.out.block _ (by omega)).trans HXX.out);by_cases hlt:k<l.length
      ·have i2:(k:Int)<(l.length:Int):=by omega
       rcases hr4 with rfl|⟨b,off,rfl,hbB,hl⟩
       ·simp at hlt
       obtain⟨A',cap',h0,h1,h2,h3,h5⟩:=(hl.below HBR.out hbB).get k hlt;have hat:=qo4 hlt HA.out;have hna:=noAg_eq l[k];clear h5 hl;obtain⟨x,hx⟩:∃x,x=l[k]:=⟨_,rfl⟩;rw[←hx]at h0 h1 h2 h3 hat hna;clear hx;have HAT:=hdzz hat;clear hat;generalize hp1:(x.kind==3)=p1 at hna;generalize hp2:(x.sort != 1)=p2 at hna;have hp2':(x.sort==1) = !p2:=by rw[←hp2];unfold bne;rw[Bool.not_not]
       have HNA:=hdzz hna;clear hna
       cases p1 with
       | true=>
        have hr:r=10:=HTV.out 10 (by decide) (HN3.out.trans (if_pos (HAT.out.1 HNA.out)));subst hr;go_wp2_with fail
        go_ret
        exact⟨rfl,HBR.out.alloc (by omega) _⟩
       | false=>
        cases p2 with
        | true=>
         have hr:r=10:=HTV.out 10 (by decide) (HN3.out.trans (if_pos (HAT.out.1 HNA.out)));subst hr;go_wp2_with fail
         go_ret
         exact⟨rfl,HBR.out.alloc (by omega) _⟩
        | false=>
         go_wp2_with fail
         go_roundw
         case rel=>exact⟨k+1,by omega,by go_num,HB.out.alloc (by omega) _,HAT.out.2 HNA.out⟩
         case measure=>simp[intOf];omega
      ·obtain rfl:k=l.length:=by omega
       have HTL:Hid (r=Tm.ths l):=by
        have ha:=HA.out;rw[List.take_length]at ha;exact HTZ.out (HN3.out.trans (if_neg (by rw[ha];simp)))
       clear HTV HTZ HN3 HA;have HBC:=HBR;clear HBR;have HXC:=HXR;clear HXR;have r0:=hk;have r1:=hk;have r2:=hk;have r3:=hk;have rf:=hk;generalize wr=wc at *;clear r0 r1 r2 r3 rf;have hsc:=HBC.out.size;obtain⟨r0,r1,r2,r3,rf⟩:=qaa HXC.out;go_wp2_with fail
       clear r0 r1 r2 r3 rf;go_loopw [64] (fun i wr=>∃k:Nat,k≤l.length∧i=.int .i64 k∧Hid (Below wc.heap.size wc wr)∧Hid (Tm.ths (l.drop k)=r)) (fun i _=>l.length - (intOf i).toNat)
       case atStart=>exact⟨0,Nat.zero_le _,rfl,Below.refl _ _,HTL.out.symm⟩
       case round=>
        obtain⟨k,hk,rfl,HB,HF⟩:=hrel;have i1:(0:Int)≤(k:Int):=Int.natCast_nonneg _;have hsr:=HB.out.size;have HBR:=hdzz (HBC.out.trans (HB.out.mono (by omega)));by_cases hlt:k<l.length
        ·have i2:(k:Int)<(l.length:Int):=by omega
         rcases hr4 with rfl|⟨b,off,rfl,hbB,hl⟩
         ·simp at hlt
         obtain⟨A',cap',h0,h1,h2,h3,h5⟩:=(hl.below HBR.out hbB).get k hlt;have hsg:=Tm.sizes_get l k hlt;have hf:=HF.out;rw[qf8 l k hlt]at hf;have hbR:Below w.heap.size wr (wr.alloc (.cells #[.int .i64 l[k].kind,.string l[k].name,.int .i64 l[k].sort,.slice A' l[k].kids.length cap'] 24)):=(Below.refl _ _).alloc (by omega) _;have CON:=IH.out l[k] A' cap' _ (by omega) (by omega) (h5.go hbR (by simp;omega));clear hbR;have hxn:=heap_alloc_new wr (.cells #[.int .i64 l[k].kind,.string l[k].name,.int .i64 l[k].sort,.slice A' l[k].kids.length cap'] 24);clear h5 hl;obtain⟨x,hx⟩:∃x,x=l[k]:=⟨_,rfl⟩;rw[←hx]at h0 h1 h2 h3 hf CON hxn;clear hx;obtain⟨y,hy⟩:∃y,y=x.th:=⟨_,rfl⟩;rw[←hy]at hf CON;clear hy;simp only[Tm.val]at CON;have CON:=hdzz CON;have HF2:=hdzz hf;clear hf HF hxn
         go_wp2_with fail
         refine CON.out.mono ?_;clear CON h0 h1 h2 h3;rintro e w2 ⟨rfl,hb2⟩;have HB2:=hdzz ((Below.alloc HB.out (by omega) _).trans (hb2.mono (by simp;omega)));clear hb2;by_cases hz:y=0
         ·subst hz;have HF3:=hdzz HF2.out;go_wp2_with fail
          go_roundw
          case rel=>exact⟨k+1,by omega,by go_num,HB2.out,(if_neg (by simp)).symm.trans HF3.out⟩
          case measure=>simp[intOf];omega
         ·have hr:y=r:=(if_pos hz).symm.trans HF2.out;subst hr;have q:(y==0)=false:=by rw[beq_eq_false_iff_ne];exact hz
          have q':(y != 0)=true:=by simp[hz]
          clear HF2;go_wp2_with fail
          go_ret
          exact⟨rfl,HBC.out.trans (HB2.out.mono (by omega))⟩
        ·obtain rfl:k=l.length:=by omega
         have hr:0=r:=by have:=HF.out;rw[List.drop_length]at this;exact this
         subst hr;go_wp2_with fail
         go_ret
         exact⟨rfl,HBR.out⟩
   ·-- new and the others
    have HSN:Hid (¬(tn=nSk∨tn=nShk)):=by
     rintro(h|h)
     ·have:=N1.out.1 h;rcases hcase with h|h<;>rw[h.1]at this<;>cases this
     ·have:=N2.out.1 h;rcases hcase with h|h<;>rw[h.2.1]at this<;>cases this
    have HN3:=hdzz (HN2.out.trans (if_neg (fun h=>HSN.out h.1)));clear HN2 HSN N1 N2 D23;rcases hcase with⟨rfl,rfl,rfl⟩|⟨rfl,rfl,rfl⟩
    ·-- new
     have hnew:=N3.out.2 rfl;have hlo:=HLO.out hnew;have hl0:0<l.length:=by have:=H67.out;omega
     clear hlo;have HN4:Hid (thN tn l=if (l[0]'hl0).kind≠2 then 10 else 0):=by
      have e:=HN3.out;have e0:kidT l 0=l[0]'hl0:=by unfold kidT;rw[List.getElem?_eq_getElem hl0];rfl
      rw[e0]at e;by_cases h2:(l[0]'hl0).kind≠2
      ·rw[if_pos ⟨hnew,h2⟩]at e;rw[if_pos h2];exact e
      ·rw[if_neg (fun h=>h2 h.2)]at e;rw[if_neg h2];exact e
     clear HN3 N3 hnew;rcases hr4 with rfl|⟨b,off,rfl,hbB,hl⟩
     ·simp at hl0
     obtain⟨A',cap',h0,h1,h2,h3,h5⟩:=(hl.below HBW.out hbB).get 0 hl0;rw[Nat.zero_mul,Nat.add_zero]at h0 h1 h2 h3;clear h5;obtain⟨x,hx⟩:∃x,x=l[0].kind:=⟨_,rfl⟩;rw[←hx]at h0;have HN5:Hid (thN tn l=if x≠2 then 10 else 0):=by rw[hx];exact HN4.out
     clear hx HN4;by_cases hx2:x=2
     case neg=>
      have hr:r=10:=HTV.out 10 (by decide) (HN5.out.trans (if_pos hx2));subst hr;have q:(x==2)=false:=by rw[beq_eq_false_iff_ne];exact hx2
      have q':(x != 2)=true:=by simp[hx2]
      clear HTV HTZ HN5;go_wp2_with fail
      go_ret
      exact⟨rfl,HBW.out⟩
     subst hx2;have HTL:Hid (r=Tm.ths l):=HTZ.out (HN5.out.trans (if_neg (by simp)));clear HTV HTZ HN5;go_wp2_with fail
     clear h0 h1 h2 h3;generalize w1.alloc (.cells #[.string s.nm,.int .i64 s.lo,.int .i64 s.hi,.int .i64 s.kd] 140)=wc at *;have HBC:=HBW;clear HBW;have HXC:=HXX;clear HXX;clear r0 r1 r2 r3 rf;go_loopw [64] (fun i wr=>∃k:Nat,k≤l.length∧i=.int .i64 k∧Hid (Below wc.heap.size wc wr)∧Hid (Tm.ths (l.drop k)=r)) (fun i _=>l.length - (intOf i).toNat)
     case atStart=>exact⟨0,Nat.zero_le _,rfl,Below.refl _ _,HTL.out.symm⟩
     case round=>
      obtain⟨k,hk,rfl,HB,HF⟩:=hrel;have i1:(0:Int)≤(k:Int):=Int.natCast_nonneg _;have hsr:=HB.out.size;have HBR:=hdzz (HBC.out.trans (HB.out.mono (by omega)));by_cases hlt:k<l.length
      ·have i2:(k:Int)<(l.length:Int):=by omega
       obtain⟨A',cap',h0,h1,h2,h3,h5⟩:=(hl.below HBR.out hbB).get k hlt;have hsg:=Tm.sizes_get l k hlt;have hf:=HF.out;rw[qf8 l k hlt]at hf;have hbR:Below w.heap.size wr (wr.alloc (.cells #[.int .i64 l[k].kind,.string l[k].name,.int .i64 l[k].sort,.slice A' l[k].kids.length cap'] 24)):=(Below.refl _ _).alloc (by omega) _;have CON:=IH.out l[k] A' cap' _ (by omega) (by omega) (h5.go hbR (by simp;omega));clear hbR;have hxn:=heap_alloc_new wr (.cells #[.int .i64 l[k].kind,.string l[k].name,.int .i64 l[k].sort,.slice A' l[k].kids.length cap'] 24);clear h5 hl;obtain⟨x,hx⟩:∃x,x=l[k]:=⟨_,rfl⟩;rw[←hx]at h0 h1 h2 h3 hf CON hxn;clear hx;obtain⟨y,hy⟩:∃y,y=x.th:=⟨_,rfl⟩;rw[←hy]at hf CON;clear hy;simp only[Tm.val]at CON;have CON:=hdzz CON;have HF2:=hdzz hf;clear hf HF hxn
       go_wp2_with fail
       refine CON.out.mono ?_;clear CON h0 h1 h2 h3;rintro e w2 ⟨rfl,hb2⟩;have HB2:=hdzz ((Below.alloc HB.out (by omega) _).trans (hb2.mono (by simp;omega)));clear hb2;by_cases hz:y=0
       ·subst hz;have HF3:=hdzz HF2.out;go_wp2_with fail
        go_roundw
        case rel=>exact⟨k+1,by omega,by go_num,HB2.out,(if_neg (by simp)).symm.trans HF3.out⟩
        case measure=>simp[intOf];omega
       ·have hr:y=r:=(if_pos hz).symm.trans HF2.out;subst hr;have q:(y==0)=false:=by rw[beq_eq_false_iff_ne];exact hz
        have q':(y != 0)=true:=by simp[hz]
        clear HF2;go_wp2_with fail
        go_ret
        exact⟨rfl,HBC.out.trans (HB2.out.mono (by omega))⟩
      ·obtain rfl:k=l.length:=by omega
       have hr:0=r:=by have:=HF.out;rw[List.drop_length]at this;exact this
       subst hr;go_wp2_with fail
       go_ret
       exact⟨rfl,HBR.out⟩
    ·have HTL:Hid (r=Tm.ths l):=HTZ.out (HN3.out.trans (if_neg (fun h=>by have:=N3.out.1 h.1;cases this)));clear HTV HTZ HN3 N3;go_wp2_with fail
     generalize w1.alloc (.cells #[.string s.nm,.int .i64 s.lo,.int .i64 s.hi,.int .i64 s.kd] 140)=wc at *;have HBC:=HBW;clear HBW;have HXC:=HXX;clear HXX;clear r0 r1 r2 r3 rf;go_loopw [64] (fun i wr=>∃k:Nat,k≤l.length∧i=.int .i64 k∧Hid (Below wc.heap.size wc wr)∧Hid (Tm.ths (l.drop k)=r)) (fun i _=>l.length - (intOf i).toNat)
     case atStart=>exact⟨0,Nat.zero_le _,rfl,Below.refl _ _,HTL.out.symm⟩
     case round=>
      obtain⟨k,hk,rfl,HB,HF⟩:=hrel;have i1:(0:Int)≤(k:Int):=Int.natCast_nonneg _;have hsr:=HB.out.size;have HBR:=hdzz (HBC.out.trans (HB.out.mono (by omega)));by_cases hlt:k<l.length
      ·have i2:(k:Int)<(l.length:Int):=by omega
       rcases hr4 with rfl|⟨b,off,rfl,hbB,hl⟩
       ·simp at hlt
       obtain⟨A',cap',h0,h1,h2,h3,h5⟩:=(hl.below HBR.out hbB).get k hlt;have hsg:=Tm.sizes_get l k hlt;have hf:=HF.out;rw[qf8 l k hlt]at hf;have hbR:Below w.heap.size wr (wr.alloc (.cells #[.int .i64 l[k].kind,.string l[k].name,.int .i64 l[k].sort,.slice A' l[k].kids.length cap'] 24)):=(Below.refl _ _).alloc (by omega) _;have CON:=IH.out l[k] A' cap' _ (by omega) (by omega) (h5.go hbR (by simp;omega));clear hbR;have hxn:=heap_alloc_new wr (.cells #[.int .i64 l[k].kind,.string l[k].name,.int .i64 l[k].sort,.slice A' l[k].kids.length cap'] 24);clear h5 hl;obtain⟨x,hx⟩:∃x,x=l[k]:=⟨_,rfl⟩;rw[←hx]at h0 h1 h2 h3 hf CON hxn;clear hx;obtain⟨y,hy⟩:∃y,y=x.th:=⟨_,rfl⟩;rw[←hy]at hf CON;clear hy;simp only[Tm.val]at CON;have CON:=hdzz CON;have HF2:=hdzz hf;clear hf HF hxn
       go_wp2_with fail
       refine CON.out.mono ?_;clear CON h0 h1 h2 h3;rintro e w2 ⟨rfl,hb2⟩;have HB2:=hdzz ((Below.alloc HB.out (by omega) _).trans (hb2.mono (by simp;omega)));clear hb2;by_cases hz:y=0
       ·subst hz;have HF3:=hdzz HF2.out;go_wp2_with fail
        go_roundw
        case rel=>exact⟨k+1,by omega,by go_num,HB2.out,(if_neg (by simp)).symm.trans HF3.out⟩
        case measure=>simp[intOf];omega
       ·have hr:y=r:=(if_pos hz).symm.trans HF2.out;subst hr;have q:(y==0)=false:=by rw[beq_eq_false_iff_ne];exact hz
        have q':(y != 0)=true:=by simp[hz]
        clear HF2;go_wp2_with fail
        go_ret
        exact⟨rfl,HBC.out.trans (HB2.out.mono (by omega))⟩
      ·obtain rfl:k=l.length:=by omega
       have hr:0=r:=by have:=HF.out;rw[List.drop_length]at this;exact this
       subst hr;go_wp2_with fail
       go_ret
       exact⟨rfl,HBR.out⟩
theorem qpl (t:Tm) (A:Option Addr) (cap:Nat) (w:World) (hn:t.size≤1000000) (hrep:RepT w w.heap.size t A cap) :
  Calls Tryz.prog 67 #[t.val A cap] w fun e w'=>e=.returned (.int .i64 t.validT)∧Below w.heap.size w w':=by
 obtain⟨V,hV⟩:∃V,V=w.alloc (qal t A cap):=⟨_,rfl⟩;have hbV:Below w.heap.size w V:=by rw[hV];exact qab (Nat.le_refl _) _
 have hsV:V.heap.size=w.heap.size+1:=by rw[hV];simp
 have hbx:V.heap[w.heap.size]?=some (qal t A cap):=by rw[hV];exact heap_alloc_new _ _
 have VA:=qax t A cap V hn (hrep.go hbV (by omega));have TC:Hid (∀Z,Below V.heap.size V Z→Calls Tryz.prog 103 #[t.val A cap] Z fun e w'=>e=.returned (.int .i64 t.th)∧Below Z.heap.size Z w'):=hdzz fun Z h=>
  qpp 1000000 t A cap Z hn (Nat.le_refl _) (hrep.go (hbV.trans (h.mono (by omega))) (by have:=h.size;omega))
 unfold Tm.validT;obtain⟨v,hv⟩:∃v,v=t.valid:=⟨_,rfl⟩;obtain⟨u,hu⟩:∃u,u=t.th:=⟨_,rfl⟩;rw[←hv]at VA ⊢;rw[←hu]at TC ⊢;clear hv hu;obtain⟨r,hr⟩:∃r,r=if v≠0 then v else u:=⟨_,rfl⟩
 rw[←hr];have HR:=hdzz hr;clear hr;simp only[qal]at hV hbx;simp only[Tm.val]at VA TC ⊢;have HBX:=hdzz hbx;obtain⟨r0,r1,r2,r3,rf⟩:=qaa hbx;have HV:=hdzz hV;clear hV hbx;have HBV:=hdzz hbV;clear hbV;have VA:=hdzz VA;go_enter Tryz.func67,Tryz.ntmps67
 go_wp2_with fail
 rw[←HV.out];clear HV;go_wp2_with fail
 refine VA.out.mono ?_;clear VA r0 r1 r2 r3 rf;rintro e w1 ⟨rfl,hl1⟩;have hs1:=hl1.below.size;have HB1:=hdzz (HBV.out.trans (hl1.below.mono (by omega)));have TC:=hdzz (TC.out w1 hl1.below);obtain⟨r0,r1,r2,r3,rf⟩:=qaa ((hl1.below.block _ (by omega)).trans HBX.out);clear hl1 HBX HBV;by_cases hv:v=0
 case neg=>
  have hr:=HR.out.trans (if_pos hv);clear HR;subst hr;have q:(r==0)=false:=by rw[beq_eq_false_iff_ne];exact hv
  have q':(r != 0)=true:=by simp[hv]
  clear hv;go_wp2_with fail
  go_ret
  exact⟨rfl,HB1.out⟩
 subst hv;have hr:=HR.out.trans (if_neg (by simp));clear HR;subst hr;go_wp2_with fail
 refine TC.out.mono ?_;clear TC r0 r1 r2 r3 rf;rintro e w2 ⟨rfl,hb2⟩;have HB2:=hdzz (HB1.out.trans (hb2.mono (by omega)));clear hb2;go_wp2_with fail
 go_ret
 exact⟨rfl,HB2.out⟩
theorem qhb (t:Tm) (A:Option Addr) (c:Nat) (w:World) (Pb:Nat→Prop) (hPb:∀b,Pb b→b<w.heap.size) (hv:t.validT=0) (hf:qei t) (hnv:t.nf.valid=0) (hrep:RepP w Pb t A c) :
  Calls Tryz.prog 30 #[t.val A c] w (OkN Pb t.nf w):=by
 have hval:t.valid=0:=by
  unfold Tm.validT at hv
  split at hv
  ·rename_i h;exact absurd hv h
  ·rename_i h;exact Classical.byContradiction h
 have hth:t.th=0:=by
  unfold Tm.validT at hv;rw[if_neg (by rw[hval];decide)]at hv;exact hv
 obtain⟨hc,hsz,-⟩:=qai hval;have ha:=ArT.of_th hc hth;have hsn:=(qai hnv).2.1;obtain⟨V,hV⟩:∃V,V=(w.alloc (qal t A c)).alloc (.cells #[.int .i64 0,.string ⟨#[]⟩,.int .i64 0,.slice none 0 0] 24):=⟨_,rfl⟩;have hbV:Below w.heap.size w V:=by rw[hV];exact((Below.refl _ _).alloc (Nat.le_refl _) _).alloc (by simp) _
 have hsV:V.heap.size=w.heap.size+1+1:=by rw[hV];simp
 have hx1:V.heap[w.heap.size]?=some (qal t A c):=by rw[hV,Below.heap_alloc _ _ _ (by simp)];exact heap_alloc_new w _
 have hx2:V.heap[w.heap.size+1]?=some (.cells #[.int .i64 0,.string ⟨#[]⟩,.int .i64 0,.slice none 0 0] 24 (0,0)):=by
  rw[hV];have h:=heap_alloc_new (w.alloc (qal t A c)) (.cells #[.int .i64 0,.string ⟨#[]⟩,.int .i64 0,.slice none 0 0] 24);rw[World.size_alloc]at h;exact h
 have VA:=qpl t A c V (by omega) (RepP.mono (fun b h=>by have:=hPb _ h;omega) (fun p h=>hbV.cell (hPb _ h)) _ _ _ hrep);rw[hv]at VA;have NO:Hid (∀Z,Below V.heap.size V Z→Calls Tryz.prog 68 #[t.val A c] Z (OkN Pb t.nf Z)):=hdzz fun Z hZ=>
  qm7 400 t A c Z Pb hsz (by omega) (fun b h=>by have:=hPb _ h;have:=hZ.size;omega) hf ha hc (RepP.mono (fun _ h=>h) (fun p h=>by have:=hPb _ h;exact(hZ.cell (by omega)).trans (hbV.cell this)) _ _ _ hrep)
 obtain⟨u,hu⟩:∃u,u=t.nf:=⟨_,rfl⟩;rw[←hu]at NO hnv hsn ⊢;simp only[Tm.val]at VA NO ⊢;simp only[qal]at hV;obtain⟨x0,x1,x2,x3,xf⟩:=qaa hx1;have VA:=hdzz VA;have HV:=hdzz hV;have HBV:=hdzz hbV;have HX1:=hdzz hx1;have HX2:=hdzz hx2;have HSV:=hdzz hsV;have HNV:=hdzz hnv;clear hV hbV hx1 hx2 hsV hu hval hth hc hf ha hv hrep hnv;go_enter Tryz.func30,Tryz.ntmps30
 go_upto_region 1 with fail
 rw[←HV.out];clear HV;go_wp2_with fail
 refine VA.out.mono ?_;clear VA x0 x1 x2 x3 xf;rintro e w1 ⟨rfl,hb1⟩;have hs1:=hb1.size;have hsv:=HSV.out;have hx1:=(hb1.block _ (by omega)).trans HX1.out;have hx2:=(hb1.block _ (by omega)).trans HX2.out;obtain⟨x0,x1,x2,x3,xf⟩:=qaa hx1;have NO:=hdzz (NO.out w1 hb1);have HB1:=hdzz (HBV.out.trans (hb1.mono (by omega)));have HX2:=hdzz hx2;clear hx1 hx2 hb1 HX1 HBV hsv;go_wp2_with fail
 refine NO.out.mono ?_;clear NO x0 x1 x2 x3 xf;rintro e w2 ⟨A2,c2,rfl,hr2,hb2⟩;simp only[Tm.val];have hs2:=hb2.size;have hsv:=HSV.out;obtain⟨X,hX⟩:∃X,X=w2.alloc (.cells #[.int .i64 u.kind,.string u.name,.int .i64 u.sort,.slice A2 u.kids.length c2] 24):=⟨_,rfl⟩;have hbX:Below w2.heap.size w2 X:=by rw[hX];exact qab (Nat.le_refl _) _
 have hsX:w2.heap.size<X.heap.size:=by rw[hX];simp
 have hxX:X.heap[w2.heap.size]?=some (.cells #[.int .i64 u.kind,.string u.name,.int .i64 u.sort,.slice A2 u.kids.length c2] 24 (0,0)):=by rw[hX];exact heap_alloc_new _ _
 have hrX:RepP X (fun b=>Pb b∨w1.heap.size≤b∧b<w2.heap.size) u A2 c2:=RepP.mono (fun _ h=>h) (fun p h=>hbX.cell (h.elim (fun h=>by have:=hPb _ h;omega) (fun h=>h.2))) _ _ _ hr2;have VU:=qax u A2 c2 X (by omega) (RepP.mono (fun b h=>h.elim (fun h=>by have:=hPb _ h;omega) (fun h=>by omega)) (fun _ _=>rfl) _ _ _ hrX);rw[HNV.out]at VU;simp only[Tm.val]at VU;have VU:=hdzz VU;have HRX:=hdzz hrX;have HXX:=hdzz hxX;have HX:=hdzz hX;have HBX:=hdzz (HB1.out.trans ((hb2.mono (by omega)).trans (hbX.mono (by omega))));have HX2:=hdzz ((hbX.block _ (by omega)).trans ((hb2.block _ (by omega)).trans HX2.out));obtain⟨x0,x1,x2,x3,xf⟩:=qaa hxX;clear hrX hxX hX hr2 hb2 hbX HB1;go_upto_region 6 with fail
 rw[←HX.out];clear HX;go_wp2_with fail
 refine VU.out.mono ?_;clear VU x0 x1 x2 x3 xf;rintro e w3 ⟨rfl,hl3⟩;have hs3:=hl3.size;have hb3:=hl3.below;have hxX:=(hb3.block _ (by omega)).trans HXX.out;have hx2:=(hb3.block _ (by omega)).trans HX2.out;obtain⟨x0,x1,x2,x3,xf⟩:=qaa hxX;obtain⟨z0,z1,z2,z3,zf⟩:=qaa hx2;have HB3:=hdzz (HBX.out.trans (hb3.mono (by omega)));have HR3:Hid (RepP w3 (fun b=>Pb b∨w1.heap.size≤b∧b<w2.heap.size) u A2 c2):=hdzz (RepP.mono (fun _ h=>h) (fun p h=>hb3.cell (h.elim (fun h=>by have:=hPb _ h;omega) (fun h=>by omega))) _ _ _ HRX.out);clear hxX hx2 hl3 hb3;go_wp2_with fail
 refine bodyPost_ret (v:=.tuple #[Tm.val u A2 c2,.int .i64 0]) ?_ rfl ?_
 ·simp[results,Tryz.results30,go_sem,z0,z1,z2,z3,Tm.val]
 exact qcy HB3.out hPb (by omega) (RepP.mono (fun b h=>h.elim (fun h=>⟨.inl h,by have:=hPb _ h;omega⟩) (fun h=>⟨.inr (by omega),by omega⟩)) (fun _ _=>rfl) _ _ _ HR3.out)
structure FineV (t:Tm):Prop where
 v:t.validT=0
 f:qei t
 n:t.nf.valid=0
end Go.Proofs.YtjhjoiplpmjepaaGreat
namespace Go.Proofs.YtjhjoiplpmjepaaGreat
theorem qqh {l:List Tm} {f:Tm→Tm} (h:∀t∈l,(f t).depth≤t.depth):Tm.depths (l.map f)≤Tm.depths l:=by
 induction l with
 | nil=>exact Nat.le_refl _
 | cons a r ih=>
  have h1:=h a (List.mem_cons_self ..);have h2:=ih fun t ht=>h t (List.mem_cons_of_mem _ ht);rw[List.map_cons,Tm.depths,Tm.depths];omega
theorem sizes_map {l:List Tm} {f:Tm→Tm} (h:∀t∈l,(f t).size≤t.size):Tm.sizes (l.map f)≤Tm.sizes l:=by
 induction l with
 | nil=>exact Nat.le_refl _
 | cons a r ih=>
  have h1:=h a (List.mem_cons_self ..);have h2:=ih fun t ht=>h t (List.mem_cons_of_mem _ ht);rw[List.map_cons,Tm.sizes,Tm.sizes];omega
theorem qqk {k:Int} {n:ByteArray} {s:Int} {l m:List Tm} (hl:m.length=l.length) (h:(Tm.mk k n s l).check=0) (hm:Tm.checks m=0):(Tm.mk k n s m).check=0:=by
 rw[Tm.check]at h ⊢
 split at h
 ·rename_i hk
  split at h
  ·exact absurd h (by decide)
  ·rename_i h1
   have e:l=[]:=Classical.byContradiction fun e=>h1 (.inr (.inr e));have em:m=[]:=List.length_eq_zero_iff.1 (by rw[hl,e];rfl);subst em e;rw[if_pos hk,if_neg h1];exact h
 ·rename_i hk
  rw[if_neg hk]
  split at h
  ·rename_i h3
   rw[if_pos h3]
   split at h
   ·exact absurd h (by decide)
   ·rename_i hs
    rw[if_neg hs]
    split at h
    ·exact absurd h (by decide)
    ·rename_i hn
     rw[if_neg hn,hl]
     split at h
     ·exact absurd h (by decide)
     ·rename_i h8;rw[if_neg h8];exact hm
  ·exact absurd h (by decide)
theorem nf_le:∀(N:Nat) (t:Tm),t.size≤N→ArT t→noA t→t.check=0→t.nf.check=0∧t.nf.size≤t.size∧t.nf.depth≤t.depth∧qei t
 | 0,t,hN,_,_,_=>by have:=t.size_pos;omega
 | N+1,.mk k n s l,hN,ha,hx,hc=>by
  by_cases hk:k=3
  ·subst hk;have hsub:∀t∈l,t.nf.check=0∧t.nf.size≤t.size∧t.nf.depth≤t.depth∧qei t:=fun t ht=>
    nf_le N t (by have:=qdm (t:=.mk 3 n s l) ht;omega) (ha.kids t ht) (hx.kids t ht) (qd1 hc ht)
   rw[ArT]at ha;rw[noA]at hx;have hs:=(ha.1 rfl).1;subst hs;have hna:=hx.1 rfl;have hfine:qei (.mk 3 n 0 l):=by
    rw[qei];exact fun _=>⟨qha.2 fun t ht=>(hsub t ht).2.2.2,fun e=>absurd (.inl e) hna,fun e=>absurd (e.elim (fun e=>.inr (.inr (.inr (.inl e)))) (fun e=>e.elim (fun e=>.inr (.inr (.inr (.inr (.inl e))))) (fun e=>.inr (.inr (.inr (.inr (.inr e))))))) hna,fun e=>absurd (.inr (.inr (.inl e))) hna⟩
   have hself:(Tm.mk 3 n 0 (l.map Tm.nf)).check=0∧(Tm.mk 3 n 0 (l.map Tm.nf)).size≤(Tm.mk 3 n 0 l).size∧(Tm.mk 3 n 0 (l.map Tm.nf)).depth≤(Tm.mk 3 n 0 l).depth:=by
    refine⟨qqk (by simp) hc (qd0.2 fun t ht=>?_),?_,?_⟩
    ·obtain⟨u,hu,rfl⟩:=List.mem_map.1 ht;exact(hsub u hu).1
    ·have:=sizes_map (l:=l) (f:=Tm.nf) fun t ht=>(hsub t ht).2.1;rw[Tm.size,Tm.size];omega
    ·have:=qqh (l:=l) (f:=Tm.nf) fun t ht=>(hsub t ht).2.2.1;rw[Tm.depth,Tm.depth];omega
   rw[Tm.nf,if_pos rfl,qco];by_cases hd:desN n
   ·rw[qa0 hd];by_cases hf:fitD n (l.map Tm.nf)
    ·obtain⟨i,hi,e⟩:=desN_nm hd;have hr:redI i (.mk 3 n 0 (l.map Tm.nf)):=⟨⟨rfl,e.symm⟩,hf⟩;have ham:ArT (.mk 3 n 0 (l.map Tm.nf)):=by
      rw[ArT];refine⟨fun _=>⟨rfl,by rw[List.length_map];exact(ha.1 rfl).2⟩,ArTs_mem.2 fun t ht=>?_⟩;obtain⟨u,hu,rfl⟩:=List.mem_map.1 ht;exact(ArTs_mem.1 ha.2 u hu).nf
     obtain⟨a,h1,h2⟩:=qne hi ham hr;have b1:=qgk h1;have b2:=qgk h2;have e2:qas n (l.map Tm.nf)=qas (Tm.mk 3 n 0 (l.map Tm.nf)).name (Tm.mk 3 n 0 (l.map Tm.nf)).kids:=rfl;rw[e2];exact⟨qd1 (qd1 hself.1 h1) h2,by omega,by omega,hfine⟩
    ·unfold qas;rw[if_neg hf];exact⟨hself.1,hself.2.1,hself.2.2,hfine⟩
   ·rw[qba hd (fun e=>hna (.inl e)) (fun e=>hna (e.elim (fun e=>.inr (.inr (.inr (.inl e)))) (fun e=>e.elim (fun e=>.inr (.inr (.inr (.inr (.inl e))))) (fun e=>.inr (.inr (.inr (.inr (.inr e)))))))) (fun e=>hna (.inr (.inr (.inl e))))];exact⟨hself.1,hself.2.1,hself.2.2,hfine⟩
  ·rw[Tm.nf,if_neg hk];refine⟨hc,Nat.le_refl _,Nat.le_refl _,?_⟩;rw[qei];exact fun e=>absurd e hk
theorem FineV.of_no {t:Tm} (hv:t.validT=0) (hx:noA t):FineV t:=by
 have h1:=qhr hv;have h2:=qai h1.1;have ha:=ArT.of_th h2.1 h1.2;obtain⟨c1,c2,c3,c4⟩:=nf_le t.size t (Nat.le_refl _) ha hx h2.1;refine⟨hv,c4,?_⟩;unfold Tm.valid;rw[if_neg (by rw[c1];decide),if_neg (by omega)]
theorem Rew.of {t:Tm} (hv:t.validT=0) (hx:noA t):Rew t t:=by
 have h1:=qhr hv;have h2:=qai h1.1;exact⟨h2.1,h2.2.2,ArT.of_th h2.1 h1.2,hx,rfl⟩
theorem qc5:∀r∈rulesT,GoodR r:=by
 intro r hr;unfold rulesT at hr;simp only[List.mem_cons,List.not_mem_nil,or_false]at hr;rcases hr with rfl|rfl|rfl|rfl|rfl|rfl
 all_goals exact⟨by decide +kernel,by decide +kernel,by decide +kernel,by decide +kernel⟩
theorem qpr:SizeB rulesT:=fun r hr=>by
 have h1:=qai (qc5 r hr).l;have h2:=qai (qc5 r hr).r;exact⟨by omega,by omega⟩
theorem vars_all:∀r∈rulesT,varsOf r.1=[vX,vY]:=by decide +kernel
theorem qpg {i:Nat} (hi:i<6):varsOf (rulesT[i]'hi).1=[vX,vY]:=vars_all _ (List.getElem_mem hi)
theorem qnd {i:Nat} (hi:i<6):(rulesT[i]'hi).2=vX∨(rulesT[i]'hi).2=vY:=by
 match i,hi with
 | 0,_|2,_|3,_|4,_|5,_=>exact .inl rfl
 | 1,_=>exact .inr rfl
theorem qdp:qaw vX∧qaw vY:=⟨⟨by decide,by decide,by decide⟩,⟨by decide,by decide,by decide⟩⟩
theorem bindM_xy (m:List Bd):BindsOk (qg8 m [vX,vY])∧(qg8 m [vX,vY]).length≤1000∧∀x,x=vX∨x=vY→getS (qg8 m [vX,vY]) x=getS m x:=by
 have hne:vX≠vY:=by decide
 unfold qg8;by_cases hx:getS m vX=vX
 ·by_cases hy:getS m vY=vY
  ·simp only[List.filter_cons,hx,hy,ne_eq,not_true_eq_false,decide_false,Bool.false_eq_true,if_false,List.filter_nil,List.map_nil];exact⟨⟨by simp,by simp⟩,by simp,fun x h=>by rcases h with rfl|rfl<;>simp[getS,hx,hy]⟩
  ·simp only[List.filter_cons,hx,hy,ne_eq,not_true_eq_false,not_false_eq_true,decide_false,decide_true,Bool.false_eq_true,if_false,if_true,List.filter_nil,List.map_nil,List.map_cons];refine⟨⟨fun b hb=>?_,fun k hk=>?_⟩,by simp,fun x h=>?_⟩
   ·rw[List.mem_singleton.1 hb];exact⟨rfl,rfl,qdp.2⟩
   ·match k,hk with
    | 0,_=>rfl
   ·rcases h with rfl|rfl
    ·simp[getS,hx,hne.symm]
    ·simp[getS]
 ·by_cases hy:getS m vY=vY
  ·simp only[List.filter_cons,hx,hy,ne_eq,not_true_eq_false,not_false_eq_true,decide_false,decide_true,Bool.false_eq_true,if_false,if_true,List.filter_nil,List.map_nil,List.map_cons];refine⟨⟨fun b hb=>?_,fun k hk=>?_⟩,by simp,fun x h=>?_⟩
   ·rw[List.mem_singleton.1 hb];exact⟨rfl,rfl,qdp.1⟩
   ·match k,hk with
    | 0,_=>rfl
   ·rcases h with rfl|rfl
    ·simp[getS]
    ·simp[getS,hy,hne]
  ·simp only[List.filter_cons,hx,hy,ne_eq,not_false_eq_true,decide_true,if_true,List.filter_nil,List.map_nil,List.map_cons];refine⟨⟨fun b hb=>?_,fun k hk=>?_⟩,by simp,fun x h=>?_⟩
   ·rcases List.mem_cons.1 hb with rfl|hb
    ·exact⟨rfl,rfl,qdp.1⟩
    ·rw[List.mem_singleton.1 hb];exact⟨rfl,rfl,qdp.2⟩
   ·match k,hk with
    | 0,_=>rfl
    | 1,_=>simp[hasS,hne]
   ·rcases h with rfl|rfl
    ·simp[getS]
    ·simp[getS,hne]
theorem ql7 {i:Nat} (hi:i<6) {v:Tm} (hv:v.valid=0) (ha:ArT v):((qb5 (rulesT[i]'hi).1 v).2=0↔redI i v)∧
  (redI i v→(qb5 (rulesT[i]'hi).1 v).1=qg8 ((rulesT[i]'hi).1.mat v []).1 [vX,vY]∧getS ((rulesT[i]'hi).1.mat v []).1 (rulesT[i]'hi).2=qas v.name v.kids):=by
 have hm:=rule_mat hi hv ha;have hl:=(qc5 _ (List.getElem_mem hi)).l;have h2:qfo (rulesT[i]'hi).1 v=0:=by unfold qfo;rw[if_neg (by rw[hl];decide)];exact hv
 unfold qb5;rw[if_neg (by rw[h2];decide),qpg hi];by_cases hr:redI i v
 ·obtain⟨m1,-,m3⟩:=hm.1 hr;rw[if_pos m1];exact⟨⟨fun _=>hr,fun _=>rfl⟩,fun _=>⟨rfl,m3⟩⟩
 ·rw[if_neg (by rw[hm.2 hr];decide)];exact⟨⟨fun h=>absurd h (by decide),fun h=>absurd h hr⟩,fun h=>absurd h hr⟩
theorem ArT.all:∀(t:Tm),ArT t→∀u∈t.all,ArT u:=fun t ha u hu=>by
 obtain⟨p,-,hp⟩:=qo6 t u hu;exact(ArT.atP p t u ha hp).1
theorem qix.red {t u:Tm} (h:Rew t u) (hs:u.size≤400) (hn:qix rulesT u):NoRed u:=by
 intro v hv i hi hr;obtain⟨p,-,hp⟩:=qo6 u v hv;have h1:=(ql7 hi (qgs p u v (h.valid hs) hp) (ArT.atP p u v h.a hp).1).1.2 hr;have h2:=hn v hv _ (List.getElem_mem hi);rw[h1]at h2;exact absurd h2 (by decide)
theorem Rew.ok {t u:Tm} {x:Rx} (h:Rew t u) (hs:u.size≤60) (hx:RxOk rulesT u x):∃y,StepOk rulesT u x.1 x.2.1 y∧Rew t (Tm.putP x.2.1 u y)∧(Tm.putP x.2.1 u y).size<u.size:=by
 obtain⟨hi,-,v,hv,hm⟩:=hx;have hi:x.1<6:=hi;have hvv:=qgs _ u v (h.valid (by omega)) hv;have hav:=(ArT.atP _ u v h.a hv).1;obtain⟨m1,m2⟩:=ql7 hi hvv hav;have hr:=m1.1 hm;obtain⟨e1,e2⟩:=m2 hr;obtain⟨s1,s2⟩:=h.step hv hi hr;obtain⟨b1,b2,b3⟩:=bindM_xy ((rulesT[x.1]'hi).1.mat v []).1;obtain⟨a,ha1,ha2⟩:=qne hi hav hr;have hrt:=qnd hi;have hk:(rulesT[x.1]'hi).2.kind=1∧(rulesT[x.1]'hi).2.kids=[]∧qaw (rulesT[x.1]'hi).2:=by
  rcases hrt with e|e<;>rw[e]
  ·exact⟨rfl,rfl,qdp.1⟩
  ·exact⟨rfl,rfl,qdp.2⟩
 exact⟨_,⟨hi,⟨v,hv,hm,by rw[e1];exact b1,by rw[e1];exact b2,by rw[e1,b3 _ hrt,e2]⟩,(qpr _ (List.getElem_mem hi)).1,hk.1,hk.2.1,hk.2.2,qb1 (qb1 hvv ha1) ha2,s1.valid (by omega)⟩,s1,s2⟩
end Go.Proofs.YtjhjoiplpmjepaaGreat
namespace Go.Proofs.YtjhjoiplpmjepaaGreat
open Go.RowKit Go.Sort
theorem hbl {X Y:World} {b:Nat} {c:Obj} (h:Below X.heap.size X Y) (H:Hid (X.heap[b]?=some c)):Hid (Y.heap[b]?=some c):=sblz h H
theorem hbt {D X Y:World} (H:Hid (Below D.heap.size D X)) (h:Below X.heap.size X Y):Hid (Below D.heap.size D Y):=hdzz (H.out.trans (h.mono H.out.size))
theorem new_blk {D W Z:World} {B:Nat} {c:Obj} (HB:Hid (Below D.heap.size D W)) (hB:B≤D.heap.size) (hZ:Z=W.alloc c):∃b,b=W.heap.size∧Below W.heap.size W Z∧Hid (Z.heap[b]?=some c)∧B≤b:=by
 subst hZ;exact⟨_,rfl,qab (Nat.le_refl _) _,hdzz (heap_alloc_new _ _),Nat.le_trans hB HB.out.size⟩
theorem qcz {D W Z:World} {B:Nat} (its:List It) (HB:Hid (Below D.heap.size D W)) (hB:B≤D.heap.size) (hZ:Z=W.alloc (.cells (itCells its).toArray 24)) :
  ∃b,b=W.heap.size∧Below W.heap.size W Z∧Hid (Z.heap[b]?=some (.cells (itCells its).toArray 24 (0,0)))∧B≤b:=new_blk HB hB hZ
end Go.Proofs.YtjhjoiplpmjepaaGreat
