/- Tbent3, Tbent4, Trat (joined by shake.py). -/
import Derived.Test.YtjhjoiplpmjepaaGreatL0
import Derived.Test.YtjhjoiplpmjepaaGreatL5
import Derived.Test.YtjhjoiplpmjepaaGreatL6
import Derived.Test.YtjhjoiplpmjepaaGreatL8
import Derived.Test.YtjhjoiplpmjepaaGreatL9
import Derived.Test.YtjhjoiplpmjepaaGreatL16
import Derived.Test.YtjhjoiplpmjepaaGreatL17
import Derived.Deep.Cut
import Derived.Deep.QuietTactic
set_option maxRecDepth 100000
set_option linter.unusedVariables false
set_option linter.unusedSimpArgs false
set_option maxHeartbeats 64000000
namespace Go.Proofs.YtjhjoiplpmjepaaGreat
open Go.RowKit Go.Sort
attribute [local irreducible] qax
theorem rbent_g2 (u:Tm) (Au:Option Addr) (cu kb ab wb:Nat) (w:World) (Pb:Nat→Prop) (hPb:∀b,Pb b→b<w.heap.size) (hgr:10≤kb % 14∧kb % 14≤13) (hkb:kb<256) (hwb:wb<256) (hau:ArT u) (hsz:u.size≤100000) (hrep:RepP w Pb u Au cu) :
  Calls Tryz.prog 13 #[u.val Au cu,.agg #[.int .u8 kb,.int .u8 ab,.int .u8 wb]] w (TmP Pb (qfd (kb % 14) (nOf (wb % 3)) u) w):=by
 have mixed:=mixz;obtain⟨V1,hV1⟩:∃V,V=(w.alloc (qag u Au cu)).alloc (.cells #[.int .u8 kb,.int .u8 ab,.int .u8 wb] 33):=⟨_,rfl⟩;obtain⟨V,hV⟩:∃V,V=V1.alloc (.cells #[.int .i64 0,.string ⟨#[]⟩,.int .i64 0,.slice none 0 0] 24):=⟨_,rfl⟩;have s1:(w.alloc (qag u Au cu)).heap.size=w.heap.size+1:=by simp
 have s2:V1.heap.size=w.heap.size+1+1:=by rw[hV1];simp
 have s3:V.heap.size=w.heap.size+1+1+1:=by rw[hV];simp[s2]
 have hb1:Below w.heap.size w V1:=by rw[hV1];exact((Below.refl _ _).alloc (Nat.le_refl _) _).alloc (by simp) _
 have hbV:Below w.heap.size w V:=by rw[hV];exact hb1.alloc (by omega) _
 have hx1:V.heap[w.heap.size]?=some (qag u Au cu):=by rw[hV,Below.heap_alloc _ _ _ (by omega),hV1,Below.heap_alloc _ _ _ (by omega)];exact heap_alloc_new w _
 have hx2:V.heap[w.heap.size+1]?=some (.cells #[.int .u8 kb,.int .u8 ab,.int .u8 wb] 33 (0,0)):=by
  rw[hV,Below.heap_alloc _ _ _ (by omega),hV1];have h:=heap_alloc_new (w.alloc (qag u Au cu)) (.cells #[.int .u8 kb,.int .u8 ab,.int .u8 wb] 33);rw[s1]at h;exact h
 have hx3:V.heap[w.heap.size+1+1]?=some (.cells #[.int .i64 0,.string ⟨#[]⟩,.int .i64 0,.slice none 0 0] 24 (0,0)):=by rw[hV,←s2];exact heap_alloc_new V1 _
 have hr2:RepP V Pb u Au cu:=RepP.mono (fun _ h=>h) (fun p hp=>hbV.cell (hPb _ hp)) _ _ _ hrep;obtain⟨j,hj⟩:∃j,j=wb % 3:=⟨_,rfl⟩;have hj3:j<3:=by omega
 have hrj:((wb:Int) % 3)=(j:Int):=by omega
 rw[←hj];obtain⟨kk,hkk⟩:∃k,k=kb % 14:=⟨_,rfl⟩;have hk14:kk<14:=by omega
 have hrk:((kb:Int) % 14)=(kk:Int):=by omega
 rw[←hkk];rw[←hkk]at hgr;have HGR:=hdzz hgr;clear hgr;simp only[qag]at hV1;have HV1:=hdzz hV1;have HV:=hdzz hV;have HBV:=hdzz hbV;have HS3:=hdzz s3;have HX1:=hdzz hx1;have HX2:=hdzz hx2;have HX3:=hdzz hx3;have HR2:=hdzz hr2;have HRJ:=hdzz hrj;have HRK:=hdzz hrk;have HREP:=hdzz hrep;clear hV1 hV s1 s2 s3 hb1 hbV hx1 hx2 hx3 hr2 hrep hj hkk hrj hrk;simp only[Tm.val];go_enter Tryz.func13,Tryz.ntmps13
 go_upto_region 2 with fail
 rw[←HV1.out,←HV.out];clear HV1 HV;go_cut [6]from 9 (fun s6 wc=>∃g,s6=.pointer (some ⟨g,0,none⟩)∧Hid (BtN Pb w u Au cu (nOf j) g wc)∧Hid (wc.heap[w.heap.size+1]?=some (.cells #[.int .u8 kb,.int .u8 ab,.int .u8 wb] 33 (0,0))))
 case first=>
  refine qaf (fun Y=>Below V.drew.heap.size V.drew Y) (fun _=>True) [] (.held 4 (.held 5 (.held 6 (.two 0 9 (.two 1 9 (.two 2 9 (.two 3 9 (.held 7 (.two 8 9 (.op 9 (.op 10 .nil)) (.op 8 (.op 10 .nil)))) (.op 3 (.held 7 (.op 8 (.op 10 .nil))))) (.op 2 (.op 3 (.held 7 (.op 8 (.op 10 .nil)))))) (.op 1 (.op 2 (.op 3 (.held 7 (.op 8 (.op 10 .nil))))))) (.op 0 (.op 1 (.op 2 (.op 3 (.held 7 (.op 8 (.op 10 .nil))))))))))) mixed (by kernel_rfl) ?_;have HX2:Hid (V.drew.heap[w.heap.size+1]?=some (.cells #[.int .u8 kb,.int .u8 ab,.int .u8 wb] 33 (0,0))):=HX2;have HX1:Hid (V.drew.heap[w.heap.size]?=some (qag u Au cu)):=HX1;have HX3:Hid (V.drew.heap[w.heap.size+1+1]?=some (.cells #[.int .i64 0,.string ⟨#[]⟩,.int .i64 0,.slice none 0 0] 24 (0,0))):=HX3
  have HBV:Hid (Below w.heap.size w V.drew):=hdzz (HBV.out.trans ((Below.refl V.heap.size V).drew.mono (by have:=HS3.out;omega)));have HS3:Hid (V.drew.heap.size=w.heap.size+1+1+1):=HS3;have HR2:Hid (RepP V.drew Pb u Au cu):=hdzz (RepP.mono (w:=V) (w':=V.drew) (fun _ h=>h) (fun _ _=>rfl) _ _ _ HR2.out);generalize V.drew=D at *;obtain⟨d0,d1,d2⟩:=qgw HX2.out;have hrj:Int.tmod (wb:Int) 3=(j:Int):=by rw[Int.tmod_eq_emod_of_nonneg (by omega)];exact HRJ.out
  have hsD:=HS3.out;have hsw:w.heap.size+1<D.heap.size:=by omega
  have hBD:w.heap.size+1+1+1≤D.heap.size:=by omega
  have hj0:(0:Int)≤(j:Int):=Int.natCast_nonneg _;have hj3I:(j:Int)<3:=by omega
  clear hsD;refine(fun(W:World) (HB:Hid (Below D.heap.size D W))=>?_:∀W,Hid (Below D.heap.size D W)→qax _ _ _ (fun Y=>Below D.heap.size D Y) _ _ _ _ W) D (hdzz (Below.refl _ _));refine stkz (.pointer (some ⟨w.heap.size+1,2,none⟩)) rfl rfl rfl (fun _ _ _ h=>h) HB.out (fun Y hY=>by
    (try simp only[Act.put]);go_simp) ?_
  refine stkz (.int .u8 wb) rfl rfl rfl (fun _ _ _ h=>h) HB.out (fun Y hY=>by
    have z2:=sclz hY d2 (by omega)
    (try simp only[Act.put]);go_simp) ?_
  refine stkz (.int .u8 j) rfl rfl rfl (fun _ _ _ h=>h) HB.out (fun Y hY=>by
    (try simp only[Act.put]);go_simp) ?_
  try simp only[Act.put,fsa,fsb,fsc,fsd,fse,fsf]
  repeat any_goals first
   | refine qbw ?_ ?_
   | (
    first
     | (
      refine qae (i:=0) rfl rfl (fun K hK=>?_);have CN:=hdzz (qc9 ⟨#[110]⟩ 2 W);simp only[Tm.val,Tm.kind,Tm.name,Tm.sort,Tm.kids,List.length_nil]at CN;go_wp2_with fail
      refine CN.out.mono ?_;clear CN;rintro e Z ⟨rfl,hl⟩;have hb:=hl.below;clear hl)
     | (
      refine qae (i:=1) rfl rfl (fun K hK=>?_);have CN:=hdzz (qc9 ⟨#[107]⟩ 3 W);simp only[Tm.val,Tm.kind,Tm.name,Tm.sort,Tm.kids,List.length_nil]at CN;go_wp2_with fail
      refine CN.out.mono ?_;clear CN;rintro e Z ⟨rfl,hl⟩;have hb:=hl.below;clear hl)
     | (
      refine qae (i:=2) rfl rfl (fun K hK=>?_);have CN:=hdzz (qc9 ⟨#[97]⟩ 1 W);simp only[Tm.val,Tm.kind,Tm.name,Tm.sort,Tm.kids,List.length_nil]at CN;go_wp2_with fail
      refine CN.out.mono ?_;clear CN;rintro e Z ⟨rfl,hl⟩;have hb:=hl.below;clear hl)
     | (
      refine qae (i:=3) rfl rfl (fun K hK=>?_);obtain⟨Z,hZ⟩:∃Z,Z=W.alloc (.cells #[.int .i64 2,.string ⟨#[110]⟩,.int .i64 2,.slice none 0 0,.int .i64 2,.string ⟨#[107]⟩,.int .i64 3,.slice none 0 0,.int .i64 2,.string ⟨#[97]⟩,.int .i64 1,.slice none 0 0] 24):=⟨_,rfl⟩;obtain⟨b3,hbe,hb,HL3,hg3⟩:=qfl HB hBD hZ;go_wp2_with fail
      rw[←hZ,←hbe];clear hZ hbe)
     | (
      refine qae (i:=9) rfl rfl (fun K hK=>?_);obtain⟨Z,hZ⟩:∃Z,Z=W.alloc (.cells #[.int .i64 0,.string ⟨#[]⟩,.int .i64 0,.slice none 0 0] 24):=⟨_,rfl⟩;obtain⟨b9,hbe,hb,HL9,hg9⟩:=qfl HB hBD hZ;go_wp2_with fail
      rw[←hZ,←hbe];clear hZ hbe)
    try replace HL3:=hbl hb HL3
    try replace HL9:=hbl hb HL9
    replace HB:=hbt HB hb
    first | refine⟨⟨fun _=>HB.out,trivial⟩,?_⟩|refine hK _ _ ⟨⟨fun _=>HB.out,trivial⟩,?_⟩
    clear hb
    try clear hK K
    rename World=>W)
   | (
    refine qci (i:=7) (v:=.pointer (some ⟨b3,j*4,none⟩)) rfl rfl rfl (fun _ _ _ h=>h) HB.out trivial (fun Y hY hY2=>by
      (try simp only[Act.put]);go_simp) ?_
    try simp only[Act.put,fsa,fsb,fsc,fsd,fse,fsf])
   | (
    refine qae (i:=8) rfl rfl (fun K hK=>?_);obtain⟨l0,l1,l2,l3⟩:=lit12 hj3 HL3.out;go_wp2_with fail
    refine⟨⟨fun _=>HB.out,trivial⟩,?_⟩;clear l0 l1 l2 l3)
   | (
    refine qae (i:=10) rfl rfl (fun K hK=>?_);obtain⟨Z,hZ,hxZ,hbZ,hsZ,hcZ⟩:=qcm (W:=W) (B:=b9) (a:=.int .i64 (nOf j).kind) (b:=.string (nOf j).name) (c:=.int .i64 (nOf j).sort) (d:=.slice none (nOf j).kids.length 0) HL9.out;obtain⟨o0,o1,o2,o3,of_⟩:=qaa HL9.out;have hgL:=(sltz HL9.out);have HBZ:Hid (Below D.heap.size D Z):=hdzz (HB.out.trans (hbZ.mono (by have:=HS3.out;omega)));go_wp2_with fail
    rw[←hZ];refine⟨⟨fun _=>HBZ.out,trivial⟩,qar ?_⟩;have hs3:=HS3.out;have HNN:Hid (BtN Pb w u Au cu (nOf j) b9 Z):=hdzz ⟨(HBZ.out.block _ (by omega)).trans HX1.out,(HBZ.out.block _ (by omega)).trans HX3.out,hxZ,by omega,by omega,HBV.out.trans (HBZ.out.mono (by omega)),RepP.mono (fun _ h=>h) (fun p hp=>HBZ.out.cell (by have:=hPb _ hp;omega)) _ _ _ HR2.out,hPb⟩;have HBB:Hid (Z.heap[w.heap.size+1]?=some (.cells #[.int .u8 kb,.int .u8 ab,.int .u8 wb] 33 (0,0))):=hdzz ((HBZ.out.block _ (by omega)).trans HX2.out);clear hZ hxZ hbZ hsZ hcZ hgL hs3;go_wp2_with fail
    go_meet
    case rel=>exact⟨_,rfl,HNN,HBB⟩)
 case rest=>
  obtain⟨g,rfl,HN,HB⟩:=hcut;obtain⟨d0,d1,d2⟩:=qgw HB.out;have hrk:=HRK.out;go_upto_region 4 with fail
  rw[hrk];have hgr:=HGR.out;clear d0 d1 d2 hrk HB HX1 HX2 HX3 HR2 HRJ HRK HBV HS3;have hcases:kk=10∨kk=11∨12≤kk:=by omega
  clear hgr HGR;rcases hcases with rfl|rfl|h12
  ·go_wp2_with fail
   refine qaf (fun Y=>Below wc.drew.heap.size wc.drew Y) (fun _=>True) [12] (.held 0 (.held 1 (.held 2 (.held 3 (.held 4 (.held 5 (.op 6 (.op 7 (.op 8 (.op 9 (.op 10 (.op 11 (.op 12 .nil))))))))))))) mixed (by kernel_rfl) ?_
   replace HN:=hdzz (HN.out.go (Below.refl _ _).drew)
   generalize wc.drew=D at *;have hPB:∀b,Pb b→b<(w.heap.size+1+1+1):=fun b h=>by have:=hPb b h;omega
   have hBD:(w.heap.size+1+1+1)≤D.heap.size:=by have:=HN.out.hg;have:=HN.out.lt;omega
   have hgD:g<D.heap.size:=HN.out.lt;have hwD:w.heap.size<D.heap.size:=by omega
   obtain⟨x0,x1,x2,x3,xf⟩:=qaa HN.out.b1;obtain⟨n0,n1,n2,n3,nf⟩:=qaa HN.out.bn;refine(fun(W:World) (HB:Hid (Below D.heap.size D W)) (HU:Hid (RepP W (Qb Pb (w.heap.size+1+1+1) W) u Au cu))=>?_:∀W,Hid (Below D.heap.size D W)→Hid (RepP W (Qb Pb (w.heap.size+1+1+1) W) u Au cu)→qax _ _ _ (fun Y=>Below D.heap.size D Y) _ _ _ _ W) D (hdzz (Below.refl _ _)) (hdzz (RepP.mono (fun b h=>.inl h) (fun _ _=>rfl) _ _ _ HN.out.ru));refine stkz (.func (.func 20) #[] #[]) rfl rfl rfl (fun _ _ _ h=>h) HB.out (fun Y hY=>by
     (try simp only[Act.put]);go_simp) ?_
   refine stkz (.agg #[.int .i64 u.kind,.string u.name,.int .i64 u.sort,.slice Au u.kids.length cu]) rfl rfl rfl (fun _ _ _ h=>h) HB.out (fun Y hY=>by
     have z0:=sclz hY x0 (by omega);have z1:=sclz hY x1 (by omega);have z2:=sclz hY x2 (by omega);have z3:=sclz hY x3 (by omega)
     (try simp only[Act.put]);go_simp) ?_
   refine stkz (.func (.func 20) #[] #[]) rfl rfl rfl (fun _ _ _ h=>h) HB.out (fun Y hY=>by
     (try simp only[Act.put]);go_simp) ?_
   try simp only[Act.put,fsa,fsb,fsc,fsd,fse,fsf]
   refine stkz (.agg #[.int .i64 (nOf j).kind,.string (nOf j).name,.int .i64 (nOf j).sort,.slice none (nOf j).kids.length 0]) rfl rfl rfl (fun _ _ _ h=>h) HB.out (fun Y hY=>by
     have z0:=sclz hY n0 (by omega);have z1:=sclz hY n1 (by omega);have z2:=sclz hY n2 (by omega);have z3:=sclz hY n3 (by omega)
     (try simp only[Act.put]);go_simp) ?_
   refine stkz (.func (.func 20) #[] #[]) rfl rfl rfl (fun _ _ _ h=>h) HB.out (fun Y hY=>by
     (try simp only[Act.put]);go_simp) ?_
   refine stkz (.agg #[.int .i64 (nOf j).kind,.string (nOf j).name,.int .i64 (nOf j).sort,.slice none (nOf j).kids.length 0]) rfl rfl rfl (fun _ _ _ h=>h) HB.out (fun Y hY=>by
     have z0:=sclz hY n0 (by omega);have z1:=sclz hY n1 (by omega);have z2:=sclz hY n2 (by omega);have z3:=sclz hY n3 (by omega)
     (try simp only[Act.put]);go_simp) ?_
   try simp only[Act.put,fsa,fsb,fsc,fsd,fse,fsf]
   try simp only[Act.put,fsa,fsb,fsc,fsd,fse,fsf]
   repeat any_goals first
    | refine qbw ?_ ?_
    | (
     first
      | (
       refine qae (i:=6) rfl rfl (fun K hK=>?_);obtain⟨Z,hZ⟩:∃Z,Z=W.alloc (.cells #[.int .i64 (nOf j).kind,.string (nOf j).name,.int .i64 (nOf j).sort,.slice none (nOf j).kids.length 0] 24):=⟨_,rfl⟩;obtain⟨b6,hbe,hb,HL6,hg6⟩:=qa3 [((nOf j,none,0):It)] HB hBD hZ;go_wp2_with fail
       rw[←hZ,←hbe];clear hZ hbe)
      | (
       refine qae (i:=7) rfl rfl (fun K hK=>?_);have AP:=qh6 ⟨#[105,110,118]⟩ hPB hBD HB hg6 HL6 (by decide) (qb7 j _ _);go_wp2_with fail
       refine AP.out.mono ?_;clear AP;rintro e Z ⟨A7,c7,rfl,hr,hb⟩;have HI7:=hdzz hr;clear hr)
      | (
       refine qae (i:=8) rfl rfl (fun K hK=>?_);obtain⟨Z,hZ⟩:∃Z,Z=W.alloc (.cells #[.int .i64 (nOf j).kind,.string (nOf j).name,.int .i64 (nOf j).sort,.slice none (nOf j).kids.length 0,.int .i64 3,.string ⟨#[105,110,118]⟩,.int .i64 0,.slice A7 1 c7] 24):=⟨_,rfl⟩;obtain⟨b8,hbe,hb,HL8,hg8⟩:=qa3 [((nOf j,none,0):It),(((Tm.mk 3 ⟨#[105,110,118]⟩ 0 [nOf j]),A7,c7):It)] HB hBD hZ;go_wp2_with fail
       rw[←hZ,←hbe];clear hZ hbe)
      | (
       refine qae (i:=9) rfl rfl (fun K hK=>?_);have AP:=qck ⟨#[109,117,108]⟩ hPB hBD HB hg8 HL8 (by decide) (qb7 j _ _) HI7.out;go_wp2_with fail
       refine AP.out.mono ?_;clear AP;rintro e Z ⟨A9,c9,rfl,hr,hb⟩;have HI9:=hdzz hr;clear hr)
      | (
       refine qae (i:=10) rfl rfl (fun K hK=>?_);obtain⟨Z,hZ⟩:∃Z,Z=W.alloc (.cells #[.int .i64 u.kind,.string u.name,.int .i64 u.sort,.slice Au u.kids.length cu,.int .i64 3,.string ⟨#[109,117,108]⟩,.int .i64 0,.slice A9 2 c9] 24):=⟨_,rfl⟩;obtain⟨b10,hbe,hb,HL10,hg10⟩:=qa3 [((u,Au,cu):It),(((Tm.mk 3 ⟨#[109,117,108]⟩ 0 [nOf j,(Tm.mk 3 ⟨#[105,110,118]⟩ 0 [nOf j])]),A9,c9):It)] HB hBD hZ;go_wp2_with fail
       rw[←hZ,←hbe];clear hZ hbe)
      | (
       refine qae (i:=11) rfl rfl (fun K hK=>?_);have AP:=qck ⟨#[109,117,108]⟩ hPB hBD HB hg10 HL10 (by decide) HU.out HI9.out;go_wp2_with fail
       refine AP.out.mono ?_;clear AP;rintro e Z ⟨A11,c11,rfl,hr,hb⟩;have HI11:=hdzz hr;clear hr)
     try replace HU:=Qb.gh hBD HB hPB hb HU
     try replace HI7:=Qb.gh hBD HB hPB hb HI7
     try replace HI9:=Qb.gh hBD HB hPB hb HI9
     try replace HI11:=Qb.gh hBD HB hPB hb HI11
     try replace HL6:=hbl hb HL6
     try replace HL8:=hbl hb HL8
     try replace HL10:=hbl hb HL10
     replace HB:=hbt HB hb
     first | refine⟨⟨fun _=>HB.out,trivial⟩,?_⟩|refine hK _ _ ⟨⟨fun _=>HB.out,trivial⟩,?_⟩
     clear hb
     try clear hK K
     rename World=>W)
    | (
     refine qae (i:=12) rfl rfl (fun K hK=>?_);have HNf:=hdzz (HN.out.go HB.out);obtain⟨z0,z1,z2,z3,zf⟩:=qaa HNf.out.b3;go_wp2_with fail
     refine⟨⟨fun h=>absurd h (by decide),trivial⟩,qar ?_⟩;go_wp2_with fail
     refine bodyPost_ret (v:=.agg #[.int .i64 3,.string ⟨#[109,117,108]⟩,.int .i64 0,.slice A11 2 c11]) ?_ rfl ?_
     ·simp[results,Tryz.results13,go_sem,z0,z1,z2,z3]
     exact qdf (r:=(Tm.mk 3 ⟨#[109,117,108]⟩ 0 [u,(Tm.mk 3 ⟨#[109,117,108]⟩ 0 [nOf j,(Tm.mk 3 ⟨#[105,110,118]⟩ 0 [nOf j])])])) (A:=A11) (c:=c11) HNf.out.bel hPb HI11.out (by have:=HB.out.size;omega))
  ·go_wp2_with fail
   refine qaf (fun Y=>Below wc.drew.heap.size wc.drew Y) (fun _=>True) [6] (.held 0 (.held 1 (.held 2 (.op 3 (.op 4 (.op 5 (.op 6 .nil))))))) mixed (by kernel_rfl) ?_
   replace HN:=hdzz (HN.out.go (Below.refl _ _).drew)
   generalize wc.drew=D at *;have hPB:∀b,Pb b→b<(w.heap.size+1+1+1):=fun b h=>by have:=hPb b h;omega
   have hBD:(w.heap.size+1+1+1)≤D.heap.size:=by have:=HN.out.hg;have:=HN.out.lt;omega
   have hgD:g<D.heap.size:=HN.out.lt;have hwD:w.heap.size<D.heap.size:=by omega
   obtain⟨x0,x1,x2,x3,xf⟩:=qaa HN.out.b1;obtain⟨n0,n1,n2,n3,nf⟩:=qaa HN.out.bn;refine(fun(W:World) (HB:Hid (Below D.heap.size D W)) (HU:Hid (RepP W (Qb Pb (w.heap.size+1+1+1) W) u Au cu))=>?_:∀W,Hid (Below D.heap.size D W)→Hid (RepP W (Qb Pb (w.heap.size+1+1+1) W) u Au cu)→qax _ _ _ (fun Y=>Below D.heap.size D Y) _ _ _ _ W) D (hdzz (Below.refl _ _)) (hdzz (RepP.mono (fun b h=>.inl h) (fun _ _=>rfl) _ _ _ HN.out.ru));refine stkz (.func (.func 20) #[] #[]) rfl rfl rfl (fun _ _ _ h=>h) HB.out (fun Y hY=>by
     (try simp only[Act.put]);go_simp) ?_
   refine stkz (.agg #[.int .i64 u.kind,.string u.name,.int .i64 u.sort,.slice Au u.kids.length cu]) rfl rfl rfl (fun _ _ _ h=>h) HB.out (fun Y hY=>by
     have z0:=sclz hY x0 (by omega);have z1:=sclz hY x1 (by omega);have z2:=sclz hY x2 (by omega);have z3:=sclz hY x3 (by omega)
     (try simp only[Act.put]);go_simp) ?_
   refine stkz (.func (.func 20) #[] #[]) rfl rfl rfl (fun _ _ _ h=>h) HB.out (fun Y hY=>by
     (try simp only[Act.put]);go_simp) ?_
   try simp only[Act.put,fsa,fsb,fsc,fsd,fse,fsf]
   try simp only[Act.put,fsa,fsb,fsc,fsd,fse,fsf]
   repeat any_goals first
    | refine qbw ?_ ?_
    | (
     first
      | (
       refine qae (i:=3) rfl rfl (fun K hK=>?_);have AP:=hdzz (qmj ⟨#[122,101,114,111]⟩ W Pb (w.heap.size+1+1+1) (by decide));go_wp2_with fail
       refine AP.out.mono ?_;clear AP;rintro e Z ⟨A3,rfl,hr,hb⟩;have HI3:=hdzz hr;clear hr)
      | (
       refine qae (i:=4) rfl rfl (fun K hK=>?_);obtain⟨Z,hZ⟩:∃Z,Z=W.alloc (.cells #[.int .i64 u.kind,.string u.name,.int .i64 u.sort,.slice Au u.kids.length cu,.int .i64 3,.string ⟨#[122,101,114,111]⟩,.int .i64 0,.slice A3 0 0] 24):=⟨_,rfl⟩;obtain⟨b4,hbe,hb,HL4,hg4⟩:=qa3 [((u,Au,cu):It),(((Tm.mk 3 ⟨#[122,101,114,111]⟩ 0 []),A3,0):It)] HB hBD hZ;go_wp2_with fail
       rw[←hZ,←hbe];clear hZ hbe)
      | (
       refine qae (i:=5) rfl rfl (fun K hK=>?_);have AP:=qck ⟨#[120,111,114]⟩ hPB hBD HB hg4 HL4 (by decide) HU.out HI3.out;go_wp2_with fail
       refine AP.out.mono ?_;clear AP;rintro e Z ⟨A5,c5,rfl,hr,hb⟩;have HI5:=hdzz hr;clear hr)
     try replace HU:=Qb.gh hBD HB hPB hb HU
     try replace HI3:=Qb.gh hBD HB hPB hb HI3
     try replace HI5:=Qb.gh hBD HB hPB hb HI5
     try replace HL4:=hbl hb HL4
     replace HB:=hbt HB hb
     first | refine⟨⟨fun _=>HB.out,trivial⟩,?_⟩|refine hK _ _ ⟨⟨fun _=>HB.out,trivial⟩,?_⟩
     clear hb
     try clear hK K
     rename World=>W)
    | (
     refine qae (i:=6) rfl rfl (fun K hK=>?_);have HNf:=hdzz (HN.out.go HB.out);obtain⟨z0,z1,z2,z3,zf⟩:=qaa HNf.out.b3;go_wp2_with fail
     refine⟨⟨fun h=>absurd h (by decide),trivial⟩,qar ?_⟩;go_wp2_with fail
     refine bodyPost_ret (v:=.agg #[.int .i64 3,.string ⟨#[120,111,114]⟩,.int .i64 0,.slice A5 2 c5]) ?_ rfl ?_
     ·simp[results,Tryz.results13,go_sem,z0,z1,z2,z3]
     exact qdf (r:=(Tm.mk 3 ⟨#[120,111,114]⟩ 0 [u,(Tm.mk 3 ⟨#[122,101,114,111]⟩ 0 [])])) (A:=A5) (c:=c5) HNf.out.bel hPb HI5.out (by have:=HB.out.size;omega))
  ·have HBT:Hid (qfd kk (nOf j) u=qex u):=hdzz (by rcases (show kk=12∨kk=13 by omega)with h|h<;>subst h<;>rfl);have t0:((kk:Int)==0)=false:=by rw[beq_eq_false_iff_ne];omega
   have t1:((kk:Int)==1)=false:=by rw[beq_eq_false_iff_ne];omega
   have t2:((kk:Int)==2)=false:=by rw[beq_eq_false_iff_ne];omega
   have t3:((kk:Int)==3)=false:=by rw[beq_eq_false_iff_ne];omega
   have t4:((kk:Int)==4)=false:=by rw[beq_eq_false_iff_ne];omega
   have t5:((kk:Int)==5)=false:=by rw[beq_eq_false_iff_ne];omega
   have t6:((kk:Int)==6)=false:=by rw[beq_eq_false_iff_ne];omega
   have t7:((kk:Int)==7)=false:=by rw[beq_eq_false_iff_ne];omega
   have t8:((kk:Int)==8)=false:=by rw[beq_eq_false_iff_ne];omega
   have t9:((kk:Int)==9)=false:=by rw[beq_eq_false_iff_ne];omega
   have t10:((kk:Int)==10)=false:=by rw[beq_eq_false_iff_ne];omega
   have t11:((kk:Int)==11)=false:=by rw[beq_eq_false_iff_ne];omega
   have HRS:Hid (RepS w Pb u.kids Au cu∧u.name.size≤maxLen):=hdzz (by
    have h:=HREP.out;obtain⟨uk,un,us,ul⟩:=u;rw[RepP_mk]at h;exact⟨h.2,h.1⟩)
   have hul:u.kids.length≤100000:=by
    have h:∀t:Tm,t.kids.length≤t.size:=fun t=>by obtain⟨uk,un,us,ul⟩:=t;have:=Tm.length_le_sizes ul;rw[Tm.size];show ul.length≤_;omega
    exact Nat.le_trans (h u) hsz
   have hulI:(u.kids.length:Int)≤100000:=by omega
   have hcs:u.isA nXor∨(¬u.isA nXor∧u.isA nMul)∨(¬u.isA nXor∧¬u.isA nMul∧¬u.isA nExp)∨(¬u.isA nXor∧¬u.isA nMul∧u.isA nExp):=by
    by_cases h1:u.isA nXor
    ·exact .inl h1
    ·by_cases h2:u.isA nMul
     ·exact .inr (.inl ⟨h1,h2⟩)
     ·by_cases h3:u.isA nExp
      ·exact .inr (.inr (.inr ⟨h1,h2,h3⟩))
      ·exact .inr (.inr (.inl ⟨h1,h2,h3⟩))
   rcases hcs with hX|⟨hX,hM⟩|⟨hX,hM,hE⟩|⟨hX,hM,hE⟩
   ·have IS:=qbs u nXor Au cu wc;rw[decide_eq_true hX]at IS;simp only[Tm.val,nXor]at IS;have IS:=hdzz IS;obtain⟨x0,x1,x2,x3,xf⟩:=qaa HN.out.b1;go_wp2_with fail
    refine IS.out.mono ?_;clear IS x0 x1 x2 x3 xf;rintro e w2 ⟨rfl,hl⟩;have HN2:=hdzz (HN.out.go hl.below);clear hl;have HBTR:Hid (qfd kk (nOf j) u=.mk 3 u.name 0 u.kids.reverse):=hdzz (HBT.out.trans (by rw[qex,if_pos (.inl hX)];rfl));clear HBT;obtain⟨x0,x1,x2,x3,xf⟩:=qaa HN2.out.b1;have hhg:=HN2.out.hg;have hlt0:=HN2.out.lt;go_wp2_with fail
    go_loopw [7,8] (fun v iv wr=>∃(x:Int) (k m c':Nat) (A':Option Addr) (its:List It),iv=.int .i64 x∧x=(k:Int) - 1∧k≤u.kids.length∧v=.slice A' m c'∧Hid (m=its.length)∧Hid (its=[]→A'=none∧c'=0)∧Hid (RowT wr (g+1) Pb (.slice A' m c') its)∧Hid (its.map (·.1)=(u.kids.drop k).reverse)∧Hid (BtN Pb w u Au cu (nOf j) g wr)) (fun _ iv _=>(intOf iv+1).toNat)
    case atStart=>exact⟨(u.kids.length:Int) - 1,u.kids.length,0,0,none,[],(by go_num),rfl,Nat.le_refl _,rfl,rfl,fun _=>⟨rfl,rfl⟩,RowT.nil _ _ _,(by rw[List.drop_length];rfl),HN2.out⟩
    case round=>
     clear x0 x1 x2 x3 xf;obtain⟨x,k,m,c',A',its,rfl,hxk,hk,rfl,HM,HE,HR,HF,HNr⟩:=hrel;obtain⟨x0,x1,x2,x3,xf⟩:=qaa HNr.out.b1;have hlt:=HNr.out.lt;by_cases hx0:0≤x
     ·obtain⟨q,hq⟩:∃q:Nat,x=(q:Int):=⟨x.toNat,by omega⟩;subst hq;have hqk:q+1=k:=by omega
      have hqu:q<u.kids.length:=by omega
      have i1:(0:Int)≤(q:Int):=Int.natCast_nonneg _;have i2:(q:Int)<(u.kids.length:Int):=by omega
      obtain⟨kb',ko,hA,hkb',hll⟩:∃b off,Au=some ⟨b,off,none⟩∧Pb b∧RepLP w Pb u.kids b off:=by
       rcases HRS.out.1.2.2 with h|h
       ·rw[h]at hqu;simp at hqu
       ·exact h
      subst hA;obtain⟨A1,c1,k0,k1,k2,k3,k5⟩:=RepLP.get (RepLP.mono (w':=wr) (P':=Pb) (fun _ h=>h) (fun p hp=>HNr.out.bel.cell (hPb _ hp)) _ _ _ hkb' hll) q hqu;have hdr:(u.kids.drop q).reverse=(u.kids.drop k).reverse++[u.kids[q]]:=by rw[List.drop_eq_getElem_cons hqu,List.reverse_cons,hqk]
      obtain⟨y,hy⟩:∃y,y=u.kids[q]:=⟨_,rfl⟩;rw[←hy]at k0 k1 k2 k3 k5 hdr;have hil:its.length≤100000:=by
       have h:=congrArg List.length HF.out;rw[List.length_map,List.length_reverse,List.length_drop]at h;omega
      obtain⟨g6,c6,w6,hap,hrow6,hbel6,hold6,hs6,hg6⟩:=qdo HR.out (by omega) (y,A1,c1) (RepP.mono (fun b h=>by
       have:=hPb b h;exact⟨h,by omega,fun e=>by have:=(HR.out.lt b e).1;omega⟩) (fun _ _=>rfl) _ _ _ k5) (by omega)
      have HN6:Hid (BtN Pb w u (some ⟨kb',ko,none⟩) cu (nOf j) g w6):=hdzz (by
       have hb:=hbel6 w w.heap.size HNr.out.bel (by omega);have hon:∀q,q<g+1→(Value.slice A' m c').ownBlock≠some q:=fun q hq e=>by have:=(HR.out.lt q e).1;omega
       exact⟨(hold6 _ (by omega) (hon _ (by omega))).trans HNr.out.b1,(hold6 _ (by omega) (hon _ (by omega))).trans HNr.out.b3,(hold6 _ (by omega) (hon _ (by omega))).trans HNr.out.bn,hhg,by omega,hb,RepP.mono (fun _ h=>h) (fun p hp=>hb.cell (hPb _ hp)) _ _ _ HREP.out,hPb⟩)
      have HF6:Hid ((its++[(y,A1,c1)]).map (·.1)=(u.kids.drop q).reverse):=hdzz (by rw[List.map_append,HF.out,hdr];rfl);rw[←HM.out]at hap hrow6;simp only at hap;have HR6:=hdzz hrow6;clear hrow6 hbel6 hold6 hs6 hg6 hdr hy k5 hll hil hxk;go_wp2_with (at_builtin;refine qab rfl _ _ rfl rfl rfl hap ?_)
      go_roundw
      case rel=>exact⟨(q:Int) - 1,q,m+1,c6,_,_,(by go_num),rfl,by omega,rfl,(by rw[List.length_append,←HM.out];rfl),(fun e=>by simp at e),HR6.out,HF6.out,HN6.out⟩
      case measure=>simp[intOf]<;>omega
     ·have hk0:k=0:=by omega
      have HFF:Hid (its.map (·.1)=u.kids.reverse):=hdzz (by have h:=HF.out;rw[hk0,List.drop_zero]at h;exact h);have hmL:m=u.kids.reverse.length:=by rw[←HFF.out,List.length_map];exact HM.out
      have AP:Hid (Calls Tryz.prog 20 #[.string u.name,.slice A' m c'] wr fun e w'=>∃A8 c8,e=.returned (.agg #[.int .i64 3,.string u.name,.int .i64 0,.slice A8 m c8])∧RepP w' (Qb Pb (w.heap.size+1+1+1) w') (.mk 3 u.name 0 u.kids.reverse) A8 c8∧Below wr.heap.size wr w'):=hdzz (by
       by_cases hm0:its=[]
       ·obtain⟨rfl,rfl⟩:=HE.out hm0;have hL0:u.kids.reverse=[]:=by rw[←HFF.out,hm0];rfl
        have hm:m=0:=by rw[hmL,hL0];rfl
        subst hm;refine(qdc u.name wr).mono ?_;rintro e w' ⟨⟨A8,rfl⟩,hb⟩;exact⟨A8,0,rfl,by rw[hL0,RepP_mk];exact⟨HRS.out.2,Nat.le_refl _,Nat.zero_le _,.inl rfl⟩,hb⟩
       ·obtain⟨A9,c9,he,hS⟩:=HR.out.toS (P:=Qb Pb (w.heap.size+1+1+1) wr) (fun b h h'=>.inl h) (fun b h h'=>.inr ⟨by omega,h'⟩);injection he with he1 he2 he3;subst he1 he3;rw[HFF.out]at hS;have h:=qb5 u.name u.kids.reverse A' c' wr (Qb Pb (w.heap.size+1+1+1) wr) (fun b h=>h.elim (fun h=>by have:=hPb b h;omega) (fun h=>h.2)) HRS.out.2 (fun e=>hm0 (by have h:=HFF.out;rw[e]at h;simpa using h)) (by rw[List.length_reverse];omega) hS;rw[←hmL]at h;refine h.mono ?_;rintro e w' ⟨A8,c8,rfl,hr,hb⟩;have hsb:=hb.size;have e1:(Tm.mk 3 u.name 0 u.kids.reverse).val A8 c8=.agg #[.int .i64 3,.string u.name,.int .i64 0,.slice A8 u.kids.reverse.length c8]:=rfl;rw[e1,←hmL];refine⟨A8,c8,rfl,RepP.mono (fun b h=>?_) (fun _ _=>rfl) _ _ _ hr,hb⟩;rcases h with(h|h)|h
        ·exact .inl h
        ·exact .inr ⟨h.1,by omega⟩
        ·exact .inr ⟨by omega,h.2⟩)
      have HML:=hdzz hmL;clear HM HE HR HF HFF hmL hk0 hxk;go_wp2_with fail
      refine AP.out.mono ?_;clear AP x0 x1 x2 x3 xf;rintro e w8 ⟨A8,c8,rfl,hr8,hb8⟩;have HN8:=hdzz (HNr.out.go hb8);obtain⟨z0,z1,z2,z3,zf⟩:=qaa HN8.out.b3;have HR8:=hdzz hr8;have hlt8:=HN8.out.lt;clear hr8 hb8;go_wp2_with fail
      refine bodyPost_ret (v:=.agg #[.int .i64 3,.string u.name,.int .i64 0,.slice A8 m c8]) ?_ rfl ?_
      ·simp[results,Tryz.results13,go_sem,z0,z1,z2,z3]
      rw[HBTR.out,HML.out];exact qdf (r:=.mk 3 u.name 0 u.kids.reverse) (A:=A8) (c:=c8) HN8.out.bel hPb HR8.out (by omega)
   ·have IS:=qbs u nXor Au cu wc;rw[decide_eq_false hX]at IS;simp only[Tm.val,nXor]at IS;have IS:=hdzz IS;obtain⟨x0,x1,x2,x3,xf⟩:=qaa HN.out.b1;go_wp2_with fail
    refine IS.out.mono ?_;clear IS x0 x1 x2 x3 xf;rintro e w2 ⟨rfl,hl⟩;have HN2:=hdzz (HN.out.go hl.below);clear hl;have IS:=qbs u nMul Au cu w2;rw[decide_eq_true hM]at IS;simp only[Tm.val,nMul]at IS;have IS:=hdzz IS;obtain⟨x0,x1,x2,x3,xf⟩:=qaa HN2.out.b1;go_wp2_with fail
    refine IS.out.mono ?_;clear IS x0 x1 x2 x3 xf;rintro e w3 ⟨rfl,hl⟩;have HN3:=hdzz (HN2.out.go hl.below);clear hl;have HBTR:Hid (qfd kk (nOf j) u=.mk 3 u.name 0 u.kids.reverse):=hdzz (HBT.out.trans (by rw[qex,if_pos (.inr hM)];rfl));clear HBT;obtain⟨x0,x1,x2,x3,xf⟩:=qaa HN3.out.b1;have hhg:=HN3.out.hg;have hlt0:=HN3.out.lt;go_wp2_with fail
    go_loopw [7,8] (fun v iv wr=>∃(x:Int) (k m c':Nat) (A':Option Addr) (its:List It),iv=.int .i64 x∧x=(k:Int) - 1∧k≤u.kids.length∧v=.slice A' m c'∧Hid (m=its.length)∧Hid (its=[]→A'=none∧c'=0)∧Hid (RowT wr (g+1) Pb (.slice A' m c') its)∧Hid (its.map (·.1)=(u.kids.drop k).reverse)∧Hid (BtN Pb w u Au cu (nOf j) g wr)) (fun _ iv _=>(intOf iv+1).toNat)
    case atStart=>exact⟨(u.kids.length:Int) - 1,u.kids.length,0,0,none,[],(by go_num),rfl,Nat.le_refl _,rfl,rfl,fun _=>⟨rfl,rfl⟩,RowT.nil _ _ _,(by rw[List.drop_length];rfl),HN3.out⟩
    case round=>
     clear x0 x1 x2 x3 xf;obtain⟨x,k,m,c',A',its,rfl,hxk,hk,rfl,HM,HE,HR,HF,HNr⟩:=hrel;obtain⟨x0,x1,x2,x3,xf⟩:=qaa HNr.out.b1;have hlt:=HNr.out.lt;by_cases hx0:0≤x
     ·obtain⟨q,hq⟩:∃q:Nat,x=(q:Int):=⟨x.toNat,by omega⟩;subst hq;have hqk:q+1=k:=by omega
      have hqu:q<u.kids.length:=by omega
      have i1:(0:Int)≤(q:Int):=Int.natCast_nonneg _;have i2:(q:Int)<(u.kids.length:Int):=by omega
      obtain⟨kb',ko,hA,hkb',hll⟩:∃b off,Au=some ⟨b,off,none⟩∧Pb b∧RepLP w Pb u.kids b off:=by
       rcases HRS.out.1.2.2 with h|h
       ·rw[h]at hqu;simp at hqu
       ·exact h
      subst hA;obtain⟨A1,c1,k0,k1,k2,k3,k5⟩:=RepLP.get (RepLP.mono (w':=wr) (P':=Pb) (fun _ h=>h) (fun p hp=>HNr.out.bel.cell (hPb _ hp)) _ _ _ hkb' hll) q hqu;have hdr:(u.kids.drop q).reverse=(u.kids.drop k).reverse++[u.kids[q]]:=by rw[List.drop_eq_getElem_cons hqu,List.reverse_cons,hqk]
      obtain⟨y,hy⟩:∃y,y=u.kids[q]:=⟨_,rfl⟩;rw[←hy]at k0 k1 k2 k3 k5 hdr;have hil:its.length≤100000:=by
       have h:=congrArg List.length HF.out;rw[List.length_map,List.length_reverse,List.length_drop]at h;omega
      obtain⟨g6,c6,w6,hap,hrow6,hbel6,hold6,hs6,hg6⟩:=qdo HR.out (by omega) (y,A1,c1) (RepP.mono (fun b h=>by
       have:=hPb b h;exact⟨h,by omega,fun e=>by have:=(HR.out.lt b e).1;omega⟩) (fun _ _=>rfl) _ _ _ k5) (by omega)
      have HN6:Hid (BtN Pb w u (some ⟨kb',ko,none⟩) cu (nOf j) g w6):=hdzz (by
       have hb:=hbel6 w w.heap.size HNr.out.bel (by omega);have hon:∀q,q<g+1→(Value.slice A' m c').ownBlock≠some q:=fun q hq e=>by have:=(HR.out.lt q e).1;omega
       exact⟨(hold6 _ (by omega) (hon _ (by omega))).trans HNr.out.b1,(hold6 _ (by omega) (hon _ (by omega))).trans HNr.out.b3,(hold6 _ (by omega) (hon _ (by omega))).trans HNr.out.bn,hhg,by omega,hb,RepP.mono (fun _ h=>h) (fun p hp=>hb.cell (hPb _ hp)) _ _ _ HREP.out,hPb⟩)
      have HF6:Hid ((its++[(y,A1,c1)]).map (·.1)=(u.kids.drop q).reverse):=hdzz (by rw[List.map_append,HF.out,hdr];rfl);rw[←HM.out]at hap hrow6;simp only at hap;have HR6:=hdzz hrow6;clear hrow6 hbel6 hold6 hs6 hg6 hdr hy k5 hll hil hxk;go_wp2_with (at_builtin;refine qab rfl _ _ rfl rfl rfl hap ?_)
      go_roundw
      case rel=>exact⟨(q:Int) - 1,q,m+1,c6,_,_,(by go_num),rfl,by omega,rfl,(by rw[List.length_append,←HM.out];rfl),(fun e=>by simp at e),HR6.out,HF6.out,HN6.out⟩
      case measure=>simp[intOf]<;>omega
     ·have hk0:k=0:=by omega
      have HFF:Hid (its.map (·.1)=u.kids.reverse):=hdzz (by have h:=HF.out;rw[hk0,List.drop_zero]at h;exact h);have hmL:m=u.kids.reverse.length:=by rw[←HFF.out,List.length_map];exact HM.out
      have AP:Hid (Calls Tryz.prog 20 #[.string u.name,.slice A' m c'] wr fun e w'=>∃A8 c8,e=.returned (.agg #[.int .i64 3,.string u.name,.int .i64 0,.slice A8 m c8])∧RepP w' (Qb Pb (w.heap.size+1+1+1) w') (.mk 3 u.name 0 u.kids.reverse) A8 c8∧Below wr.heap.size wr w'):=hdzz (by
       by_cases hm0:its=[]
       ·obtain⟨rfl,rfl⟩:=HE.out hm0;have hL0:u.kids.reverse=[]:=by rw[←HFF.out,hm0];rfl
        have hm:m=0:=by rw[hmL,hL0];rfl
        subst hm;refine(qdc u.name wr).mono ?_;rintro e w' ⟨⟨A8,rfl⟩,hb⟩;exact⟨A8,0,rfl,by rw[hL0,RepP_mk];exact⟨HRS.out.2,Nat.le_refl _,Nat.zero_le _,.inl rfl⟩,hb⟩
       ·obtain⟨A9,c9,he,hS⟩:=HR.out.toS (P:=Qb Pb (w.heap.size+1+1+1) wr) (fun b h h'=>.inl h) (fun b h h'=>.inr ⟨by omega,h'⟩);injection he with he1 he2 he3;subst he1 he3;rw[HFF.out]at hS;have h:=qb5 u.name u.kids.reverse A' c' wr (Qb Pb (w.heap.size+1+1+1) wr) (fun b h=>h.elim (fun h=>by have:=hPb b h;omega) (fun h=>h.2)) HRS.out.2 (fun e=>hm0 (by have h:=HFF.out;rw[e]at h;simpa using h)) (by rw[List.length_reverse];omega) hS;rw[←hmL]at h;refine h.mono ?_;rintro e w' ⟨A8,c8,rfl,hr,hb⟩;have hsb:=hb.size;have e1:(Tm.mk 3 u.name 0 u.kids.reverse).val A8 c8=.agg #[.int .i64 3,.string u.name,.int .i64 0,.slice A8 u.kids.reverse.length c8]:=rfl;rw[e1,←hmL];refine⟨A8,c8,rfl,RepP.mono (fun b h=>?_) (fun _ _=>rfl) _ _ _ hr,hb⟩;rcases h with(h|h)|h
        ·exact .inl h
        ·exact .inr ⟨h.1,by omega⟩
        ·exact .inr ⟨by omega,h.2⟩)
      have HML:=hdzz hmL;clear HM HE HR HF HFF hmL hk0 hxk;go_wp2_with fail
      refine AP.out.mono ?_;clear AP x0 x1 x2 x3 xf;rintro e w8 ⟨A8,c8,rfl,hr8,hb8⟩;have HN8:=hdzz (HNr.out.go hb8);obtain⟨z0,z1,z2,z3,zf⟩:=qaa HN8.out.b3;have HR8:=hdzz hr8;have hlt8:=HN8.out.lt;clear hr8 hb8;go_wp2_with fail
      refine bodyPost_ret (v:=.agg #[.int .i64 3,.string u.name,.int .i64 0,.slice A8 m c8]) ?_ rfl ?_
      ·simp[results,Tryz.results13,go_sem,z0,z1,z2,z3]
      rw[HBTR.out,HML.out];exact qdf (r:=.mk 3 u.name 0 u.kids.reverse) (A:=A8) (c:=c8) HN8.out.bel hPb HR8.out (by omega)
   ·have IS:=qbs u nXor Au cu wc;rw[decide_eq_false hX]at IS;simp only[Tm.val,nXor]at IS;have IS:=hdzz IS;obtain⟨x0,x1,x2,x3,xf⟩:=qaa HN.out.b1;go_wp2_with fail
    refine IS.out.mono ?_;clear IS x0 x1 x2 x3 xf;rintro e w2 ⟨rfl,hl⟩;have HN2:=hdzz (HN.out.go hl.below);clear hl;have IS:=qbs u nMul Au cu w2;rw[decide_eq_false hM]at IS;simp only[Tm.val,nMul]at IS;have IS:=hdzz IS;obtain⟨x0,x1,x2,x3,xf⟩:=qaa HN2.out.b1;go_wp2_with fail
    refine IS.out.mono ?_;clear IS x0 x1 x2 x3 xf;rintro e w3 ⟨rfl,hl⟩;have HN3:=hdzz (HN2.out.go hl.below);clear hl;have IS:=qbs u nExp Au cu w3;rw[decide_eq_false hE]at IS;simp only[Tm.val,nExp]at IS;have IS:=hdzz IS;obtain⟨x0,x1,x2,x3,xf⟩:=qaa HN3.out.b1;go_wp2_with fail
    refine IS.out.mono ?_;clear IS x0 x1 x2 x3 xf;rintro e w4 ⟨rfl,hl⟩;have HN4:=hdzz (HN3.out.go hl.below);clear hl;have HBTR:Hid (qfd kk (nOf j) u=u):=hdzz (HBT.out.trans (by rw[qex,if_neg (fun h=>h.elim hX hM),if_neg (fun h=>hE h.1)]));clear HBT;obtain⟨x0,x1,x2,x3,xf⟩:=qaa HN4.out.b1;obtain⟨z0,z1,z2,z3,zf⟩:=qaa HN4.out.b3;have hlt:=HN4.out.lt;have hhg:=HN4.out.hg;go_wp2_with fail
    refine bodyPost_ret (v:=u.val Au cu) ?_ rfl ?_
    ·simp[results,Tryz.results13,go_sem,z0,z1,z2,z3,Tm.val]
    rw[HBTR.out];exact qdf HN4.out.bel hPb (RepP.mono (fun b h=>.inl h) (fun _ _=>rfl) _ _ _ HN4.out.ru) (by omega)
   ·have IS:=qbs u nXor Au cu wc;rw[decide_eq_false hX]at IS;simp only[Tm.val,nXor]at IS;have IS:=hdzz IS;obtain⟨x0,x1,x2,x3,xf⟩:=qaa HN.out.b1;go_wp2_with fail
    refine IS.out.mono ?_;clear IS x0 x1 x2 x3 xf;rintro e w2 ⟨rfl,hl⟩;have HN2:=hdzz (HN.out.go hl.below);clear hl;have IS:=qbs u nMul Au cu w2;rw[decide_eq_false hM]at IS;simp only[Tm.val,nMul]at IS;have IS:=hdzz IS;obtain⟨x0,x1,x2,x3,xf⟩:=qaa HN2.out.b1;go_wp2_with fail
    refine IS.out.mono ?_;clear IS x0 x1 x2 x3 xf;rintro e w3 ⟨rfl,hl⟩;have HN3:=hdzz (HN2.out.go hl.below);clear hl;have IS:=qbs u nExp Au cu w3;rw[decide_eq_true hE]at IS;simp only[Tm.val,nExp]at IS;have IS:=hdzz IS;obtain⟨x0,x1,x2,x3,xf⟩:=qaa HN3.out.b1;go_wp2_with fail
    refine IS.out.mono ?_;clear IS x0 x1 x2 x3 xf;rintro e w4 ⟨rfl,hl⟩;have HN4:=hdzz (HN3.out.go hl.below);clear hl;have hal:u.kids.length=2:=(hau.num hE).2.1 (by decide);have HAL:=hdzz hal;obtain⟨kb',ko,A0,c0,hke,hkb',k0,k1,k2,k3,kr0⟩:=qal HN4.out.ru 0 (by omega);obtain⟨kb2,ko2,A1,c1,hke2,hkb2,l0,l1,l2,l3,kr1⟩:=qal HN4.out.ru 1 (by omega);subst hke;injection hke2 with hke2;injection hke2 with e1 e2;subst e1 e2;rw[Nat.zero_mul,Nat.add_zero]at k0 k1 k2 k3;rw[Nat.one_mul]at l0 l1 l2 l3;have ha0:ArT (kidT u.kids 0):=ArT.kidl hau.kids 0;obtain⟨y0,hy0⟩:∃y,y=kidT u.kids 0:=⟨_,rfl⟩;obtain⟨y1,hy1⟩:∃y,y=kidT u.kids 1:=⟨_,rfl⟩;rw[←hy0]at k0 k1 k2 k3 kr0 ha0;rw[←hy1]at l0 l1 l2 l3 kr1;have HY0:=hdzz hy0;have HY1:=hdzz hy1;have HK0:=hdzz kr0;have HK1:=hdzz kr1;have hkw:=hPb _ hkb'
    obtain⟨x0,x1,x2,x3,xf⟩:=qaa HN4.out.b1;rw[HAL.out]at x3;clear hal hy0 hy1 kr0 kr1;have IS:=qbs y0 nExp A0 c0 w4;by_cases hE0:y0.isA nExp
    ·rw[decide_eq_true hE0]at IS;simp only[Tm.val,nExp]at IS;have IS:=hdzz IS;have HBTR:Hid (qfd kk (nOf j) u=appT nExp [appT nExp [kidT y0.kids 0,y1],kidT y0.kids 1]):=hdzz (HBT.out.trans (by rw[qex,if_neg (fun h=>h.elim hX hM),if_pos ⟨hE,by rw[←HY0.out];exact hE0⟩,←HY0.out,←HY1.out]));have hal0:y0.kids.length=2:=(ha0.num hE0).2.1 (by decide);have HAL0:=hdzz hal0;obtain⟨gb,go,B0,d0,hge,hgb,m0,m1,m2,m3,mr0⟩:=qal HK0.out 0 (by omega);obtain⟨gb2,go2,B1,d1,hge2,hgb2,o0,o1,o2,o3,mr1⟩:=qal HK0.out 1 (by omega);subst hge;injection hge2 with hge2;injection hge2 with e1 e2;subst e1 e2;rw[Nat.zero_mul,Nat.add_zero]at m0 m1 m2 m3;rw[Nat.one_mul]at o0 o1 o2 o3;obtain⟨v0,hv0⟩:∃y,y=kidT y0.kids 0:=⟨_,rfl⟩;obtain⟨v1,hv1⟩:∃y,y=kidT y0.kids 1:=⟨_,rfl⟩;rw[←hv0]at m0 m1 m2 m3 mr0 HBTR
     rw[←hv1]at o0 o1 o2 o3 mr1 HBTR;have HM0:=hdzz mr0;have HM1:=hdzz mr1;have hgw:=hPb _ hgb;have IS:=IS.out;rw[HAL0.out]at IS;have IS:=hdzz IS;rw[HAL0.out]at k3;clear hal0 hv0 hv1 mr0 mr1 HBT HK0 HY0 HY1;go_wp2_with fail
     refine IS.out.mono ?_;clear IS x0 x1 x2 x3 xf;rintro e wc ⟨rfl,hl⟩;have HN:=hdzz (HN4.out.go hl.below);have hlw:=HN4.out.lt;have hhw:=HN4.out.hg;have HK1:=hdzz (RepP.mono (w:=w4) (w':=wc) (P:=Pb) (fun _ h=>h) (fun p (hp:Pb p.block)=>hl.below.cell (by have:=hPb _ hp;omega)) _ _ _ HK1.out);have HM0:=hdzz (RepP.mono (w:=w4) (w':=wc) (P:=Pb) (fun _ h=>h) (fun p (hp:Pb p.block)=>hl.below.cell (by have:=hPb _ hp;omega)) _ _ _ HM0.out);have HM1:=hdzz (RepP.mono (w:=w4) (w':=wc) (P:=Pb) (fun _ h=>h) (fun p (hp:Pb p.block)=>hl.below.cell (by have:=hPb _ hp;omega)) _ _ _ HM1.out);have k0:=(hl.below.cell (p:=⟨kb',ko,none⟩) (by show kb'<_;omega)).trans k0;have k1:=(hl.below.cell (p:=⟨kb',ko+1,none⟩) (by show kb'<_;omega)).trans k1
     have k2:=(hl.below.cell (p:=⟨kb',ko+2,none⟩) (by show kb'<_;omega)).trans k2;have k3:=(hl.below.cell (p:=⟨kb',ko+3,none⟩) (by show kb'<_;omega)).trans k3;have l0:=(hl.below.cell (p:=⟨kb',ko+4,none⟩) (by show kb'<_;omega)).trans l0;have l1:=(hl.below.cell (p:=⟨kb',ko+4+1,none⟩) (by show kb'<_;omega)).trans l1;have l2:=(hl.below.cell (p:=⟨kb',ko+4+2,none⟩) (by show kb'<_;omega)).trans l2;have l3:=(hl.below.cell (p:=⟨kb',ko+4+3,none⟩) (by show kb'<_;omega)).trans l3;have m0:=(hl.below.cell (p:=⟨gb,go,none⟩) (by show gb<_;omega)).trans m0;have m1:=(hl.below.cell (p:=⟨gb,go+1,none⟩) (by show gb<_;omega)).trans m1;have m2:=(hl.below.cell (p:=⟨gb,go+2,none⟩) (by show gb<_;omega)).trans m2;have m3:=(hl.below.cell (p:=⟨gb,go+3,none⟩) (by show gb<_;omega)).trans m3
     have o0:=(hl.below.cell (p:=⟨gb,go+4,none⟩) (by show gb<_;omega)).trans o0;have o1:=(hl.below.cell (p:=⟨gb,go+4+1,none⟩) (by show gb<_;omega)).trans o1;have o2:=(hl.below.cell (p:=⟨gb,go+4+2,none⟩) (by show gb<_;omega)).trans o2;have o3:=(hl.below.cell (p:=⟨gb,go+4+3,none⟩) (by show gb<_;omega)).trans o3;clear hl HN4 HN3 HN2 hlw hhw;go_wp2_with fail
     refine qaf (fun Y=>Below wc.drew.heap.size wc.drew Y) (fun _=>True) [24] (.held 0 (.held 1 (.held 2 (.held 3 (.held 4 (.held 5 (.held 6 (.held 7 (.held 8 (.held 9 (.held 10 (.held 11 (.held 12 (.held 15 (.held 16 (.held 17 (.held 18 (.held 19 (.held 20 (.held 21 (.op 13 (.op 14 (.op 22 (.op 23 (.op 24 .nil))))))))))))))))))))))))) mixed (by kernel_rfl) ?_;have hcl:∀bb o,wc.drew.cell? ⟨bb,o,none⟩=wc.cell? ⟨bb,o,none⟩:=fun _ _=>rfl;rw[←hcl]at k0 k1 k2 k3;rw[←hcl]at l0 l1 l2 l3;rw[←hcl]at m0 m1 m2 m3;rw[←hcl]at o0 o1 o2 o3;clear hcl;have HM0:Hid (RepP wc.drew (Qb Pb (w.heap.size+1+1+1) wc.drew) v0 B0 d0):=hdzz (RepP.mono (w:=wc) (w':=wc.drew) (fun b h=>.inl h) (fun _ _=>rfl) _ _ _ HM0.out)
     have HK1:Hid (RepP wc.drew (Qb Pb (w.heap.size+1+1+1) wc.drew) y1 A1 c1):=hdzz (RepP.mono (w:=wc) (w':=wc.drew) (fun b h=>.inl h) (fun _ _=>rfl) _ _ _ HK1.out);have HM1:Hid (RepP wc.drew (Qb Pb (w.heap.size+1+1+1) wc.drew) v1 B1 d1):=hdzz (RepP.mono (w:=wc) (w':=wc.drew) (fun b h=>.inl h) (fun _ _=>rfl) _ _ _ HM1.out);have HN:=hdzz (HN.out.go (Below.refl _ _).drew);generalize wc.drew=D at *;have hPB:∀b,Pb b→b<(w.heap.size+1+1+1):=fun b h=>by have:=hPb b h;omega
     have hBD:(w.heap.size+1+1+1)≤D.heap.size:=by have:=HN.out.hg;have:=HN.out.lt;omega
     have hwD:w.heap.size<D.heap.size:=by omega
     have hkD:kb'<D.heap.size:=by omega
     have hgD:gb<D.heap.size:=by omega
     obtain⟨x0,x1,x2,x3,xf⟩:=qaa HN.out.b1;rw[HAL.out]at x3;refine(fun(W:World) (HB:Hid (Below D.heap.size D W)) (HK1:Hid (RepP W (Qb Pb (w.heap.size+1+1+1) W) y1 A1 c1)) (HM0:Hid (RepP W (Qb Pb (w.heap.size+1+1+1) W) v0 B0 d0)) (HM1:Hid (RepP W (Qb Pb (w.heap.size+1+1+1) W) v1 B1 d1))=>?_:∀W,Hid (Below D.heap.size D W)→Hid (RepP W (Qb Pb (w.heap.size+1+1+1) W) y1 A1 c1)→Hid (RepP W (Qb Pb (w.heap.size+1+1+1) W) v0 B0 d0)→Hid (RepP W (Qb Pb (w.heap.size+1+1+1) W) v1 B1 d1)→qax _ _ _ (fun Y=>Below D.heap.size D Y) _ _ _ _ W) D (hdzz (Below.refl _ _)) HK1 HM0 HM1;refine stkz (.func (.func 20) #[] #[]) rfl rfl rfl (fun _ _ _ h=>h) HB.out (fun Y hY=>by
       (try simp only[Act.put]);go_simp) ?_
     refine stkz (.func (.func 20) #[] #[]) rfl rfl rfl (fun _ _ _ h=>h) HB.out (fun Y hY=>by
       (try simp only[Act.put]);go_simp) ?_
     refine stkz (.pointer (some ⟨w.heap.size,3,none⟩)) rfl rfl rfl (fun _ _ _ h=>h) HB.out (fun Y hY=>by
       (try simp only[Act.put]);go_simp) ?_
     try simp only[Act.put,fsa,fsb,fsc,fsd,fse,fsf]
     refine stkz (.slice (some ⟨kb',ko,none⟩) 2 cu) rfl rfl rfl (fun _ _ _ h=>h) HB.out (fun Y hY=>by
       have z3:=sclz hY x3 (by omega)
       (try simp only[Act.put]);go_simp) ?_
     refine stkz (.pointer (some ⟨kb',ko,none⟩)) rfl rfl rfl (fun _ _ _ h=>h) HB.out (fun Y hY=>by
       (try simp only[Act.put]);go_simp) ?_
     refine stkz (.pointer (some ⟨kb',ko+3,none⟩)) rfl rfl rfl (fun _ _ _ h=>h) HB.out (fun Y hY=>by
       (try simp only[Act.put]);go_simp) ?_
     try simp only[Act.put,fsa,fsb,fsc,fsd,fse,fsf]
     refine stkz (.slice (some ⟨gb,go,none⟩) 2 c0) rfl rfl rfl (fun _ _ _ h=>h) HB.out (fun Y hY=>by
       have z3:=sclz hY k3 (by omega)
       (try simp only[Act.put]);go_simp) ?_
     refine stkz (.pointer (some ⟨gb,go,none⟩)) rfl rfl rfl (fun _ _ _ h=>h) HB.out (fun Y hY=>by
       (try simp only[Act.put]);go_simp) ?_
     refine stkz (.agg #[.int .i64 v0.kind,.string v0.name,.int .i64 v0.sort,.slice B0 v0.kids.length d0]) rfl rfl rfl (fun _ _ _ h=>h) HB.out (fun Y hY=>by
       have z0:=sclz hY m0 (by omega);have z1:=sclz hY m1 (by omega);have z2:=sclz hY m2 (by omega);have z3:=sclz hY m3 (by omega)
       (try simp only[Act.put]);go_simp) ?_
     try simp only[Act.put,fsa,fsb,fsc,fsd,fse,fsf]
     refine stkz (.pointer (some ⟨w.heap.size,3,none⟩)) rfl rfl rfl (fun _ _ _ h=>h) HB.out (fun Y hY=>by
       (try simp only[Act.put]);go_simp) ?_
     refine stkz (.slice (some ⟨kb',ko,none⟩) 2 cu) rfl rfl rfl (fun _ _ _ h=>h) HB.out (fun Y hY=>by
       have z3:=sclz hY x3 (by omega)
       (try simp only[Act.put]);go_simp) ?_
     refine stkz (.pointer (some ⟨kb',ko+4,none⟩)) rfl rfl rfl (fun _ _ _ h=>h) HB.out (fun Y hY=>by
       (try simp only[Act.put]);go_simp) ?_
     try simp only[Act.put,fsa,fsb,fsc,fsd,fse,fsf]
     refine stkz (.agg #[.int .i64 y1.kind,.string y1.name,.int .i64 y1.sort,.slice A1 y1.kids.length c1]) rfl rfl rfl (fun _ _ _ h=>h) HB.out (fun Y hY=>by
       have z0:=sclz hY l0 (by omega);have z1:=sclz hY l1 (by omega);have z2:=sclz hY l2 (by omega);have z3:=sclz hY l3 (by omega)
       (try simp only[Act.put]);go_simp) ?_
     refine stkz (.pointer (some ⟨w.heap.size,3,none⟩)) rfl rfl rfl (fun _ _ _ h=>h) HB.out (fun Y hY=>by
       (try simp only[Act.put]);go_simp) ?_
     refine stkz (.slice (some ⟨kb',ko,none⟩) 2 cu) rfl rfl rfl (fun _ _ _ h=>h) HB.out (fun Y hY=>by
       have z3:=sclz hY x3 (by omega)
       (try simp only[Act.put]);go_simp) ?_
     try simp only[Act.put,fsa,fsb,fsc,fsd,fse,fsf]
     refine stkz (.pointer (some ⟨kb',ko,none⟩)) rfl rfl rfl (fun _ _ _ h=>h) HB.out (fun Y hY=>by
       (try simp only[Act.put]);go_simp) ?_
     refine stkz (.pointer (some ⟨kb',ko+3,none⟩)) rfl rfl rfl (fun _ _ _ h=>h) HB.out (fun Y hY=>by
       (try simp only[Act.put]);go_simp) ?_
     refine stkz (.slice (some ⟨gb,go,none⟩) 2 c0) rfl rfl rfl (fun _ _ _ h=>h) HB.out (fun Y hY=>by
       have z3:=sclz hY k3 (by omega)
       (try simp only[Act.put]);go_simp) ?_
     try simp only[Act.put,fsa,fsb,fsc,fsd,fse,fsf]
     refine stkz (.pointer (some ⟨gb,go+4,none⟩)) rfl rfl rfl (fun _ _ _ h=>h) HB.out (fun Y hY=>by
       (try simp only[Act.put]);go_simp) ?_
     refine stkz (.agg #[.int .i64 v1.kind,.string v1.name,.int .i64 v1.sort,.slice B1 v1.kids.length d1]) rfl rfl rfl (fun _ _ _ h=>h) HB.out (fun Y hY=>by
       have z0:=sclz hY o0 (by omega);have z1:=sclz hY o1 (by omega);have z2:=sclz hY o2 (by omega);have z3:=sclz hY o3 (by omega)
       (try simp only[Act.put]);go_simp) ?_
     try simp only[Act.put,fsa,fsb,fsc,fsd,fse,fsf]
     repeat any_goals first
      | refine qbw ?_ ?_
      | (
       first
        | (
         refine qae (i:=13) rfl rfl (fun K hK=>?_);obtain⟨Z,hZ⟩:∃Z,Z=W.alloc (.cells #[.int .i64 v0.kind,.string v0.name,.int .i64 v0.sort,.slice B0 v0.kids.length d0,.int .i64 y1.kind,.string y1.name,.int .i64 y1.sort,.slice A1 y1.kids.length c1] 24):=⟨_,rfl⟩;obtain⟨b13,hbe,hb,HL13,hg13⟩:=qa3 [((v0,B0,d0):It),((y1,A1,c1):It)] HB hBD hZ;go_wp2_with fail
         rw[←hZ,←hbe];clear hZ hbe)
        | (
         refine qae (i:=14) rfl rfl (fun K hK=>?_);have AP:=qck ⟨#[101,120,112]⟩ hPB hBD HB hg13 HL13 (by decide) HM0.out HK1.out;go_wp2_with fail
         refine AP.out.mono ?_;clear AP;rintro e Z ⟨A14,c14,rfl,hr,hb⟩;have HI14:=hdzz hr;clear hr)
        | (
         refine qae (i:=22) rfl rfl (fun K hK=>?_);obtain⟨Z,hZ⟩:∃Z,Z=W.alloc (.cells #[.int .i64 3,.string ⟨#[101,120,112]⟩,.int .i64 0,.slice A14 2 c14,.int .i64 v1.kind,.string v1.name,.int .i64 v1.sort,.slice B1 v1.kids.length d1] 24):=⟨_,rfl⟩;obtain⟨b22,hbe,hb,HL22,hg22⟩:=qa3 [(((Tm.mk 3 ⟨#[101,120,112]⟩ 0 [v0,y1]),A14,c14):It),((v1,B1,d1):It)] HB hBD hZ;go_wp2_with fail
         rw[←hZ,←hbe];clear hZ hbe)
        | (
         refine qae (i:=23) rfl rfl (fun K hK=>?_);have AP:=qck ⟨#[101,120,112]⟩ hPB hBD HB hg22 HL22 (by decide) HI14.out HM1.out;go_wp2_with fail
         refine AP.out.mono ?_;clear AP;rintro e Z ⟨A23,c23,rfl,hr,hb⟩;have HI23:=hdzz hr;clear hr)
       try replace HK1:=Qb.gh hBD HB hPB hb HK1
       try replace HM0:=Qb.gh hBD HB hPB hb HM0
       try replace HM1:=Qb.gh hBD HB hPB hb HM1
       try replace HI14:=Qb.gh hBD HB hPB hb HI14
       try replace HI23:=Qb.gh hBD HB hPB hb HI23
       try replace HL13:=hbl hb HL13
       try replace HL22:=hbl hb HL22
       replace HB:=hbt HB hb
       first | refine⟨⟨fun _=>HB.out,trivial⟩,?_⟩|refine hK _ _ ⟨⟨fun _=>HB.out,trivial⟩,?_⟩
       clear hb
       try clear hK K
       rename World=>W)
      | (
       refine qae (i:=24) rfl rfl (fun K hK=>?_);have HNf:=hdzz (HN.out.go HB.out);obtain⟨z0,z1,z2,z3,zf⟩:=qaa HNf.out.b3;go_wp2_with fail
       refine⟨⟨fun h=>absurd h (by decide),trivial⟩,qar ?_⟩;go_wp2_with fail
       refine bodyPost_ret (v:=.agg #[.int .i64 3,.string ⟨#[101,120,112]⟩,.int .i64 0,.slice A23 2 c23]) ?_ rfl ?_
       ·simp[results,Tryz.results13,go_sem,z0,z1,z2,z3]
       rw[HBTR.out];exact qdf (r:=(Tm.mk 3 ⟨#[101,120,112]⟩ 0 [(Tm.mk 3 ⟨#[101,120,112]⟩ 0 [v0,y1]),v1])) (A:=A23) (c:=c23) HNf.out.bel hPb HI23.out (by have:=HB.out.size;omega))
    ·rw[decide_eq_false hE0]at IS;simp only[Tm.val,nExp]at IS;have IS:=hdzz IS;have HBTR:Hid (qfd kk (nOf j) u=u):=hdzz (HBT.out.trans (by rw[qex,if_neg (fun h=>h.elim hX hM),if_neg (fun h=>hE0 (by rw[HY0.out];exact h.2))]));clear HBT;go_wp2_with fail
     refine IS.out.mono ?_;clear IS x0 x1 x2 x3 xf k0 k1 k2 k3 l0 l1 l2 l3;rintro e w5 ⟨rfl,hl⟩;have HN5:=hdzz (HN4.out.go hl.below);clear hl;obtain⟨x0,x1,x2,x3,xf⟩:=qaa HN5.out.b1;obtain⟨z0,z1,z2,z3,zf⟩:=qaa HN5.out.b3;have hlt:=HN5.out.lt;have hhg:=HN5.out.hg;go_wp2_with fail
     refine bodyPost_ret (v:=u.val (some ⟨kb',ko,none⟩) cu) ?_ rfl ?_
     ·simp[results,Tryz.results13,go_sem,z0,z1,z2,z3,Tm.val]
     rw[HBTR.out];exact qdf HN5.out.bel hPb (RepP.mono (fun b h=>.inl h) (fun _ _=>rfl) _ _ _ HN5.out.ru) (by omega)
theorem qkj (u:Tm) (Au:Option Addr) (cu kb ab wb:Nat) (w:World) (Pb:Nat→Prop) (hPb:∀b,Pb b→b<w.heap.size) (hkb:kb<256) (hwb:wb<256) (hau:ArT u) (hsz:u.size≤100000) (hrep:RepP w Pb u Au cu) :
  Calls Tryz.prog 13 #[u.val Au cu,.agg #[.int .u8 kb,.int .u8 ab,.int .u8 wb]] w (TmP Pb (qfd (kb % 14) (nOf (wb % 3)) u) w):=by
 by_cases h1:kb % 14≤7
 ·exact rbent_g0 u Au cu kb ab wb w Pb hPb (by omega) hkb hwb hau hsz hrep
 ·by_cases h2:kb % 14≤9
  ·exact rbent_g1 u Au cu kb ab wb w Pb hPb (by omega) hkb hwb hau hsz hrep
  ·exact rbent_g2 u Au cu kb ab wb w Pb hPb (by omega) hkb hwb hau hsz hrep
end Go.Proofs.YtjhjoiplpmjepaaGreat
namespace Go.Proofs.YtjhjoiplpmjepaaGreat
open Go.RowKit
theorem RepP.kidsS {w:World} {P:Nat→Prop} {t:Tm} {A:Option Addr} {c:Nat} (h:RepP w P t A c):RepS w P t.kids A c:=by
 obtain⟨k,n,s,l⟩:=t;rw[RepP_mk]at h;exact h.2
theorem RepP.drewN {w:World} {P:Nat→Prop} {u:Tm} {A:Option Addr} {c:Nat} (h:RepP w P u A c) (n:Nat):RepP (w.drewN n) P u A c:=
 RepP.mono (w:=w) (w':=w.drewN n) (fun _ h=>h) (fun _ _=>rfl) _ _ _ h
def RatP (w:World) (P:Nat→Prop) (r:Option Tm) (e:Ending) (w':World):Prop:=
 Below w.heap.size w w'∧match r with
  | none=>e=.returned (.tuple #[.agg #[.int .i64 0,.string ⟨#[]⟩,.int .i64 0,.slice none 0 0],.int .i64 7])
  | some u=>∃A c,e=.returned (.tuple #[u.val A c,.int .i64 0])∧RepP w' P u A c
structure AtRelP (P:Nat→Prop) (w:World) (u:Tm) (A:Option Addr) (c:Nat) (wr:World):Prop where
 box:wr.heap[w.heap.size]?=some (qag u A c)
 out:wr.heap[w.heap.size+1]?=some (qag (.mk 0 ⟨#[]⟩ 0 []) none 0)
 rep:RepP wr P u A c
 below:Below w.heap.size w wr
 le:∀b,P b→b<w.heap.size
theorem AtRelP.set {P:Nat→Prop} {w wr:World} {u v:Tm} {A A':Option Addr} {c c':Nat} (h:AtRelP P w u A c wr) (hr:RepP wr P v A' c') :
  AtRelP P w v A' c' ((((wr.setCell ⟨w.heap.size,0,none⟩ (.int .i64 v.kind)).setCell ⟨w.heap.size,1,none⟩ (.string v.name)).setCell ⟨w.heap.size,2,none⟩ (.int .i64 v.sort)).setCell ⟨w.heap.size,3,none⟩ (.slice A' v.kids.length c')):=
 have hb:Below w.heap.size wr ((((wr.setCell ⟨w.heap.size,0,none⟩ (.int .i64 v.kind)).setCell ⟨w.heap.size,1,none⟩ (.string v.name)).setCell ⟨w.heap.size,2,none⟩ (.int .i64 v.sort)).setCell ⟨w.heap.size,3,none⟩ (.slice A' v.kids.length c')):=qa2 (Below.refl w.heap.size wr) (Nat.le_refl _)
 ⟨qf6 h.box,by rw[qay (by omega)];exact h.out,RepP.mono (fun _ h=>h) (fun q hq=>hb.cell (h.le _ hq)) _ _ _ hr,h.below.trans hb,h.le⟩
theorem AtRelP.start {P:Nat→Prop} {w:World} {t:Tm} {A:Option Addr} {c:Nat} (hP:∀b,P b→b<w.heap.size) (h:RepP w P t A c):AtRelP P w t A c ((w.alloc (qag t A c)).alloc (qag (.mk 0 ⟨#[]⟩ 0 []) none 0)):=by
 have hb1:Below w.heap.size w (w.alloc (qag t A c)):=qad (Nat.le_refl _) _;have hb2:Below w.heap.size w ((w.alloc (qag t A c)).alloc (qag (.mk 0 ⟨#[]⟩ 0 []) none 0)):=hb1.alloc (by simp) _;refine⟨?_,?_,RepP.mono (fun _ h=>h) (fun q hq=>hb2.cell (hP _ hq)) _ _ _ h,hb2,hP⟩
 ·rw[Below.heap_alloc _ _ _ (by simp)];exact heap_alloc_new _ _
 ·have:=heap_alloc_new (w.alloc (qag t A c)) (qag (.mk 0 ⟨#[]⟩ 0 []) none 0)
  rwa[World.size_alloc]at this
theorem AtRelP.drewN {P:Nat→Prop} {w wr:World} {u:Tm} {A:Option Addr} {c:Nat} (h:AtRelP P w u A c wr) (n:Nat):AtRelP P w u A c (wr.drewN n):=
 ⟨h.box,h.out,h.rep.drewN n,h.below.trans ((Lay.refl _ _).drewN n).below,h.le⟩
theorem ratP_any (P:Nat→Prop) (t:Tm) (A:Option Addr) (cap:Nat) (p:List Int) (Ap:Option Addr) (cp:Nat) (w:World) (ht:t.size≤1000000) (hp:p.length≤1000000) (hP:∀b,P b→b<w.heap.size) (hrep:RepP w P t A cap) (hrp:RepI w (fun b=>b<w.heap.size) p Ap cp) :
  Calls Tryz.prog 11 #[t.val A cap,.slice Ap p.length cp] w (RatP w P (Tm.atP p t)):=by
 have mixed:=mixz;have hst:=AtRelP.start hP hrep;simp only[qag,Tm.kind,Tm.name,Tm.sort,Tm.kids,List.length_nil]at hst;have HST:=hdzz hst;clear hst hrep;have HRP:=hdzz hrp;clear hrp;have HT:=hdzz ht;clear ht;simp only[Tm.val];go_enter Tryz.func11,Tryz.ntmps11
 go_wp2_with fail
 go_loopw [6] (fun i wr=>∃(k:Nat) (u:Tm) (A':Option Addr) (c':Nat),k≤p.length∧i=.int .i64 k∧Hid (AtRelP P w u A' c' wr)∧Hid (Tm.atP p t=Tm.atP (p.drop k) u)∧Hid (u.size≤1000000)) (fun i _=>p.length - (intOf i).toNat)
 case atStart=>exact⟨0,t,A,cap,Nat.zero_le _,rfl,HST.out,rfl,HT⟩
 case round=>
  obtain⟨k,u,A',c',hk,rfl,HR,HE,HU⟩:=hrel;clear HST HT;obtain⟨a0,a1,a2,a3,a4⟩:=qaa HR.out.box;obtain⟨r0,r1,r2,r3,r4⟩:=qaa HR.out.out;simp only[Tm.kind,Tm.name,Tm.sort,Tm.kids,List.length_nil]at r0 r1 r2 r3;have i1:(0:Int)≤(k:Int):=Int.natCast_nonneg _;by_cases hlt:k<p.length
  ·have i2:(k:Int)<(p.length:Int):=by omega
   obtain⟨-,-,hpc⟩:=HRP.out.go HR.out.below (Nat.le_refl _);rcases hpc with rfl|⟨bp,offp,rfl,hbp,hpl⟩
   ·simp at hlt
   have hx:=hpl k hlt;have he:=Tm.at_drop hlt u;obtain⟨x,hxe⟩:∃x,x=p[k]:=⟨_,rfl⟩;rw[←hxe]at hx he;clear hxe hpl;have hl1:w.heap.size+1<wr.heap.size:=(sltz HR.out.out);by_cases hx0:x<0
   ·have hn:=Tm.kid_none (t:=u) (.inl hx0);have hres:Tm.atP p t=none:=by rw[HE.out,he,hn]
    have HRES:=hdzz hres;clear hres hn he;have d1:decide (x<0)=true:=decide_eq_true hx0;go_wp2_with fail
    go_quiet (fail)
    go_wp2_with fail
    refine bodyPost_ret (v:=.tuple #[.agg #[.int .i64 0,.string ⟨#[]⟩,.int .i64 0,.slice none 0 0],.int .i64 7]) ?_ rfl ?_
    ·simp[results,Tryz.results11,go_sem,r0,r1,r2,r3]
    unfold RatP;rw[HRES.out];exact⟨qa2 (HR.out.below.trans ((Lay.refl _ _).drewN nq).below) (by omega),rfl⟩
   ·have d1:decide (x<0)=false:=decide_eq_false hx0;by_cases hx1:(u.kids.length:Int)≤x
    ·have hn:=Tm.kid_none (t:=u) (.inr hx1);have hres:Tm.atP p t=none:=by rw[HE.out,he,hn]
     have HRES:=hdzz hres;clear hres hn he;have d2:decide ((u.kids.length:Int)≤x)=true:=decide_eq_true hx1;go_wp2_with fail
     go_quiet (fail)
     go_wp2_with fail
     refine bodyPost_ret (v:=.tuple #[.agg #[.int .i64 0,.string ⟨#[]⟩,.int .i64 0,.slice none 0 0],.int .i64 7]) ?_ rfl ?_
     ·simp[results,Tryz.results11,go_sem,r0,r1,r2,r3]
     unfold RatP;rw[HRES.out];exact⟨qa2 (HR.out.below.trans ((Lay.refl _ _).drewN nq).below) (by omega),rfl⟩
    ·have d2:decide ((u.kids.length:Int)≤x)=false:=decide_eq_false hx1;have hxl:x.toNat<u.kids.length:=by omega
     have hn:=Tm.kid_some (t:=u) (i:=x) (by omega) (by omega);obtain⟨-,-,hkids⟩:=HR.out.rep.kidsS;rcases hkids with h0|⟨bk,off,rfl,hbk,hl⟩
     ·rw[h0]at hxl;simp at hxl
     obtain⟨C,ck,e0,e1,e2,e3,e5⟩:=hl.get x.toNat hxl;have hvs:u.kids[x.toNat].size≤1000000:=by have:=Tm.kid_size (List.getElem_mem hxl);have:=HU.out;omega
     rw[hn]at he;obtain⟨v,hv⟩:∃v,v=u.kids[x.toNat]:=⟨_,rfl⟩;rw[←hv]at e0 e1 e2 e3 e5 hvs he;have hres:Tm.atP p t=Tm.atP (p.drop (k+1)) v:=by rw[HE.out,he]
     have HRES:=hdzz hres;clear hres hn he hv hl;have x0:0≤x:=by omega
     have x1:x<(u.kids.length:Int):=by omega
     have HVS:=hdzz hvs;clear hvs;have hl2:bk<wr.heap.size:=by have:=HR.out.below.size;have:=hP bk hbk;omega
     go_wp2_with fail
     go_quiet (fail)
     go_wp2_with fail
     have HRZ:AtRelP P w u (some ⟨bk,off,none⟩) c' (wr.drewN nq):=HR.out.drewN nq;have hx':(wr.drewN nq).cell? ⟨bp,offp+k,none⟩=some (.int .i64 x):=hx;have z0:(wr.drewN nq).cell? ⟨bk,off+x.toNat*4,none⟩=some (.int .i64 v.kind):=e0;have z1:(wr.drewN nq).cell? ⟨bk,off+x.toNat*4+1,none⟩=some (.string v.name):=e1;have z2:(wr.drewN nq).cell? ⟨bk,off+x.toNat*4+2,none⟩=some (.int .i64 v.sort):=e2;have z3:(wr.drewN nq).cell? ⟨bk,off+x.toNat*4+3,none⟩=some (.slice C v.kids.length ck):=e3;have z5:RepP (wr.drewN nq) P v C ck:=RepP.drewN e5 nq;clear e0 e1 e2 e3 e5 hx HR a0 a1 a2 a3 a4 r0 r1 r2 r3 r4 hl1 hl2;generalize wr.drewN nq=Z at *;have HNEW:=hdzz ((HRZ.drewN 1).set (v:=v) (A':=C) (c':=ck) (RepP.drewN z5 1));clear z5;obtain⟨a0,a1,a2,a3,a4⟩:=qaa HRZ.box;have HRZ:=hdzz HRZ
     refine qbk (fun Y=>Y=Z.drew) 8 (.held 0 (.held 1 (.held 2 (.held 3 (.held 4 (.held 5 (.held 6 (.held 7 (.op 8 .nil))))))))) mixed (by kernel_rfl) ?_;refine qai (v:=.pointer (some ⟨w.heap.size,3,none⟩)) rfl rfl (fun _ _ _ h=>h) rfl (fun Y hY=>by subst hY;(try simp only[Act.put]);go_simp) ?_;refine qai (v:=.slice (some ⟨bk,off,none⟩) u.kids.length c') rfl rfl (fun _ _ _ h=>h) rfl (fun Y hY=>by subst hY;(try simp only[Act.put]);go_simp) ?_;refine qai (v:=.slice (some ⟨bp,offp,none⟩) p.length cp) rfl rfl (fun _ _ _ h=>h) rfl (fun Y hY=>by subst hY;(try simp only[Act.put]);go_simp) ?_;refine qai (v:=.int .i64 k) rfl rfl (fun _ _ _ h=>h) rfl (fun Y hY=>by subst hY;(try simp only[Act.put]);go_simp) ?_
     refine qai (v:=.pointer (some ⟨bp,offp+k,none⟩)) rfl rfl (fun _ _ _ h=>h) rfl (fun Y hY=>by subst hY;(try simp only[Act.put]);go_simp) ?_;refine qai (v:=.int .i64 x) rfl rfl (fun _ _ _ h=>h) rfl (fun Y hY=>by subst hY;(try simp only[Act.put]);go_simp) ?_;refine qai (v:=.pointer (some ⟨bk,off+x.toNat*4,none⟩)) rfl rfl (fun _ _ _ h=>h) rfl (fun Y hY=>by subst hY;(try simp only[Act.put]);go_simp) ?_;refine qai (v:=.agg #[.int .i64 v.kind,.string v.name,.int .i64 v.sort,.slice C v.kids.length ck]) rfl rfl (fun _ _ _ h=>h) rfl (fun Y hY=>by subst hY;(try simp only[Act.put]);go_simp) ?_;simp only[Act.put,List.setIfInBounds_toArray];refine qbu rfl rfl (fun K hK=>?_);go_wp2_with fail
     refine⟨fun h=>absurd h (by decide),qd0 ?_⟩;go_wp2_with fail
     go_roundw
     case rel=>exact⟨k+1,v,C,ck,by omega,by go_num,HNEW.out,HRES.out,HVS⟩
     case measure=>simp[intOf];omega
  ·obtain rfl:k=p.length:=by omega
   have hres:Tm.atP p t=some u:=by rw[HE.out,List.drop_length,Tm.atP]
   have HRES:=hdzz hres;clear hres;have hl1:w.heap.size+1<wr.heap.size:=(sltz HR.out.out);go_wp2_with fail
   refine bodyPost_ret (v:=.tuple #[.agg #[.int .i64 u.kind,.string u.name,.int .i64 u.sort,.slice A' u.kids.length c'],.int .i64 0]) ?_ rfl ?_
   ·simp[results,Tryz.results11,go_sem,r0,r1,r2,r3]
   unfold RatP;rw[HRES.out];have hb:=qa2 (x:=.int .i64 u.kind) (y:=.string u.name) (z:=.int .i64 u.sort) (u:=.slice A' u.kids.length c') (Below.refl w.heap.size wr) (show w.heap.size≤w.heap.size+1 by omega);exact⟨HR.out.below.trans hb,A',c',rfl,RepP.mono (fun _ h=>h) (fun q hq=>hb.cell (hP _ hq)) _ _ _ HR.out.rep⟩
end Go.Proofs.YtjhjoiplpmjepaaGreat
