/- Tbent2 (joined by shake.py). -/
import Derived.Test.YtjhjoiplpmjepaaGreatL0
import Derived.Test.YtjhjoiplpmjepaaGreatL5
import Derived.Test.YtjhjoiplpmjepaaGreatL8
import Derived.Test.YtjhjoiplpmjepaaGreatL9
import Derived.Test.YtjhjoiplpmjepaaGreatL16
import Derived.Deep.Cut
set_option maxRecDepth 100000
set_option linter.unusedVariables false
set_option linter.unusedSimpArgs false
set_option maxHeartbeats 64000000
namespace Go.Proofs.YtjhjoiplpmjepaaGreat
open Go.RowKit Go.Sort
attribute [local irreducible] qax
theorem rbent_g1 (u:Tm) (Au:Option Addr) (cu kb ab wb:Nat) (w:World) (Pb:Nat→Prop) (hPb:∀b,Pb b→b<w.heap.size) (hgr:8≤kb % 14∧kb % 14≤9) (hkb:kb<256) (hwb:wb<256) (hau:ArT u) (hsz:u.size≤100000) (hrep:RepP w Pb u Au cu) :
  Calls Tryz.prog 13 #[u.val Au cu,.agg #[.int .u8 kb,.int .u8 ab,.int .u8 wb]] w (TmP Pb (qfd (kb % 14) (nOf (wb % 3)) u) w):=by
 have mixed:=mixz;obtain⟨V1,hV1⟩:∃V,V=(w.alloc (qag u Au cu)).alloc (.cells #[.int .u8 kb,.int .u8 ab,.int .u8 wb] 33):=⟨_,rfl⟩;obtain⟨V,hV⟩:∃V,V=V1.alloc (.cells #[.int .i64 0,.string ⟨#[]⟩,.int .i64 0,.slice none 0 0] 24):=⟨_,rfl⟩;have s1:(w.alloc (qag u Au cu)).heap.size=w.heap.size+1:=by simp
 have s2:V1.heap.size=w.heap.size+1+1:=by rw[hV1];simp
 have s3:V.heap.size=w.heap.size+1+1+1:=by rw[hV];simp[s2]
 have hb1:Below w.heap.size w V1:=by rw[hV1];exact((Below.refl _ _).alloc (Nat.le_refl _) _).alloc (by simp) _
 have hbV:Below w.heap.size w V:=by rw[hV];exact hb1.alloc (by omega) _
 have hx1:V.heap[w.heap.size]?=some (qag u Au cu):=by rw[hV,Below.heap_alloc _ _ _ (by omega),hV1,Below.heap_alloc _ _ _ (by omega)];exact heap_alloc_new w _
 have hx2:V.heap[w.heap.size+1]?=some (.cells #[.int .u8 kb,.int .u8 ab,.int .u8 wb] 33 (0,0)):=by
  rw[hV,Below.heap_alloc _ _ _ (by omega),hV1];have h:=heap_alloc_new (w.alloc (qag u Au cu)) (.cells #[.int .u8 kb,.int .u8 ab,.int .u8 wb] 33);rw[s1]at h;exact h
 have hx3:V.heap[w.heap.size+1+1]?=some (.cells #[.int .i64 0,.string ⟨#[]⟩,.int .i64 0,.slice none 0 0] 24 (0,0)):=by rw[hV,←s2];exact heap_alloc_new V1 _
 have hr2:RepP V Pb u Au cu:=RepP.mono (fun _ h=>h) (fun p hp=>hbV.cell (hPb _ hp)) _ _ _ hrep;obtain⟨j,hj⟩:∃j,j=wb % 3:=⟨_,rfl⟩;have hj3:j<3:=by omega
 have hrj:((wb:Int) % 3)=(j:Int):=by omega
 rw[←hj];obtain⟨kk,hkk⟩:∃k,k=kb % 14:=⟨_,rfl⟩;have hk14:kk<14:=by omega
 have hrk:((kb:Int) % 14)=(kk:Int):=by omega
 rw[←hkk];rw[←hkk]at hgr;have HGR:=hdzz hgr;clear hgr;simp only[qag]at hV1;have HV1:=hdzz hV1;have HV:=hdzz hV;have HBV:=hdzz hbV;have HS3:=hdzz s3;have HX1:=hdzz hx1;have HX2:=hdzz hx2;have HX3:=hdzz hx3;have HR2:=hdzz hr2;have HRJ:=hdzz hrj;have HRK:=hdzz hrk;have HREP:=hdzz hrep;clear hV1 hV s1 s2 s3 hb1 hbV hx1 hx2 hx3 hr2 hrep hj hkk hrj hrk;simp only[Tm.val];go_enter Tryz.func13,Tryz.ntmps13
 go_upto_region 2 with fail
 rw[←HV1.out,←HV.out];clear HV1 HV;go_cut [6]from 9 (fun s6 wc=>∃g,s6=.pointer (some ⟨g,0,none⟩)∧Hid (BtN Pb w u Au cu (nOf j) g wc)∧Hid (wc.heap[w.heap.size+1]?=some (.cells #[.int .u8 kb,.int .u8 ab,.int .u8 wb] 33 (0,0))))
 case first=>
  refine qaf (fun Y=>Below V.drew.heap.size V.drew Y) (fun _=>True) [] (.held 4 (.held 5 (.held 6 (.two 0 9 (.two 1 9 (.two 2 9 (.two 3 9 (.held 7 (.two 8 9 (.op 9 (.op 10 .nil)) (.op 8 (.op 10 .nil)))) (.op 3 (.held 7 (.op 8 (.op 10 .nil))))) (.op 2 (.op 3 (.held 7 (.op 8 (.op 10 .nil)))))) (.op 1 (.op 2 (.op 3 (.held 7 (.op 8 (.op 10 .nil))))))) (.op 0 (.op 1 (.op 2 (.op 3 (.held 7 (.op 8 (.op 10 .nil))))))))))) mixed (by kernel_rfl) ?_;have HX2:Hid (V.drew.heap[w.heap.size+1]?=some (.cells #[.int .u8 kb,.int .u8 ab,.int .u8 wb] 33 (0,0))):=HX2;have HX1:Hid (V.drew.heap[w.heap.size]?=some (qag u Au cu)):=HX1;have HX3:Hid (V.drew.heap[w.heap.size+1+1]?=some (.cells #[.int .i64 0,.string ⟨#[]⟩,.int .i64 0,.slice none 0 0] 24 (0,0))):=HX3
  have HBV:Hid (Below w.heap.size w V.drew):=hdzz (HBV.out.trans ((Below.refl V.heap.size V).drew.mono (by have:=HS3.out;omega)));have HS3:Hid (V.drew.heap.size=w.heap.size+1+1+1):=HS3;have HR2:Hid (RepP V.drew Pb u Au cu):=hdzz (RepP.mono (w:=V) (w':=V.drew) (fun _ h=>h) (fun _ _=>rfl) _ _ _ HR2.out);generalize V.drew=D at *;obtain⟨d0,d1,d2⟩:=qgw HX2.out;have hrj:Int.tmod (wb:Int) 3=(j:Int):=by rw[Int.tmod_eq_emod_of_nonneg (by omega)];exact HRJ.out
  have hsD:=HS3.out;have hsw:w.heap.size+1<D.heap.size:=by omega
  have hBD:w.heap.size+1+1+1≤D.heap.size:=by omega
  have hj0:(0:Int)≤(j:Int):=Int.natCast_nonneg _;have hj3I:(j:Int)<3:=by omega
  clear hsD;refine(fun(W:World) (HB:Hid (Below D.heap.size D W))=>?_:∀W,Hid (Below D.heap.size D W)→qax _ _ _ (fun Y=>Below D.heap.size D Y) _ _ _ _ W) D (hdzz (Below.refl _ _));refine stkz (.pointer (some ⟨w.heap.size+1,2,none⟩)) rfl rfl rfl (fun _ _ _ h=>h) HB.out (fun Y hY=>by
    (try simp only[Act.put]);go_simp) ?_
  refine stkz (.int .u8 wb) rfl rfl rfl (fun _ _ _ h=>h) HB.out (fun Y hY=>by
    have z2:=sclz hY d2 (by omega)
    (try simp only[Act.put]);go_simp) ?_
  refine stkz (.int .u8 j) rfl rfl rfl (fun _ _ _ h=>h) HB.out (fun Y hY=>by
    (try simp only[Act.put]);go_simp) ?_
  try simp only[Act.put,fsa,fsb,fsc,fsd,fse,fsf]
  repeat any_goals first
   | refine qbw ?_ ?_
   | (
    first
     | (
      refine qae (i:=0) rfl rfl (fun K hK=>?_);have CN:=hdzz (qc9 ⟨#[110]⟩ 2 W);simp only[Tm.val,Tm.kind,Tm.name,Tm.sort,Tm.kids,List.length_nil]at CN;go_wp2_with fail
      refine CN.out.mono ?_;clear CN;rintro e Z ⟨rfl,hl⟩;have hb:=hl.below;clear hl)
     | (
      refine qae (i:=1) rfl rfl (fun K hK=>?_);have CN:=hdzz (qc9 ⟨#[107]⟩ 3 W);simp only[Tm.val,Tm.kind,Tm.name,Tm.sort,Tm.kids,List.length_nil]at CN;go_wp2_with fail
      refine CN.out.mono ?_;clear CN;rintro e Z ⟨rfl,hl⟩;have hb:=hl.below;clear hl)
     | (
      refine qae (i:=2) rfl rfl (fun K hK=>?_);have CN:=hdzz (qc9 ⟨#[97]⟩ 1 W);simp only[Tm.val,Tm.kind,Tm.name,Tm.sort,Tm.kids,List.length_nil]at CN;go_wp2_with fail
      refine CN.out.mono ?_;clear CN;rintro e Z ⟨rfl,hl⟩;have hb:=hl.below;clear hl)
     | (
      refine qae (i:=3) rfl rfl (fun K hK=>?_);obtain⟨Z,hZ⟩:∃Z,Z=W.alloc (.cells #[.int .i64 2,.string ⟨#[110]⟩,.int .i64 2,.slice none 0 0,.int .i64 2,.string ⟨#[107]⟩,.int .i64 3,.slice none 0 0,.int .i64 2,.string ⟨#[97]⟩,.int .i64 1,.slice none 0 0] 24):=⟨_,rfl⟩;obtain⟨b3,hbe,hb,HL3,hg3⟩:=qfl HB hBD hZ;go_wp2_with fail
      rw[←hZ,←hbe];clear hZ hbe)
     | (
      refine qae (i:=9) rfl rfl (fun K hK=>?_);obtain⟨Z,hZ⟩:∃Z,Z=W.alloc (.cells #[.int .i64 0,.string ⟨#[]⟩,.int .i64 0,.slice none 0 0] 24):=⟨_,rfl⟩;obtain⟨b9,hbe,hb,HL9,hg9⟩:=qfl HB hBD hZ;go_wp2_with fail
      rw[←hZ,←hbe];clear hZ hbe)
    try replace HL3:=hbl hb HL3
    try replace HL9:=hbl hb HL9
    replace HB:=hbt HB hb
    first | refine⟨⟨fun _=>HB.out,trivial⟩,?_⟩|refine hK _ _ ⟨⟨fun _=>HB.out,trivial⟩,?_⟩
    clear hb
    try clear hK K
    rename World=>W)
   | (
    refine qci (i:=7) (v:=.pointer (some ⟨b3,j*4,none⟩)) rfl rfl rfl (fun _ _ _ h=>h) HB.out trivial (fun Y hY hY2=>by
      (try simp only[Act.put]);go_simp) ?_
    try simp only[Act.put,fsa,fsb,fsc,fsd,fse,fsf])
   | (
    refine qae (i:=8) rfl rfl (fun K hK=>?_);obtain⟨l0,l1,l2,l3⟩:=lit12 hj3 HL3.out;go_wp2_with fail
    refine⟨⟨fun _=>HB.out,trivial⟩,?_⟩;clear l0 l1 l2 l3)
   | (
    refine qae (i:=10) rfl rfl (fun K hK=>?_);obtain⟨Z,hZ,hxZ,hbZ,hsZ,hcZ⟩:=qcm (W:=W) (B:=b9) (a:=.int .i64 (nOf j).kind) (b:=.string (nOf j).name) (c:=.int .i64 (nOf j).sort) (d:=.slice none (nOf j).kids.length 0) HL9.out;obtain⟨o0,o1,o2,o3,of_⟩:=qaa HL9.out;have hgL:=(sltz HL9.out);have HBZ:Hid (Below D.heap.size D Z):=hdzz (HB.out.trans (hbZ.mono (by have:=HS3.out;omega)));go_wp2_with fail
    rw[←hZ];refine⟨⟨fun _=>HBZ.out,trivial⟩,qar ?_⟩;have hs3:=HS3.out;have HNN:Hid (BtN Pb w u Au cu (nOf j) b9 Z):=hdzz ⟨(HBZ.out.block _ (by omega)).trans HX1.out,(HBZ.out.block _ (by omega)).trans HX3.out,hxZ,by omega,by omega,HBV.out.trans (HBZ.out.mono (by omega)),RepP.mono (fun _ h=>h) (fun p hp=>HBZ.out.cell (by have:=hPb _ hp;omega)) _ _ _ HR2.out,hPb⟩;have HBB:Hid (Z.heap[w.heap.size+1]?=some (.cells #[.int .u8 kb,.int .u8 ab,.int .u8 wb] 33 (0,0))):=hdzz ((HBZ.out.block _ (by omega)).trans HX2.out);clear hZ hxZ hbZ hsZ hcZ hgL hs3;go_wp2_with fail
    go_meet
    case rel=>exact⟨_,rfl,HNN,HBB⟩)
 case rest=>
  obtain⟨g,rfl,HN,HB⟩:=hcut;obtain⟨d0,d1,d2⟩:=qgw HB.out;have hrk:=HRK.out;go_upto_region 4 with fail
  rw[hrk];have hgr:=HGR.out;clear d0 d1 d2 hrk HB HX1 HX2 HX3 HR2 HRJ HRK HBV HS3;have hcases:kk=8∨kk=9:=by omega
  clear hgr HGR;rcases hcases with rfl|rfl
  ·go_wp2_with fail
   refine qaf (fun Y=>Below wc.drew.heap.size wc.drew Y) (fun _=>True) [12] (.held 0 (.held 1 (.held 2 (.held 3 (.held 6 (.held 7 (.two 4 8 (.two 5 8 (.op 8 (.op 9 (.op 10 (.op 11 (.op 12 .nil))))) (.op 5 (.op 9 (.op 10 (.op 11 (.op 12 .nil)))))) (.op 4 (.op 5 (.op 9 (.op 10 (.op 11 (.op 12 .nil))))))))))))) mixed (by kernel_rfl) ?_
   replace HN:=hdzz (HN.out.go (Below.refl _ _).drew)
   generalize wc.drew=D at *;have hPB:∀b,Pb b→b<(w.heap.size+1+1+1):=fun b h=>by have:=hPb b h;omega
   have hBD:(w.heap.size+1+1+1)≤D.heap.size:=by have:=HN.out.hg;have:=HN.out.lt;omega
   have hgD:g<D.heap.size:=HN.out.lt;have hwD:w.heap.size<D.heap.size:=by omega
   obtain⟨x0,x1,x2,x3,xf⟩:=qaa HN.out.b1;obtain⟨n0,n1,n2,n3,nf⟩:=qaa HN.out.bn;refine(fun(W:World) (HB:Hid (Below D.heap.size D W)) (HU:Hid (RepP W (Qb Pb (w.heap.size+1+1+1) W) u Au cu))=>?_:∀W,Hid (Below D.heap.size D W)→Hid (RepP W (Qb Pb (w.heap.size+1+1+1) W) u Au cu)→qax _ _ _ (fun Y=>Below D.heap.size D Y) _ _ _ _ W) D (hdzz (Below.refl _ _)) (hdzz (RepP.mono (fun b h=>.inl h) (fun _ _=>rfl) _ _ _ HN.out.ru));refine stkz (.func (.func 20) #[] #[]) rfl rfl rfl (fun _ _ _ h=>h) HB.out (fun Y hY=>by
     (try simp only[Act.put]);go_simp) ?_
   refine stkz (.func (.func 20) #[] #[]) rfl rfl rfl (fun _ _ _ h=>h) HB.out (fun Y hY=>by
     (try simp only[Act.put]);go_simp) ?_
   refine stkz (.agg #[.int .i64 u.kind,.string u.name,.int .i64 u.sort,.slice Au u.kids.length cu]) rfl rfl rfl (fun _ _ _ h=>h) HB.out (fun Y hY=>by
     have z0:=sclz hY x0 (by omega);have z1:=sclz hY x1 (by omega);have z2:=sclz hY x2 (by omega);have z3:=sclz hY x3 (by omega)
     (try simp only[Act.put]);go_simp) ?_
   try simp only[Act.put,fsa,fsb,fsc,fsd,fse,fsf]
   refine stkz (.agg #[.int .i64 (nOf j).kind,.string (nOf j).name,.int .i64 (nOf j).sort,.slice none (nOf j).kids.length 0]) rfl rfl rfl (fun _ _ _ h=>h) HB.out (fun Y hY=>by
     have z0:=sclz hY n0 (by omega);have z1:=sclz hY n1 (by omega);have z2:=sclz hY n2 (by omega);have z3:=sclz hY n3 (by omega)
     (try simp only[Act.put]);go_simp) ?_
   refine stkz (.func (.func 20) #[] #[]) rfl rfl rfl (fun _ _ _ h=>h) HB.out (fun Y hY=>by
     (try simp only[Act.put]);go_simp) ?_
   refine stkz (.agg #[.int .i64 (nOf j).kind,.string (nOf j).name,.int .i64 (nOf j).sort,.slice none (nOf j).kids.length 0]) rfl rfl rfl (fun _ _ _ h=>h) HB.out (fun Y hY=>by
     have z0:=sclz hY n0 (by omega);have z1:=sclz hY n1 (by omega);have z2:=sclz hY n2 (by omega);have z3:=sclz hY n3 (by omega)
     (try simp only[Act.put]);go_simp) ?_
   try simp only[Act.put,fsa,fsb,fsc,fsd,fse,fsf]
   try simp only[Act.put,fsa,fsb,fsc,fsd,fse,fsf]
   repeat any_goals first
    | refine qbw ?_ ?_
    | (
     first
      | (
       refine qae (i:=4) rfl rfl (fun K hK=>?_);obtain⟨Z,hZ⟩:∃Z,Z=W.alloc (.cells #[.int .i64 u.kind,.string u.name,.int .i64 u.sort,.slice Au u.kids.length cu,.int .i64 (nOf j).kind,.string (nOf j).name,.int .i64 (nOf j).sort,.slice none (nOf j).kids.length 0] 24):=⟨_,rfl⟩;obtain⟨b4,hbe,hb,HL4,hg4⟩:=qa3 [((u,Au,cu):It),((nOf j,none,0):It)] HB hBD hZ;go_wp2_with fail
       rw[←hZ,←hbe];clear hZ hbe)
      | (
       refine qae (i:=5) rfl rfl (fun K hK=>?_);have AP:=qck ⟨#[115,105,103,110]⟩ hPB hBD HB hg4 HL4 (by decide) HU.out (qb7 j _ _);go_wp2_with fail
       refine AP.out.mono ?_;clear AP;rintro e Z ⟨A5,c5,rfl,hr,hb⟩;have HI5:=hdzz hr;clear hr)
      | (
       refine qae (i:=8) rfl rfl (fun K hK=>?_);obtain⟨Z,hZ⟩:∃Z,Z=W.alloc (.cells #[.int .i64 (nOf j).kind,.string (nOf j).name,.int .i64 (nOf j).sort,.slice none (nOf j).kids.length 0] 24):=⟨_,rfl⟩;obtain⟨b8,hbe,hb,HL8,hg8⟩:=qa3 [((nOf j,none,0):It)] HB hBD hZ;go_wp2_with fail
       rw[←hZ,←hbe];clear hZ hbe)
      | (
       refine qae (i:=9) rfl rfl (fun K hK=>?_);have AP:=qh6 ⟨#[112,107]⟩ hPB hBD HB hg8 HL8 (by decide) (qb7 j _ _);go_wp2_with fail
       refine AP.out.mono ?_;clear AP;rintro e Z ⟨A9,c9,rfl,hr,hb⟩;have HI9:=hdzz hr;clear hr)
      | (
       refine qae (i:=10) rfl rfl (fun K hK=>?_);obtain⟨Z,hZ⟩:∃Z,Z=W.alloc (.cells #[.int .i64 3,.string ⟨#[115,105,103,110]⟩,.int .i64 0,.slice A5 2 c5,.int .i64 3,.string ⟨#[112,107]⟩,.int .i64 0,.slice A9 1 c9] 24):=⟨_,rfl⟩;obtain⟨b10,hbe,hb,HL10,hg10⟩:=qa3 [(((Tm.mk 3 ⟨#[115,105,103,110]⟩ 0 [u,nOf j]),A5,c5):It),(((Tm.mk 3 ⟨#[112,107]⟩ 0 [nOf j]),A9,c9):It)] HB hBD hZ;go_wp2_with fail
       rw[←hZ,←hbe];clear hZ hbe)
      | (
       refine qae (i:=11) rfl rfl (fun K hK=>?_);have AP:=qck ⟨#[111,112,101,110]⟩ hPB hBD HB hg10 HL10 (by decide) HI5.out HI9.out;go_wp2_with fail
       refine AP.out.mono ?_;clear AP;rintro e Z ⟨A11,c11,rfl,hr,hb⟩;have HI11:=hdzz hr;clear hr)
     try replace HU:=Qb.gh hBD HB hPB hb HU
     try replace HI5:=Qb.gh hBD HB hPB hb HI5
     try replace HI9:=Qb.gh hBD HB hPB hb HI9
     try replace HI11:=Qb.gh hBD HB hPB hb HI11
     try replace HL4:=hbl hb HL4
     try replace HL8:=hbl hb HL8
     try replace HL10:=hbl hb HL10
     replace HB:=hbt HB hb
     first | refine⟨⟨fun _=>HB.out,trivial⟩,?_⟩|refine hK _ _ ⟨⟨fun _=>HB.out,trivial⟩,?_⟩
     clear hb
     try clear hK K
     rename World=>W)
    | (
     refine qae (i:=12) rfl rfl (fun K hK=>?_);have HNf:=hdzz (HN.out.go HB.out);obtain⟨z0,z1,z2,z3,zf⟩:=qaa HNf.out.b3;go_wp2_with fail
     refine⟨⟨fun h=>absurd h (by decide),trivial⟩,qar ?_⟩;go_wp2_with fail
     refine bodyPost_ret (v:=.agg #[.int .i64 3,.string ⟨#[111,112,101,110]⟩,.int .i64 0,.slice A11 2 c11]) ?_ rfl ?_
     ·simp[results,Tryz.results13,go_sem,z0,z1,z2,z3]
     exact qdf (r:=(Tm.mk 3 ⟨#[111,112,101,110]⟩ 0 [(Tm.mk 3 ⟨#[115,105,103,110]⟩ 0 [u,nOf j]),(Tm.mk 3 ⟨#[112,107]⟩ 0 [nOf j])])) (A:=A11) (c:=c11) HNf.out.bel hPb HI11.out (by have:=HB.out.size;omega))
  ·go_wp2_with fail
   refine qaf (fun Y=>Below wc.drew.heap.size wc.drew Y) (fun _=>True) [12] (.held 0 (.held 1 (.held 2 (.held 3 (.held 6 (.held 7 (.two 4 8 (.two 5 8 (.op 8 (.op 9 (.op 10 (.op 11 (.op 12 .nil))))) (.op 5 (.op 9 (.op 10 (.op 11 (.op 12 .nil)))))) (.op 4 (.op 5 (.op 9 (.op 10 (.op 11 (.op 12 .nil))))))))))))) mixed (by kernel_rfl) ?_
   replace HN:=hdzz (HN.out.go (Below.refl _ _).drew)
   generalize wc.drew=D at *;have hPB:∀b,Pb b→b<(w.heap.size+1+1+1):=fun b h=>by have:=hPb b h;omega
   have hBD:(w.heap.size+1+1+1)≤D.heap.size:=by have:=HN.out.hg;have:=HN.out.lt;omega
   have hgD:g<D.heap.size:=HN.out.lt;have hwD:w.heap.size<D.heap.size:=by omega
   obtain⟨x0,x1,x2,x3,xf⟩:=qaa HN.out.b1;obtain⟨n0,n1,n2,n3,nf⟩:=qaa HN.out.bn;refine(fun(W:World) (HB:Hid (Below D.heap.size D W)) (HU:Hid (RepP W (Qb Pb (w.heap.size+1+1+1) W) u Au cu))=>?_:∀W,Hid (Below D.heap.size D W)→Hid (RepP W (Qb Pb (w.heap.size+1+1+1) W) u Au cu)→qax _ _ _ (fun Y=>Below D.heap.size D Y) _ _ _ _ W) D (hdzz (Below.refl _ _)) (hdzz (RepP.mono (fun b h=>.inl h) (fun _ _=>rfl) _ _ _ HN.out.ru));refine stkz (.func (.func 20) #[] #[]) rfl rfl rfl (fun _ _ _ h=>h) HB.out (fun Y hY=>by
     (try simp only[Act.put]);go_simp) ?_
   refine stkz (.func (.func 20) #[] #[]) rfl rfl rfl (fun _ _ _ h=>h) HB.out (fun Y hY=>by
     (try simp only[Act.put]);go_simp) ?_
   refine stkz (.agg #[.int .i64 u.kind,.string u.name,.int .i64 u.sort,.slice Au u.kids.length cu]) rfl rfl rfl (fun _ _ _ h=>h) HB.out (fun Y hY=>by
     have z0:=sclz hY x0 (by omega);have z1:=sclz hY x1 (by omega);have z2:=sclz hY x2 (by omega);have z3:=sclz hY x3 (by omega)
     (try simp only[Act.put]);go_simp) ?_
   try simp only[Act.put,fsa,fsb,fsc,fsd,fse,fsf]
   refine stkz (.agg #[.int .i64 (nOf j).kind,.string (nOf j).name,.int .i64 (nOf j).sort,.slice none (nOf j).kids.length 0]) rfl rfl rfl (fun _ _ _ h=>h) HB.out (fun Y hY=>by
     have z0:=sclz hY n0 (by omega);have z1:=sclz hY n1 (by omega);have z2:=sclz hY n2 (by omega);have z3:=sclz hY n3 (by omega)
     (try simp only[Act.put]);go_simp) ?_
   refine stkz (.func (.func 20) #[] #[]) rfl rfl rfl (fun _ _ _ h=>h) HB.out (fun Y hY=>by
     (try simp only[Act.put]);go_simp) ?_
   refine stkz (.agg #[.int .i64 (nOf j).kind,.string (nOf j).name,.int .i64 (nOf j).sort,.slice none (nOf j).kids.length 0]) rfl rfl rfl (fun _ _ _ h=>h) HB.out (fun Y hY=>by
     have z0:=sclz hY n0 (by omega);have z1:=sclz hY n1 (by omega);have z2:=sclz hY n2 (by omega);have z3:=sclz hY n3 (by omega)
     (try simp only[Act.put]);go_simp) ?_
   try simp only[Act.put,fsa,fsb,fsc,fsd,fse,fsf]
   try simp only[Act.put,fsa,fsb,fsc,fsd,fse,fsf]
   repeat any_goals first
    | refine qbw ?_ ?_
    | (
     first
      | (
       refine qae (i:=4) rfl rfl (fun K hK=>?_);obtain⟨Z,hZ⟩:∃Z,Z=W.alloc (.cells #[.int .i64 u.kind,.string u.name,.int .i64 u.sort,.slice Au u.kids.length cu,.int .i64 (nOf j).kind,.string (nOf j).name,.int .i64 (nOf j).sort,.slice none (nOf j).kids.length 0] 24):=⟨_,rfl⟩;obtain⟨b4,hbe,hb,HL4,hg4⟩:=qa3 [((u,Au,cu):It),((nOf j,none,0):It)] HB hBD hZ;go_wp2_with fail
       rw[←hZ,←hbe];clear hZ hbe)
      | (
       refine qae (i:=5) rfl rfl (fun K hK=>?_);have AP:=qck ⟨#[101,120,112]⟩ hPB hBD HB hg4 HL4 (by decide) HU.out (qb7 j _ _);go_wp2_with fail
       refine AP.out.mono ?_;clear AP;rintro e Z ⟨A5,c5,rfl,hr,hb⟩;have HI5:=hdzz hr;clear hr)
      | (
       refine qae (i:=8) rfl rfl (fun K hK=>?_);obtain⟨Z,hZ⟩:∃Z,Z=W.alloc (.cells #[.int .i64 (nOf j).kind,.string (nOf j).name,.int .i64 (nOf j).sort,.slice none (nOf j).kids.length 0] 24):=⟨_,rfl⟩;obtain⟨b8,hbe,hb,HL8,hg8⟩:=qa3 [((nOf j,none,0):It)] HB hBD hZ;go_wp2_with fail
       rw[←hZ,←hbe];clear hZ hbe)
      | (
       refine qae (i:=9) rfl rfl (fun K hK=>?_);have AP:=qh6 ⟨#[105,110,118]⟩ hPB hBD HB hg8 HL8 (by decide) (qb7 j _ _);go_wp2_with fail
       refine AP.out.mono ?_;clear AP;rintro e Z ⟨A9,c9,rfl,hr,hb⟩;have HI9:=hdzz hr;clear hr)
      | (
       refine qae (i:=10) rfl rfl (fun K hK=>?_);obtain⟨Z,hZ⟩:∃Z,Z=W.alloc (.cells #[.int .i64 3,.string ⟨#[101,120,112]⟩,.int .i64 0,.slice A5 2 c5,.int .i64 3,.string ⟨#[105,110,118]⟩,.int .i64 0,.slice A9 1 c9] 24):=⟨_,rfl⟩;obtain⟨b10,hbe,hb,HL10,hg10⟩:=qa3 [(((Tm.mk 3 ⟨#[101,120,112]⟩ 0 [u,nOf j]),A5,c5):It),(((Tm.mk 3 ⟨#[105,110,118]⟩ 0 [nOf j]),A9,c9):It)] HB hBD hZ;go_wp2_with fail
       rw[←hZ,←hbe];clear hZ hbe)
      | (
       refine qae (i:=11) rfl rfl (fun K hK=>?_);have AP:=qck ⟨#[101,120,112]⟩ hPB hBD HB hg10 HL10 (by decide) HI5.out HI9.out;go_wp2_with fail
       refine AP.out.mono ?_;clear AP;rintro e Z ⟨A11,c11,rfl,hr,hb⟩;have HI11:=hdzz hr;clear hr)
     try replace HU:=Qb.gh hBD HB hPB hb HU
     try replace HI5:=Qb.gh hBD HB hPB hb HI5
     try replace HI9:=Qb.gh hBD HB hPB hb HI9
     try replace HI11:=Qb.gh hBD HB hPB hb HI11
     try replace HL4:=hbl hb HL4
     try replace HL8:=hbl hb HL8
     try replace HL10:=hbl hb HL10
     replace HB:=hbt HB hb
     first | refine⟨⟨fun _=>HB.out,trivial⟩,?_⟩|refine hK _ _ ⟨⟨fun _=>HB.out,trivial⟩,?_⟩
     clear hb
     try clear hK K
     rename World=>W)
    | (
     refine qae (i:=12) rfl rfl (fun K hK=>?_);have HNf:=hdzz (HN.out.go HB.out);obtain⟨z0,z1,z2,z3,zf⟩:=qaa HNf.out.b3;go_wp2_with fail
     refine⟨⟨fun h=>absurd h (by decide),trivial⟩,qar ?_⟩;go_wp2_with fail
     refine bodyPost_ret (v:=.agg #[.int .i64 3,.string ⟨#[101,120,112]⟩,.int .i64 0,.slice A11 2 c11]) ?_ rfl ?_
     ·simp[results,Tryz.results13,go_sem,z0,z1,z2,z3]
     exact qdf (r:=(Tm.mk 3 ⟨#[101,120,112]⟩ 0 [(Tm.mk 3 ⟨#[101,120,112]⟩ 0 [u,nOf j]),(Tm.mk 3 ⟨#[105,110,118]⟩ 0 [nOf j])])) (A:=A11) (c:=c11) HNf.out.bel hPb HI11.out (by have:=HB.out.size;omega))
end Go.Proofs.YtjhjoiplpmjepaaGreat
