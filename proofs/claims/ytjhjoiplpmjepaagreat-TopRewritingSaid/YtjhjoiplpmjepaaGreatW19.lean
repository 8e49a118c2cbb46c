/- Tdes4, Tdes5, Tnorm (joined by shake.py). -/
import Derived.Test.YtjhjoiplpmjepaaGreatW0
import Derived.Test.YtjhjoiplpmjepaaGreatW14
import Derived.Test.YtjhjoiplpmjepaaGreatW15
import Derived.Test.YtjhjoiplpmjepaaGreatW16
import Derived.Test.YtjhjoiplpmjepaaGreatW18
set_option maxRecDepth 100000
set_option linter.unusedVariables false
set_option linter.unusedSimpArgs false
set_option maxHeartbeats 16000000
namespace Go.Proofs.YtjhjoiplpmjepaaGreat
open Go.RowKit Go.Sort
attribute [local irreducible] qay
theorem des_open (a k:Tm) (A:Option Addr) (c:Nat) (w:World) (Pb:Nat→Prop) (hPb:∀b,Pb b→b<w.heap.size) (hka:ArT a) (hkk:ArT k) (hsa:a.size≤900000) (hsk:k.size≤900000) (hrep:RepP w Pb (.mk 3 qbh 0 [a,k]) A c) :
  Calls Tryz.prog 104 #[(Tm.mk 3 qbh 0 [a,k]).val A c] w (OkR Pb (qas qbh [a,k]) w):=by
 have mixed:=mixz;obtain⟨b,off,Aa,ca,rfl,hbw,p0,p1,p2,p3,pa⟩:=qau hrep 0 (by show 0<[a,k].length;exact Nat.succ_pos _);have hbw:b<w.heap.size:=hPb _ hbw;rw[Nat.zero_mul,Nat.add_zero]at p0 p1 p2 p3;have ek0:kidT (Tm.mk 3 qbh 0 [a,k]).kids 0=a:=rfl;rw[ek0]at p0 p1 p2 p3 pa;clear ek0;obtain⟨b',off',Ak,ck,hAe,-,q0,q1,q2,q3,pk⟩:=qau hrep 1 (by show 1<[a,k].length;exact Nat.le_refl _);injection hAe with hAe;injection hAe with e1 e2;subst e1 e2;rw[Nat.one_mul]at q0 q1 q2 q3;have ek1:kidT (Tm.mk 3 qbh 0 [a,k]).kids 1=k:=rfl;rw[ek1]at q0 q1 q2 q3 pk;clear ek1;have HREP:=hdzz hrep
 obtain⟨V,hV⟩:∃V,V=((((w.alloc (.cells #[.int .i64 3,.string ⟨#[111,112,101,110]⟩,.int .i64 0,.slice (some ⟨b,off,none⟩) 2 c] 24)).alloc (.cells #[.int .i64 0,.string ⟨#[]⟩,.int .i64 0,.slice none 0 0] 24)).alloc (.cells #[.int .i64 a.kind,.string a.name,.int .i64 a.sort,.slice Aa a.kids.length ca] 24)).alloc (.cells #[.int .i64 k.kind,.string k.name,.int .i64 k.sort,.slice Ak k.kids.length ck] 24)):=⟨_,rfl⟩;have s1:(w.alloc (.cells #[.int .i64 3,.string ⟨#[111,112,101,110]⟩,.int .i64 0,.slice (some ⟨b,off,none⟩) 2 c] 24)).heap.size=w.heap.size+1:=by simp
 have s2:((w.alloc (.cells #[.int .i64 3,.string ⟨#[111,112,101,110]⟩,.int .i64 0,.slice (some ⟨b,off,none⟩) 2 c] 24)).alloc (.cells #[.int .i64 0,.string ⟨#[]⟩,.int .i64 0,.slice none 0 0] 24)).heap.size=w.heap.size+1+1:=by simp
 have s3:(((w.alloc (.cells #[.int .i64 3,.string ⟨#[111,112,101,110]⟩,.int .i64 0,.slice (some ⟨b,off,none⟩) 2 c] 24)).alloc (.cells #[.int .i64 0,.string ⟨#[]⟩,.int .i64 0,.slice none 0 0] 24)).alloc (.cells #[.int .i64 a.kind,.string a.name,.int .i64 a.sort,.slice Aa a.kids.length ca] 24)).heap.size=w.heap.size+1+1+1:=by simp
 have hb2:Below w.heap.size w ((w.alloc (.cells #[.int .i64 3,.string ⟨#[111,112,101,110]⟩,.int .i64 0,.slice (some ⟨b,off,none⟩) 2 c] 24)).alloc (.cells #[.int .i64 0,.string ⟨#[]⟩,.int .i64 0,.slice none 0 0] 24)):=((Below.refl _ _).alloc (Nat.le_refl _) _).alloc (by simp) _;have hb3:Below w.heap.size w (((w.alloc (.cells #[.int .i64 3,.string ⟨#[111,112,101,110]⟩,.int .i64 0,.slice (some ⟨b,off,none⟩) 2 c] 24)).alloc (.cells #[.int .i64 0,.string ⟨#[]⟩,.int .i64 0,.slice none 0 0] 24)).alloc (.cells #[.int .i64 a.kind,.string a.name,.int .i64 a.sort,.slice Aa a.kids.length ca] 24)):=hb2.alloc (by simp;omega) _;have hbV:Below w.heap.size w V:=by rw[hV];exact hb3.alloc (by simp;omega) _
 have hb4:Below w.heap.size w ((((w.alloc (.cells #[.int .i64 3,.string ⟨#[111,112,101,110]⟩,.int .i64 0,.slice (some ⟨b,off,none⟩) 2 c] 24)).alloc (.cells #[.int .i64 0,.string ⟨#[]⟩,.int .i64 0,.slice none 0 0] 24)).alloc (.cells #[.int .i64 a.kind,.string a.name,.int .i64 a.sort,.slice Aa a.kids.length ca] 24)).alloc (.cells #[.int .i64 0,.string ⟨#[]⟩,.int .i64 0,.slice none 0 0] 24)):=hb3.alloc (by simp;omega) _;have DB:Hid (DstB Pb w qbh [a,k] (some ⟨b,off,none⟩) c a k Aa Ak ca ck V):=hdzz (by
  refine⟨?_,?_,?_,?_,hbV,RepP.mono (fun _ h=>h) (fun p h=>hbV.cell (hPb _ h)) _ _ _ pa,RepP.mono (fun _ h=>h) (fun p h=>hbV.cell (hPb _ h)) _ _ _ pk,RepP.mono (fun _ h=>h) (fun p h=>hbV.cell (hPb _ h)) _ _ _ HREP.out,hPb⟩
  ·rw[hV,Below.heap_alloc _ _ _ (by rw[s3];omega),Below.heap_alloc _ _ _ (by rw[s2];omega),Below.heap_alloc _ _ _ (by rw[s1];omega)];exact heap_alloc_new w _
  ·rw[hV,Below.heap_alloc _ _ _ (by rw[s3];omega),Below.heap_alloc _ _ _ (by rw[s2];omega)];have h:=heap_alloc_new (w.alloc (.cells #[.int .i64 3,.string ⟨#[111,112,101,110]⟩,.int .i64 0,.slice (some ⟨b,off,none⟩) 2 c] 24)) (.cells #[.int .i64 0,.string ⟨#[]⟩,.int .i64 0,.slice none 0 0] 24);rw[s1]at h;exact h
  ·rw[hV,Below.heap_alloc _ _ _ (by rw[s3];omega)];have h:=heap_alloc_new ((w.alloc (.cells #[.int .i64 3,.string ⟨#[111,112,101,110]⟩,.int .i64 0,.slice (some ⟨b,off,none⟩) 2 c] 24)).alloc (.cells #[.int .i64 0,.string ⟨#[]⟩,.int .i64 0,.slice none 0 0] 24)) (.cells #[.int .i64 a.kind,.string a.name,.int .i64 a.sort,.slice Aa a.kids.length ca] 24);rw[s2]at h;exact h
  ·rw[hV];have h:=heap_alloc_new (((w.alloc (.cells #[.int .i64 3,.string ⟨#[111,112,101,110]⟩,.int .i64 0,.slice (some ⟨b,off,none⟩) 2 c] 24)).alloc (.cells #[.int .i64 0,.string ⟨#[]⟩,.int .i64 0,.slice none 0 0] 24)).alloc (.cells #[.int .i64 a.kind,.string a.name,.int .i64 a.sort,.slice Aa a.kids.length ca] 24)) (.cells #[.int .i64 k.kind,.string k.name,.int .i64 k.sort,.slice Ak k.kids.length ck] 24);rw[s3]at h;exact h)
 have a0:=(hb2.cell (p:=⟨b,off,none⟩) hbw).trans p0;have a1:=(hb2.cell (p:=⟨b,off+1,none⟩) hbw).trans p1;have a2:=(hb2.cell (p:=⟨b,off+2,none⟩) hbw).trans p2;have a3:=(hb2.cell (p:=⟨b,off+3,none⟩) hbw).trans p3;have d0:=(hb4.cell (p:=⟨b,off+4,none⟩) hbw).trans q0;have d1:=(hb4.cell (p:=⟨b,off+4+1,none⟩) hbw).trans q1;have d2:=(hb4.cell (p:=⟨b,off+4+2,none⟩) hbw).trans q2;have d3:=(hb4.cell (p:=⟨b,off+4+3,none⟩) hbw).trans q3;clear s1 s2 s3 hb2 hb3 hb4 hbV p0 p1 p2 p3 pa q0 q1 q2 q3 pk hrep;have HV:=hdzz hV;clear hV;have nyes:((⟨#[111,112,101,110]⟩:ByteArray).toList==[111,112,101,110])=true:=(qaz (n:=⟨#[111,112,101,110]⟩) (c:=⟨#[111,112,101,110]⟩) (L:=[111,112,101,110]) rfl).1 rfl
 have nfst:((⟨#[111,112,101,110]⟩:ByteArray).toList==[102,115,116])=false:=by rw[beq_eq_false_iff_ne];rw[beq_iff_eq]at nyes;rw[nyes];decide
 have nsnd:((⟨#[111,112,101,110]⟩:ByteArray).toList==[115,110,100])=false:=by rw[beq_eq_false_iff_ne];rw[beq_iff_eq]at nyes;rw[nyes];decide
 have ndec:((⟨#[111,112,101,110]⟩:ByteArray).toList==[100,101,99])=false:=by rw[beq_eq_false_iff_ne];rw[beq_iff_eq]at nyes;rw[nyes];decide
 have nadec:((⟨#[111,112,101,110]⟩:ByteArray).toList==[97,100,101,99])=false:=by rw[beq_eq_false_iff_ne];rw[beq_iff_eq]at nyes;rw[nyes];decide
 obtain⟨res,hres⟩:∃r,r=qas qbh [a,k]:=⟨_,rfl⟩;rw[←hres];have HRES:=hdzz hres;clear hres;simp only[Tm.val,Tm.kind,Tm.name,Tm.sort,Tm.kids,qbh,List.length_cons,List.length_nil,Nat.zero_add,Nat.reduceAdd];have hiff:fitD qbh [a,k]↔(a.isA qa7∧k.isA nPk∧kidT a.kids 1=kidT k.kids 0):=⟨fun h=>by
  rcases h with⟨h,h2⟩|⟨h,h2⟩|⟨h,h2⟩|⟨h,h2⟩|⟨h,h2⟩|⟨h,h2⟩
  all_goals first|exact h2|exact absurd h (by decide),fun h=>by unfold fitD;exact .inr (.inr (.inr (.inr (.inl ⟨rfl,h⟩))))⟩
 go_enter Tryz.func104,Tryz.ntmps104
 go_wp2_with fail
 rw[←HV.out];clear HV a0 a1 a2 a3 d0 d1 d2 d3 nyes nfst nsnd ndec nadec;by_cases hf:a.isA qa7
 ·have hdec:decide (a.isA qa7)=true:=decide_eq_true hf;have hal:a.kids.length=2:=(hka.num hf).2.1 (by decide);by_cases hg:k.isA nPk
  ·skip
   have hkl:k.kids.length=1:=(hkk.num hg).2.2 (by decide);refine qae (fun Y=>Below V.drew.heap.size V.drew Y) (fun _=>True) [] (.held 0 (.op 1 (.held 2 (.held 3 (.op 4 (.held 5 (.held 6 (.held 7 (.held 8 (.held 9 (.held 10 (.held 11 (.held 12 (.held 13 (.held 14 (.op 15 (.held 16 (.held 17 .nil)))))))))))))))))) mixed (by kernel_rfl) ?_;have DBD:=hdzz (DB.out.go (Below.refl _ _).drew);clear DB;generalize V.drew=D at *;have hszD:=DBD.out.size;obtain⟨ya0,ya1,ya2,ya3,yaf⟩:=qaa DBD.out.b3;obtain⟨yk0,yk1,yk2,yk3,ykf⟩:=qaa DBD.out.b4;obtain⟨kb,ko,Ar,cr,hke,hklt,k0,k1,k2,k3,kr⟩:=qau DBD.out.ra 1 (by omega);have hklt:=hPb _ hklt;rw[Nat.one_mul]at k0 k1 k2 k3;subst hke;obtain⟨vb,vo,Av,cv,hme,hmlt,m0,m1,m2,m3,mr⟩:=qau DBD.out.rk 0 (by omega);have hmlt:=hPb _ hmlt
   rw[Nat.zero_mul,Nat.add_zero]at m0 m1 m2 m3;subst hme;rw[hal]at ya3;rw[hkl]at yk3;have husz:=qg3 (i:=1) hsa;have hvsz:=qg3 (i:=0) hsk;obtain⟨u,hu⟩:∃u,u=kidT a.kids 1:=⟨_,rfl⟩;rw[←hu]at k0 k1 k2 k3 kr hiff husz;obtain⟨v,hv⟩:∃v,v=kidT k.kids 0:=⟨_,rfl⟩;rw[←hv]at m0 m1 m2 m3 mr hiff hvsz;have HU:=hdzz hu;have HVV:=hdzz hv;have HAL:=hdzz hal;have HKL:=hdzz hkl;have HKR:=hdzz kr;have HMR:=hdzz mr;have hgd:decide (k.isA nPk)=true:=decide_eq_true hg;obtain⟨z,hz⟩:∃z,z=u.same v:=⟨_,rfl⟩;clear hu hv hal hkl kr mr;refine stkz (.agg #[.int .i64 a.kind,.string a.name,.int .i64 a.sort,.slice (some ⟨kb,ko,none⟩) 2 ca]) rfl rfl rfl (fun _ _ _ h=>h) (Below.refl _ _) (fun Y hY=>by
     have z0:=sclz hY ya0 (by omega);have z1:=sclz hY ya1 (by omega);have z2:=sclz hY ya2 (by omega);have z3:=sclz hY ya3 (by omega)
     (try simp only[Act.put]);go_simp) ?_
   have CN:=qce a qa7 (some ⟨kb,ko,none⟩) ca D;rw[hdec]at CN;simp only[Tm.val,qa7,HAL.out]at CN;have CN:=hdzz CN;refine qar rfl rfl (fun K hK=>?_);go_wp2_with fail
   refine CN.out.mono ?_;clear CN;rintro e w5 ⟨rfl,hl5⟩;have H5:=hdzz (hl5.below);refine hK _ _ ⟨⟨fun _=>H5.out,trivial⟩,?_⟩;clear hK K hl5;refine stkz (.bool true) rfl rfl rfl (fun _ _ _ h=>h) H5.out (fun Y hY=>by
     (try simp only[Act.put]);go_simp) ?_
   refine qac (v:=.agg #[.int .i64 k.kind,.string k.name,.int .i64 k.sort,.slice (some ⟨vb,vo,none⟩) 1 ck]) rfl (by kernel_rfl) rfl (fun _ _ _ h=>h) H5.out trivial (fun Y hY hY2=>by
     have z0:=sclz hY yk0 (by omega);have z1:=sclz hY yk1 (by omega);have z2:=sclz hY yk2 (by omega);have z3:=sclz hY yk3 (by omega)
     (try simp only[Act.put]);go_simp) ?_
   simp only[Act.put,fsa,fsb,fsc,fsd,fse,fsf];have CN:=qce k nPk (some ⟨vb,vo,none⟩) ck w5;rw[hgd]at CN;simp only[Tm.val,nPk,HKL.out]at CN;have CN:=hdzz CN;refine qbx rfl (by kernel_rfl) (fun K hK=>?_);go_wp2_with fail
   refine CN.out.mono ?_;clear CN;rintro e w6 ⟨rfl,hl6⟩;have H6:=hdzz (H5.out.trans (hl6.below.mono (by have:=H5.out.size;omega)));refine hK _ _ ⟨⟨fun _=>H6.out,trivial⟩,?_⟩;clear hK K hl6;refine stkz (.bool true) rfl rfl rfl (fun _ _ _ h=>h) H6.out (fun Y hY=>by
     (try simp only[Act.put]);go_simp) ?_
   refine stkz (.bool true) rfl rfl rfl (fun _ _ _ h=>h) H6.out (fun Y hY=>by
     (try simp only[Act.put]);go_simp) ?_
   refine qac (v:=.pointer (some ⟨w.heap.size+1+1,3,none⟩)) rfl (by kernel_rfl) rfl (fun _ _ _ h=>h) H6.out trivial (fun Y hY hY2=>by
     (try simp only[Act.put]);go_simp) ?_
   refine qac (v:=.slice (some ⟨kb,ko,none⟩) 2 ca) rfl (by kernel_rfl) rfl (fun _ _ _ h=>h) H6.out trivial (fun Y hY hY2=>by
     have z3:=sclz hY ya3 (by omega)
     (try simp only[Act.put]);go_simp) ?_
   refine qac (v:=.pointer (some ⟨kb,ko+4,none⟩)) rfl (by kernel_rfl) rfl (fun _ _ _ h=>h) H6.out trivial (fun Y hY hY2=>by
     (try simp only[Act.put]);go_simp) ?_
   simp only[Act.put,fsa,fsb,fsc,fsd,fse,fsf];refine qac (v:=.agg #[.int .i64 u.kind,.string u.name,.int .i64 u.sort,.slice Ar u.kids.length cr]) rfl (by kernel_rfl) rfl (fun _ _ _ h=>h) H6.out trivial (fun Y hY hY2=>by
     have z0:=sclz hY k0 (by omega);have z1:=sclz hY k1 (by omega);have z2:=sclz hY k2 (by omega);have z3:=sclz hY k3 (by omega)
     (try simp only[Act.put]);go_simp) ?_
   refine qac (v:=.pointer (some ⟨w.heap.size+1+1+1,3,none⟩)) rfl (by kernel_rfl) rfl (fun _ _ _ h=>h) H6.out trivial (fun Y hY hY2=>by
     (try simp only[Act.put]);go_simp) ?_
   refine qac (v:=.slice (some ⟨vb,vo,none⟩) 1 ck) rfl (by kernel_rfl) rfl (fun _ _ _ h=>h) H6.out trivial (fun Y hY hY2=>by
     have z3:=sclz hY yk3 (by omega)
     (try simp only[Act.put]);go_simp) ?_
   refine qac (v:=.pointer (some ⟨vb,vo,none⟩)) rfl (by kernel_rfl) rfl (fun _ _ _ h=>h) H6.out trivial (fun Y hY hY2=>by
     (try simp only[Act.put]);go_simp) ?_
   simp only[Act.put,fsa,fsb,fsc,fsd,fse,fsf];refine qac (v:=.agg #[.int .i64 v.kind,.string v.name,.int .i64 v.sort,.slice Av v.kids.length cv]) rfl (by kernel_rfl) rfl (fun _ _ _ h=>h) H6.out trivial (fun Y hY hY2=>by
     have z0:=sclz hY m0 (by omega);have z1:=sclz hY m1 (by omega);have z2:=sclz hY m2 (by omega);have z3:=sclz hY m3 (by omega)
     (try simp only[Act.put]);go_simp) ?_
   simp only[Act.put,fsa,fsb,fsc,fsd,fse,fsf];have CN:=qh2 u v Ar Av cr cv w6 (by omega) (by omega) (RepP.mono (w:=D) (fun b (h:Pb b)=>by have:=hPb _ h;have:=H6.out.size;omega) (fun p (h:Pb p.block)=>H6.out.cell (by have:=hPb _ h;omega)) _ _ _ HKR.out) (RepP.mono (w:=D) (fun b (h:Pb b)=>by have:=hPb _ h;have:=H6.out.size;omega) (fun p (h:Pb p.block)=>H6.out.cell (by have:=hPb _ h;omega)) _ _ _ HMR.out);rw[←hz]at CN;simp only[Tm.val]at CN;have CN:=hdzz CN;refine qbx rfl (by kernel_rfl) (fun K hK=>?_);go_wp2_with fail
   refine CN.out.mono ?_;clear CN;rintro e w7 ⟨rfl,hl7⟩;have H7:=hdzz (H6.out.trans (hl7.below.mono (by have:=H6.out.size;omega)));refine hK _ _ ⟨⟨fun _=>H7.out,trivial⟩,?_⟩;clear hK K hl7;refine stkz (.bool z) rfl rfl rfl (fun _ _ _ h=>h) H7.out (fun Y hY=>by
     (try simp only[Act.put]);go_simp) ?_
   refine stkz (.bool z) rfl rfl rfl (fun _ _ _ h=>h) H7.out (fun Y hY=>by
     (try simp only[Act.put]);go_simp) ?_
   refine qat ?_;simp only[Act.put,fsa,fsb,fsc,fsd,fse,fsf];have D5:=hdzz (DBD.out.go H7.out);clear H5 H6 H7 DBD ya0 ya1 ya2 ya3 yk0 yk1 yk2 yk3 k0 k1 k2 k3 m0 m1 m2 m3 HKR HMR hgd;rw[HVV.out,HU.out]at hiff hz;have hal:=HAL.out;clear HU HAL HVV HKL hdec hvsz husz
   cases z with
   | true=>
    have hfit:=hiff.2 ⟨hf,hg,Tm.same_iff.1 hz.symm⟩;clear hiff hf hz hg;obtain⟨kb,ko,Ar,cr,hke,hkb,k0,k1,k2,k3,kr⟩:=qau D5.out.ra 0 (by omega);have hkb:=hPb _ hkb;rw[Nat.zero_mul,Nat.add_zero]at k0 k1 k2 k3;injection hke with hke;injection hke with e1 e2;subst e1 e2;obtain⟨y0,y1,y2,y3,yf⟩:=qaa D5.out.b3;obtain⟨z0,z1,z2,z3,zf⟩:=qaa D5.out.b2;have hsz:=D5.out.size;have hd:qas qbh [a,k]=kidT a.kids 0:=by unfold qas;rw[if_pos hfit];rfl
    have HD:=hdzz hd;have HKR:=hdzz kr;have hal2:(2:Int)=(a.kids.length:Int):=by omega
    rw[hal]at y3;obtain⟨r,hr⟩:∃r,r=kidT a.kids 0:=⟨_,rfl⟩;rw[←hr]at k0 k1 k2 k3 HKR HD;clear hd kr hr hal2 hal hfit;go_wp2_with fail
    refine bodyPost_ret (v:=r.val Ar cr) ?_ rfl ?_
    ·simp[results,Tryz.results104,go_sem,z0,z1,z2,z3,Tm.val]
    refine⟨Ar,cr,by rw[HRES.out,HD.out],?_,?_⟩
    ·rw[HRES.out,HD.out];exact RepP.mono (fun b h=>.inl h) (fun p hp=>qao (by have:=hPb _ hp;omega)) _ _ _ HKR.out
    ·iterate 4 refine Below.setCell ?_ (by show _≤w.heap.size+1;omega) _
     exact D5.out.bel
   | false=>
    have hfit:¬fitD qbh [a,k]:=fun h=>Tm.same_false.1 hz.symm (hiff.1 h).2.2;clear hiff hf hz hg hal;obtain⟨x0,x1,x2,x3,xf⟩:=qaa D5.out.b1;obtain⟨z0,z1,z2,z3,zf⟩:=qaa D5.out.b2;have hsz:=D5.out.size;have hd:qas qbh [a,k]=.mk 3 qbh 0 [a,k]:=by unfold qas;rw[if_neg hfit]
    have HD:=hdzz hd;have HKR:=hdzz D5.out.rt;clear hd hfit;simp only[Tm.kind,Tm.name,Tm.sort,Tm.kids,qbh,List.length_cons,List.length_nil,Nat.zero_add,Nat.reduceAdd]at x0 x1 x2 x3;go_wp2_with fail
    refine bodyPost_ret (v:=Tm.val (.mk 3 qbh 0 [a,k]) (some ⟨b,off,none⟩) c) ?_ rfl ?_
    ·simp[results,Tryz.results104,go_sem,z0,z1,z2,z3,Tm.val,Tm.kind,Tm.name,Tm.sort,Tm.kids,qbh]
    refine⟨some ⟨b,off,none⟩,c,by rw[HRES.out,HD.out],?_,?_⟩
    ·rw[HRES.out,HD.out];exact RepP.mono (fun b h=>.inl h) (fun p hp=>qao (by have:=hPb _ hp;omega)) _ _ _ HKR.out
    ·iterate 4 refine Below.setCell ?_ (by show _≤w.heap.size+1;omega) _
     exact D5.out.bel
  ·skip
   have hfit:¬fitD qbh [a,k]:=fun h=>hg (hiff.1 h).2.1;have hgd:decide (k.isA nPk)=false:=decide_eq_false hg;clear hiff hg hf hal;refine qae (fun Y=>Below V.drew.heap.size V.drew Y) (fun _=>True) [] (.held 0 (.op 1 (.held 2 (.held 3 (.op 4 (.held 5 (.held 6 (.held 7 (.held 8 (.held 9 (.held 10 (.held 11 (.held 12 (.held 13 (.held 14 (.held 15 (.held 16 (.held 17 .nil)))))))))))))))))) mixed (by kernel_rfl) ?_;have DBD:=hdzz (DB.out.go (Below.refl _ _).drew);clear DB;generalize V.drew=D at *;have hszD:=DBD.out.size;obtain⟨ya0,ya1,ya2,ya3,yaf⟩:=qaa DBD.out.b3;obtain⟨yk0,yk1,yk2,yk3,ykf⟩:=qaa DBD.out.b4;refine stkz (.agg #[.int .i64 a.kind,.string a.name,.int .i64 a.sort,.slice Aa a.kids.length ca]) rfl rfl rfl (fun _ _ _ h=>h) (Below.refl _ _) (fun Y hY=>by
     have z0:=sclz hY ya0 (by omega);have z1:=sclz hY ya1 (by omega);have z2:=sclz hY ya2 (by omega);have z3:=sclz hY ya3 (by omega)
     (try simp only[Act.put]);go_simp) ?_
   have CN:=qce a qa7 Aa ca D;rw[hdec]at CN;simp only[Tm.val,qa7]at CN;have CN:=hdzz CN;refine qar rfl rfl (fun K hK=>?_);go_wp2_with fail
   refine CN.out.mono ?_;clear CN;rintro e w5 ⟨rfl,hl5⟩;have H5:=hdzz (hl5.below);refine hK _ _ ⟨⟨fun _=>H5.out,trivial⟩,?_⟩;clear hK K hl5;refine stkz (.bool true) rfl rfl rfl (fun _ _ _ h=>h) H5.out (fun Y hY=>by
     (try simp only[Act.put]);go_simp) ?_
   refine qac (v:=.agg #[.int .i64 k.kind,.string k.name,.int .i64 k.sort,.slice Ak k.kids.length ck]) rfl (by kernel_rfl) rfl (fun _ _ _ h=>h) H5.out trivial (fun Y hY hY2=>by
     have z0:=sclz hY yk0 (by omega);have z1:=sclz hY yk1 (by omega);have z2:=sclz hY yk2 (by omega);have z3:=sclz hY yk3 (by omega)
     (try simp only[Act.put]);go_simp) ?_
   simp only[Act.put,fsa,fsb,fsc,fsd,fse,fsf];have CN:=qce k nPk Ak ck w5;rw[hgd]at CN;simp only[Tm.val,nPk]at CN;have CN:=hdzz CN;refine qbx rfl (by kernel_rfl) (fun K hK=>?_);go_wp2_with fail
   refine CN.out.mono ?_;clear CN;rintro e w6 ⟨rfl,hl6⟩;have H6:=hdzz (H5.out.trans (hl6.below.mono (by have:=H5.out.size;omega)));refine hK _ _ ⟨⟨fun _=>H6.out,trivial⟩,?_⟩;clear hK K hl6;refine stkz (.bool false) rfl rfl rfl (fun _ _ _ h=>h) H6.out (fun Y hY=>by
     (try simp only[Act.put]);go_simp) ?_
   refine stkz (.bool false) rfl rfl rfl (fun _ _ _ h=>h) H6.out (fun Y hY=>by
     (try simp only[Act.put]);go_simp) ?_
   refine qad rfl (by kernel_rfl) rfl (fun _ _ _ h=>h) H6.out trivial ?_;refine qad rfl (by kernel_rfl) rfl (fun _ _ _ h=>h) H6.out trivial ?_;refine qad rfl (by kernel_rfl) rfl (fun _ _ _ h=>h) H6.out trivial ?_;refine qad rfl (by kernel_rfl) rfl (fun _ _ _ h=>h) H6.out trivial ?_;refine qad rfl (by kernel_rfl) rfl (fun _ _ _ h=>h) H6.out trivial ?_;refine qad rfl (by kernel_rfl) rfl (fun _ _ _ h=>h) H6.out trivial ?_;refine qad rfl (by kernel_rfl) rfl (fun _ _ _ h=>h) H6.out trivial ?_;refine qad rfl (by kernel_rfl) rfl (fun _ _ _ h=>h) H6.out trivial ?_;refine qad rfl (by kernel_rfl) rfl (fun _ _ _ h=>h) H6.out trivial ?_;simp only[Act.put,fsa,fsb,fsc,fsd,fse,fsf];refine stkz (.bool false) rfl rfl rfl (fun _ _ _ h=>h) H6.out (fun Y hY=>by
     (try simp only[Act.put]);go_simp) ?_
   refine stkz (.bool false) rfl rfl rfl (fun _ _ _ h=>h) H6.out (fun Y hY=>by
     (try simp only[Act.put]);go_simp) ?_
   refine qat ?_;simp only[Act.put,fsa,fsb,fsc,fsd,fse,fsf];have D5:=hdzz (DBD.out.go H6.out);clear H5 H6 DBD ya0 ya1 ya2 ya3 yk0 yk1 yk2 yk3 hgd hdec;obtain⟨x0,x1,x2,x3,xf⟩:=qaa D5.out.b1;obtain⟨z0,z1,z2,z3,zf⟩:=qaa D5.out.b2;have hsz:=D5.out.size;have hd:qas qbh [a,k]=.mk 3 qbh 0 [a,k]:=by unfold qas;rw[if_neg hfit]
   have HD:=hdzz hd;have HKR:=hdzz D5.out.rt;clear hd hfit;simp only[Tm.kind,Tm.name,Tm.sort,Tm.kids,qbh,List.length_cons,List.length_nil,Nat.zero_add,Nat.reduceAdd]at x0 x1 x2 x3;go_wp2_with fail
   refine bodyPost_ret (v:=Tm.val (.mk 3 qbh 0 [a,k]) (some ⟨b,off,none⟩) c) ?_ rfl ?_
   ·simp[results,Tryz.results104,go_sem,z0,z1,z2,z3,Tm.val,Tm.kind,Tm.name,Tm.sort,Tm.kids,qbh]
   refine⟨some ⟨b,off,none⟩,c,by rw[HRES.out,HD.out],?_,?_⟩
   ·rw[HRES.out,HD.out];exact RepP.mono (fun b h=>.inl h) (fun p hp=>qao (by have:=hPb _ hp;omega)) _ _ _ HKR.out
   ·iterate 4 refine Below.setCell ?_ (by show _≤w.heap.size+1;omega) _
    exact D5.out.bel
 ·have hdec:decide (a.isA qa7)=false:=decide_eq_false hf;have hfit:¬fitD qbh [a,k]:=fun h=>hf (hiff.1 h).1;clear hiff hf;refine qae (fun Y=>Below V.drew.heap.size V.drew Y) (fun _=>True) [] (.held 0 (.op 1 (.held 2 (.held 3 (.held 4 (.held 5 (.held 6 (.held 7 (.held 8 (.held 9 (.held 10 (.held 11 (.held 12 (.held 13 (.held 14 (.held 15 (.held 16 (.held 17 .nil)))))))))))))))))) mixed (by kernel_rfl) ?_;have DBD:=hdzz (DB.out.go (Below.refl _ _).drew);clear DB;generalize V.drew=D at *;have hszD:=DBD.out.size;obtain⟨ya0,ya1,ya2,ya3,yaf⟩:=qaa DBD.out.b3;obtain⟨yk0,yk1,yk2,yk3,ykf⟩:=qaa DBD.out.b4;refine stkz (.agg #[.int .i64 a.kind,.string a.name,.int .i64 a.sort,.slice Aa a.kids.length ca]) rfl rfl rfl (fun _ _ _ h=>h) (Below.refl _ _) (fun Y hY=>by
    have z0:=sclz hY ya0 (by omega);have z1:=sclz hY ya1 (by omega);have z2:=sclz hY ya2 (by omega);have z3:=sclz hY ya3 (by omega)
    (try simp only[Act.put]);go_simp) ?_
  have CN:=qce a qa7 Aa ca D;rw[hdec]at CN;simp only[Tm.val,qa7]at CN;have CN:=hdzz CN;refine qar rfl rfl (fun K hK=>?_);go_wp2_with fail
  refine CN.out.mono ?_;clear CN;rintro e w5 ⟨rfl,hl5⟩;have H5:=hdzz (hl5.below);refine hK _ _ ⟨⟨fun _=>H5.out,trivial⟩,?_⟩;clear hK K hl5;refine stkz (.bool false) rfl rfl rfl (fun _ _ _ h=>h) H5.out (fun Y hY=>by
    (try simp only[Act.put]);go_simp) ?_
  refine qad rfl (by kernel_rfl) rfl (fun _ _ _ h=>h) H5.out trivial ?_;refine qad rfl (by kernel_rfl) rfl (fun _ _ _ h=>h) H5.out trivial ?_;simp only[Act.put,fsa,fsb,fsc,fsd,fse,fsf];refine stkz (.bool false) rfl rfl rfl (fun _ _ _ h=>h) H5.out (fun Y hY=>by
    (try simp only[Act.put]);go_simp) ?_
  refine stkz (.bool false) rfl rfl rfl (fun _ _ _ h=>h) H5.out (fun Y hY=>by
    (try simp only[Act.put]);go_simp) ?_
  refine qad rfl (by kernel_rfl) rfl (fun _ _ _ h=>h) H5.out trivial ?_;refine qad rfl (by kernel_rfl) rfl (fun _ _ _ h=>h) H5.out trivial ?_;refine qad rfl (by kernel_rfl) rfl (fun _ _ _ h=>h) H5.out trivial ?_;refine qad rfl (by kernel_rfl) rfl (fun _ _ _ h=>h) H5.out trivial ?_;refine qad rfl (by kernel_rfl) rfl (fun _ _ _ h=>h) H5.out trivial ?_;refine qad rfl (by kernel_rfl) rfl (fun _ _ _ h=>h) H5.out trivial ?_;refine qad rfl (by kernel_rfl) rfl (fun _ _ _ h=>h) H5.out trivial ?_;refine qad rfl (by kernel_rfl) rfl (fun _ _ _ h=>h) H5.out trivial ?_;refine qad rfl (by kernel_rfl) rfl (fun _ _ _ h=>h) H5.out trivial ?_;simp only[Act.put,fsa,fsb,fsc,fsd,fse,fsf];refine stkz (.bool false) rfl rfl rfl (fun _ _ _ h=>h) H5.out (fun Y hY=>by
    (try simp only[Act.put]);go_simp) ?_
  refine stkz (.bool false) rfl rfl rfl (fun _ _ _ h=>h) H5.out (fun Y hY=>by
    (try simp only[Act.put]);go_simp) ?_
  refine qat ?_;simp only[Act.put,fsa,fsb,fsc,fsd,fse,fsf];have D5:=hdzz (DBD.out.go H5.out);clear H5 DBD ya0 ya1 ya2 ya3 yk0 yk1 yk2 yk3 hdec;obtain⟨x0,x1,x2,x3,xf⟩:=qaa D5.out.b1;obtain⟨z0,z1,z2,z3,zf⟩:=qaa D5.out.b2;have hsz:=D5.out.size;have hd:qas qbh [a,k]=.mk 3 qbh 0 [a,k]:=by unfold qas;rw[if_neg hfit]
  have HD:=hdzz hd;have HKR:=hdzz D5.out.rt;clear hd hfit;simp only[Tm.kind,Tm.name,Tm.sort,Tm.kids,qbh,List.length_cons,List.length_nil,Nat.zero_add,Nat.reduceAdd]at x0 x1 x2 x3;go_wp2_with fail
  refine bodyPost_ret (v:=Tm.val (.mk 3 qbh 0 [a,k]) (some ⟨b,off,none⟩) c) ?_ rfl ?_
  ·simp[results,Tryz.results104,go_sem,z0,z1,z2,z3,Tm.val,Tm.kind,Tm.name,Tm.sort,Tm.kids,qbh]
  refine⟨some ⟨b,off,none⟩,c,by rw[HRES.out,HD.out],?_,?_⟩
  ·rw[HRES.out,HD.out];exact RepP.mono (fun b h=>.inl h) (fun p hp=>qao (by have:=hPb _ hp;omega)) _ _ _ HKR.out
  ·iterate 4 refine Below.setCell ?_ (by show _≤w.heap.size+1;omega) _
   exact D5.out.bel
theorem qcp (n:ByteArray) (l:List Tm) (A:Option Addr) (c:Nat) (w:World) (Pb:Nat→Prop) (hPb:∀b,Pb b→b<w.heap.size) (hn:desN n) (har:arN n l.length) (hk:∀t∈l,ArT t) (hs:∀t∈l,t.size≤900000) (hrep:RepP w Pb (.mk 3 n 0 l) A c) :
  Calls Tryz.prog 104 #[(Tm.mk 3 n 0 l).val A c] w (OkR Pb (qas n l) w):=by
 have one:l.length=1→∃a,l=[a]:=fun h=>List.length_eq_one_iff.1 h;have two:l.length=2→∃a k,l=[a,k]:=by
  intro h
  match l,h with
  | [a,k],_=>exact⟨a,k,rfl⟩
 unfold desN at hn;unfold arN at har;rcases hn with e|e|e|e|e|e
 ·obtain⟨a,rfl⟩:=one (har.2 (by simp[e]));subst e;exact des_fst a A c w Pb hPb (hk a (by simp)) (hs a (by simp)) hrep
 ·obtain⟨a,rfl⟩:=one (har.2 (by simp[e]));subst e;exact des_snd a A c w Pb hPb (hk a (by simp)) (hs a (by simp)) hrep
 ·obtain⟨a,k,rfl⟩:=two (har.1 (by simp[e]));subst e;exact des_dec a k A c w Pb hPb (hk a (by simp)) (hk k (by simp)) (hs a (by simp)) (hs k (by simp)) hrep
 ·obtain⟨a,k,rfl⟩:=two (har.1 (by simp[e]));subst e;exact des_adec a k A c w Pb hPb (hk a (by simp)) (hk k (by simp)) (hs a (by simp)) (hs k (by simp)) hrep
 ·obtain⟨a,k,rfl⟩:=two (har.1 (by simp[e]));subst e;exact des_open a k A c w Pb hPb (hk a (by simp)) (hk k (by simp)) (hs a (by simp)) (hs k (by simp)) hrep
 ·obtain⟨a,rfl⟩:=one (har.2 (by simp[e]));subst e;exact des_read a A c w Pb hPb (hk a (by simp)) (hs a (by simp)) hrep
theorem qh6:∀{l:List Tm},(∀t∈l,t.valid=0)→Tm.sizes l≤400*l.length
 | [],_=>by simp[Tm.sizes]
 | t::r,h=>by
  have h1:=(qai (h t (List.mem_cons_self ..))).2.1;have h2:=qh6 (l:=r) fun x hx=>h x (List.mem_cons_of_mem _ hx);rw[Tm.sizes,List.length_cons];omega
theorem qcy {w Y:World} {Pb:Nat→Prop} {r:Tm} {A:Option Addr} {c:Nat} {x y z u:Value} (hB:Below w.heap.size w Y) (hP:∀b,Pb b→b<w.heap.size) (hlt:w.heap.size+1<Y.heap.size) (hr:RepP Y (fun b=>(Pb b∨w.heap.size+1<b)∧b<Y.heap.size) r A c) :
  OkN Pb r w (.returned (.tuple #[r.val A c,.int .i64 0])) ((((Y.setCell ⟨w.heap.size+1,0,none⟩ x).setCell ⟨w.heap.size+1,1,none⟩ y).setCell ⟨w.heap.size+1,2,none⟩ z).setCell ⟨w.heap.size+1,3,none⟩ u):=by
 refine⟨A,c,rfl,RepP.mono (fun b h=>h.1.imp id fun h1=>⟨by omega,by have:=h.2;simp[World.setCell];omega⟩) (fun p hp=>qao (hp.1.elim (fun h1=>by have:=hP _ h1;omega) (fun h1=>by omega))) _ _ _ hr,?_⟩
 iterate 4 refine Below.setCell ?_ (by show _≤w.heap.size+1;omega) _
 exact hB
structure NrmB (Pb:Nat→Prop) (w:World) (t:Tm) (A:Option Addr) (c:Nat) (n:ByteArray) (v:Value) (its:List It) (W:World):Prop where
 b1:W.heap[w.heap.size]?=some (qal t A c)
 b2:W.heap[w.heap.size+1]?=some (.cells #[.int .i64 0,.string ⟨#[]⟩,.int .i64 0,.slice none 0 0] 24 (0,0))
 b3:W.heap[w.heap.size+1+1]?=some (.cells #[.int .i64 3,.string n,.int .i64 0,v] 24 (0,0))
 row:RowT W (w.heap.size+1+1+1) (fun b=>Pb b∨w.heap.size+1+1+1≤b) v its
 bel:Below w.heap.size w W
 le:∀b,Pb b→b<w.heap.size
 sz:w.heap.size+1+1+1≤W.heap.size
theorem NrmB.go {Pb:Nat→Prop} {w W Z:World} {t:Tm} {A:Option Addr} {c:Nat} {n:ByteArray} {v:Value} {its:List It} (h:NrmB Pb w t A c n v its W) (hb:Below W.heap.size W Z):NrmB Pb w t A c n v its Z:=by
 have hs:=h.sz;have:=hb.size;exact⟨(hb.block _ (by omega)).trans h.b1,(hb.block _ (by omega)).trans h.b2,(hb.block _ (by omega)).trans h.b3,h.row.below hb,h.bel.trans (hb.mono (by omega)),h.le,by omega⟩
theorem qlh (t:Tm) (A:Option Addr) (c:Nat) (w:World) (Pb:Nat→Prop) (hPb:∀b,Pb b→b<w.heap.size) (hk:t.kind≠3) (hrep:RepP w Pb t A c) :
  Calls Tryz.prog 68 #[t.val A c] w (OkN Pb t.nf w):=by
 have hnf:t.nf=t:=by obtain⟨k,n,s,l⟩:=t;rw[Tm.nf];exact if_neg hk
 rw[hnf];have kq:(t.kind==3)=false:=by rw[beq_eq_false_iff_ne];exact hk
 obtain⟨V,hV⟩:∃V,V=(w.alloc (qal t A c)).alloc (.cells #[.int .i64 0,.string ⟨#[]⟩,.int .i64 0,.slice none 0 0] 24):=⟨_,rfl⟩;have hbV:Below w.heap.size w V:=by rw[hV];exact((Below.refl _ _).alloc (Nat.le_refl _) _).alloc (by simp) _
 have hsV:V.heap.size=w.heap.size+1+1:=by rw[hV];simp
 have hx1:V.heap[w.heap.size]?=some (qal t A c):=by rw[hV,Below.heap_alloc _ _ _ (by simp)];exact heap_alloc_new w _
 have hx2:V.heap[w.heap.size+1]?=some (.cells #[.int .i64 0,.string ⟨#[]⟩,.int .i64 0,.slice none 0 0] 24 (0,0)):=by
  rw[hV];have h:=heap_alloc_new (w.alloc (qal t A c)) (.cells #[.int .i64 0,.string ⟨#[]⟩,.int .i64 0,.slice none 0 0] 24);rw[World.size_alloc]at h;exact h
 simp only[qal]at hV;obtain⟨x0,x1,x2,x3,xf⟩:=qaa hx1;obtain⟨z0,z1,z2,z3,zf⟩:=qaa hx2;have HV:=hdzz hV;have HBV:=hdzz hbV;have HSV:=hdzz hsV;clear hx1 hx2 hV hbV hnf hk hsV;simp only[Tm.val];go_enter Tryz.func68,Tryz.ntmps68
 go_upto_region 2 with fail
 rw[←HV.out];go_wp2_with fail
 refine bodyPost_ret (v:=.tuple #[t.val A c,.int .i64 0]) ?_ rfl ?_
 ·simp[results,Tryz.results68,go_sem,z0,z1,z2,z3,Tm.val]
 have hsV:=HSV.out;exact qcy HBV.out hPb (by omega) (RepP.mono (fun b h=>⟨.inl h,by have:=hPb _ h;omega⟩) (fun p h=>HBV.out.cell (hPb _ h)) _ _ _ hrep)
theorem qm7 (N:Nat):∀(t:Tm) (A:Option Addr) (c:Nat) (w:World) (Pb:Nat→Prop),t.size≤N→N≤1000→(∀b,Pb b→b<w.heap.size)→qei t→ArT t→t.check=0→RepP w Pb t A c→
  Calls Tryz.prog 68 #[t.val A c] w (OkN Pb t.nf w):=by
 have mixed:=mixz
 induction N with
 | zero=>intro t _ _ _ _ h;have:=t.size_pos;omega
 | succ N ih=>
  intro t A c w Pb hn hN hPb hf ha hc hrep;by_cases hk:t.kind=3
  case neg=>exact qlh t A c w Pb hPb hk hrep
  obtain⟨k,n,s,l⟩:=t;have hk':k=3:=hk;subst hk';obtain⟨hs0,hnm,hl8,hck⟩:=qmv.1 hc;subst hs0;have hfz:=qno hf;rw[qei]at hf;obtain⟨hfk,hfn⟩:=hf rfl;have hfk:=qha.1 hfk;rw[ArT]at ha;obtain⟨han,hal⟩:=ha;have han:=(han rfl).2;rw[Tm.size]at hn hfz;rw[qa3]at hrep;obtain⟨hr1,hrS⟩:=hrep;have hlen:(Tm.nfs l).length=l.length:=by rw[qco,List.length_map]
  obtain⟨r,hr⟩:∃r,r=(Tm.mk 3 n 0 l).nf:=⟨_,rfl⟩;rw[←hr];rw[Tm.nf,if_pos rfl]at hr;have hszL:∀t∈Tm.nfs l,t.size≤900000:=fun t ht=>by
   rw[qco]at ht;obtain⟨x,hx,rfl⟩:=List.mem_map.1 ht;have h1:=qno (hfk x hx);have h2:=qlq hx;omega
  have IH:Hid (∀(j:Nat) (h:j<l.length) (Z:World) (A':Option Addr) (c':Nat),(∀b,Pb b→b<Z.heap.size)→RepP Z Pb l[j] A' c'→Calls Tryz.prog 68 #[l[j].val A' c'] Z (OkN Pb l[j].nf Z)):=hdzz fun j h Z A' c' hz hr=>
   ih l[j] A' c' Z Pb (by have:=Tm.sizes_get l j h;omega) (by omega) hz (hfk _ (List.getElem_mem h)) (ArTs_mem.1 hal _ (List.getElem_mem h)) (hck _ (List.getElem_mem h)) hr
  have hmapL:∀(j:Nat) (h:j<l.length),(Tm.nfs l).take (j+1)=(Tm.nfs l).take j++[l[j].nf]:=fun j h=>by
   rw[List.take_succ_eq_append_getElem (by rw[hlen];exact h)]
   congr 2
   simp[qco]
  have HML:=hdzz hmapL;have harL:∀t∈Tm.nfs l,ArT t:=ArTs_mem.1 (ArTs.nfs hal);obtain⟨L,hL⟩:∃L,L=Tm.nfs l:=⟨_,rfl⟩;rw[←hL]at hr hszL hlen hfn harL HML;have HRES:=hdzz hr;have HSZ:=hdzz hszL;have HF:=hdzz hfn;have HARL:=hdzz harL;rw[←hlen]at han;have HAR:=hdzz han;have HL8:Hid (L.length≤8):=hdzz (by omega);have HLEN:=hdzz hlen;have HRS:=hdzz hrS;obtain⟨V,hV⟩:∃V,V=((w.alloc (qal (.mk 3 n 0 l) A c)).alloc (.cells #[.int .i64 0,.string ⟨#[]⟩,.int .i64 0,.slice none 0 0] 24)).alloc (.cells #[.int .i64 3,.string n,.int .i64 0,.slice none 0 0] 24):=⟨_,rfl⟩;have s1:(w.alloc (qal (.mk 3 n 0 l) A c)).heap.size=w.heap.size+1:=by simp
  have s2:((w.alloc (qal (.mk 3 n 0 l) A c)).alloc (.cells #[.int .i64 0,.string ⟨#[]⟩,.int .i64 0,.slice none 0 0] 24)).heap.size=w.heap.size+1+1:=by simp
  have NB:Hid (NrmB Pb w (.mk 3 n 0 l) A c n (.slice none 0 0) [] V):=hdzz (by
   refine⟨?_,?_,?_,RowT.nil _ _ _,?_,hPb,by rw[hV];simp⟩
   ·rw[hV,Below.heap_alloc _ _ _ (by rw[s2];omega),Below.heap_alloc _ _ _ (by rw[s1];omega)];exact heap_alloc_new w _
   ·rw[hV,Below.heap_alloc _ _ _ (by rw[s2];omega)];have h:=heap_alloc_new (w.alloc (qal (.mk 3 n 0 l) A c)) (.cells #[.int .i64 0,.string ⟨#[]⟩,.int .i64 0,.slice none 0 0] 24);rw[s1]at h;exact h
   ·rw[hV];have h:=heap_alloc_new ((w.alloc (qal (.mk 3 n 0 l) A c)).alloc (.cells #[.int .i64 0,.string ⟨#[]⟩,.int .i64 0,.slice none 0 0] 24)) (.cells #[.int .i64 3,.string n,.int .i64 0,.slice none 0 0] 24);rw[s2]at h;exact h
   ·rw[hV];exact(((Below.refl _ _).alloc (Nat.le_refl _) _).alloc (by simp) _).alloc (by simp;omega) _)
  simp only[qal,Tm.kind,Tm.name,Tm.sort,Tm.kids]at hV;have HV:=hdzz hV;have HR1:=hdzz hr1;have hW12:∃W12,W12=(w.alloc (.cells #[.int .i64 3,.string n,.int .i64 0,.slice A l.length c] 24)).alloc (.cells #[.int .i64 0,.string ⟨#[]⟩,.int .i64 0,.slice none 0 0] 24):=⟨_,rfl⟩;obtain⟨W12,hW12⟩:=hW12;have hy1:W12.heap[w.heap.size]?=some (.cells #[.int .i64 3,.string n,.int .i64 0,.slice A l.length c] 24 (0,0)):=by rw[hW12,Below.heap_alloc _ _ _ (by simp)];exact heap_alloc_new w _
  obtain⟨y0,y1,y2,y3,yf⟩:=qaa hy1;have hsW12:W12.heap.size=w.heap.size+1+1:=by rw[hW12];simp
  have HSW:=hdzz hsW12;have HW12:=hdzz hW12;have hV3:Hid (V=W12.alloc (.cells #[.int .i64 3,.string n,.int .i64 0,.slice none 0 0] 24)):=hdzz (by rw[hV,hW12]);obtain⟨t0,t1,t2,t3,tf⟩:=qaa NB.out.b1;simp only[Tm.kind,Tm.name,Tm.sort,Tm.kids]at t0 t1 t2 t3;clear hc hck hal hfk hmapL harL hszL hlen hr hL hfn han hrS hV HV s1 s2 hr1 hy1 hW12 hsW12 hfz hk ih hnm;simp only[Tm.val,Tm.kind,Tm.name,Tm.sort,Tm.kids];go_enter Tryz.func68,Tryz.ntmps68
  go_wp2_with fail
  rw[←HW12.out];go_wp2_with fail
  rw[←hV3.out];clear t0 t1 t2 t3 tf y0 y1 y2 y3 yf;go_loopw [21] (fun i wr=>∃(k:Nat) (v:Value) (its:List It),k≤l.length∧i=.int .i64 k∧Hid (its.map (·.1)=L.take k)∧Hid (NrmB Pb w (.mk 3 n 0 l) A c n v its wr)) (fun i _=>l.length - (intOf i).toNat)
  case atStart=>exact⟨0,.slice none 0 0,[],Nat.zero_le _,rfl,rfl,NB.out⟩
  case round=>
   obtain⟨k,v,its,hk,rfl,HITS,NB⟩:=hrel;by_cases hlt:k<l.length
   ·have i1:(0:Int)≤(k:Int):=Int.natCast_nonneg _;have i2:(k:Int)<(l.length:Int):=by omega
    obtain⟨b,off,rfl,hbB,hll⟩:∃b off,A=some ⟨b,off,none⟩∧Pb b∧RepLP w Pb l b off:=by
     rcases HRS.out.2.2 with h|h
     ·rw[h]at hlt;simp at hlt
     ·exact h
    obtain⟨A',c',h0,h1,h2,h3,h5⟩:=RepLP.get (RepLP.mono (w':=wr) (P':=Pb) (fun _ h=>h) (fun p hp=>NB.out.bel.cell (hPb _ hp)) _ _ _ hbB hll) k hlt;have hsw:=NB.out.sz;have hlenI:its.length=k:=by have h:=congrArg List.length HITS.out;have:=HLEN.out;rw[List.length_map,List.length_take]at h;omega
    have HLI:=hdzz hlenI;have IHk:=IH.out k hlt;have hml:=HML.out k hlt;obtain⟨x,hx⟩:∃x,x=l[k]:=⟨_,rfl⟩;rw[←hx]at h0 h1 h2 h3 h5 IHk hml;have HMK:=hdzz hml;obtain⟨X,hX⟩:∃X,X=wr.alloc (.cells #[.int .i64 x.kind,.string x.name,.int .i64 x.sort,.slice A' x.kids.length c'] 24):=⟨_,rfl⟩;have hbX:Below wr.heap.size wr X:=by rw[hX];exact qab (Nat.le_refl _) _
    have hxX:X.heap[wr.heap.size]?=some (.cells #[.int .i64 x.kind,.string x.name,.int .i64 x.sort,.slice A' x.kids.length c'] 24 (0,0)):=by rw[hX];exact heap_alloc_new wr _
    obtain⟨x0,x1,x2,x3,xf⟩:=qaa hxX;have hsX:wr.heap.size<X.heap.size:=by rw[hX];simp
    have CL:=IHk X A' c' (fun b hb=>by have:=hPb _ hb;omega) (RepP.mono (fun _ h=>h) (fun p hp=>hbX.cell (by have:=hPb _ hp;omega)) _ _ _ h5);simp only[Tm.val]at CL;have CL:=hdzz CL;obtain⟨u,hu⟩:∃u,u=x.nf:=⟨_,rfl⟩;rw[←hu]at CL HMK;have NX:=hdzz (NB.out.go hbX);have HX:=hdzz hX;clear hX hbX hxX IHk hml hu h5 hx hll hlenI;go_wp2_with fail
    rw[←HX.out];clear HX h0 h1 h2 h3;go_wp2_with fail
    refine CL.out.mono ?_;clear CL x0 x1 x2 x3 xf;rintro e w1 ⟨A1,c1,rfl,hr1,hb1⟩;simp only[Tm.val];have hs1:=hb1.size;have N1:=hdzz (NX.out.go hb1);obtain⟨Y,hY⟩:∃Y,Y=w1.alloc (.cells #[.int .i64 u.kind,.string u.name,.int .i64 u.sort,.slice A1 u.kids.length c1] 24):=⟨_,rfl⟩;have hbY:Below w1.heap.size w1 Y:=by rw[hY];exact qab (Nat.le_refl _) _
    have hxY:Y.heap[w1.heap.size]?=some (.cells #[.int .i64 u.kind,.string u.name,.int .i64 u.sort,.slice A1 u.kids.length c1] 24 (0,0)):=by rw[hY];exact heap_alloc_new w1 _
    have hsY:w1.heap.size<Y.heap.size:=by rw[hY];simp
    have NY:=hdzz (N1.out.go hbY);have hrow:=NB.out.row;obtain⟨g,cg,w6,hap,hrow6,hbel6,hold6,hs6,hg6⟩:=qlu NY.out.row (by have:=NY.out.sz;omega) (u,A1,c1) (RepP.mono (fun b h=>by
     rcases h with h|h
     ·exact⟨.inl h,by have:=hPb _ h;omega,fun e=>by have:=(hrow.lt b e).1;have:=hPb _ h;omega⟩
     ·exact⟨.inr (by omega),by omega,fun e=>by have:=(hrow.lt b e).2;omega⟩) (fun p h=>hbY.cell (h.elim (fun h=>by have:=hPb _ h;omega) (fun h=>h.2))) _ _ _ hr1) (by have:=HLI.out;have:=HL8.out;have:=HLEN.out;omega)
    simp only at hap;have hz3:=(hold6 (w.heap.size+1+1) (by omega) (fun e=>by have:=(hrow.lt _ e).1;omega)).trans NY.out.b3;have hz2:=(hold6 (w.heap.size+1) (by omega) (fun e=>by have:=(hrow.lt _ e).1;omega)).trans NY.out.b2;have hz1:=(hold6 (w.heap.size) (by omega) (fun e=>by have:=(hrow.lt _ e).1;omega)).trans NY.out.b1;obtain⟨y0,y1,y2,y3,yf⟩:=qaa hxY;obtain⟨v0,v1,v2,v3,vf⟩:=qaa NY.out.b3;obtain⟨e0,e1,e2,e3,ef⟩:=qaa hz3;have N6:Hid (NrmB Pb w (.mk 3 n 0 l) (some ⟨b,off,none⟩) c n (.slice (some ⟨g,0,none⟩) (its.length+1) cg) (its++[(u,A1,c1)]) (w6.setCell ⟨w.heap.size+1+1,3,none⟩ (.slice (some ⟨g,0,none⟩) (its.length+1) cg))):=hdzz (by
     have hne:∀k,k≠w.heap.size+1+1→(w6.setCell ⟨w.heap.size+1+1,3,none⟩ (.slice (some ⟨g,0,none⟩) (its.length+1) cg)).heap[k]?=w6.heap[k]?:=fun k hk=>Below.heap_setCell _ _ _ _ (by exact hk);have hsy:=NY.out.sz;refine⟨(hne _ (by omega)).trans hz1,(hne _ (by omega)).trans hz2,qe3 hz3,hrow6.setCell (by show ¬(Pb (w.heap.size+1+1)∨w.heap.size+1+1+1≤w.heap.size+1+1);exact fun h=>h.elim (fun h=>by have:=hPb _ h;omega) (fun h=>by omega)) (by show w.heap.size+1+1<_;omega) _,?_,hPb,by simp[World.setCell];omega⟩;exact Below.setCell (hbel6 w w.heap.size NY.out.bel (by omega)) (by show w.heap.size≤w.heap.size+1+1;omega) _)
    have HY:=hdzz hY;clear hY hbY hxY hr1 hb1 hrow hrow6 hbel6 hold6 hg6 NX N1 NB NY hz1 hz2 hz3;go_upto_region 10 with fail
    rw[←HY.out];clear HY;go_wp2_with (at_builtin;refine qag rfl _ _ rfl rfl rfl hap ?_)
    go_roundw
    case rel=>exact⟨k+1,_,its++[(u,A1,c1)],by omega,by go_num,hdzz (by rw[List.map_append,HITS.out,HMK.out];rfl),N6⟩
    case measure=>simp[intOf];omega
   ·obtain rfl:k=l.length:=by omega
    have hmap:its.map (·.1)=L:=by have:=HITS.out;rw[←HLEN.out,List.take_length]at this;exact this
    obtain⟨Av,cv,hv,hS⟩:=NB.out.row.toS (P:=fun b=>(Pb b∨w.heap.size+1+1+1≤b)∧b<wr.heap.size) (fun b h h'=>⟨h,h'⟩) (fun b h h'=>⟨.inr h,h'⟩);rw[hmap]at hS;have hil:its.length=L.length:=by rw[←hmap,List.length_map]
    rw[hil]at hv;subst hv;obtain⟨m,hm⟩:∃m,m=L.length:=⟨_,rfl⟩;rw[←hm]at NB;have HM:=hdzz hm;have HS:=hdzz hS;have HR3:Hid (RepP wr (fun b=>(Pb b∨w.heap.size+1+1+1≤b)∧b<wr.heap.size) (.mk 3 n 0 L) Av cv):=hdzz (by rw[qa3];exact⟨HR1.out,hS⟩);obtain⟨t0,t1,t2,t3,tf⟩:=qaa NB.out.b1;obtain⟨u0,u1,u2,u3,uf⟩:=qaa NB.out.b3;simp only[Tm.kind,Tm.name,Tm.sort,Tm.kids]at t0 t1 t2 t3;clear hmap hS hil hm HITS IH HML HRS;by_cases hn0:n=nFst
    ·subst hn0;have DS:=qcp nFst L Av cv wr _ (fun b hb=>hb.2) (by unfold desN;simp) HAR.out HARL.out HSZ.out HR3.out;obtain⟨q,hq⟩:∃q,q=qas nFst L:=⟨_,rfl⟩;have hqr:r=q:=by rw[hq,HRES.out,qa0 (by unfold desN;simp)]
     rw[←hq]at DS;simp only[Tm.val,Tm.kind,Tm.name,Tm.sort,Tm.kids,nFst]at DS t1 u1;rw[←HM.out]at DS;have DS:=hdzz DS;have HQR:=hdzz hqr;clear hq hqr;go_wp2_with fail
     refine DS.out.mono ?_;clear DS t0 t1 t2 t3 tf u0 u1 u2 u3 uf;rintro e w5 ⟨A5,c5,rfl,hr5,hb5⟩;simp only[Tm.val];have H5:=hdzz (NB.out.go hb5);have hs5:=hb5.size;have HR5:=hdzz hr5;obtain⟨z0,z1,z2,z3,zf⟩:=qaa H5.out.b2;have hsw:=NB.out.sz;clear hb5 hr5;go_wp2_with fail
     refine bodyPost_ret (v:=.tuple #[Tm.val (q) A5 c5,.int .i64 0]) ?_ rfl ?_
     ·simp[results,Tryz.results68,go_sem,z0,z1,z2,z3,Tm.val,Tm.kind,Tm.name,Tm.sort,Tm.kids]
     rw[HQR.out];exact qcy H5.out.bel NB.out.le (by omega) (RepP.mono (fun b h=>by exact h.elim (fun h=>⟨h.1.imp id (fun h=>by omega),by have:=h.2;omega⟩) (fun h=>⟨.inr (by omega),h.2⟩)) (fun _ _=>rfl) _ _ _ HR5.out)
    by_cases hn1:n=nSnd
    ·subst hn1;have DS:=qcp nSnd L Av cv wr _ (fun b hb=>hb.2) (by unfold desN;simp) HAR.out HARL.out HSZ.out HR3.out;obtain⟨q,hq⟩:∃q,q=qas nSnd L:=⟨_,rfl⟩;have hqr:r=q:=by rw[hq,HRES.out,qa0 (by unfold desN;simp)]
     rw[←hq]at DS;simp only[Tm.val,Tm.kind,Tm.name,Tm.sort,Tm.kids,nSnd]at DS t1 u1;rw[←HM.out]at DS;have DS:=hdzz DS;have HQR:=hdzz hqr;clear hq hqr;go_wp2_with fail
     refine DS.out.mono ?_;clear DS t0 t1 t2 t3 tf u0 u1 u2 u3 uf;rintro e w5 ⟨A5,c5,rfl,hr5,hb5⟩;simp only[Tm.val];have H5:=hdzz (NB.out.go hb5);have hs5:=hb5.size;have HR5:=hdzz hr5;obtain⟨z0,z1,z2,z3,zf⟩:=qaa H5.out.b2;have hsw:=NB.out.sz;clear hb5 hr5;go_wp2_with fail
     refine bodyPost_ret (v:=.tuple #[Tm.val (q) A5 c5,.int .i64 0]) ?_ rfl ?_
     ·simp[results,Tryz.results68,go_sem,z0,z1,z2,z3,Tm.val,Tm.kind,Tm.name,Tm.sort,Tm.kids]
     rw[HQR.out];exact qcy H5.out.bel NB.out.le (by omega) (RepP.mono (fun b h=>by exact h.elim (fun h=>⟨h.1.imp id (fun h=>by omega),by have:=h.2;omega⟩) (fun h=>⟨.inr (by omega),h.2⟩)) (fun _ _=>rfl) _ _ _ HR5.out)
    by_cases hn2:n=nDec
    ·subst hn2;have DS:=qcp nDec L Av cv wr _ (fun b hb=>hb.2) (by unfold desN;simp) HAR.out HARL.out HSZ.out HR3.out;obtain⟨q,hq⟩:∃q,q=qas nDec L:=⟨_,rfl⟩;have hqr:r=q:=by rw[hq,HRES.out,qa0 (by unfold desN;simp)]
     rw[←hq]at DS;simp only[Tm.val,Tm.kind,Tm.name,Tm.sort,Tm.kids,nDec]at DS t1 u1;rw[←HM.out]at DS;have DS:=hdzz DS;have HQR:=hdzz hqr;clear hq hqr;go_wp2_with fail
     refine DS.out.mono ?_;clear DS t0 t1 t2 t3 tf u0 u1 u2 u3 uf;rintro e w5 ⟨A5,c5,rfl,hr5,hb5⟩;simp only[Tm.val];have H5:=hdzz (NB.out.go hb5);have hs5:=hb5.size;have HR5:=hdzz hr5;obtain⟨z0,z1,z2,z3,zf⟩:=qaa H5.out.b2;have hsw:=NB.out.sz;clear hb5 hr5;go_wp2_with fail
     refine bodyPost_ret (v:=.tuple #[Tm.val (q) A5 c5,.int .i64 0]) ?_ rfl ?_
     ·simp[results,Tryz.results68,go_sem,z0,z1,z2,z3,Tm.val,Tm.kind,Tm.name,Tm.sort,Tm.kids]
     rw[HQR.out];exact qcy H5.out.bel NB.out.le (by omega) (RepP.mono (fun b h=>by exact h.elim (fun h=>⟨h.1.imp id (fun h=>by omega),by have:=h.2;omega⟩) (fun h=>⟨.inr (by omega),h.2⟩)) (fun _ _=>rfl) _ _ _ HR5.out)
    by_cases hn3:n=qbi
    ·subst hn3;have DS:=qcp qbi L Av cv wr _ (fun b hb=>hb.2) (by unfold desN;simp) HAR.out HARL.out HSZ.out HR3.out;obtain⟨q,hq⟩:∃q,q=qas qbi L:=⟨_,rfl⟩;have hqr:r=q:=by rw[hq,HRES.out,qa0 (by unfold desN;simp)]
     rw[←hq]at DS;simp only[Tm.val,Tm.kind,Tm.name,Tm.sort,Tm.kids,qbi]at DS t1 u1;rw[←HM.out]at DS;have DS:=hdzz DS;have HQR:=hdzz hqr;clear hq hqr;go_wp2_with fail
     refine DS.out.mono ?_;clear DS t0 t1 t2 t3 tf u0 u1 u2 u3 uf;rintro e w5 ⟨A5,c5,rfl,hr5,hb5⟩;simp only[Tm.val];have H5:=hdzz (NB.out.go hb5);have hs5:=hb5.size;have HR5:=hdzz hr5;obtain⟨z0,z1,z2,z3,zf⟩:=qaa H5.out.b2;have hsw:=NB.out.sz;clear hb5 hr5;go_wp2_with fail
     refine bodyPost_ret (v:=.tuple #[Tm.val (q) A5 c5,.int .i64 0]) ?_ rfl ?_
     ·simp[results,Tryz.results68,go_sem,z0,z1,z2,z3,Tm.val,Tm.kind,Tm.name,Tm.sort,Tm.kids]
     rw[HQR.out];exact qcy H5.out.bel NB.out.le (by omega) (RepP.mono (fun b h=>by exact h.elim (fun h=>⟨h.1.imp id (fun h=>by omega),by have:=h.2;omega⟩) (fun h=>⟨.inr (by omega),h.2⟩)) (fun _ _=>rfl) _ _ _ HR5.out)
    by_cases hn4:n=qbh
    ·subst hn4;have DS:=qcp qbh L Av cv wr _ (fun b hb=>hb.2) (by unfold desN;simp) HAR.out HARL.out HSZ.out HR3.out;obtain⟨q,hq⟩:∃q,q=qas qbh L:=⟨_,rfl⟩;have hqr:r=q:=by rw[hq,HRES.out,qa0 (by unfold desN;simp)]
     rw[←hq]at DS;simp only[Tm.val,Tm.kind,Tm.name,Tm.sort,Tm.kids,qbh]at DS t1 u1;rw[←HM.out]at DS;have DS:=hdzz DS;have HQR:=hdzz hqr;clear hq hqr;go_wp2_with fail
     refine DS.out.mono ?_;clear DS t0 t1 t2 t3 tf u0 u1 u2 u3 uf;rintro e w5 ⟨A5,c5,rfl,hr5,hb5⟩;simp only[Tm.val];have H5:=hdzz (NB.out.go hb5);have hs5:=hb5.size;have HR5:=hdzz hr5;obtain⟨z0,z1,z2,z3,zf⟩:=qaa H5.out.b2;have hsw:=NB.out.sz;clear hb5 hr5;go_wp2_with fail
     refine bodyPost_ret (v:=.tuple #[Tm.val (q) A5 c5,.int .i64 0]) ?_ rfl ?_
     ·simp[results,Tryz.results68,go_sem,z0,z1,z2,z3,Tm.val,Tm.kind,Tm.name,Tm.sort,Tm.kids]
     rw[HQR.out];exact qcy H5.out.bel NB.out.le (by omega) (RepP.mono (fun b h=>by exact h.elim (fun h=>⟨h.1.imp id (fun h=>by omega),by have:=h.2;omega⟩) (fun h=>⟨.inr (by omega),h.2⟩)) (fun _ _=>rfl) _ _ _ HR5.out)
    by_cases hn5:n=qb4
    ·subst hn5;have DS:=qcp qb4 L Av cv wr _ (fun b hb=>hb.2) (by unfold desN;simp) HAR.out HARL.out HSZ.out HR3.out;obtain⟨q,hq⟩:∃q,q=qas qb4 L:=⟨_,rfl⟩;have hqr:r=q:=by rw[hq,HRES.out,qa0 (by unfold desN;simp)]
     rw[←hq]at DS;simp only[Tm.val,Tm.kind,Tm.name,Tm.sort,Tm.kids,qb4]at DS t1 u1;rw[←HM.out]at DS;have DS:=hdzz DS;have HQR:=hdzz hqr;clear hq hqr;go_wp2_with fail
     refine DS.out.mono ?_;clear DS t0 t1 t2 t3 tf u0 u1 u2 u3 uf;rintro e w5 ⟨A5,c5,rfl,hr5,hb5⟩;simp only[Tm.val];have H5:=hdzz (NB.out.go hb5);have hs5:=hb5.size;have HR5:=hdzz hr5;obtain⟨z0,z1,z2,z3,zf⟩:=qaa H5.out.b2;have hsw:=NB.out.sz;clear hb5 hr5;go_wp2_with fail
     refine bodyPost_ret (v:=.tuple #[Tm.val (q) A5 c5,.int .i64 0]) ?_ rfl ?_
     ·simp[results,Tryz.results68,go_sem,z0,z1,z2,z3,Tm.val,Tm.kind,Tm.name,Tm.sort,Tm.kids]
     rw[HQR.out];exact qcy H5.out.bel NB.out.le (by omega) (RepP.mono (fun b h=>by exact h.elim (fun h=>⟨h.1.imp id (fun h=>by omega),by have:=h.2;omega⟩) (fun h=>⟨.inr (by omega),h.2⟩)) (fun _ _=>rfl) _ _ _ HR5.out)
    by_cases hn6:n=nXor
    ·subst hn6;obtain⟨hx1,hx2,hx3⟩:=HF.out.1 rfl;have SM:=xsum_any L Av cv wr hx1 hx2 hx3 (by have:=qh6 hx2;have:=HL8.out;omega) (RepS.mono (fun b h=>h.2) (fun _ _=>rfl) HS.out);obtain⟨q,hq⟩:∃q,q=xorT (Tm.sumds L []):=⟨_,rfl⟩;have hqr:r=q:=by rw[hq,HRES.out,qbn]
     rw[←hq,←HM.out]at SM;simp only[nXor]at t1 u1;have SM:=hdzz SM;have HQR:=hdzz hqr;clear hq hqr hx1 hx2 hx3;go_wp2_with fail
     refine SM.out.mono ?_;clear SM t0 t1 t2 t3 tf u0 u1 u2 u3 uf;rintro e w5 ⟨A5,c5,rfl,hr5,hb5⟩;simp only[Tm.val];have H5:=hdzz (NB.out.go hb5);have hs5:=hb5.size;have HR5:=hdzz hr5;obtain⟨z0,z1,z2,z3,zf⟩:=qaa H5.out.b2;have hsw:=NB.out.sz;clear hb5 hr5;go_wp2_with fail
     refine bodyPost_ret (v:=.tuple #[Tm.val (q) A5 c5,.int .i64 0]) ?_ rfl ?_
     ·simp[results,Tryz.results68,go_sem,z0,z1,z2,z3,Tm.val,Tm.kind,Tm.name,Tm.sort,Tm.kids]
     rw[HQR.out];exact qcy H5.out.bel NB.out.le (by omega) (RepP.mono (fun b h=>⟨.inr (by omega),h.2⟩) (fun _ _=>rfl) _ _ _ HR5.out)
    by_cases hn7:n=nMul
    ·subst hn7;obtain⟨hy1,hy2⟩:=HF.out.2.1 (by unfold symN;simp);have OF:=qio (.mk 3 nMul 0 L) Av cv wr hy1 (RepP.mono (fun b h=>h.2) (fun _ _=>rfl) _ _ _ HR3.out);have HOQ:=hdzz (Okp.ofT (.mk 3 nMul 0 L));obtain⟨p,hp⟩:∃p,p=ofT (.mk 3 nMul 0 L):=⟨_,rfl⟩;have hqr:r=prodT p:=by rw[hp,HRES.out,qa9 (by unfold symN;simp)]
     rw[←hp]at OF HOQ hy2;have TM:Hid (∀(Z:World) (A':Option Addr) (c':Nat),RepW Z (fun b=>b<Z.heap.size) p A' c'→Calls Tryz.prog 107 #[.slice A' p.length c'] Z (OkT (prodT p) Z)):=hdzz fun Z A' c' h=>qe5 p A' c' Z hy2 HOQ.out h;obtain⟨q,hq⟩:∃q,q=prodT p:=⟨_,rfl⟩;rw[←hq]at TM hqr;obtain⟨np,hnp⟩:∃np,np=p.length:=⟨_,rfl⟩;have HNP:=hdzz hnp;rw[←hnp]at TM;simp only[Tm.val,Tm.kind,Tm.name,Tm.sort,Tm.kids,nMul]at OF t1 u1;rw[←HM.out]at OF;have OF:=hdzz OF;have HQR:=hdzz hqr;clear hq hqr hy1 hy2 hp hnp;go_wp2_with fail
     refine OF.out.mono ?_;clear OF t0 t1 t2 t3 tf u0 u1 u2 u3 uf;rintro e w4 ⟨A4,c4,rfl,hr4,hb4⟩;rw[←HNP.out];have H4:=hdzz (NB.out.go hb4);have hs4:=hb4.size;have TM:=hdzz (TM.out w4 A4 c4 (hr4.mono (fun _ h=>h.2) (fun _ _=>rfl)));clear hb4 hr4;go_wp2_with fail
     refine TM.out.mono ?_;clear TM;rintro e w5 ⟨A5,c5,rfl,hr5,hb5⟩;simp only[Tm.val];have H5:=hdzz (H4.out.go hb5);have hs5:=hb5.size;have HR5:=hdzz hr5;obtain⟨z0,z1,z2,z3,zf⟩:=qaa H5.out.b2;have hsw:=NB.out.sz;clear hb5 hr5;go_wp2_with fail
     refine bodyPost_ret (v:=.tuple #[Tm.val (q) A5 c5,.int .i64 0]) ?_ rfl ?_
     ·simp[results,Tryz.results68,go_sem,z0,z1,z2,z3,Tm.val,Tm.kind,Tm.name,Tm.sort,Tm.kids]
     rw[HQR.out];exact qcy H5.out.bel NB.out.le (by omega) (RepP.mono (fun b h=>⟨.inr (by omega),h.2⟩) (fun _ _=>rfl) _ _ _ HR5.out)
    by_cases hn8:n=nInv
    ·subst hn8;obtain⟨hy1,hy2⟩:=HF.out.2.1 (by unfold symN;simp);have OF:=qio (.mk 3 nInv 0 L) Av cv wr hy1 (RepP.mono (fun b h=>h.2) (fun _ _=>rfl) _ _ _ HR3.out);have HOQ:=hdzz (Okp.ofT (.mk 3 nInv 0 L));obtain⟨p,hp⟩:∃p,p=ofT (.mk 3 nInv 0 L):=⟨_,rfl⟩;have hqr:r=prodT p:=by rw[hp,HRES.out,qa9 (by unfold symN;simp)]
     rw[←hp]at OF HOQ hy2;have TM:Hid (∀(Z:World) (A':Option Addr) (c':Nat),RepW Z (fun b=>b<Z.heap.size) p A' c'→Calls Tryz.prog 107 #[.slice A' p.length c'] Z (OkT (prodT p) Z)):=hdzz fun Z A' c' h=>qe5 p A' c' Z hy2 HOQ.out h;obtain⟨q,hq⟩:∃q,q=prodT p:=⟨_,rfl⟩;rw[←hq]at TM hqr;obtain⟨np,hnp⟩:∃np,np=p.length:=⟨_,rfl⟩;have HNP:=hdzz hnp;rw[←hnp]at TM;simp only[Tm.val,Tm.kind,Tm.name,Tm.sort,Tm.kids,nInv]at OF t1 u1;rw[←HM.out]at OF;have OF:=hdzz OF;have HQR:=hdzz hqr;clear hq hqr hy1 hy2 hp hnp;go_wp2_with fail
     refine OF.out.mono ?_;clear OF t0 t1 t2 t3 tf u0 u1 u2 u3 uf;rintro e w4 ⟨A4,c4,rfl,hr4,hb4⟩;rw[←HNP.out];have H4:=hdzz (NB.out.go hb4);have hs4:=hb4.size;have TM:=hdzz (TM.out w4 A4 c4 (hr4.mono (fun _ h=>h.2) (fun _ _=>rfl)));clear hb4 hr4;go_wp2_with fail
     refine TM.out.mono ?_;clear TM;rintro e w5 ⟨A5,c5,rfl,hr5,hb5⟩;simp only[Tm.val];have H5:=hdzz (H4.out.go hb5);have hs5:=hb5.size;have HR5:=hdzz hr5;obtain⟨z0,z1,z2,z3,zf⟩:=qaa H5.out.b2;have hsw:=NB.out.sz;clear hb5 hr5;go_wp2_with fail
     refine bodyPost_ret (v:=.tuple #[Tm.val (q) A5 c5,.int .i64 0]) ?_ rfl ?_
     ·simp[results,Tryz.results68,go_sem,z0,z1,z2,z3,Tm.val,Tm.kind,Tm.name,Tm.sort,Tm.kids]
     rw[HQR.out];exact qcy H5.out.bel NB.out.le (by omega) (RepP.mono (fun b h=>⟨.inr (by omega),h.2⟩) (fun _ _=>rfl) _ _ _ HR5.out)
    by_cases hn9:n=nOne
    ·subst hn9;obtain⟨hy1,hy2⟩:=HF.out.2.1 (by unfold symN;simp);have OF:=qio (.mk 3 nOne 0 L) Av cv wr hy1 (RepP.mono (fun b h=>h.2) (fun _ _=>rfl) _ _ _ HR3.out);have HOQ:=hdzz (Okp.ofT (.mk 3 nOne 0 L));obtain⟨p,hp⟩:∃p,p=ofT (.mk 3 nOne 0 L):=⟨_,rfl⟩;have hqr:r=prodT p:=by rw[hp,HRES.out,qa9 (by unfold symN;simp)]
     rw[←hp]at OF HOQ hy2;have TM:Hid (∀(Z:World) (A':Option Addr) (c':Nat),RepW Z (fun b=>b<Z.heap.size) p A' c'→Calls Tryz.prog 107 #[.slice A' p.length c'] Z (OkT (prodT p) Z)):=hdzz fun Z A' c' h=>qe5 p A' c' Z hy2 HOQ.out h;obtain⟨q,hq⟩:∃q,q=prodT p:=⟨_,rfl⟩;rw[←hq]at TM hqr;obtain⟨np,hnp⟩:∃np,np=p.length:=⟨_,rfl⟩;have HNP:=hdzz hnp;rw[←hnp]at TM;simp only[Tm.val,Tm.kind,Tm.name,Tm.sort,Tm.kids,nOne]at OF t1 u1;rw[←HM.out]at OF;have OF:=hdzz OF;have HQR:=hdzz hqr;clear hq hqr hy1 hy2 hp hnp;go_wp2_with fail
     refine OF.out.mono ?_;clear OF t0 t1 t2 t3 tf u0 u1 u2 u3 uf;rintro e w4 ⟨A4,c4,rfl,hr4,hb4⟩;rw[←HNP.out];have H4:=hdzz (NB.out.go hb4);have hs4:=hb4.size;have TM:=hdzz (TM.out w4 A4 c4 (hr4.mono (fun _ h=>h.2) (fun _ _=>rfl)));clear hb4 hr4;go_wp2_with fail
     refine TM.out.mono ?_;clear TM;rintro e w5 ⟨A5,c5,rfl,hr5,hb5⟩;simp only[Tm.val];have H5:=hdzz (H4.out.go hb5);have hs5:=hb5.size;have HR5:=hdzz hr5;obtain⟨z0,z1,z2,z3,zf⟩:=qaa H5.out.b2;have hsw:=NB.out.sz;clear hb5 hr5;go_wp2_with fail
     refine bodyPost_ret (v:=.tuple #[Tm.val (q) A5 c5,.int .i64 0]) ?_ rfl ?_
     ·simp[results,Tryz.results68,go_sem,z0,z1,z2,z3,Tm.val,Tm.kind,Tm.name,Tm.sort,Tm.kids]
     rw[HQR.out];exact qcy H5.out.bel NB.out.le (by omega) (RepP.mono (fun b h=>⟨.inr (by omega),h.2⟩) (fun _ _=>rfl) _ _ _ HR5.out)
    by_cases hn10:n=nExp
    ·subst hn10;have hl2:L.length=2:=HAR.out.1 (by simp);obtain⟨kb,ko,A1,c1,hke,hkb,k0,k1,k2,k3,k1r⟩:=qau HR3.out 1 (by show 1<L.length;omega);obtain⟨kb',ko',A0,c0,hke0,-,j0,j1,j2,j3,k0r⟩:=qau HR3.out 0 (by show 0<L.length;omega);subst hke;injection hke0 with hke0;injection hke0 with e1 e2;subst e1 e2;have hkb:=hkb.2;rw[show(Tm.mk 3 nExp 0 L).kids=L from rfl,Nat.one_mul]at k0 k1 k2 k3;rw[show(Tm.mk 3 nExp 0 L).kids=L from rfl,Nat.zero_mul,Nat.add_zero]at j0 j1 j2 j3;rw[show(Tm.mk 3 nExp 0 L).kids=L from rfl]at k1r k0r;have hsw:=NB.out.sz;have hbd:Below wr.heap.size wr wr.drew:=(Below.refl _ _).drew
     have RA:=qpn (kidT L 0) (kidT L 1) A0 A1 c0 c1 wr.drew (fun b=>(Pb b∨w.heap.size+1+1+1≤b)∧b<wr.heap.size) (fun b h=>h.2) (HF.out.2.2 rfl) (ArT.kidl HARL.out 0) (RepP.mono (fun _ h=>h) (fun p h=>hbd.cell h.2) _ _ _ k0r) (RepP.mono (fun b h=>h.2) (fun p h=>hbd.cell h.2) _ _ _ k1r);obtain⟨q,hq⟩:∃q,q=qbp (kidT L 0) (kidT L 1):=⟨_,rfl⟩;have hqr:r=q:=by rw[hq,HRES.out,qb2]
     rw[←hq]at RA;obtain⟨x1,hx1⟩:∃x,x=kidT L 1:=⟨_,rfl⟩;obtain⟨x0,hx0⟩:∃x,x=kidT L 0:=⟨_,rfl⟩;rw[←hx1]at k0 k1 k2 k3 RA;rw[←hx0]at j0 j1 j2 j3 RA;simp only[Tm.val]at RA;simp only[nExp]at t1 u1;have RA:=hdzz RA;have HQR:=hdzz hqr;have NX:Hid (NrmB Pb w (.mk 3 nExp 0 l) A c nExp (.slice (some ⟨kb,ko,none⟩) m cv) its wr.drew):=hdzz (NB.out.go hbd);obtain rfl:m=2:=HM.out.trans hl2;have HSD:Hid (wr.drew.heap.size=wr.heap.size):=hdzz rfl;have hle0:kb<wr.drew.heap.size:=hkb;have hle1:w.heap.size+1+1+1≤wr.drew.heap.size:=hsw;obtain⟨v0,v1,v2,v3,vf⟩:=qaa NX.out.b3;have k0:wr.drew.cell? ⟨kb,ko+4,none⟩=_:=k0;have k1:wr.drew.cell? ⟨kb,ko+4+1,none⟩=_:=k1;have k2:wr.drew.cell? ⟨kb,ko+4+2,none⟩=_:=k2;have k3:wr.drew.cell? ⟨kb,ko+4+3,none⟩=_:=k3
     have j0:wr.drew.cell? ⟨kb,ko,none⟩=_:=j0;have j1:wr.drew.cell? ⟨kb,ko+1,none⟩=_:=j1;have j2:wr.drew.cell? ⟨kb,ko+2,none⟩=_:=j2;have j3:wr.drew.cell? ⟨kb,ko+3,none⟩=_:=j3;clear hq hqr hx1 hx0 k1r k0r hl2 hbd u0 u1 u2 u3 uf hkb hsw;go_wp2_with fail
     refine qbr (fun Y=>Below wr.drew.heap.size wr.drew Y) 11 (.held 0 (.held 1 (.held 2 (.held 3 (.held 4 (.held 5 (.held 6 (.held 7 (.op 8 (.held 9 (.held 10 (.op 11 (.op 12 .nil))))))))))))) mixed (by kernel_rfl) ?_;generalize wr.drew=Z at *;clear t0 t1 t2 t3 tf;refine qav (v:=.pointer (some ⟨w.heap.size+1+1,3,none⟩)) rfl rfl (fun _ _ _ h=>h) (Below.refl _ _) (fun Y hY=>by
      skip
      (try simp only[Act.put]);go_simp) ?_
     refine qav (v:=.slice (some ⟨kb,ko,none⟩) 2 cv) rfl rfl (fun _ _ _ h=>h) (Below.refl _ _) (fun Y hY=>by
      have z3:=sclz hY v3 (by omega)
      (try simp only[Act.put]);go_simp) ?_
     refine qav (v:=.pointer (some ⟨kb,ko,none⟩)) rfl rfl (fun _ _ _ h=>h) (Below.refl _ _) (fun Y hY=>by
      skip
      (try simp only[Act.put]);go_simp) ?_
     simp only[Act.put,fsa,fsb,fsc,fsd,fse,fsf];refine qav (v:=.agg #[.int .i64 x0.kind,.string x0.name,.int .i64 x0.sort,.slice A0 x0.kids.length c0]) rfl rfl (fun _ _ _ h=>h) (Below.refl _ _) (fun Y hY=>by
      have z0:=sclz hY j0 (by omega);have z1:=sclz hY j1 (by omega);have z2:=sclz hY j2 (by omega);have z3:=sclz hY j3 (by omega)
      (try simp only[Act.put]);go_simp) ?_
     simp only[Act.put,fsa,fsb,fsc,fsd,fse,fsf];refine qav (v:=.pointer (some ⟨w.heap.size+1+1,3,none⟩)) rfl rfl (fun _ _ _ h=>h) (Below.refl _ _) (fun Y hY=>by
      skip
      (try simp only[Act.put]);go_simp) ?_
     refine qav (v:=.slice (some ⟨kb,ko,none⟩) 2 cv) rfl rfl (fun _ _ _ h=>h) (Below.refl _ _) (fun Y hY=>by
      have z3:=sclz hY v3 (by omega)
      (try simp only[Act.put]);go_simp) ?_
     refine qav (v:=.pointer (some ⟨kb,ko+4,none⟩)) rfl rfl (fun _ _ _ h=>h) (Below.refl _ _) (fun Y hY=>by
      skip
      (try simp only[Act.put]);go_simp) ?_
     simp only[Act.put,fsa,fsb,fsc,fsd,fse,fsf];refine qav (v:=.agg #[.int .i64 x1.kind,.string x1.name,.int .i64 x1.sort,.slice A1 x1.kids.length c1]) rfl rfl (fun _ _ _ h=>h) (Below.refl _ _) (fun Y hY=>by
      have z0:=sclz hY k0 (by omega);have z1:=sclz hY k1 (by omega);have z2:=sclz hY k2 (by omega);have z3:=sclz hY k3 (by omega)
      (try simp only[Act.put]);go_simp) ?_
     simp only[Act.put,fsa,fsb,fsc,fsd,fse,fsf];refine mix_op rfl rfl (fun K hK=>?_);go_wp2_with fail
     refine RA.out.mono ?_;clear RA k0 k1 k2 k3 j0 j1 j2 j3 v0 v1 v2 v3 vf;rintro e w5 ⟨A5,c5,rfl,hr5,hb5⟩;simp only[Tm.val];refine hK _ _ ⟨fun _=>hb5,?_⟩;clear hK K;have H5:=hdzz (NX.out.go hb5);have hs5:=hb5.size;have HR5:=hdzz hr5;obtain⟨z0,z1,z2,z3,zf⟩:=qaa H5.out.b2;refine qav (v:=.agg #[.int .i64 q.kind,.string q.name,.int .i64 q.sort,.slice A5 q.kids.length c5]) rfl rfl (fun _ _ _ h=>h) hb5 (fun Y hY=>by
      (try simp only[Act.put]);go_simp) ?_
     refine qav (v:=.int .i64 0) rfl rfl (fun _ _ _ h=>h) hb5 (fun Y hY=>by
      (try simp only[Act.put]);go_simp) ?_
     simp only[Act.put,fsa,fsb,fsc,fsd,fse,fsf];refine mix_op rfl rfl (fun K hK=>?_);go_wp2_with fail
     refine mix_op rfl rfl (fun K hK=>?_);go_wp2_with fail
     refine⟨fun h=>absurd h (by decide),qel ?_⟩;go_wp2_with fail
     refine bodyPost_ret (v:=.tuple #[Tm.val (q) A5 c5,.int .i64 0]) ?_ rfl ?_
     ·simp[results,Tryz.results68,go_sem,z0,z1,z2,z3,Tm.val,Tm.kind,Tm.name,Tm.sort,Tm.kids]
     rw[HQR.out];have hsd:=HSD.out;exact qcy H5.out.bel NB.out.le (by omega) (RepP.mono (fun b h=>by exact h.elim (fun h=>⟨h.1.imp id (fun h=>by omega),by have:=h.2;omega⟩) (fun h=>⟨.inr (by omega),h.2⟩)) (fun _ _=>rfl) _ _ _ HR5.out)
    have HN0:Hid (¬desN n):=hdzz (by unfold desN;simp[hn0,hn1,hn2,hn3,hn4,hn5]);have HN1:Hid (n≠nXor):=hdzz hn6;have HN2:Hid (¬symN n):=hdzz (by unfold symN;simp[hn7,hn8,hn9]);have HN3:Hid (n≠nExp):=hdzz hn10;have g0:(n.toList==[102,115,116])=false:=by rw[Bool.eq_false_iff];exact fun e=>hn0 ((qaz (c:=nFst) rfl).2 e)
    have g1:(n.toList==[115,110,100])=false:=by rw[Bool.eq_false_iff];exact fun e=>hn1 ((qaz (c:=nSnd) rfl).2 e)
    have g2:(n.toList==[100,101,99])=false:=by rw[Bool.eq_false_iff];exact fun e=>hn2 ((qaz (c:=nDec) rfl).2 e)
    have g3:(n.toList==[97,100,101,99])=false:=by rw[Bool.eq_false_iff];exact fun e=>hn3 ((qaz (c:=qbi) rfl).2 e)
    have g4:(n.toList==[111,112,101,110])=false:=by rw[Bool.eq_false_iff];exact fun e=>hn4 ((qaz (c:=qbh) rfl).2 e)
    have g5:(n.toList==[114,101,97,100])=false:=by rw[Bool.eq_false_iff];exact fun e=>hn5 ((qaz (c:=qb4) rfl).2 e)
    have g6:(n.toList==[120,111,114])=false:=by rw[Bool.eq_false_iff];exact fun e=>hn6 ((qaz (c:=nXor) rfl).2 e)
    have g7:(n.toList==[109,117,108])=false:=by rw[Bool.eq_false_iff];exact fun e=>hn7 ((qaz (c:=nMul) rfl).2 e)
    have g8:(n.toList==[105,110,118])=false:=by rw[Bool.eq_false_iff];exact fun e=>hn8 ((qaz (c:=nInv) rfl).2 e)
    have g9:(n.toList==[111,110,101])=false:=by rw[Bool.eq_false_iff];exact fun e=>hn9 ((qaz (c:=nOne) rfl).2 e)
    have g10:(n.toList==[101,120,112])=false:=by rw[Bool.eq_false_iff];exact fun e=>hn10 ((qaz (c:=nExp) rfl).2 e)
    clear hn0 hn1 hn2 hn3 hn4 hn5 hn6 hn7 hn8 hn9 hn10;have hqr:r=.mk 3 n 0 L:=by rw[HRES.out,qba HN0.out HN1.out HN2.out HN3.out]
    have HQR:=hdzz hqr;clear hqr;obtain⟨z0,z1,z2,z3,zf⟩:=qaa NB.out.b2;have hsw:=NB.out.sz;go_wp2_with fail
    refine bodyPost_ret (v:=.tuple #[.agg #[.int .i64 3,.string n,.int .i64 0,.slice Av m cv],.int .i64 0]) ?_ rfl ?_
    ·simp[results,Tryz.results68,go_sem,z0,z1,z2,z3]
    rw[HQR.out,HM.out];exact qcy NB.out.bel NB.out.le (by omega) (RepP.mono (fun b h=>⟨h.1.imp id (fun h=>by omega),h.2⟩) (fun _ _=>rfl) _ _ _ HR3.out)
end Go.Proofs.YtjhjoiplpmjepaaGreat
