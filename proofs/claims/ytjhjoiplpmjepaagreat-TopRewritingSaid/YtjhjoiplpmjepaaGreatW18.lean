/- Tdes1, Tdes2, Tdes3 (joined by shake.py). -/
import Derived.Test.YtjhjoiplpmjepaaGreatW0
import Derived.Test.YtjhjoiplpmjepaaGreatW13
import Derived.Test.YtjhjoiplpmjepaaGreatW14
set_option maxRecDepth 100000
set_option linter.unusedVariables false
set_option linter.unusedSimpArgs false
set_option maxHeartbeats 8000000
namespace Go.Proofs.YtjhjoiplpmjepaaGreat
open Go.RowKit Go.Sort
theorem qg3 {t:Tm} {i M:Nat} (h:t.size≤M):(kidT t.kids i).size≤M:=Nat.le_trans (qju t i) h
theorem des_fst (a:Tm) (A:Option Addr) (c:Nat) (w:World) (Pb:Nat→Prop) (hPb:∀b,Pb b→b<w.heap.size) (hka:ArT a) (hsa:a.size≤900000) (hrep:RepP w Pb (.mk 3 nFst 0 [a]) A c) :
  Calls Tryz.prog 104 #[(Tm.mk 3 nFst 0 [a]).val A c] w (OkR Pb (qas nFst [a]) w):=by
 have mixed:=mixz;obtain⟨b,off,Aa,ca,rfl,hbw,p0,p1,p2,p3,pa⟩:=qau hrep 0 (by show 0<[a].length;exact Nat.succ_pos _);have hbw:b<w.heap.size:=hPb _ hbw;rw[Nat.zero_mul,Nat.add_zero]at p0 p1 p2 p3;have ek0:kidT (Tm.mk 3 nFst 0 [a]).kids 0=a:=rfl;rw[ek0]at p0 p1 p2 p3 pa;clear ek0;have HREP:=hdzz hrep;obtain⟨V,hV⟩:∃V,V=((((w.alloc (.cells #[.int .i64 3,.string ⟨#[102,115,116]⟩,.int .i64 0,.slice (some ⟨b,off,none⟩) 1 c] 24)).alloc (.cells #[.int .i64 0,.string ⟨#[]⟩,.int .i64 0,.slice none 0 0] 24)).alloc (.cells #[.int .i64 a.kind,.string a.name,.int .i64 a.sort,.slice Aa a.kids.length ca] 24)).alloc (.cells #[.int .i64 0,.string ⟨#[]⟩,.int .i64 0,.slice none 0 0] 24)):=⟨_,rfl⟩
 have s1:(w.alloc (.cells #[.int .i64 3,.string ⟨#[102,115,116]⟩,.int .i64 0,.slice (some ⟨b,off,none⟩) 1 c] 24)).heap.size=w.heap.size+1:=by simp
 have s2:((w.alloc (.cells #[.int .i64 3,.string ⟨#[102,115,116]⟩,.int .i64 0,.slice (some ⟨b,off,none⟩) 1 c] 24)).alloc (.cells #[.int .i64 0,.string ⟨#[]⟩,.int .i64 0,.slice none 0 0] 24)).heap.size=w.heap.size+1+1:=by simp
 have s3:(((w.alloc (.cells #[.int .i64 3,.string ⟨#[102,115,116]⟩,.int .i64 0,.slice (some ⟨b,off,none⟩) 1 c] 24)).alloc (.cells #[.int .i64 0,.string ⟨#[]⟩,.int .i64 0,.slice none 0 0] 24)).alloc (.cells #[.int .i64 a.kind,.string a.name,.int .i64 a.sort,.slice Aa a.kids.length ca] 24)).heap.size=w.heap.size+1+1+1:=by simp
 have hb2:Below w.heap.size w ((w.alloc (.cells #[.int .i64 3,.string ⟨#[102,115,116]⟩,.int .i64 0,.slice (some ⟨b,off,none⟩) 1 c] 24)).alloc (.cells #[.int .i64 0,.string ⟨#[]⟩,.int .i64 0,.slice none 0 0] 24)):=((Below.refl _ _).alloc (Nat.le_refl _) _).alloc (by simp) _;have hb3:Below w.heap.size w (((w.alloc (.cells #[.int .i64 3,.string ⟨#[102,115,116]⟩,.int .i64 0,.slice (some ⟨b,off,none⟩) 1 c] 24)).alloc (.cells #[.int .i64 0,.string ⟨#[]⟩,.int .i64 0,.slice none 0 0] 24)).alloc (.cells #[.int .i64 a.kind,.string a.name,.int .i64 a.sort,.slice Aa a.kids.length ca] 24)):=hb2.alloc (by simp;omega) _;have hbV:Below w.heap.size w V:=by rw[hV];exact hb3.alloc (by simp;omega) _
 have hb4:Below w.heap.size w ((((w.alloc (.cells #[.int .i64 3,.string ⟨#[102,115,116]⟩,.int .i64 0,.slice (some ⟨b,off,none⟩) 1 c] 24)).alloc (.cells #[.int .i64 0,.string ⟨#[]⟩,.int .i64 0,.slice none 0 0] 24)).alloc (.cells #[.int .i64 a.kind,.string a.name,.int .i64 a.sort,.slice Aa a.kids.length ca] 24)).alloc (.cells #[.int .i64 0,.string ⟨#[]⟩,.int .i64 0,.slice none 0 0] 24)):=hb3.alloc (by simp;omega) _;have DB:Hid (DstB Pb w nFst [a] (some ⟨b,off,none⟩) c a (Tm.mk 0 .empty 0 []) Aa none ca 0 V):=hdzz (by
  refine⟨?_,?_,?_,?_,hbV,RepP.mono (fun _ h=>h) (fun p h=>hbV.cell (hPb _ h)) _ _ _ pa,(by rw[qa3];exact⟨Nat.zero_le _,Nat.le_refl _,Nat.zero_le _,.inl rfl⟩),RepP.mono (fun _ h=>h) (fun p h=>hbV.cell (hPb _ h)) _ _ _ HREP.out,hPb⟩
  ·rw[hV,Below.heap_alloc _ _ _ (by rw[s3];omega),Below.heap_alloc _ _ _ (by rw[s2];omega),Below.heap_alloc _ _ _ (by rw[s1];omega)];exact heap_alloc_new w _
  ·rw[hV,Below.heap_alloc _ _ _ (by rw[s3];omega),Below.heap_alloc _ _ _ (by rw[s2];omega)];have h:=heap_alloc_new (w.alloc (.cells #[.int .i64 3,.string ⟨#[102,115,116]⟩,.int .i64 0,.slice (some ⟨b,off,none⟩) 1 c] 24)) (.cells #[.int .i64 0,.string ⟨#[]⟩,.int .i64 0,.slice none 0 0] 24);rw[s1]at h;exact h
  ·rw[hV,Below.heap_alloc _ _ _ (by rw[s3];omega)];have h:=heap_alloc_new ((w.alloc (.cells #[.int .i64 3,.string ⟨#[102,115,116]⟩,.int .i64 0,.slice (some ⟨b,off,none⟩) 1 c] 24)).alloc (.cells #[.int .i64 0,.string ⟨#[]⟩,.int .i64 0,.slice none 0 0] 24)) (.cells #[.int .i64 a.kind,.string a.name,.int .i64 a.sort,.slice Aa a.kids.length ca] 24);rw[s2]at h;exact h
  ·rw[hV];have h:=heap_alloc_new (((w.alloc (.cells #[.int .i64 3,.string ⟨#[102,115,116]⟩,.int .i64 0,.slice (some ⟨b,off,none⟩) 1 c] 24)).alloc (.cells #[.int .i64 0,.string ⟨#[]⟩,.int .i64 0,.slice none 0 0] 24)).alloc (.cells #[.int .i64 a.kind,.string a.name,.int .i64 a.sort,.slice Aa a.kids.length ca] 24)) (.cells #[.int .i64 0,.string ⟨#[]⟩,.int .i64 0,.slice none 0 0] 24);rw[s3]at h;exact h)
 have a0:=(hb2.cell (p:=⟨b,off,none⟩) hbw).trans p0;have a1:=(hb2.cell (p:=⟨b,off+1,none⟩) hbw).trans p1;have a2:=(hb2.cell (p:=⟨b,off+2,none⟩) hbw).trans p2;have a3:=(hb2.cell (p:=⟨b,off+3,none⟩) hbw).trans p3;clear s1 s2 s3 hb2 hb3 hb4 hbV p0 p1 p2 p3 pa  hrep;have HV:=hdzz hV;clear hV;have nyes:((⟨#[102,115,116]⟩:ByteArray).toList==[102,115,116])=true:=(qaz (n:=⟨#[102,115,116]⟩) (c:=⟨#[102,115,116]⟩) (L:=[102,115,116]) rfl).1 rfl;have IS:=qce a qbd Aa ca V;have hiff:fitD nFst [a]↔a.isA qbd:=⟨fun h=>by
  rcases h with⟨h,h2⟩|⟨h,h2⟩|⟨h,h2⟩|⟨h,h2⟩|⟨h,h2⟩|⟨h,h2⟩
  all_goals first|exact h2|exact absurd h (by decide),fun h=>by unfold fitD;exact .inl ⟨rfl,h⟩⟩
 simp only[Tm.val,qbd]at IS;have IS:=hdzz IS;obtain⟨res,hres⟩:∃r,r=qas nFst [a]:=⟨_,rfl⟩;rw[←hres];have HRES:=hdzz hres;clear hres;simp only[Tm.val,Tm.kind,Tm.name,Tm.sort,Tm.kids,nFst,List.length_cons,List.length_nil,Nat.zero_add,Nat.reduceAdd];go_enter Tryz.func104,Tryz.ntmps104
 go_wp2_with fail
 rw[←HV.out];clear HV a0 a1 a2 a3;refine IS.out.mono ?_;clear IS;rintro e w5 ⟨rfl,hl5⟩;have D5:=hdzz (DB.out.go hl5.below);clear DB hl5;by_cases hf:a.isA qbd
 ·have hfit:=hiff.2 hf;have hal:a.kids.length=2:=(hka.num hf).2.1 (by decide);have hdec:decide (a.isA qbd)=true:=decide_eq_true hf;simp only[qbd]at hdec;rw[hdec];clear hdec hf hiff;obtain⟨kb,ko,Ar,cr,hke,hkb,k0,k1,k2,k3,kr⟩:=qau D5.out.ra 0 (by omega);rw[Nat.zero_mul,Nat.add_zero]at k0 k1 k2 k3;subst hke;obtain⟨y0,y1,y2,y3,yf⟩:=qaa D5.out.b3;obtain⟨z0,z1,z2,z3,zf⟩:=qaa D5.out.b2;have hsz:=D5.out.size;have hd:qas nFst [a]=kidT a.kids 0:=by unfold qas;rw[if_pos hfit];rfl
  have HD:=hdzz hd;have HKR:=hdzz kr;have hal2:(2:Int)=(a.kids.length:Int):=by omega
  rw[hal]at y3;obtain⟨r,hr⟩:∃r,r=kidT a.kids 0:=⟨_,rfl⟩;rw[←hr]at k0 k1 k2 k3 HKR HD;clear hd kr hr hal2 hal hfit;go_wp2_with fail
  refine bodyPost_ret (v:=r.val Ar cr) ?_ rfl ?_
  ·simp[results,Tryz.results104,go_sem,z0,z1,z2,z3,Tm.val]
  refine⟨Ar,cr,by rw[HRES.out,HD.out],?_,?_⟩
  ·rw[HRES.out,HD.out];exact RepP.mono (fun b h=>.inl h) (fun p hp=>qao (by have:=hPb _ hp;omega)) _ _ _ HKR.out
  ·iterate 4 refine Below.setCell ?_ (by show _≤w.heap.size+1;omega) _
   exact D5.out.bel
 ·have hfit:¬fitD nFst [a]:=fun h=>hf (hiff.1 h);have hdec:decide (a.isA qbd)=false:=decide_eq_false hf;simp only[qbd]at hdec;rw[hdec];clear hdec hf hiff;obtain⟨x0,x1,x2,x3,xf⟩:=qaa D5.out.b1;obtain⟨z0,z1,z2,z3,zf⟩:=qaa D5.out.b2;have hsz:=D5.out.size;have hd:qas nFst [a]=.mk 3 nFst 0 [a]:=by unfold qas;rw[if_neg hfit]
  have HD:=hdzz hd;have HKR:=hdzz D5.out.rt;clear hd hfit;simp only[Tm.kind,Tm.name,Tm.sort,Tm.kids,nFst,List.length_cons,List.length_nil,Nat.zero_add,Nat.reduceAdd]at x0 x1 x2 x3;go_wp2_with fail
  refine bodyPost_ret (v:=Tm.val (.mk 3 nFst 0 [a]) (some ⟨b,off,none⟩) c) ?_ rfl ?_
  ·simp[results,Tryz.results104,go_sem,z0,z1,z2,z3,Tm.val,Tm.kind,Tm.name,Tm.sort,Tm.kids,nFst]
  refine⟨some ⟨b,off,none⟩,c,by rw[HRES.out,HD.out],?_,?_⟩
  ·rw[HRES.out,HD.out];exact RepP.mono (fun b h=>.inl h) (fun p hp=>qao (by have:=hPb _ hp;omega)) _ _ _ HKR.out
  ·iterate 4 refine Below.setCell ?_ (by show _≤w.heap.size+1;omega) _
   exact D5.out.bel
theorem des_snd (a:Tm) (A:Option Addr) (c:Nat) (w:World) (Pb:Nat→Prop) (hPb:∀b,Pb b→b<w.heap.size) (hka:ArT a) (hsa:a.size≤900000) (hrep:RepP w Pb (.mk 3 nSnd 0 [a]) A c) :
  Calls Tryz.prog 104 #[(Tm.mk 3 nSnd 0 [a]).val A c] w (OkR Pb (qas nSnd [a]) w):=by
 have mixed:=mixz;obtain⟨b,off,Aa,ca,rfl,hbw,p0,p1,p2,p3,pa⟩:=qau hrep 0 (by show 0<[a].length;exact Nat.succ_pos _);have hbw:b<w.heap.size:=hPb _ hbw;rw[Nat.zero_mul,Nat.add_zero]at p0 p1 p2 p3;have ek0:kidT (Tm.mk 3 nSnd 0 [a]).kids 0=a:=rfl;rw[ek0]at p0 p1 p2 p3 pa;clear ek0;have HREP:=hdzz hrep;obtain⟨V,hV⟩:∃V,V=((((w.alloc (.cells #[.int .i64 3,.string ⟨#[115,110,100]⟩,.int .i64 0,.slice (some ⟨b,off,none⟩) 1 c] 24)).alloc (.cells #[.int .i64 0,.string ⟨#[]⟩,.int .i64 0,.slice none 0 0] 24)).alloc (.cells #[.int .i64 a.kind,.string a.name,.int .i64 a.sort,.slice Aa a.kids.length ca] 24)).alloc (.cells #[.int .i64 0,.string ⟨#[]⟩,.int .i64 0,.slice none 0 0] 24)):=⟨_,rfl⟩
 have s1:(w.alloc (.cells #[.int .i64 3,.string ⟨#[115,110,100]⟩,.int .i64 0,.slice (some ⟨b,off,none⟩) 1 c] 24)).heap.size=w.heap.size+1:=by simp
 have s2:((w.alloc (.cells #[.int .i64 3,.string ⟨#[115,110,100]⟩,.int .i64 0,.slice (some ⟨b,off,none⟩) 1 c] 24)).alloc (.cells #[.int .i64 0,.string ⟨#[]⟩,.int .i64 0,.slice none 0 0] 24)).heap.size=w.heap.size+1+1:=by simp
 have s3:(((w.alloc (.cells #[.int .i64 3,.string ⟨#[115,110,100]⟩,.int .i64 0,.slice (some ⟨b,off,none⟩) 1 c] 24)).alloc (.cells #[.int .i64 0,.string ⟨#[]⟩,.int .i64 0,.slice none 0 0] 24)).alloc (.cells #[.int .i64 a.kind,.string a.name,.int .i64 a.sort,.slice Aa a.kids.length ca] 24)).heap.size=w.heap.size+1+1+1:=by simp
 have hb2:Below w.heap.size w ((w.alloc (.cells #[.int .i64 3,.string ⟨#[115,110,100]⟩,.int .i64 0,.slice (some ⟨b,off,none⟩) 1 c] 24)).alloc (.cells #[.int .i64 0,.string ⟨#[]⟩,.int .i64 0,.slice none 0 0] 24)):=((Below.refl _ _).alloc (Nat.le_refl _) _).alloc (by simp) _;have hb3:Below w.heap.size w (((w.alloc (.cells #[.int .i64 3,.string ⟨#[115,110,100]⟩,.int .i64 0,.slice (some ⟨b,off,none⟩) 1 c] 24)).alloc (.cells #[.int .i64 0,.string ⟨#[]⟩,.int .i64 0,.slice none 0 0] 24)).alloc (.cells #[.int .i64 a.kind,.string a.name,.int .i64 a.sort,.slice Aa a.kids.length ca] 24)):=hb2.alloc (by simp;omega) _;have hbV:Below w.heap.size w V:=by rw[hV];exact hb3.alloc (by simp;omega) _
 have hb4:Below w.heap.size w ((((w.alloc (.cells #[.int .i64 3,.string ⟨#[115,110,100]⟩,.int .i64 0,.slice (some ⟨b,off,none⟩) 1 c] 24)).alloc (.cells #[.int .i64 0,.string ⟨#[]⟩,.int .i64 0,.slice none 0 0] 24)).alloc (.cells #[.int .i64 a.kind,.string a.name,.int .i64 a.sort,.slice Aa a.kids.length ca] 24)).alloc (.cells #[.int .i64 0,.string ⟨#[]⟩,.int .i64 0,.slice none 0 0] 24)):=hb3.alloc (by simp;omega) _;have DB:Hid (DstB Pb w nSnd [a] (some ⟨b,off,none⟩) c a (Tm.mk 0 .empty 0 []) Aa none ca 0 V):=hdzz (by
  refine⟨?_,?_,?_,?_,hbV,RepP.mono (fun _ h=>h) (fun p h=>hbV.cell (hPb _ h)) _ _ _ pa,(by rw[qa3];exact⟨Nat.zero_le _,Nat.le_refl _,Nat.zero_le _,.inl rfl⟩),RepP.mono (fun _ h=>h) (fun p h=>hbV.cell (hPb _ h)) _ _ _ HREP.out,hPb⟩
  ·rw[hV,Below.heap_alloc _ _ _ (by rw[s3];omega),Below.heap_alloc _ _ _ (by rw[s2];omega),Below.heap_alloc _ _ _ (by rw[s1];omega)];exact heap_alloc_new w _
  ·rw[hV,Below.heap_alloc _ _ _ (by rw[s3];omega),Below.heap_alloc _ _ _ (by rw[s2];omega)];have h:=heap_alloc_new (w.alloc (.cells #[.int .i64 3,.string ⟨#[115,110,100]⟩,.int .i64 0,.slice (some ⟨b,off,none⟩) 1 c] 24)) (.cells #[.int .i64 0,.string ⟨#[]⟩,.int .i64 0,.slice none 0 0] 24);rw[s1]at h;exact h
  ·rw[hV,Below.heap_alloc _ _ _ (by rw[s3];omega)];have h:=heap_alloc_new ((w.alloc (.cells #[.int .i64 3,.string ⟨#[115,110,100]⟩,.int .i64 0,.slice (some ⟨b,off,none⟩) 1 c] 24)).alloc (.cells #[.int .i64 0,.string ⟨#[]⟩,.int .i64 0,.slice none 0 0] 24)) (.cells #[.int .i64 a.kind,.string a.name,.int .i64 a.sort,.slice Aa a.kids.length ca] 24);rw[s2]at h;exact h
  ·rw[hV];have h:=heap_alloc_new (((w.alloc (.cells #[.int .i64 3,.string ⟨#[115,110,100]⟩,.int .i64 0,.slice (some ⟨b,off,none⟩) 1 c] 24)).alloc (.cells #[.int .i64 0,.string ⟨#[]⟩,.int .i64 0,.slice none 0 0] 24)).alloc (.cells #[.int .i64 a.kind,.string a.name,.int .i64 a.sort,.slice Aa a.kids.length ca] 24)) (.cells #[.int .i64 0,.string ⟨#[]⟩,.int .i64 0,.slice none 0 0] 24);rw[s3]at h;exact h)
 have a0:=(hb2.cell (p:=⟨b,off,none⟩) hbw).trans p0;have a1:=(hb2.cell (p:=⟨b,off+1,none⟩) hbw).trans p1;have a2:=(hb2.cell (p:=⟨b,off+2,none⟩) hbw).trans p2;have a3:=(hb2.cell (p:=⟨b,off+3,none⟩) hbw).trans p3;clear s1 s2 s3 hb2 hb3 hb4 hbV p0 p1 p2 p3 pa  hrep;have HV:=hdzz hV;clear hV;have nyes:((⟨#[115,110,100]⟩:ByteArray).toList==[115,110,100])=true:=(qaz (n:=⟨#[115,110,100]⟩) (c:=⟨#[115,110,100]⟩) (L:=[115,110,100]) rfl).1 rfl;have nfst:((⟨#[115,110,100]⟩:ByteArray).toList==[102,115,116])=false:=by rw[beq_eq_false_iff_ne];rw[beq_iff_eq]at nyes;rw[nyes];decide
 have IS:=qce a qbd Aa ca V;have hiff:fitD nSnd [a]↔a.isA qbd:=⟨fun h=>by
  rcases h with⟨h,h2⟩|⟨h,h2⟩|⟨h,h2⟩|⟨h,h2⟩|⟨h,h2⟩|⟨h,h2⟩
  all_goals first|exact h2|exact absurd h (by decide),fun h=>by unfold fitD;exact .inr (.inl ⟨rfl,h⟩)⟩
 simp only[Tm.val,qbd]at IS;have IS:=hdzz IS;obtain⟨res,hres⟩:∃r,r=qas nSnd [a]:=⟨_,rfl⟩;rw[←hres];have HRES:=hdzz hres;clear hres;simp only[Tm.val,Tm.kind,Tm.name,Tm.sort,Tm.kids,nSnd,List.length_cons,List.length_nil,Nat.zero_add,Nat.reduceAdd];go_enter Tryz.func104,Tryz.ntmps104
 go_wp2_with fail
 rw[←HV.out];clear HV a0 a1 a2 a3;refine IS.out.mono ?_;clear IS;rintro e w5 ⟨rfl,hl5⟩;have D5:=hdzz (DB.out.go hl5.below);clear DB hl5;by_cases hf:a.isA qbd
 ·have hfit:=hiff.2 hf;have hal:a.kids.length=2:=(hka.num hf).2.1 (by decide);have hdec:decide (a.isA qbd)=true:=decide_eq_true hf;simp only[qbd]at hdec;rw[hdec];clear hdec hf hiff;obtain⟨kb,ko,Ar,cr,hke,hkb,k0,k1,k2,k3,kr⟩:=qau D5.out.ra 1 (by omega);rw[Nat.one_mul]at k0 k1 k2 k3;subst hke;obtain⟨y0,y1,y2,y3,yf⟩:=qaa D5.out.b3;obtain⟨z0,z1,z2,z3,zf⟩:=qaa D5.out.b2;have hsz:=D5.out.size;have hd:qas nSnd [a]=kidT a.kids 1:=by unfold qas;rw[if_pos hfit];rfl
  have HD:=hdzz hd;have HKR:=hdzz kr;have hal2:(2:Int)=(a.kids.length:Int):=by omega
  rw[hal]at y3;obtain⟨r,hr⟩:∃r,r=kidT a.kids 1:=⟨_,rfl⟩;rw[←hr]at k0 k1 k2 k3 HKR HD;clear hd kr hr hal2 hal hfit;go_wp2_with fail
  refine bodyPost_ret (v:=r.val Ar cr) ?_ rfl ?_
  ·simp[results,Tryz.results104,go_sem,z0,z1,z2,z3,Tm.val]
  refine⟨Ar,cr,by rw[HRES.out,HD.out],?_,?_⟩
  ·rw[HRES.out,HD.out];exact RepP.mono (fun b h=>.inl h) (fun p hp=>qao (by have:=hPb _ hp;omega)) _ _ _ HKR.out
  ·iterate 4 refine Below.setCell ?_ (by show _≤w.heap.size+1;omega) _
   exact D5.out.bel
 ·have hfit:¬fitD nSnd [a]:=fun h=>hf (hiff.1 h);have hdec:decide (a.isA qbd)=false:=decide_eq_false hf;simp only[qbd]at hdec;rw[hdec];clear hdec hf hiff;obtain⟨x0,x1,x2,x3,xf⟩:=qaa D5.out.b1;obtain⟨z0,z1,z2,z3,zf⟩:=qaa D5.out.b2;have hsz:=D5.out.size;have hd:qas nSnd [a]=.mk 3 nSnd 0 [a]:=by unfold qas;rw[if_neg hfit]
  have HD:=hdzz hd;have HKR:=hdzz D5.out.rt;clear hd hfit;simp only[Tm.kind,Tm.name,Tm.sort,Tm.kids,nSnd,List.length_cons,List.length_nil,Nat.zero_add,Nat.reduceAdd]at x0 x1 x2 x3;go_wp2_with fail
  refine bodyPost_ret (v:=Tm.val (.mk 3 nSnd 0 [a]) (some ⟨b,off,none⟩) c) ?_ rfl ?_
  ·simp[results,Tryz.results104,go_sem,z0,z1,z2,z3,Tm.val,Tm.kind,Tm.name,Tm.sort,Tm.kids,nSnd]
  refine⟨some ⟨b,off,none⟩,c,by rw[HRES.out,HD.out],?_,?_⟩
  ·rw[HRES.out,HD.out];exact RepP.mono (fun b h=>.inl h) (fun p hp=>qao (by have:=hPb _ hp;omega)) _ _ _ HKR.out
  ·iterate 4 refine Below.setCell ?_ (by show _≤w.heap.size+1;omega) _
   exact D5.out.bel
theorem des_read (a:Tm) (A:Option Addr) (c:Nat) (w:World) (Pb:Nat→Prop) (hPb:∀b,Pb b→b<w.heap.size) (hka:ArT a) (hsa:a.size≤900000) (hrep:RepP w Pb (.mk 3 qb4 0 [a]) A c) :
  Calls Tryz.prog 104 #[(Tm.mk 3 qb4 0 [a]).val A c] w (OkR Pb (qas qb4 [a]) w):=by
 have mixed:=mixz;obtain⟨b,off,Aa,ca,rfl,hbw,p0,p1,p2,p3,pa⟩:=qau hrep 0 (by show 0<[a].length;exact Nat.succ_pos _);have hbw:b<w.heap.size:=hPb _ hbw;rw[Nat.zero_mul,Nat.add_zero]at p0 p1 p2 p3;have ek0:kidT (Tm.mk 3 qb4 0 [a]).kids 0=a:=rfl;rw[ek0]at p0 p1 p2 p3 pa;clear ek0;have HREP:=hdzz hrep;obtain⟨V,hV⟩:∃V,V=((((w.alloc (.cells #[.int .i64 3,.string ⟨#[114,101,97,100]⟩,.int .i64 0,.slice (some ⟨b,off,none⟩) 1 c] 24)).alloc (.cells #[.int .i64 0,.string ⟨#[]⟩,.int .i64 0,.slice none 0 0] 24)).alloc (.cells #[.int .i64 a.kind,.string a.name,.int .i64 a.sort,.slice Aa a.kids.length ca] 24)).alloc (.cells #[.int .i64 0,.string ⟨#[]⟩,.int .i64 0,.slice none 0 0] 24)):=⟨_,rfl⟩
 have s1:(w.alloc (.cells #[.int .i64 3,.string ⟨#[114,101,97,100]⟩,.int .i64 0,.slice (some ⟨b,off,none⟩) 1 c] 24)).heap.size=w.heap.size+1:=by simp
 have s2:((w.alloc (.cells #[.int .i64 3,.string ⟨#[114,101,97,100]⟩,.int .i64 0,.slice (some ⟨b,off,none⟩) 1 c] 24)).alloc (.cells #[.int .i64 0,.string ⟨#[]⟩,.int .i64 0,.slice none 0 0] 24)).heap.size=w.heap.size+1+1:=by simp
 have s3:(((w.alloc (.cells #[.int .i64 3,.string ⟨#[114,101,97,100]⟩,.int .i64 0,.slice (some ⟨b,off,none⟩) 1 c] 24)).alloc (.cells #[.int .i64 0,.string ⟨#[]⟩,.int .i64 0,.slice none 0 0] 24)).alloc (.cells #[.int .i64 a.kind,.string a.name,.int .i64 a.sort,.slice Aa a.kids.length ca] 24)).heap.size=w.heap.size+1+1+1:=by simp
 have hb2:Below w.heap.size w ((w.alloc (.cells #[.int .i64 3,.string ⟨#[114,101,97,100]⟩,.int .i64 0,.slice (some ⟨b,off,none⟩) 1 c] 24)).alloc (.cells #[.int .i64 0,.string ⟨#[]⟩,.int .i64 0,.slice none 0 0] 24)):=((Below.refl _ _).alloc (Nat.le_refl _) _).alloc (by simp) _;have hb3:Below w.heap.size w (((w.alloc (.cells #[.int .i64 3,.string ⟨#[114,101,97,100]⟩,.int .i64 0,.slice (some ⟨b,off,none⟩) 1 c] 24)).alloc (.cells #[.int .i64 0,.string ⟨#[]⟩,.int .i64 0,.slice none 0 0] 24)).alloc (.cells #[.int .i64 a.kind,.string a.name,.int .i64 a.sort,.slice Aa a.kids.length ca] 24)):=hb2.alloc (by simp;omega) _;have hbV:Below w.heap.size w V:=by rw[hV];exact hb3.alloc (by simp;omega) _
 have hb4:Below w.heap.size w ((((w.alloc (.cells #[.int .i64 3,.string ⟨#[114,101,97,100]⟩,.int .i64 0,.slice (some ⟨b,off,none⟩) 1 c] 24)).alloc (.cells #[.int .i64 0,.string ⟨#[]⟩,.int .i64 0,.slice none 0 0] 24)).alloc (.cells #[.int .i64 a.kind,.string a.name,.int .i64 a.sort,.slice Aa a.kids.length ca] 24)).alloc (.cells #[.int .i64 0,.string ⟨#[]⟩,.int .i64 0,.slice none 0 0] 24)):=hb3.alloc (by simp;omega) _;have DB:Hid (DstB Pb w qb4 [a] (some ⟨b,off,none⟩) c a (Tm.mk 0 .empty 0 []) Aa none ca 0 V):=hdzz (by
  refine⟨?_,?_,?_,?_,hbV,RepP.mono (fun _ h=>h) (fun p h=>hbV.cell (hPb _ h)) _ _ _ pa,(by rw[qa3];exact⟨Nat.zero_le _,Nat.le_refl _,Nat.zero_le _,.inl rfl⟩),RepP.mono (fun _ h=>h) (fun p h=>hbV.cell (hPb _ h)) _ _ _ HREP.out,hPb⟩
  ·rw[hV,Below.heap_alloc _ _ _ (by rw[s3];omega),Below.heap_alloc _ _ _ (by rw[s2];omega),Below.heap_alloc _ _ _ (by rw[s1];omega)];exact heap_alloc_new w _
  ·rw[hV,Below.heap_alloc _ _ _ (by rw[s3];omega),Below.heap_alloc _ _ _ (by rw[s2];omega)];have h:=heap_alloc_new (w.alloc (.cells #[.int .i64 3,.string ⟨#[114,101,97,100]⟩,.int .i64 0,.slice (some ⟨b,off,none⟩) 1 c] 24)) (.cells #[.int .i64 0,.string ⟨#[]⟩,.int .i64 0,.slice none 0 0] 24);rw[s1]at h;exact h
  ·rw[hV,Below.heap_alloc _ _ _ (by rw[s3];omega)];have h:=heap_alloc_new ((w.alloc (.cells #[.int .i64 3,.string ⟨#[114,101,97,100]⟩,.int .i64 0,.slice (some ⟨b,off,none⟩) 1 c] 24)).alloc (.cells #[.int .i64 0,.string ⟨#[]⟩,.int .i64 0,.slice none 0 0] 24)) (.cells #[.int .i64 a.kind,.string a.name,.int .i64 a.sort,.slice Aa a.kids.length ca] 24);rw[s2]at h;exact h
  ·rw[hV];have h:=heap_alloc_new (((w.alloc (.cells #[.int .i64 3,.string ⟨#[114,101,97,100]⟩,.int .i64 0,.slice (some ⟨b,off,none⟩) 1 c] 24)).alloc (.cells #[.int .i64 0,.string ⟨#[]⟩,.int .i64 0,.slice none 0 0] 24)).alloc (.cells #[.int .i64 a.kind,.string a.name,.int .i64 a.sort,.slice Aa a.kids.length ca] 24)) (.cells #[.int .i64 0,.string ⟨#[]⟩,.int .i64 0,.slice none 0 0] 24);rw[s3]at h;exact h)
 have a0:=(hb2.cell (p:=⟨b,off,none⟩) hbw).trans p0;have a1:=(hb2.cell (p:=⟨b,off+1,none⟩) hbw).trans p1;have a2:=(hb2.cell (p:=⟨b,off+2,none⟩) hbw).trans p2;have a3:=(hb2.cell (p:=⟨b,off+3,none⟩) hbw).trans p3;clear s1 s2 s3 hb2 hb3 hb4 hbV p0 p1 p2 p3 pa  hrep;have HV:=hdzz hV;clear hV;have nyes:((⟨#[114,101,97,100]⟩:ByteArray).toList==[114,101,97,100])=true:=(qaz (n:=⟨#[114,101,97,100]⟩) (c:=⟨#[114,101,97,100]⟩) (L:=[114,101,97,100]) rfl).1 rfl;have nfst:((⟨#[114,101,97,100]⟩:ByteArray).toList==[102,115,116])=false:=by rw[beq_eq_false_iff_ne];rw[beq_iff_eq]at nyes;rw[nyes];decide
 have nsnd:((⟨#[114,101,97,100]⟩:ByteArray).toList==[115,110,100])=false:=by rw[beq_eq_false_iff_ne];rw[beq_iff_eq]at nyes;rw[nyes];decide
 have ndec:((⟨#[114,101,97,100]⟩:ByteArray).toList==[100,101,99])=false:=by rw[beq_eq_false_iff_ne];rw[beq_iff_eq]at nyes;rw[nyes];decide
 have nadec:((⟨#[114,101,97,100]⟩:ByteArray).toList==[97,100,101,99])=false:=by rw[beq_eq_false_iff_ne];rw[beq_iff_eq]at nyes;rw[nyes];decide
 have nopen:((⟨#[114,101,97,100]⟩:ByteArray).toList==[111,112,101,110])=false:=by rw[beq_eq_false_iff_ne];rw[beq_iff_eq]at nyes;rw[nyes];decide
 have IS:=qce a qa7 Aa ca V;have hiff:fitD qb4 [a]↔a.isA qa7:=⟨fun h=>by
  rcases h with⟨h,h2⟩|⟨h,h2⟩|⟨h,h2⟩|⟨h,h2⟩|⟨h,h2⟩|⟨h,h2⟩
  all_goals first|exact h2|exact absurd h (by decide),fun h=>by unfold fitD;exact .inr (.inr (.inr (.inr (.inr ⟨rfl,h⟩))))⟩
 simp only[Tm.val,qa7]at IS;have IS:=hdzz IS;obtain⟨res,hres⟩:∃r,r=qas qb4 [a]:=⟨_,rfl⟩;rw[←hres];have HRES:=hdzz hres;clear hres;simp only[Tm.val,Tm.kind,Tm.name,Tm.sort,Tm.kids,qb4,List.length_cons,List.length_nil,Nat.zero_add,Nat.reduceAdd];go_enter Tryz.func104,Tryz.ntmps104
 go_wp2_with fail
 rw[←HV.out];clear HV a0 a1 a2 a3;refine IS.out.mono ?_;clear IS;rintro e w5 ⟨rfl,hl5⟩;have D5:=hdzz (DB.out.go hl5.below);clear DB hl5;by_cases hf:a.isA qa7
 ·have hfit:=hiff.2 hf;have hal:a.kids.length=2:=(hka.num hf).2.1 (by decide);have hdec:decide (a.isA qa7)=true:=decide_eq_true hf;simp only[qa7]at hdec;rw[hdec];clear hdec hf hiff;obtain⟨kb,ko,Ar,cr,hke,hkb,k0,k1,k2,k3,kr⟩:=qau D5.out.ra 0 (by omega);rw[Nat.zero_mul,Nat.add_zero]at k0 k1 k2 k3;subst hke;obtain⟨y0,y1,y2,y3,yf⟩:=qaa D5.out.b3;obtain⟨z0,z1,z2,z3,zf⟩:=qaa D5.out.b2;have hsz:=D5.out.size;have hd:qas qb4 [a]=kidT a.kids 0:=by unfold qas;rw[if_pos hfit];rfl
  have HD:=hdzz hd;have HKR:=hdzz kr;have hal2:(2:Int)=(a.kids.length:Int):=by omega
  rw[hal]at y3;obtain⟨r,hr⟩:∃r,r=kidT a.kids 0:=⟨_,rfl⟩;rw[←hr]at k0 k1 k2 k3 HKR HD;clear hd kr hr hal2 hal hfit;go_wp2_with fail
  refine bodyPost_ret (v:=r.val Ar cr) ?_ rfl ?_
  ·simp[results,Tryz.results104,go_sem,z0,z1,z2,z3,Tm.val]
  refine⟨Ar,cr,by rw[HRES.out,HD.out],?_,?_⟩
  ·rw[HRES.out,HD.out];exact RepP.mono (fun b h=>.inl h) (fun p hp=>qao (by have:=hPb _ hp;omega)) _ _ _ HKR.out
  ·iterate 4 refine Below.setCell ?_ (by show _≤w.heap.size+1;omega) _
   exact D5.out.bel
 ·have hfit:¬fitD qb4 [a]:=fun h=>hf (hiff.1 h);have hdec:decide (a.isA qa7)=false:=decide_eq_false hf;simp only[qa7]at hdec;rw[hdec];clear hdec hf hiff;obtain⟨x0,x1,x2,x3,xf⟩:=qaa D5.out.b1;obtain⟨z0,z1,z2,z3,zf⟩:=qaa D5.out.b2;have hsz:=D5.out.size;have hd:qas qb4 [a]=.mk 3 qb4 0 [a]:=by unfold qas;rw[if_neg hfit]
  have HD:=hdzz hd;have HKR:=hdzz D5.out.rt;clear hd hfit;simp only[Tm.kind,Tm.name,Tm.sort,Tm.kids,qb4,List.length_cons,List.length_nil,Nat.zero_add,Nat.reduceAdd]at x0 x1 x2 x3;go_wp2_with fail
  refine bodyPost_ret (v:=Tm.val (.mk 3 qb4 0 [a]) (some ⟨b,off,none⟩) c) ?_ rfl ?_
  ·simp[results,Tryz.results104,go_sem,z0,z1,z2,z3,Tm.val,Tm.kind,Tm.name,Tm.sort,Tm.kids,qb4]
  refine⟨some ⟨b,off,none⟩,c,by rw[HRES.out,HD.out],?_,?_⟩
  ·rw[HRES.out,HD.out];exact RepP.mono (fun b h=>.inl h) (fun p hp=>qao (by have:=hPb _ hp;omega)) _ _ _ HKR.out
  ·iterate 4 refine Below.setCell ?_ (by show _≤w.heap.size+1;omega) _
   exact D5.out.bel
attribute [local irreducible] qay
theorem des_dec (a k:Tm) (A:Option Addr) (c:Nat) (w:World) (Pb:Nat→Prop) (hPb:∀b,Pb b→b<w.heap.size) (hka:ArT a) (hkk:ArT k) (hsa:a.size≤900000) (hsk:k.size≤900000) (hrep:RepP w Pb (.mk 3 nDec 0 [a,k]) A c) :
  Calls Tryz.prog 104 #[(Tm.mk 3 nDec 0 [a,k]).val A c] w (OkR Pb (qas nDec [a,k]) w):=by
 have mixed:=mixz;obtain⟨b,off,Aa,ca,rfl,hbw,p0,p1,p2,p3,pa⟩:=qau hrep 0 (by show 0<[a,k].length;exact Nat.succ_pos _);have hbw:b<w.heap.size:=hPb _ hbw;rw[Nat.zero_mul,Nat.add_zero]at p0 p1 p2 p3;have ek0:kidT (Tm.mk 3 nDec 0 [a,k]).kids 0=a:=rfl;rw[ek0]at p0 p1 p2 p3 pa;clear ek0;obtain⟨b',off',Ak,ck,hAe,-,q0,q1,q2,q3,pk⟩:=qau hrep 1 (by show 1<[a,k].length;exact Nat.le_refl _);injection hAe with hAe;injection hAe with e1 e2;subst e1 e2;rw[Nat.one_mul]at q0 q1 q2 q3;have ek1:kidT (Tm.mk 3 nDec 0 [a,k]).kids 1=k:=rfl;rw[ek1]at q0 q1 q2 q3 pk;clear ek1;have HREP:=hdzz hrep
 obtain⟨V,hV⟩:∃V,V=((((w.alloc (.cells #[.int .i64 3,.string ⟨#[100,101,99]⟩,.int .i64 0,.slice (some ⟨b,off,none⟩) 2 c] 24)).alloc (.cells #[.int .i64 0,.string ⟨#[]⟩,.int .i64 0,.slice none 0 0] 24)).alloc (.cells #[.int .i64 a.kind,.string a.name,.int .i64 a.sort,.slice Aa a.kids.length ca] 24)).alloc (.cells #[.int .i64 k.kind,.string k.name,.int .i64 k.sort,.slice Ak k.kids.length ck] 24)):=⟨_,rfl⟩;have s1:(w.alloc (.cells #[.int .i64 3,.string ⟨#[100,101,99]⟩,.int .i64 0,.slice (some ⟨b,off,none⟩) 2 c] 24)).heap.size=w.heap.size+1:=by simp
 have s2:((w.alloc (.cells #[.int .i64 3,.string ⟨#[100,101,99]⟩,.int .i64 0,.slice (some ⟨b,off,none⟩) 2 c] 24)).alloc (.cells #[.int .i64 0,.string ⟨#[]⟩,.int .i64 0,.slice none 0 0] 24)).heap.size=w.heap.size+1+1:=by simp
 have s3:(((w.alloc (.cells #[.int .i64 3,.string ⟨#[100,101,99]⟩,.int .i64 0,.slice (some ⟨b,off,none⟩) 2 c] 24)).alloc (.cells #[.int .i64 0,.string ⟨#[]⟩,.int .i64 0,.slice none 0 0] 24)).alloc (.cells #[.int .i64 a.kind,.string a.name,.int .i64 a.sort,.slice Aa a.kids.length ca] 24)).heap.size=w.heap.size+1+1+1:=by simp
 have hb2:Below w.heap.size w ((w.alloc (.cells #[.int .i64 3,.string ⟨#[100,101,99]⟩,.int .i64 0,.slice (some ⟨b,off,none⟩) 2 c] 24)).alloc (.cells #[.int .i64 0,.string ⟨#[]⟩,.int .i64 0,.slice none 0 0] 24)):=((Below.refl _ _).alloc (Nat.le_refl _) _).alloc (by simp) _;have hb3:Below w.heap.size w (((w.alloc (.cells #[.int .i64 3,.string ⟨#[100,101,99]⟩,.int .i64 0,.slice (some ⟨b,off,none⟩) 2 c] 24)).alloc (.cells #[.int .i64 0,.string ⟨#[]⟩,.int .i64 0,.slice none 0 0] 24)).alloc (.cells #[.int .i64 a.kind,.string a.name,.int .i64 a.sort,.slice Aa a.kids.length ca] 24)):=hb2.alloc (by simp;omega) _;have hbV:Below w.heap.size w V:=by rw[hV];exact hb3.alloc (by simp;omega) _
 have hb4:Below w.heap.size w ((((w.alloc (.cells #[.int .i64 3,.string ⟨#[100,101,99]⟩,.int .i64 0,.slice (some ⟨b,off,none⟩) 2 c] 24)).alloc (.cells #[.int .i64 0,.string ⟨#[]⟩,.int .i64 0,.slice none 0 0] 24)).alloc (.cells #[.int .i64 a.kind,.string a.name,.int .i64 a.sort,.slice Aa a.kids.length ca] 24)).alloc (.cells #[.int .i64 0,.string ⟨#[]⟩,.int .i64 0,.slice none 0 0] 24)):=hb3.alloc (by simp;omega) _;have DB:Hid (DstB Pb w nDec [a,k] (some ⟨b,off,none⟩) c a k Aa Ak ca ck V):=hdzz (by
  refine⟨?_,?_,?_,?_,hbV,RepP.mono (fun _ h=>h) (fun p h=>hbV.cell (hPb _ h)) _ _ _ pa,RepP.mono (fun _ h=>h) (fun p h=>hbV.cell (hPb _ h)) _ _ _ pk,RepP.mono (fun _ h=>h) (fun p h=>hbV.cell (hPb _ h)) _ _ _ HREP.out,hPb⟩
  ·rw[hV,Below.heap_alloc _ _ _ (by rw[s3];omega),Below.heap_alloc _ _ _ (by rw[s2];omega),Below.heap_alloc _ _ _ (by rw[s1];omega)];exact heap_alloc_new w _
  ·rw[hV,Below.heap_alloc _ _ _ (by rw[s3];omega),Below.heap_alloc _ _ _ (by rw[s2];omega)];have h:=heap_alloc_new (w.alloc (.cells #[.int .i64 3,.string ⟨#[100,101,99]⟩,.int .i64 0,.slice (some ⟨b,off,none⟩) 2 c] 24)) (.cells #[.int .i64 0,.string ⟨#[]⟩,.int .i64 0,.slice none 0 0] 24);rw[s1]at h;exact h
  ·rw[hV,Below.heap_alloc _ _ _ (by rw[s3];omega)];have h:=heap_alloc_new ((w.alloc (.cells #[.int .i64 3,.string ⟨#[100,101,99]⟩,.int .i64 0,.slice (some ⟨b,off,none⟩) 2 c] 24)).alloc (.cells #[.int .i64 0,.string ⟨#[]⟩,.int .i64 0,.slice none 0 0] 24)) (.cells #[.int .i64 a.kind,.string a.name,.int .i64 a.sort,.slice Aa a.kids.length ca] 24);rw[s2]at h;exact h
  ·rw[hV];have h:=heap_alloc_new (((w.alloc (.cells #[.int .i64 3,.string ⟨#[100,101,99]⟩,.int .i64 0,.slice (some ⟨b,off,none⟩) 2 c] 24)).alloc (.cells #[.int .i64 0,.string ⟨#[]⟩,.int .i64 0,.slice none 0 0] 24)).alloc (.cells #[.int .i64 a.kind,.string a.name,.int .i64 a.sort,.slice Aa a.kids.length ca] 24)) (.cells #[.int .i64 k.kind,.string k.name,.int .i64 k.sort,.slice Ak k.kids.length ck] 24);rw[s3]at h;exact h)
 have a0:=(hb2.cell (p:=⟨b,off,none⟩) hbw).trans p0;have a1:=(hb2.cell (p:=⟨b,off+1,none⟩) hbw).trans p1;have a2:=(hb2.cell (p:=⟨b,off+2,none⟩) hbw).trans p2;have a3:=(hb2.cell (p:=⟨b,off+3,none⟩) hbw).trans p3;have d0:=(hb4.cell (p:=⟨b,off+4,none⟩) hbw).trans q0;have d1:=(hb4.cell (p:=⟨b,off+4+1,none⟩) hbw).trans q1;have d2:=(hb4.cell (p:=⟨b,off+4+2,none⟩) hbw).trans q2;have d3:=(hb4.cell (p:=⟨b,off+4+3,none⟩) hbw).trans q3;clear s1 s2 s3 hb2 hb3 hb4 hbV p0 p1 p2 p3 pa q0 q1 q2 q3 pk hrep;have HV:=hdzz hV;clear hV;have nyes:((⟨#[100,101,99]⟩:ByteArray).toList==[100,101,99])=true:=(qaz (n:=⟨#[100,101,99]⟩) (c:=⟨#[100,101,99]⟩) (L:=[100,101,99]) rfl).1 rfl
 have nfst:((⟨#[100,101,99]⟩:ByteArray).toList==[102,115,116])=false:=by rw[beq_eq_false_iff_ne];rw[beq_iff_eq]at nyes;rw[nyes];decide
 have nsnd:((⟨#[100,101,99]⟩:ByteArray).toList==[115,110,100])=false:=by rw[beq_eq_false_iff_ne];rw[beq_iff_eq]at nyes;rw[nyes];decide
 obtain⟨res,hres⟩:∃r,r=qas nDec [a,k]:=⟨_,rfl⟩;rw[←hres];have HRES:=hdzz hres;clear hres;simp only[Tm.val,Tm.kind,Tm.name,Tm.sort,Tm.kids,nDec,List.length_cons,List.length_nil,Nat.zero_add,Nat.reduceAdd];have hiff:fitD nDec [a,k]↔(a.isA nEnc∧kidT a.kids 1=k):=⟨fun h=>by
  rcases h with⟨h,h2⟩|⟨h,h2⟩|⟨h,h2⟩|⟨h,h2⟩|⟨h,h2⟩|⟨h,h2⟩
  all_goals first|exact h2|exact absurd h (by decide),fun h=>by unfold fitD;exact .inr (.inr (.inl ⟨rfl,h⟩))⟩
 go_enter Tryz.func104,Tryz.ntmps104
 go_wp2_with fail
 rw[←HV.out];clear HV a0 a1 a2 a3 d0 d1 d2 d3 nyes nfst nsnd;by_cases hf:a.isA nEnc
 ·have hdec:decide (a.isA nEnc)=true:=decide_eq_true hf;have hal:a.kids.length=2:=(hka.num hf).2.1 (by decide);refine qae (fun Y=>Below V.drew.heap.size V.drew Y) (fun _=>True) [] (.held 0 (.op 1 (.held 2 (.held 3 (.held 4 (.held 5 (.held 6 (.held 7 (.op 8 (.held 9 (.held 10 .nil))))))))))) mixed (by kernel_rfl) ?_;have DBD:=hdzz (DB.out.go (Below.refl _ _).drew);clear DB;generalize V.drew=D at *;have hszD:=DBD.out.size;obtain⟨ya0,ya1,ya2,ya3,yaf⟩:=qaa DBD.out.b3;obtain⟨yk0,yk1,yk2,yk3,ykf⟩:=qaa DBD.out.b4;obtain⟨kb,ko,Ar,cr,hke,hkb,k0,k1,k2,k3,kr⟩:=qau DBD.out.ra 1 (by omega);have hkb:=hPb _ hkb;rw[Nat.one_mul]at k0 k1 k2 k3;subst hke;rw[hal]at ya3;have husz:=qg3 (i:=1) hsa;obtain⟨u,hu⟩:∃u,u=kidT a.kids 1:=⟨_,rfl⟩;rw[←hu]at k0 k1 k2 k3 kr hiff husz;have HU:=hdzz hu;have HKR:=hdzz kr
  clear hu kr;obtain⟨z,hz⟩:∃z,z=u.same k:=⟨_,rfl⟩;have HAL:=hdzz hal;clear hal;refine stkz (.agg #[.int .i64 a.kind,.string a.name,.int .i64 a.sort,.slice (some ⟨kb,ko,none⟩) 2 ca]) rfl rfl rfl (fun _ _ _ h=>h) (Below.refl _ _) (fun Y hY=>by
    have z0:=sclz hY ya0 (by omega);have z1:=sclz hY ya1 (by omega);have z2:=sclz hY ya2 (by omega);have z3:=sclz hY ya3 (by omega)
    (try simp only[Act.put]);go_simp) ?_
  have CN:=qce a nEnc (some ⟨kb,ko,none⟩) ca D;rw[hdec]at CN;simp only[Tm.val,nEnc,HAL.out]at CN;have CN:=hdzz CN;refine qar rfl rfl (fun K hK=>?_);go_wp2_with fail
  refine CN.out.mono ?_;clear CN;rintro e w5 ⟨rfl,hl5⟩;have H5:=hdzz (hl5.below);refine hK _ _ ⟨⟨fun _=>H5.out,trivial⟩,?_⟩;clear hK K hl5;refine stkz (.bool true) rfl rfl rfl (fun _ _ _ h=>h) H5.out (fun Y hY=>by
    (try simp only[Act.put]);go_simp) ?_
  refine qac (v:=.pointer (some ⟨w.heap.size+1+1,3,none⟩)) rfl (by kernel_rfl) rfl (fun _ _ _ h=>h) H5.out trivial (fun Y hY hY2=>by
    (try simp only[Act.put]);go_simp) ?_
  refine qac (v:=.slice (some ⟨kb,ko,none⟩) 2 ca) rfl (by kernel_rfl) rfl (fun _ _ _ h=>h) H5.out trivial (fun Y hY hY2=>by
    have z3:=sclz hY ya3 (by omega)
    (try simp only[Act.put]);go_simp) ?_
  refine qac (v:=.pointer (some ⟨kb,ko+4,none⟩)) rfl (by kernel_rfl) rfl (fun _ _ _ h=>h) H5.out trivial (fun Y hY hY2=>by
    (try simp only[Act.put]);go_simp) ?_
  simp only[Act.put,fsa,fsb,fsc,fsd,fse,fsf];refine qac (v:=.agg #[.int .i64 u.kind,.string u.name,.int .i64 u.sort,.slice Ar u.kids.length cr]) rfl (by kernel_rfl) rfl (fun _ _ _ h=>h) H5.out trivial (fun Y hY hY2=>by
    have z0:=sclz hY k0 (by omega);have z1:=sclz hY k1 (by omega);have z2:=sclz hY k2 (by omega);have z3:=sclz hY k3 (by omega)
    (try simp only[Act.put]);go_simp) ?_
  refine qac (v:=.agg #[.int .i64 k.kind,.string k.name,.int .i64 k.sort,.slice Ak k.kids.length ck]) rfl (by kernel_rfl) rfl (fun _ _ _ h=>h) H5.out trivial (fun Y hY hY2=>by
    have z0:=sclz hY yk0 (by omega);have z1:=sclz hY yk1 (by omega);have z2:=sclz hY yk2 (by omega);have z3:=sclz hY yk3 (by omega)
    (try simp only[Act.put]);go_simp) ?_
  simp only[Act.put,fsa,fsb,fsc,fsd,fse,fsf];have CN:=qh2 u k Ar Ak cr ck w5 (by omega) (by omega) (RepP.mono (w:=D) (fun b (h:Pb b)=>by have:=hPb _ h;have:=H5.out.size;omega) (fun p (h:Pb p.block)=>H5.out.cell (by have:=hPb _ h;omega)) _ _ _ HKR.out) (RepP.mono (w:=D) (fun b (h:Pb b)=>by have:=hPb _ h;have:=H5.out.size;omega) (fun p (h:Pb p.block)=>H5.out.cell (by have:=hPb _ h;omega)) _ _ _ DBD.out.rk);rw[←hz]at CN;simp only[Tm.val]at CN;have CN:=hdzz CN;refine qbx rfl (by kernel_rfl) (fun K hK=>?_);go_wp2_with fail
  refine CN.out.mono ?_;clear CN;rintro e w6 ⟨rfl,hl6⟩;have H6:=hdzz (H5.out.trans (hl6.below.mono (by have:=H5.out.size;omega)));refine hK _ _ ⟨⟨fun _=>H6.out,trivial⟩,?_⟩;clear hK K hl6;refine stkz (.bool z) rfl rfl rfl (fun _ _ _ h=>h) H6.out (fun Y hY=>by
    (try simp only[Act.put]);go_simp) ?_
  refine stkz (.bool z) rfl rfl rfl (fun _ _ _ h=>h) H6.out (fun Y hY=>by
    (try simp only[Act.put]);go_simp) ?_
  refine qat ?_;simp only[Act.put,fsa,fsb,fsc,fsd,fse,fsf];have D5:=hdzz (DBD.out.go H6.out);clear H5 H6 DBD ya0 ya1 ya2 ya3 yk0 yk1 yk2 yk3 k0 k1 k2 k3 HKR hkb;rw[HU.out]at hiff hz;have hal:=HAL.out;clear HU HAL hdec
  cases z with
  | true=>
   have hfit:=hiff.2 ⟨hf,Tm.same_iff.1 hz.symm⟩;clear hiff hf hz;obtain⟨kb,ko,Ar,cr,hke,hkb,k0,k1,k2,k3,kr⟩:=qau D5.out.ra 0 (by omega);have hkb:=hPb _ hkb;rw[Nat.zero_mul,Nat.add_zero]at k0 k1 k2 k3;injection hke with hke;injection hke with e1 e2;subst e1 e2;obtain⟨y0,y1,y2,y3,yf⟩:=qaa D5.out.b3;obtain⟨z0,z1,z2,z3,zf⟩:=qaa D5.out.b2;have hsz:=D5.out.size;have hd:qas nDec [a,k]=kidT a.kids 0:=by unfold qas;rw[if_pos hfit];rfl
   have HD:=hdzz hd;have HKR:=hdzz kr;have hal2:(2:Int)=(a.kids.length:Int):=by omega
   rw[hal]at y3;obtain⟨r,hr⟩:∃r,r=kidT a.kids 0:=⟨_,rfl⟩;rw[←hr]at k0 k1 k2 k3 HKR HD;clear hd kr hr hal2 hal hfit;go_wp2_with fail
   refine bodyPost_ret (v:=r.val Ar cr) ?_ rfl ?_
   ·simp[results,Tryz.results104,go_sem,z0,z1,z2,z3,Tm.val]
   refine⟨Ar,cr,by rw[HRES.out,HD.out],?_,?_⟩
   ·rw[HRES.out,HD.out];exact RepP.mono (fun b h=>.inl h) (fun p hp=>qao (by have:=hPb _ hp;omega)) _ _ _ HKR.out
   ·iterate 4 refine Below.setCell ?_ (by show _≤w.heap.size+1;omega) _
    exact D5.out.bel
  | false=>
   have hfit:¬fitD nDec [a,k]:=fun h=>Tm.same_false.1 hz.symm (hiff.1 h).2;clear hiff hf hz hal;obtain⟨x0,x1,x2,x3,xf⟩:=qaa D5.out.b1;obtain⟨z0,z1,z2,z3,zf⟩:=qaa D5.out.b2;have hsz:=D5.out.size;have hd:qas nDec [a,k]=.mk 3 nDec 0 [a,k]:=by unfold qas;rw[if_neg hfit]
   have HD:=hdzz hd;have HKR:=hdzz D5.out.rt;clear hd hfit;simp only[Tm.kind,Tm.name,Tm.sort,Tm.kids,nDec,List.length_cons,List.length_nil,Nat.zero_add,Nat.reduceAdd]at x0 x1 x2 x3;go_wp2_with fail
   refine bodyPost_ret (v:=Tm.val (.mk 3 nDec 0 [a,k]) (some ⟨b,off,none⟩) c) ?_ rfl ?_
   ·simp[results,Tryz.results104,go_sem,z0,z1,z2,z3,Tm.val,Tm.kind,Tm.name,Tm.sort,Tm.kids,nDec]
   refine⟨some ⟨b,off,none⟩,c,by rw[HRES.out,HD.out],?_,?_⟩
   ·rw[HRES.out,HD.out];exact RepP.mono (fun b h=>.inl h) (fun p hp=>qao (by have:=hPb _ hp;omega)) _ _ _ HKR.out
   ·iterate 4 refine Below.setCell ?_ (by show _≤w.heap.size+1;omega) _
    exact D5.out.bel
 ·have hdec:decide (a.isA nEnc)=false:=decide_eq_false hf;have hfit:¬fitD nDec [a,k]:=fun h=>hf (hiff.1 h).1;clear hiff hf;refine qae (fun Y=>Below V.drew.heap.size V.drew Y) (fun _=>True) [] (.held 0 (.op 1 (.held 2 (.held 3 (.held 4 (.held 5 (.held 6 (.held 7 (.held 8 (.held 9 (.held 10 .nil))))))))))) mixed (by kernel_rfl) ?_;have DBD:=hdzz (DB.out.go (Below.refl _ _).drew);clear DB;generalize V.drew=D at *;have hszD:=DBD.out.size;obtain⟨ya0,ya1,ya2,ya3,yaf⟩:=qaa DBD.out.b3;obtain⟨yk0,yk1,yk2,yk3,ykf⟩:=qaa DBD.out.b4;refine stkz (.agg #[.int .i64 a.kind,.string a.name,.int .i64 a.sort,.slice Aa a.kids.length ca]) rfl rfl rfl (fun _ _ _ h=>h) (Below.refl _ _) (fun Y hY=>by
    have z0:=sclz hY ya0 (by omega);have z1:=sclz hY ya1 (by omega);have z2:=sclz hY ya2 (by omega);have z3:=sclz hY ya3 (by omega)
    (try simp only[Act.put]);go_simp) ?_
  have CN:=qce a nEnc Aa ca D;rw[hdec]at CN;simp only[Tm.val,nEnc]at CN;have CN:=hdzz CN;refine qar rfl rfl (fun K hK=>?_);go_wp2_with fail
  refine CN.out.mono ?_;clear CN;rintro e w5 ⟨rfl,hl5⟩;have H5:=hdzz (hl5.below);refine hK _ _ ⟨⟨fun _=>H5.out,trivial⟩,?_⟩;clear hK K hl5;refine stkz (.bool false) rfl rfl rfl (fun _ _ _ h=>h) H5.out (fun Y hY=>by
    (try simp only[Act.put]);go_simp) ?_
  refine qad rfl (by kernel_rfl) rfl (fun _ _ _ h=>h) H5.out trivial ?_;refine qad rfl (by kernel_rfl) rfl (fun _ _ _ h=>h) H5.out trivial ?_;refine qad rfl (by kernel_rfl) rfl (fun _ _ _ h=>h) H5.out trivial ?_;refine qad rfl (by kernel_rfl) rfl (fun _ _ _ h=>h) H5.out trivial ?_;refine qad rfl (by kernel_rfl) rfl (fun _ _ _ h=>h) H5.out trivial ?_;refine qad rfl (by kernel_rfl) rfl (fun _ _ _ h=>h) H5.out trivial ?_;refine stkz (.bool false) rfl rfl rfl (fun _ _ _ h=>h) H5.out (fun Y hY=>by
    (try simp only[Act.put]);go_simp) ?_
  refine stkz (.bool false) rfl rfl rfl (fun _ _ _ h=>h) H5.out (fun Y hY=>by
    (try simp only[Act.put]);go_simp) ?_
  refine qat ?_;simp only[Act.put,fsa,fsb,fsc,fsd,fse,fsf];have D5:=hdzz (DBD.out.go H5.out);clear H5 DBD ya0 ya1 ya2 ya3 yk0 yk1 yk2 yk3 hdec;obtain⟨x0,x1,x2,x3,xf⟩:=qaa D5.out.b1;obtain⟨z0,z1,z2,z3,zf⟩:=qaa D5.out.b2;have hsz:=D5.out.size;have hd:qas nDec [a,k]=.mk 3 nDec 0 [a,k]:=by unfold qas;rw[if_neg hfit]
  have HD:=hdzz hd;have HKR:=hdzz D5.out.rt;clear hd hfit;simp only[Tm.kind,Tm.name,Tm.sort,Tm.kids,nDec,List.length_cons,List.length_nil,Nat.zero_add,Nat.reduceAdd]at x0 x1 x2 x3;go_wp2_with fail
  refine bodyPost_ret (v:=Tm.val (.mk 3 nDec 0 [a,k]) (some ⟨b,off,none⟩) c) ?_ rfl ?_
  ·simp[results,Tryz.results104,go_sem,z0,z1,z2,z3,Tm.val,Tm.kind,Tm.name,Tm.sort,Tm.kids,nDec]
  refine⟨some ⟨b,off,none⟩,c,by rw[HRES.out,HD.out],?_,?_⟩
  ·rw[HRES.out,HD.out];exact RepP.mono (fun b h=>.inl h) (fun p hp=>qao (by have:=hPb _ hp;omega)) _ _ _ HKR.out
  ·iterate 4 refine Below.setCell ?_ (by show _≤w.heap.size+1;omega) _
   exact D5.out.bel
theorem des_adec (a k:Tm) (A:Option Addr) (c:Nat) (w:World) (Pb:Nat→Prop) (hPb:∀b,Pb b→b<w.heap.size) (hka:ArT a) (hkk:ArT k) (hsa:a.size≤900000) (hsk:k.size≤900000) (hrep:RepP w Pb (.mk 3 qbi 0 [a,k]) A c) :
  Calls Tryz.prog 104 #[(Tm.mk 3 qbi 0 [a,k]).val A c] w (OkR Pb (qas qbi [a,k]) w):=by
 have mixed:=mixz;obtain⟨b,off,Aa,ca,rfl,hbw,p0,p1,p2,p3,pa⟩:=qau hrep 0 (by show 0<[a,k].length;exact Nat.succ_pos _);have hbw:b<w.heap.size:=hPb _ hbw;rw[Nat.zero_mul,Nat.add_zero]at p0 p1 p2 p3;have ek0:kidT (Tm.mk 3 qbi 0 [a,k]).kids 0=a:=rfl;rw[ek0]at p0 p1 p2 p3 pa;clear ek0;obtain⟨b',off',Ak,ck,hAe,-,q0,q1,q2,q3,pk⟩:=qau hrep 1 (by show 1<[a,k].length;exact Nat.le_refl _);injection hAe with hAe;injection hAe with e1 e2;subst e1 e2;rw[Nat.one_mul]at q0 q1 q2 q3;have ek1:kidT (Tm.mk 3 qbi 0 [a,k]).kids 1=k:=rfl;rw[ek1]at q0 q1 q2 q3 pk;clear ek1;have HREP:=hdzz hrep
 obtain⟨V,hV⟩:∃V,V=((((w.alloc (.cells #[.int .i64 3,.string ⟨#[97,100,101,99]⟩,.int .i64 0,.slice (some ⟨b,off,none⟩) 2 c] 24)).alloc (.cells #[.int .i64 0,.string ⟨#[]⟩,.int .i64 0,.slice none 0 0] 24)).alloc (.cells #[.int .i64 a.kind,.string a.name,.int .i64 a.sort,.slice Aa a.kids.length ca] 24)).alloc (.cells #[.int .i64 k.kind,.string k.name,.int .i64 k.sort,.slice Ak k.kids.length ck] 24)):=⟨_,rfl⟩;have s1:(w.alloc (.cells #[.int .i64 3,.string ⟨#[97,100,101,99]⟩,.int .i64 0,.slice (some ⟨b,off,none⟩) 2 c] 24)).heap.size=w.heap.size+1:=by simp
 have s2:((w.alloc (.cells #[.int .i64 3,.string ⟨#[97,100,101,99]⟩,.int .i64 0,.slice (some ⟨b,off,none⟩) 2 c] 24)).alloc (.cells #[.int .i64 0,.string ⟨#[]⟩,.int .i64 0,.slice none 0 0] 24)).heap.size=w.heap.size+1+1:=by simp
 have s3:(((w.alloc (.cells #[.int .i64 3,.string ⟨#[97,100,101,99]⟩,.int .i64 0,.slice (some ⟨b,off,none⟩) 2 c] 24)).alloc (.cells #[.int .i64 0,.string ⟨#[]⟩,.int .i64 0,.slice none 0 0] 24)).alloc (.cells #[.int .i64 a.kind,.string a.name,.int .i64 a.sort,.slice Aa a.kids.length ca] 24)).heap.size=w.heap.size+1+1+1:=by simp
 have hb2:Below w.heap.size w ((w.alloc (.cells #[.int .i64 3,.string ⟨#[97,100,101,99]⟩,.int .i64 0,.slice (some ⟨b,off,none⟩) 2 c] 24)).alloc (.cells #[.int .i64 0,.string ⟨#[]⟩,.int .i64 0,.slice none 0 0] 24)):=((Below.refl _ _).alloc (Nat.le_refl _) _).alloc (by simp) _;have hb3:Below w.heap.size w (((w.alloc (.cells #[.int .i64 3,.string ⟨#[97,100,101,99]⟩,.int .i64 0,.slice (some ⟨b,off,none⟩) 2 c] 24)).alloc (.cells #[.int .i64 0,.string ⟨#[]⟩,.int .i64 0,.slice none 0 0] 24)).alloc (.cells #[.int .i64 a.kind,.string a.name,.int .i64 a.sort,.slice Aa a.kids.length ca] 24)):=hb2.alloc (by simp;omega) _;have hbV:Below w.heap.size w V:=by rw[hV];exact hb3.alloc (by simp;omega) _
 have hb4:Below w.heap.size w ((((w.alloc (.cells #[.int .i64 3,.string ⟨#[97,100,101,99]⟩,.int .i64 0,.slice (some ⟨b,off,none⟩) 2 c] 24)).alloc (.cells #[.int .i64 0,.string ⟨#[]⟩,.int .i64 0,.slice none 0 0] 24)).alloc (.cells #[.int .i64 a.kind,.string a.name,.int .i64 a.sort,.slice Aa a.kids.length ca] 24)).alloc (.cells #[.int .i64 0,.string ⟨#[]⟩,.int .i64 0,.slice none 0 0] 24)):=hb3.alloc (by simp;omega) _;have DB:Hid (DstB Pb w qbi [a,k] (some ⟨b,off,none⟩) c a k Aa Ak ca ck V):=hdzz (by
  refine⟨?_,?_,?_,?_,hbV,RepP.mono (fun _ h=>h) (fun p h=>hbV.cell (hPb _ h)) _ _ _ pa,RepP.mono (fun _ h=>h) (fun p h=>hbV.cell (hPb _ h)) _ _ _ pk,RepP.mono (fun _ h=>h) (fun p h=>hbV.cell (hPb _ h)) _ _ _ HREP.out,hPb⟩
  ·rw[hV,Below.heap_alloc _ _ _ (by rw[s3];omega),Below.heap_alloc _ _ _ (by rw[s2];omega),Below.heap_alloc _ _ _ (by rw[s1];omega)];exact heap_alloc_new w _
  ·rw[hV,Below.heap_alloc _ _ _ (by rw[s3];omega),Below.heap_alloc _ _ _ (by rw[s2];omega)];have h:=heap_alloc_new (w.alloc (.cells #[.int .i64 3,.string ⟨#[97,100,101,99]⟩,.int .i64 0,.slice (some ⟨b,off,none⟩) 2 c] 24)) (.cells #[.int .i64 0,.string ⟨#[]⟩,.int .i64 0,.slice none 0 0] 24);rw[s1]at h;exact h
  ·rw[hV,Below.heap_alloc _ _ _ (by rw[s3];omega)];have h:=heap_alloc_new ((w.alloc (.cells #[.int .i64 3,.string ⟨#[97,100,101,99]⟩,.int .i64 0,.slice (some ⟨b,off,none⟩) 2 c] 24)).alloc (.cells #[.int .i64 0,.string ⟨#[]⟩,.int .i64 0,.slice none 0 0] 24)) (.cells #[.int .i64 a.kind,.string a.name,.int .i64 a.sort,.slice Aa a.kids.length ca] 24);rw[s2]at h;exact h
  ·rw[hV];have h:=heap_alloc_new (((w.alloc (.cells #[.int .i64 3,.string ⟨#[97,100,101,99]⟩,.int .i64 0,.slice (some ⟨b,off,none⟩) 2 c] 24)).alloc (.cells #[.int .i64 0,.string ⟨#[]⟩,.int .i64 0,.slice none 0 0] 24)).alloc (.cells #[.int .i64 a.kind,.string a.name,.int .i64 a.sort,.slice Aa a.kids.length ca] 24)) (.cells #[.int .i64 k.kind,.string k.name,.int .i64 k.sort,.slice Ak k.kids.length ck] 24);rw[s3]at h;exact h)
 have a0:=(hb2.cell (p:=⟨b,off,none⟩) hbw).trans p0;have a1:=(hb2.cell (p:=⟨b,off+1,none⟩) hbw).trans p1;have a2:=(hb2.cell (p:=⟨b,off+2,none⟩) hbw).trans p2;have a3:=(hb2.cell (p:=⟨b,off+3,none⟩) hbw).trans p3;have d0:=(hb4.cell (p:=⟨b,off+4,none⟩) hbw).trans q0;have d1:=(hb4.cell (p:=⟨b,off+4+1,none⟩) hbw).trans q1;have d2:=(hb4.cell (p:=⟨b,off+4+2,none⟩) hbw).trans q2;have d3:=(hb4.cell (p:=⟨b,off+4+3,none⟩) hbw).trans q3;clear s1 s2 s3 hb2 hb3 hb4 hbV p0 p1 p2 p3 pa q0 q1 q2 q3 pk hrep;have HV:=hdzz hV;clear hV;have nyes:((⟨#[97,100,101,99]⟩:ByteArray).toList==[97,100,101,99])=true:=(qaz (n:=⟨#[97,100,101,99]⟩) (c:=⟨#[97,100,101,99]⟩) (L:=[97,100,101,99]) rfl).1 rfl
 have nfst:((⟨#[97,100,101,99]⟩:ByteArray).toList==[102,115,116])=false:=by rw[beq_eq_false_iff_ne];rw[beq_iff_eq]at nyes;rw[nyes];decide
 have nsnd:((⟨#[97,100,101,99]⟩:ByteArray).toList==[115,110,100])=false:=by rw[beq_eq_false_iff_ne];rw[beq_iff_eq]at nyes;rw[nyes];decide
 have ndec:((⟨#[97,100,101,99]⟩:ByteArray).toList==[100,101,99])=false:=by rw[beq_eq_false_iff_ne];rw[beq_iff_eq]at nyes;rw[nyes];decide
 obtain⟨res,hres⟩:∃r,r=qas qbi [a,k]:=⟨_,rfl⟩;rw[←hres];have HRES:=hdzz hres;clear hres;simp only[Tm.val,Tm.kind,Tm.name,Tm.sort,Tm.kids,qbi,List.length_cons,List.length_nil,Nat.zero_add,Nat.reduceAdd];have hiff:fitD qbi [a,k]↔(a.isA qcf∧(kidT a.kids 1).isA nPk∧kidT (kidT a.kids 1).kids 0=k):=⟨fun h=>by
  rcases h with⟨h,h2⟩|⟨h,h2⟩|⟨h,h2⟩|⟨h,h2⟩|⟨h,h2⟩|⟨h,h2⟩
  all_goals first|exact h2|exact absurd h (by decide),fun h=>by unfold fitD;exact .inr (.inr (.inr (.inl ⟨rfl,h⟩)))⟩
 go_enter Tryz.func104,Tryz.ntmps104
 go_wp2_with fail
 rw[←HV.out];clear HV a0 a1 a2 a3 d0 d1 d2 d3 nyes nfst nsnd ndec;by_cases hf:a.isA qcf
 ·have hdec:decide (a.isA qcf)=true:=decide_eq_true hf;have hal:a.kids.length=2:=(hka.num hf).2.1 (by decide);have hku:=ArT.kidl hka.kids 1;by_cases hg:(kidT a.kids 1).isA nPk
  ·skip
   refine qae (fun Y=>Below V.drew.heap.size V.drew Y) (fun _=>True) [] (.held 0 (.op 1 (.held 2 (.held 3 (.held 4 (.held 5 (.held 6 (.op 7 (.held 8 (.held 9 (.held 10 (.held 11 (.held 12 (.held 13 (.held 14 (.held 15 (.held 16 (.held 17 (.op 18 (.held 19 (.held 20 .nil))))))))))))))))))))) mixed (by kernel_rfl) ?_;have DBD:=hdzz (DB.out.go (Below.refl _ _).drew);clear DB;generalize V.drew=D at *;have hszD:=DBD.out.size;obtain⟨ya0,ya1,ya2,ya3,yaf⟩:=qaa DBD.out.b3;obtain⟨yk0,yk1,yk2,yk3,ykf⟩:=qaa DBD.out.b4;obtain⟨kb,ko,Ar,cr,hke,hklt,k0,k1,k2,k3,kr⟩:=qau DBD.out.ra 1 (by omega);have hklt:=hPb _ hklt;rw[Nat.one_mul]at k0 k1 k2 k3;subst hke;rw[hal]at ya3;have husz:=qg3 (i:=1) hsa;obtain⟨u,hu⟩:∃u,u=kidT a.kids 1:=⟨_,rfl⟩;rw[←hu]at k0 k1 k2 k3 kr hiff husz hku hg;have HU:=hdzz hu;clear hu
   have HAL:=hdzz hal;clear hal;have hul:u.kids.length=1:=(hku.num hg).2.2 (by decide);obtain⟨vb,vo,Av,cv,hme,hmlt,m0,m1,m2,m3,mr⟩:=qau kr 0 (by omega);have hmlt:=hPb _ hmlt;rw[Nat.zero_mul,Nat.add_zero]at m0 m1 m2 m3;subst hme;have hvsz:=qg3 (i:=0) husz;obtain⟨v,hv⟩:∃v,v=kidT u.kids 0:=⟨_,rfl⟩;rw[←hv]at m0 m1 m2 m3 mr hiff hvsz;have HVV:=hdzz hv;have HUL:=hdzz hul;rw[hul]at k3;have HKR:=hdzz mr;have hgd:decide (u.isA nPk)=true:=decide_eq_true hg;obtain⟨z,hz⟩:∃z,z=v.same k:=⟨_,rfl⟩;clear hv hul mr kr;refine stkz (.agg #[.int .i64 a.kind,.string a.name,.int .i64 a.sort,.slice (some ⟨kb,ko,none⟩) 2 ca]) rfl rfl rfl (fun _ _ _ h=>h) (Below.refl _ _) (fun Y hY=>by
     have z0:=sclz hY ya0 (by omega);have z1:=sclz hY ya1 (by omega);have z2:=sclz hY ya2 (by omega);have z3:=sclz hY ya3 (by omega)
     (try simp only[Act.put]);go_simp) ?_
   have CN:=qce a qcf (some ⟨kb,ko,none⟩) ca D;rw[hdec]at CN;simp only[Tm.val,qcf,HAL.out]at CN;have CN:=hdzz CN;refine qar rfl rfl (fun K hK=>?_);go_wp2_with fail
   refine CN.out.mono ?_;clear CN;rintro e w5 ⟨rfl,hl5⟩;have H5:=hdzz (hl5.below);refine hK _ _ ⟨⟨fun _=>H5.out,trivial⟩,?_⟩;clear hK K hl5;refine stkz (.bool true) rfl rfl rfl (fun _ _ _ h=>h) H5.out (fun Y hY=>by
     (try simp only[Act.put]);go_simp) ?_
   refine qac (v:=.pointer (some ⟨w.heap.size+1+1,3,none⟩)) rfl (by kernel_rfl) rfl (fun _ _ _ h=>h) H5.out trivial (fun Y hY hY2=>by
     (try simp only[Act.put]);go_simp) ?_
   refine qac (v:=.slice (some ⟨kb,ko,none⟩) 2 ca) rfl (by kernel_rfl) rfl (fun _ _ _ h=>h) H5.out trivial (fun Y hY hY2=>by
     have z3:=sclz hY ya3 (by omega)
     (try simp only[Act.put]);go_simp) ?_
   refine qac (v:=.pointer (some ⟨kb,ko+4,none⟩)) rfl (by kernel_rfl) rfl (fun _ _ _ h=>h) H5.out trivial (fun Y hY hY2=>by
     (try simp only[Act.put]);go_simp) ?_
   simp only[Act.put,fsa,fsb,fsc,fsd,fse,fsf];refine qac (v:=.agg #[.int .i64 u.kind,.string u.name,.int .i64 u.sort,.slice (some ⟨vb,vo,none⟩) 1 cr]) rfl (by kernel_rfl) rfl (fun _ _ _ h=>h) H5.out trivial (fun Y hY hY2=>by
     have z0:=sclz hY k0 (by omega);have z1:=sclz hY k1 (by omega);have z2:=sclz hY k2 (by omega);have z3:=sclz hY k3 (by omega)
     (try simp only[Act.put]);go_simp) ?_
   simp only[Act.put,fsa,fsb,fsc,fsd,fse,fsf];have CN:=qce u nPk (some ⟨vb,vo,none⟩) cr w5;rw[hgd]at CN;simp only[Tm.val,nPk,HUL.out]at CN;have CN:=hdzz CN;refine qbx rfl (by kernel_rfl) (fun K hK=>?_);go_wp2_with fail
   refine CN.out.mono ?_;clear CN;rintro e w6 ⟨rfl,hl6⟩;have H6:=hdzz (H5.out.trans (hl6.below.mono (by have:=H5.out.size;omega)));refine hK _ _ ⟨⟨fun _=>H6.out,trivial⟩,?_⟩;clear hK K hl6;refine stkz (.bool true) rfl rfl rfl (fun _ _ _ h=>h) H6.out (fun Y hY=>by
     (try simp only[Act.put]);go_simp) ?_
   refine stkz (.bool true) rfl rfl rfl (fun _ _ _ h=>h) H6.out (fun Y hY=>by
     (try simp only[Act.put]);go_simp) ?_
   refine qac (v:=.pointer (some ⟨w.heap.size+1+1,3,none⟩)) rfl (by kernel_rfl) rfl (fun _ _ _ h=>h) H6.out trivial (fun Y hY hY2=>by
     (try simp only[Act.put]);go_simp) ?_
   refine qac (v:=.slice (some ⟨kb,ko,none⟩) 2 ca) rfl (by kernel_rfl) rfl (fun _ _ _ h=>h) H6.out trivial (fun Y hY hY2=>by
     have z3:=sclz hY ya3 (by omega)
     (try simp only[Act.put]);go_simp) ?_
   refine qac (v:=.pointer (some ⟨kb,ko+4,none⟩)) rfl (by kernel_rfl) rfl (fun _ _ _ h=>h) H6.out trivial (fun Y hY hY2=>by
     (try simp only[Act.put]);go_simp) ?_
   refine qac (v:=.pointer (some ⟨kb,ko+4+3,none⟩)) rfl (by kernel_rfl) rfl (fun _ _ _ h=>h) H6.out trivial (fun Y hY hY2=>by
     (try simp only[Act.put]);go_simp) ?_
   simp only[Act.put,fsa,fsb,fsc,fsd,fse,fsf];refine qac (v:=.slice (some ⟨vb,vo,none⟩) 1 cr) rfl (by kernel_rfl) rfl (fun _ _ _ h=>h) H6.out trivial (fun Y hY hY2=>by
     have z3:=sclz hY k3 (by omega)
     (try simp only[Act.put]);go_simp) ?_
   refine qac (v:=.pointer (some ⟨vb,vo,none⟩)) rfl (by kernel_rfl) rfl (fun _ _ _ h=>h) H6.out trivial (fun Y hY hY2=>by
     (try simp only[Act.put]);go_simp) ?_
   simp only[Act.put,fsa,fsb,fsc,fsd,fse,fsf];refine qac (v:=.agg #[.int .i64 v.kind,.string v.name,.int .i64 v.sort,.slice Av v.kids.length cv]) rfl (by kernel_rfl) rfl (fun _ _ _ h=>h) H6.out trivial (fun Y hY hY2=>by
     have z0:=sclz hY m0 (by omega);have z1:=sclz hY m1 (by omega);have z2:=sclz hY m2 (by omega);have z3:=sclz hY m3 (by omega)
     (try simp only[Act.put]);go_simp) ?_
   refine qac (v:=.agg #[.int .i64 k.kind,.string k.name,.int .i64 k.sort,.slice Ak k.kids.length ck]) rfl (by kernel_rfl) rfl (fun _ _ _ h=>h) H6.out trivial (fun Y hY hY2=>by
     have z0:=sclz hY yk0 (by omega);have z1:=sclz hY yk1 (by omega);have z2:=sclz hY yk2 (by omega);have z3:=sclz hY yk3 (by omega)
     (try simp only[Act.put]);go_simp) ?_
   simp only[Act.put,fsa,fsb,fsc,fsd,fse,fsf];have CN:=qh2 v k Av Ak cv ck w6 (by omega) (by omega) (RepP.mono (w:=D) (fun b (h:Pb b)=>by have:=hPb _ h;have:=H6.out.size;omega) (fun p (h:Pb p.block)=>H6.out.cell (by have:=hPb _ h;omega)) _ _ _ HKR.out) (RepP.mono (w:=D) (fun b (h:Pb b)=>by have:=hPb _ h;have:=H6.out.size;omega) (fun p (h:Pb p.block)=>H6.out.cell (by have:=hPb _ h;omega)) _ _ _ DBD.out.rk);rw[←hz]at CN;simp only[Tm.val]at CN;have CN:=hdzz CN;refine qbx rfl (by kernel_rfl) (fun K hK=>?_);go_wp2_with fail
   refine CN.out.mono ?_;clear CN;rintro e w7 ⟨rfl,hl7⟩;have H7:=hdzz (H6.out.trans (hl7.below.mono (by have:=H6.out.size;omega)));refine hK _ _ ⟨⟨fun _=>H7.out,trivial⟩,?_⟩;clear hK K hl7;refine stkz (.bool z) rfl rfl rfl (fun _ _ _ h=>h) H7.out (fun Y hY=>by
     (try simp only[Act.put]);go_simp) ?_
   refine stkz (.bool z) rfl rfl rfl (fun _ _ _ h=>h) H7.out (fun Y hY=>by
     (try simp only[Act.put]);go_simp) ?_
   refine qat ?_;simp only[Act.put,fsa,fsb,fsc,fsd,fse,fsf];have D5:=hdzz (DBD.out.go H7.out);clear H5 H6 H7 DBD ya0 ya1 ya2 ya3 yk0 yk1 yk2 yk3 k0 k1 k2 k3 m0 m1 m2 m3 HKR hgd hku;rw[HVV.out,HU.out]at hiff hz;rw[HU.out]at hg;have hal:=HAL.out;clear HU HAL HVV HUL hdec hvsz husz
   cases z with
   | true=>
    have hfit:=hiff.2 ⟨hf,hg,Tm.same_iff.1 hz.symm⟩;clear hiff hf hz hg;obtain⟨kb,ko,Ar,cr,hke,hkb,k0,k1,k2,k3,kr⟩:=qau D5.out.ra 0 (by omega);have hkb:=hPb _ hkb;rw[Nat.zero_mul,Nat.add_zero]at k0 k1 k2 k3;injection hke with hke;injection hke with e1 e2;subst e1 e2;obtain⟨y0,y1,y2,y3,yf⟩:=qaa D5.out.b3;obtain⟨z0,z1,z2,z3,zf⟩:=qaa D5.out.b2;have hsz:=D5.out.size;have hd:qas qbi [a,k]=kidT a.kids 0:=by unfold qas;rw[if_pos hfit];rfl
    have HD:=hdzz hd;have HKR:=hdzz kr;have hal2:(2:Int)=(a.kids.length:Int):=by omega
    rw[hal]at y3;obtain⟨r,hr⟩:∃r,r=kidT a.kids 0:=⟨_,rfl⟩;rw[←hr]at k0 k1 k2 k3 HKR HD;clear hd kr hr hal2 hal hfit;go_wp2_with fail
    refine bodyPost_ret (v:=r.val Ar cr) ?_ rfl ?_
    ·simp[results,Tryz.results104,go_sem,z0,z1,z2,z3,Tm.val]
    refine⟨Ar,cr,by rw[HRES.out,HD.out],?_,?_⟩
    ·rw[HRES.out,HD.out];exact RepP.mono (fun b h=>.inl h) (fun p hp=>qao (by have:=hPb _ hp;omega)) _ _ _ HKR.out
    ·iterate 4 refine Below.setCell ?_ (by show _≤w.heap.size+1;omega) _
     exact D5.out.bel
   | false=>
    have hfit:¬fitD qbi [a,k]:=fun h=>Tm.same_false.1 hz.symm (hiff.1 h).2.2;clear hiff hf hz hg hal;obtain⟨x0,x1,x2,x3,xf⟩:=qaa D5.out.b1;obtain⟨z0,z1,z2,z3,zf⟩:=qaa D5.out.b2;have hsz:=D5.out.size;have hd:qas qbi [a,k]=.mk 3 qbi 0 [a,k]:=by unfold qas;rw[if_neg hfit]
    have HD:=hdzz hd;have HKR:=hdzz D5.out.rt;clear hd hfit;simp only[Tm.kind,Tm.name,Tm.sort,Tm.kids,qbi,List.length_cons,List.length_nil,Nat.zero_add,Nat.reduceAdd]at x0 x1 x2 x3;go_wp2_with fail
    refine bodyPost_ret (v:=Tm.val (.mk 3 qbi 0 [a,k]) (some ⟨b,off,none⟩) c) ?_ rfl ?_
    ·simp[results,Tryz.results104,go_sem,z0,z1,z2,z3,Tm.val,Tm.kind,Tm.name,Tm.sort,Tm.kids,qbi]
    refine⟨some ⟨b,off,none⟩,c,by rw[HRES.out,HD.out],?_,?_⟩
    ·rw[HRES.out,HD.out];exact RepP.mono (fun b h=>.inl h) (fun p hp=>qao (by have:=hPb _ hp;omega)) _ _ _ HKR.out
    ·iterate 4 refine Below.setCell ?_ (by show _≤w.heap.size+1;omega) _
     exact D5.out.bel
  ·skip
   have hfit:¬fitD qbi [a,k]:=fun h=>hg (hiff.1 h).2.1;clear hiff;refine qae (fun Y=>Below V.drew.heap.size V.drew Y) (fun _=>True) [] (.held 0 (.op 1 (.held 2 (.held 3 (.held 4 (.held 5 (.held 6 (.op 7 (.held 8 (.held 9 (.held 10 (.held 11 (.held 12 (.held 13 (.held 14 (.held 15 (.held 16 (.held 17 (.held 18 (.held 19 (.held 20 .nil))))))))))))))))))))) mixed (by kernel_rfl) ?_;have DBD:=hdzz (DB.out.go (Below.refl _ _).drew);clear DB;generalize V.drew=D at *;have hszD:=DBD.out.size;obtain⟨ya0,ya1,ya2,ya3,yaf⟩:=qaa DBD.out.b3;obtain⟨yk0,yk1,yk2,yk3,ykf⟩:=qaa DBD.out.b4;obtain⟨kb,ko,Ar,cr,hke,hklt,k0,k1,k2,k3,kr⟩:=qau DBD.out.ra 1 (by omega);have hklt:=hPb _ hklt;rw[Nat.one_mul]at k0 k1 k2 k3;subst hke;rw[hal]at ya3;have husz:=qg3 (i:=1) hsa;obtain⟨u,hu⟩:∃u,u=kidT a.kids 1:=⟨_,rfl⟩
   rw[←hu]at k0 k1 k2 k3 kr husz hku hg;have HU:=hdzz hu;clear hu;have HAL:=hdzz hal;clear hal;have hgd:decide (u.isA nPk)=false:=decide_eq_false hg;refine stkz (.agg #[.int .i64 a.kind,.string a.name,.int .i64 a.sort,.slice (some ⟨kb,ko,none⟩) 2 ca]) rfl rfl rfl (fun _ _ _ h=>h) (Below.refl _ _) (fun Y hY=>by
     have z0:=sclz hY ya0 (by omega);have z1:=sclz hY ya1 (by omega);have z2:=sclz hY ya2 (by omega);have z3:=sclz hY ya3 (by omega)
     (try simp only[Act.put]);go_simp) ?_
   have CN:=qce a qcf (some ⟨kb,ko,none⟩) ca D;rw[hdec]at CN;simp only[Tm.val,qcf,HAL.out]at CN;have CN:=hdzz CN;refine qar rfl rfl (fun K hK=>?_);go_wp2_with fail
   refine CN.out.mono ?_;clear CN;rintro e w5 ⟨rfl,hl5⟩;have H5:=hdzz (hl5.below);refine hK _ _ ⟨⟨fun _=>H5.out,trivial⟩,?_⟩;clear hK K hl5;refine stkz (.bool true) rfl rfl rfl (fun _ _ _ h=>h) H5.out (fun Y hY=>by
     (try simp only[Act.put]);go_simp) ?_
   refine qac (v:=.pointer (some ⟨w.heap.size+1+1,3,none⟩)) rfl (by kernel_rfl) rfl (fun _ _ _ h=>h) H5.out trivial (fun Y hY hY2=>by
     (try simp only[Act.put]);go_simp) ?_
   refine qac (v:=.slice (some ⟨kb,ko,none⟩) 2 ca) rfl (by kernel_rfl) rfl (fun _ _ _ h=>h) H5.out trivial (fun Y hY hY2=>by
     have z3:=sclz hY ya3 (by omega)
     (try simp only[Act.put]);go_simp) ?_
   refine qac (v:=.pointer (some ⟨kb,ko+4,none⟩)) rfl (by kernel_rfl) rfl (fun _ _ _ h=>h) H5.out trivial (fun Y hY hY2=>by
     (try simp only[Act.put]);go_simp) ?_
   simp only[Act.put,fsa,fsb,fsc,fsd,fse,fsf];refine qac (v:=.agg #[.int .i64 u.kind,.string u.name,.int .i64 u.sort,.slice Ar u.kids.length cr]) rfl (by kernel_rfl) rfl (fun _ _ _ h=>h) H5.out trivial (fun Y hY hY2=>by
     have z0:=sclz hY k0 (by omega);have z1:=sclz hY k1 (by omega);have z2:=sclz hY k2 (by omega);have z3:=sclz hY k3 (by omega)
     (try simp only[Act.put]);go_simp) ?_
   simp only[Act.put,fsa,fsb,fsc,fsd,fse,fsf];have CN:=qce u nPk Ar cr w5;rw[hgd]at CN;simp only[Tm.val,nPk]at CN;have CN:=hdzz CN;refine qbx rfl (by kernel_rfl) (fun K hK=>?_);go_wp2_with fail
   refine CN.out.mono ?_;clear CN;rintro e w6 ⟨rfl,hl6⟩;have H6:=hdzz (H5.out.trans (hl6.below.mono (by have:=H5.out.size;omega)));refine hK _ _ ⟨⟨fun _=>H6.out,trivial⟩,?_⟩;clear hK K hl6;refine stkz (.bool false) rfl rfl rfl (fun _ _ _ h=>h) H6.out (fun Y hY=>by
     (try simp only[Act.put]);go_simp) ?_
   refine stkz (.bool false) rfl rfl rfl (fun _ _ _ h=>h) H6.out (fun Y hY=>by
     (try simp only[Act.put]);go_simp) ?_
   refine qad rfl (by kernel_rfl) rfl (fun _ _ _ h=>h) H6.out trivial ?_;refine qad rfl (by kernel_rfl) rfl (fun _ _ _ h=>h) H6.out trivial ?_;refine qad rfl (by kernel_rfl) rfl (fun _ _ _ h=>h) H6.out trivial ?_;refine qad rfl (by kernel_rfl) rfl (fun _ _ _ h=>h) H6.out trivial ?_;refine qad rfl (by kernel_rfl) rfl (fun _ _ _ h=>h) H6.out trivial ?_;refine qad rfl (by kernel_rfl) rfl (fun _ _ _ h=>h) H6.out trivial ?_;refine qad rfl (by kernel_rfl) rfl (fun _ _ _ h=>h) H6.out trivial ?_;refine qad rfl (by kernel_rfl) rfl (fun _ _ _ h=>h) H6.out trivial ?_;refine qad rfl (by kernel_rfl) rfl (fun _ _ _ h=>h) H6.out trivial ?_;simp only[Act.put,fsa,fsb,fsc,fsd,fse,fsf];refine stkz (.bool false) rfl rfl rfl (fun _ _ _ h=>h) H6.out (fun Y hY=>by
     (try simp only[Act.put]);go_simp) ?_
   refine stkz (.bool false) rfl rfl rfl (fun _ _ _ h=>h) H6.out (fun Y hY=>by
     (try simp only[Act.put]);go_simp) ?_
   refine qat ?_;simp only[Act.put,fsa,fsb,fsc,fsd,fse,fsf];have D5:=hdzz (DBD.out.go H6.out);clear H5 H6 DBD ya0 ya1 ya2 ya3 yk0 yk1 yk2 yk3 k0 k1 k2 k3 hgd hdec hku husz hf hg HU HAL kr;obtain⟨x0,x1,x2,x3,xf⟩:=qaa D5.out.b1;obtain⟨z0,z1,z2,z3,zf⟩:=qaa D5.out.b2;have hsz:=D5.out.size;have hd:qas qbi [a,k]=.mk 3 qbi 0 [a,k]:=by unfold qas;rw[if_neg hfit]
   have HD:=hdzz hd;have HKR:=hdzz D5.out.rt;clear hd hfit;simp only[Tm.kind,Tm.name,Tm.sort,Tm.kids,qbi,List.length_cons,List.length_nil,Nat.zero_add,Nat.reduceAdd]at x0 x1 x2 x3;go_wp2_with fail
   refine bodyPost_ret (v:=Tm.val (.mk 3 qbi 0 [a,k]) (some ⟨b,off,none⟩) c) ?_ rfl ?_
   ·simp[results,Tryz.results104,go_sem,z0,z1,z2,z3,Tm.val,Tm.kind,Tm.name,Tm.sort,Tm.kids,qbi]
   refine⟨some ⟨b,off,none⟩,c,by rw[HRES.out,HD.out],?_,?_⟩
   ·rw[HRES.out,HD.out];exact RepP.mono (fun b h=>.inl h) (fun p hp=>qao (by have:=hPb _ hp;omega)) _ _ _ HKR.out
   ·iterate 4 refine Below.setCell ?_ (by show _≤w.heap.size+1;omega) _
    exact D5.out.bel
 ·have hdec:decide (a.isA qcf)=false:=decide_eq_false hf;have hfit:¬fitD qbi [a,k]:=fun h=>hf (hiff.1 h).1;clear hiff hf;refine qae (fun Y=>Below V.drew.heap.size V.drew Y) (fun _=>True) [] (.held 0 (.op 1 (.held 2 (.held 3 (.held 4 (.held 5 (.held 6 (.held 7 (.held 8 (.held 9 (.held 10 (.held 11 (.held 12 (.held 13 (.held 14 (.held 15 (.held 16 (.held 17 (.held 18 (.held 19 (.held 20 .nil))))))))))))))))))))) mixed (by kernel_rfl) ?_;have DBD:=hdzz (DB.out.go (Below.refl _ _).drew);clear DB;generalize V.drew=D at *;have hszD:=DBD.out.size;obtain⟨ya0,ya1,ya2,ya3,yaf⟩:=qaa DBD.out.b3;obtain⟨yk0,yk1,yk2,yk3,ykf⟩:=qaa DBD.out.b4;refine stkz (.agg #[.int .i64 a.kind,.string a.name,.int .i64 a.sort,.slice Aa a.kids.length ca]) rfl rfl rfl (fun _ _ _ h=>h) (Below.refl _ _) (fun Y hY=>by
    have z0:=sclz hY ya0 (by omega);have z1:=sclz hY ya1 (by omega);have z2:=sclz hY ya2 (by omega);have z3:=sclz hY ya3 (by omega)
    (try simp only[Act.put]);go_simp) ?_
  have CN:=qce a qcf Aa ca D;rw[hdec]at CN;simp only[Tm.val,qcf]at CN;have CN:=hdzz CN;refine qar rfl rfl (fun K hK=>?_);go_wp2_with fail
  refine CN.out.mono ?_;clear CN;rintro e w5 ⟨rfl,hl5⟩;have H5:=hdzz (hl5.below);refine hK _ _ ⟨⟨fun _=>H5.out,trivial⟩,?_⟩;clear hK K hl5;refine stkz (.bool false) rfl rfl rfl (fun _ _ _ h=>h) H5.out (fun Y hY=>by
    (try simp only[Act.put]);go_simp) ?_
  refine qad rfl (by kernel_rfl) rfl (fun _ _ _ h=>h) H5.out trivial ?_;refine qad rfl (by kernel_rfl) rfl (fun _ _ _ h=>h) H5.out trivial ?_;refine qad rfl (by kernel_rfl) rfl (fun _ _ _ h=>h) H5.out trivial ?_;refine qad rfl (by kernel_rfl) rfl (fun _ _ _ h=>h) H5.out trivial ?_;refine qad rfl (by kernel_rfl) rfl (fun _ _ _ h=>h) H5.out trivial ?_;simp only[Act.put,fsa,fsb,fsc,fsd,fse,fsf];refine stkz (.bool false) rfl rfl rfl (fun _ _ _ h=>h) H5.out (fun Y hY=>by
    (try simp only[Act.put]);go_simp) ?_
  refine stkz (.bool false) rfl rfl rfl (fun _ _ _ h=>h) H5.out (fun Y hY=>by
    (try simp only[Act.put]);go_simp) ?_
  refine qad rfl (by kernel_rfl) rfl (fun _ _ _ h=>h) H5.out trivial ?_;refine qad rfl (by kernel_rfl) rfl (fun _ _ _ h=>h) H5.out trivial ?_;refine qad rfl (by kernel_rfl) rfl (fun _ _ _ h=>h) H5.out trivial ?_;refine qad rfl (by kernel_rfl) rfl (fun _ _ _ h=>h) H5.out trivial ?_;refine qad rfl (by kernel_rfl) rfl (fun _ _ _ h=>h) H5.out trivial ?_;refine qad rfl (by kernel_rfl) rfl (fun _ _ _ h=>h) H5.out trivial ?_;refine qad rfl (by kernel_rfl) rfl (fun _ _ _ h=>h) H5.out trivial ?_;refine qad rfl (by kernel_rfl) rfl (fun _ _ _ h=>h) H5.out trivial ?_;refine qad rfl (by kernel_rfl) rfl (fun _ _ _ h=>h) H5.out trivial ?_;simp only[Act.put,fsa,fsb,fsc,fsd,fse,fsf];refine stkz (.bool false) rfl rfl rfl (fun _ _ _ h=>h) H5.out (fun Y hY=>by
    (try simp only[Act.put]);go_simp) ?_
  refine stkz (.bool false) rfl rfl rfl (fun _ _ _ h=>h) H5.out (fun Y hY=>by
    (try simp only[Act.put]);go_simp) ?_
  refine qat ?_;simp only[Act.put,fsa,fsb,fsc,fsd,fse,fsf];have D5:=hdzz (DBD.out.go H5.out);clear H5 DBD ya0 ya1 ya2 ya3 yk0 yk1 yk2 yk3 hdec;obtain⟨x0,x1,x2,x3,xf⟩:=qaa D5.out.b1;obtain⟨z0,z1,z2,z3,zf⟩:=qaa D5.out.b2;have hsz:=D5.out.size;have hd:qas qbi [a,k]=.mk 3 qbi 0 [a,k]:=by unfold qas;rw[if_neg hfit]
  have HD:=hdzz hd;have HKR:=hdzz D5.out.rt;clear hd hfit;simp only[Tm.kind,Tm.name,Tm.sort,Tm.kids,qbi,List.length_cons,List.length_nil,Nat.zero_add,Nat.reduceAdd]at x0 x1 x2 x3;go_wp2_with fail
  refine bodyPost_ret (v:=Tm.val (.mk 3 qbi 0 [a,k]) (some ⟨b,off,none⟩) c) ?_ rfl ?_
  ·simp[results,Tryz.results104,go_sem,z0,z1,z2,z3,Tm.val,Tm.kind,Tm.name,Tm.sort,Tm.kids,qbi]
  refine⟨some ⟨b,off,none⟩,c,by rw[HRES.out,HD.out],?_,?_⟩
  ·rw[HRES.out,HD.out];exact RepP.mono (fun b h=>.inl h) (fun p hp=>qao (by have:=hPb _ hp;omega)) _ _ _ HKR.out
  ·iterate 4 refine Below.setCell ?_ (by show _≤w.heap.size+1;omega) _
   exact D5.out.bel
end Go.Proofs.YtjhjoiplpmjepaaGreat
