/- Tradd6, Trcol, Troper, Trval (joined by shake.py). -/
import Derived.Test.YtjhjoiplpmjepaaGreatL0
import Derived.Test.YtjhjoiplpmjepaaGreatL7
import Derived.Test.YtjhjoiplpmjepaaGreatL8
import Derived.Test.YtjhjoiplpmjepaaGreatL9
import Derived.Test.YtjhjoiplpmjepaaGreatL10
import Derived.Test.YtjhjoiplpmjepaaGreatL11
import Derived.Test.YtjhjoiplpmjepaaGreatL12
import Derived.Deep.Cut
set_option maxRecDepth 100000
set_option linter.unusedVariables false
set_option linter.unusedSimpArgs false
set_option maxHeartbeats 8000000
namespace Go.Proofs.YtjhjoiplpmjepaaGreat
open Go.RowKit Go.Sort
theorem RowW.addP {w:World} {base:Nat} {P:Nat→Prop} {v:Value} {its:List IW} (hrow:RowW w base P v its) (hP:∀b,P b→b<base) (hbase:base≤w.heap.size) (X:IW) (hX:RepP w P X.1.1 X.1.2.1 X.1.2.2) (hlen:its.length+1≤100000000) :
  ∃v' w',(∀ty,(Builtin.append_ #[129,129] ty #[v,.slice (some ⟨w.heap.size,0,none⟩) 1 1]).run Tryz.prog (w.alloc (.cells #[.int .i64 X.1.1.kind,.string X.1.1.name,.int .i64 X.1.1.sort,.slice X.1.2.1 X.1.1.kids.length X.1.2.2,.int .i64 X.2] 163))=.ok v' w')∧
   RowW w' base P v' (its++[X])∧(∀W0 B0,Below B0 W0 w→B0≤base→Below B0 W0 w')∧w.heap.size≤w'.heap.size:=by
 obtain⟨g,c',w',h1,h2,h3,_,h5,_⟩:=hrow.more1 hbase X (RepP.mono (fun b h=>by
  have:=hP b h;exact⟨h,by omega,fun e=>by have:=(hrow.lt b e).1;omega⟩) (fun _ _=>rfl) _ _ _ hX) hlen
 exact⟨_,w',h1,h2,h3,h5⟩
def LstW (P:Nat→Prop) (l:List Pw) (w:World) (e:Ending) (w':World):Prop:=
 ∃A c,e=.returned (.slice A l.length c)∧RepW w' (fun b=>P b∨w.heap.size≤b∧b<w'.heap.size) l A c∧Below w.heap.size w w'
theorem qkk (l:List Pw) (t:Tm) (n:Int) (A At:Option Addr) (c ct:Nat) (w:World) (P:Nat→Prop) (hP:∀b,P b→b<w.heap.size) (hlen:l.length≤40000) (hsz:∀p∈l,p.1.size≤1000000) (ht:t.size≤1000000)
  (hbd:∀p∈l,p.2≠0∧-1000000000≤p.2∧p.2≤1000000000) (hn:-1000000000≤n∧n≤1000000000) (hrep:RepW w P l A c) (hrt:RepP w P t At ct) :
  Calls Tryz.prog 147 #[.slice A l.length c,t.val At ct,.int .i64 n] w (LstW P (addL t n false l) w):=by
 have mixed:=mixz;obtain⟨res,hres⟩:∃r,r=addL t n false l:=⟨_,rfl⟩;rw[←hres];obtain⟨V,hV⟩:∃V,V=w.alloc (.cells #[.int .i64 t.kind,.string t.name,.int .i64 t.sort,.slice At t.kids.length ct] 24):=⟨_,rfl⟩;have hbV:Below w.heap.size w V:=by rw[hV];exact qad (Nat.le_refl _) _
 have hsV:V.heap.size=w.heap.size+1:=by rw[hV];simp
 have hbx:V.heap[w.heap.size]?=some (.cells #[.int .i64 t.kind,.string t.name,.int .i64 t.sort,.slice At t.kids.length ct] 24 (0,0)):=by rw[hV];exact heap_alloc_new _ _
 obtain⟨nl,hnl⟩:∃k,k=l.length:=⟨_,rfl⟩;rw[←hnl]at hlen ⊢;have hlI:(nl:Int)≤40000:=by omega
 have HNL:=hdzz hnl;have HRES:=hdzz hres;have HBV:=hdzz hbV;have HSV:=hdzz hsV;have HBX:=hdzz hbx;have HSZ:=hdzz hsz;have HBD:=hdzz hbd;have HREP:=hdzz hrep;have HRT:=hdzz hrt;have HP:=hdzz hP;have HV:=hdzz hV;obtain⟨n1,n2⟩:=hn;clear hres hbV hsV hbx hsz hbd hrep hrt hV hP hnl;simp only[Tm.val];go_enter Tryz.func147,Tryz.ntmps147
 go_wp2_with fail
 rw[←HV.out];clear HV;go_loopw [7,8,9] (fun v dv i wr=>∃(k:Nat) (d:Bool) (its:List IW),k≤nl∧i=.int .i64 k∧dv=.bool d∧Hid (its.length≤2*k)∧Hid (RowW wr (w.heap.size+1) P v its)∧
   Hid (its.map IW.pw++addL t n d (l.drop k)=res)∧Hid (Below (w.heap.size+1) V wr))
  (fun _ _ i _=>nl - (intOf i).toNat)
 case atStart=>exact⟨0,false,[],Nat.zero_le _,rfl,rfl,Nat.zero_le _,RowW.nil _ _ _,HRES.out.symm,by rw[←HSV.out];exact Below.refl _ _⟩
 case round=>
  obtain⟨k,d,its,hk,rfl,rfl,HIL,HR,HC,HB⟩:=hrel;have i1:(0:Int)≤(k:Int):=Int.natCast_nonneg _;have hsr:=HB.out.size;have HBW:Hid (Below w.heap.size w wr):=HBV.out.trans (HB.out.mono (by omega));have HSW:Hid (w.heap.size+1≤wr.heap.size):=by have:=HSV.out;exact(by omega:w.heap.size+1≤wr.heap.size)
  have HBXR:=hdzz ((HB.out.block w.heap.size (by omega)).trans HBX.out);clear hsr;by_cases hlt:k<nl
  ·have i2:(k:Int)<(nl:Int):=by omega
   have hkl:k<l.length:=by have:=HNL.out;omega
   obtain⟨b,off,rfl,hbB,hget⟩:=(HREP.out.mono (w':=wr) (P':=P) (fun _ h=>h) (fun p hp=>HBW.out.cell (HP.out _ hp))).get (fun e=>by rw[e]at hkl;simp at hkl);obtain⟨A1,c1,h0,h1,h2,h3,h4,h5⟩:=hget k hkl;have hqs:=HSZ.out l[k] (List.getElem_mem hkl);have hqb:=HBD.out l[k] (List.getElem_mem hkl);have hdr:=addL_drop t n d l hkl;obtain⟨x,hx⟩:∃x,x=l[k]:=⟨_,rfl⟩;rw[←hx]at h0 h1 h2 h3 h4 h5 hqs hqb hdr;clear hx hget;obtain⟨u,m⟩:=x;dsimp only at h0 h1 h2 h3 h4 h5 hqs hqb hdr;obtain⟨m0,m1,m2⟩:=hqb;have hbs:b<w.heap.size:=HP.out b hbB;have CK:Hid (∀X,Below wr.heap.size wr X→Calls Tryz.prog 69 #[t.val At ct,u.val A1 c1] X fun e w'=>e=.returned (.int .i64 (t.cmp u))∧Lay X.heap.size X w'):=hdzz fun X hX=>
    have hb:Below w.heap.size w X:=HBW.out.trans (hX.mono (by have:=HSW.out;omega))
    qdx 1000000 t u At A1 ct c1 X ht (Nat.le_refl _) hqs (RepP.mono (fun b h=>by have:=HP.out b h;have:=hb.size;show b<_;omega) (fun p hp=>hb.cell (HP.out _ hp)) _ _ _ HRT.out)
     (RepP.mono (fun b h=>by have:=HP.out b h;have:=hb.size;show b<_;omega) (fun p hp=>hX.cell (by have:=HP.out _ hp;have:=HSW.out;omega)) _ _ _ h5)
   have hu:=Tm.cmp_unit t u;obtain⟨q,hq⟩:∃q,q=t.cmp u:=⟨_,rfl⟩;rw[←hq]at CK hu hdr;clear hq;simp only[Tm.val]at CK;have HDR:=hdzz hdr;have H5:=hdzz h5;have hcl:∀bb,bb<wr.heap.size→∀n os o,(grow (wr.drewN n) os).cell? ⟨bb,o,none⟩=wr.cell? ⟨bb,o,none⟩:=fun bb hbb n os o=>(Lay.of_grow (w:=wr) n os).below.cell (by exact hbb);have hbr:b<wr.heap.size:=by have:=HSW.out;omega
   have hwr:w.heap.size<wr.heap.size:=by have:=HSW.out;omega
   obtain⟨d0,d1,d2,d3,-⟩:=qaa HBXR.out;have p0:=fun n os=>(hcl b hbr n os _).trans h0;have p1:=fun n os=>(hcl b hbr n os _).trans h1;have p2:=fun n os=>(hcl b hbr n os _).trans h2;have p3:=fun n os=>(hcl b hbr n os _).trans h3;have p4:=fun n os=>(hcl b hbr n os _).trans h4;have y0:=fun n os=>(hcl _ hwr n os _).trans d0;have y1:=fun n os=>(hcl _ hwr n os _).trans d1;have y2:=fun n os=>(hcl _ hwr n os _).trans d2;have y3:=fun n os=>(hcl _ hwr n os _).trans d3;have HZ:Hid (∀nq osq,Below wr.heap.size wr (grow (wr.drewN nq) osq)):=hdzz fun nq osq=>(Lay.of_grow _ _).below;clear hcl hbr hwr hdr h5 d0 d1 d2 d3 h0 h1 h2 h3 h4;have hcase:(d=false∧q = -1)∨(q=0∧(d=false∨d=true))∨((d=true∧q = -1)∨(d=false∧q=1)∨(d=true∧q=1)):=by
    cases d
    ·rcases hu with h|h|h<;>simp[h]
    ·rcases hu with h|h|h<;>simp[h]
   clear hu;rcases hcase with⟨rfl,rfl⟩|⟨rfl,hd⟩|hd
   ·go_wp2_with fail
    go_quiet_grown ((go_at_call 69;exact qak (CK.out _ (Lay.of_grow _ _).below)))
    have HZZ:=hdzz (HZ.out nq osq);have s0:=p0 nq osq;have s1:=p1 nq osq;have s2:=p2 nq osq;have s3:=p3 nq osq;have s4:=p4 nq osq;have z0:=y0 nq osq;have z1:=y1 nq osq;have z2:=y2 nq osq;have z3:=y3 nq osq;clear HZ CK p0 p1 p2 p3 p4 y0 y1 y2 y3;generalize grow (wr.drewN nq) osq=Z at *;have hzs:=HZZ.out.size;have HRZ:=hdzz (HR.out.below HZZ.out);have HUZ:Hid (RepP Z P u A1 c1):=hdzz (RepP.mono (fun _ h=>h) (fun p hp=>HZZ.out.cell (by have:=HP.out _ hp;have:=HSW.out;omega)) _ _ _ H5.out);have HBZ:Hid (Below (w.heap.size+1) V Z):=hdzz (HB.out.trans (HZZ.out.mono HSW.out));have HSZZ:Hid (w.heap.size+1≤Z.heap.size):=hdzz (by have:=HSW.out;exact(by omega:w.heap.size+1≤Z.heap.size))
    have HTZ:Hid (RepP Z P t At ct):=hdzz (RepP.mono (fun _ h=>h) (fun p hp=>(HZZ.out.cell (by have:=HP.out _ hp;have:=HSW.out;omega)).trans (HBW.out.cell (HP.out _ hp))) _ _ _ HRT.out);clear hzs;obtain⟨v1,w1,hap1,hr1,hbel1,hs1⟩:=HRZ.out.addP (fun b h=>by have:=HP.out b h;omega) (by have:=HSZZ.out;omega) ((t,At,ct),n) HTZ.out (by have:=HIL.out;omega);have HB1:=hdzz (hbel1 V _ HBZ.out (Nat.le_refl _));have hbz1:=hbel1 Z (w.heap.size+1) (Below.refl _ _) (Nat.le_refl _);have HS1:Hid (w.heap.size+1≤w1.heap.size):=hdzz (by have:=HSZZ.out;omega);have HU1:Hid (RepP w1 P u A1 c1):=hdzz (RepP.mono (fun _ h=>h) (fun p hp=>hbz1.cell (by have:=HP.out _ hp;omega)) _ _ _ HUZ.out);have e0:=sclz hbz1 s0 (by omega);have e1:=sclz hbz1 s1 (by omega);have e2:=sclz hbz1 s2 (by omega);have e3:=sclz hbz1 s3 (by omega)
    have e4:=sclz hbz1 s4 (by omega);have HR1:=hdzz hr1;clear hr1 hbel1 hbz1 hs1;obtain⟨X,hX⟩:∃X,X=w1.alloc (.cells #[.int .i64 u.kind,.string u.name,.int .i64 u.sort,.slice A1 u.kids.length c1,.int .i64 m] 163):=⟨_,rfl⟩;have hbX:Below w1.heap.size w1 X:=by rw[hX];exact qad (Nat.le_refl _) _
    have hsX:w1.heap.size<X.heap.size:=by rw[hX];simp
    have hxX:X.heap[w1.heap.size]?=some (.cells #[.int .i64 u.kind,.string u.name,.int .i64 u.sort,.slice A1 u.kids.length c1,.int .i64 m] 163 (0,0)):=by rw[hX];exact heap_alloc_new _ _
    obtain⟨x0,x1,x2,x3,x4,xf⟩:=qcd hxX;have HX:=hdzz hX;obtain⟨v2,w2,hap2,hr2,hbel2,hs2⟩:=(HR1.out.below hbX).addP (fun b h=>by have:=HP.out b h;omega) (by have:=HS1.out;omega) ((u,A1,c1),m) (RepP.mono (fun _ h=>h) (fun p hp=>hbX.cell (by have:=HP.out _ hp;have:=HS1.out;omega)) _ _ _ HU1.out) (by have:=HIL.out;simp only[List.length_append,List.length_singleton];omega);have HR2:=hdzz hr2;have HB2:=hdzz (hbel2 V _ (HB1.out.trans (hbX.mono HS1.out)) (Nat.le_refl _));clear hr2 hbel2 hs2 hbX hxX hsX hX;have q0:(m != 0)=true:=by simp[m0]
    have q1:(m==0)=false:=by simp[m0]
    have HM0:=hdzz m0;clear m0;simp only at hap1 hap2;go_upto_region 10 with(at_builtin;refine qab rfl _ _ rfl rfl rfl hap1 ?_)
    clear s0 s1 s2 s3 s4 z0 z1 z2 z3 hap1;go_upto_region 14 with fail
    rw[←HX.out];clear HX e0 e1 e2 e3 e4;go_wp2_with (at_builtin;refine qab rfl _ _ rfl rfl rfl hap2 ?_)
    go_roundw
    case rel=>
     refine⟨k+1,true,_,by omega,by go_num,rfl,by have:=HIL.out;simp[Hid];omega,HR2.out,?_,HB2.out⟩;have h:=HC.out;rw[HDR.out]at h;rw[←h];simp[Hid,IW.pw,HM0.out]
    case measure=>simp[intOf];omega
   ·obtain⟨mn,hmn0⟩:∃x,x=m+n:=⟨_,rfl⟩;have hw:IntKind.i64.wrap (m+n)=mn:=by rw[IntKind.wrap_i64];omega
    have HE:Hid (addL t n d (l.drop k)=(if mn≠0 then [(u,mn)]else [])++addL t n true (l.drop (k+1))):=hdzz (by rw[HDR.out,hmn0];simp);clear m1 m2 n1 n2 HDR m0 hmn0;rcases hd with rfl|rfl
    all_goals
     by_cases hmn:mn=0
     ·subst hmn;go_wp2_with fail
      go_quiet_grown ((go_at_call 69;exact qak (CK.out _ (Lay.of_grow _ _).below)))
      have HZZ:=hdzz (HZ.out nq osq);have s0:=p0 nq osq;have s1:=p1 nq osq;have s2:=p2 nq osq;have s3:=p3 nq osq;have s4:=p4 nq osq;have z0:=y0 nq osq;have z1:=y1 nq osq;have z2:=y2 nq osq;have z3:=y3 nq osq;clear HZ CK p0 p1 p2 p3 p4 y0 y1 y2 y3;generalize grow (wr.drewN nq) osq=Z at *;have hzs:=HZZ.out.size;have HRZ:=hdzz (HR.out.below HZZ.out);have HUZ:Hid (RepP Z P u A1 c1):=hdzz (RepP.mono (fun _ h=>h) (fun p hp=>HZZ.out.cell (by have:=HP.out _ hp;have:=HSW.out;omega)) _ _ _ H5.out);have HBZ:Hid (Below (w.heap.size+1) V Z):=hdzz (HB.out.trans (HZZ.out.mono HSW.out));have HSZZ:Hid (w.heap.size+1≤Z.heap.size):=hdzz (by have:=HSW.out;exact(by omega:w.heap.size+1≤Z.heap.size))
      have HTZ:Hid (RepP Z P t At ct):=hdzz (RepP.mono (fun _ h=>h) (fun p hp=>(HZZ.out.cell (by have:=HP.out _ hp;have:=HSW.out;omega)).trans (HBW.out.cell (HP.out _ hp))) _ _ _ HRT.out);clear hzs;obtain⟨X,hX⟩:∃X,X=Z.alloc (.cells #[.int .i64 u.kind,.string u.name,.int .i64 u.sort,.slice A1 u.kids.length c1,.int .i64 0] 163):=⟨_,rfl⟩;have hbX:Below Z.heap.size Z X:=by rw[hX];exact qad (Nat.le_refl _) _
      have hsX:Z.heap.size<X.heap.size:=by rw[hX];simp
      have hxX:X.heap[Z.heap.size]?=some (.cells #[.int .i64 u.kind,.string u.name,.int .i64 u.sort,.slice A1 u.kids.length c1,.int .i64 0] 163 (0,0)):=by rw[hX];exact heap_alloc_new _ _
      obtain⟨x0,x1,x2,x3,x4,xf⟩:=qcd hxX;have HX:=hdzz hX;have HB2:=hdzz (HBZ.out.trans (hbX.mono HSZZ.out));have HR2:=hdzz (HRZ.out.below hbX);clear hbX hxX hsX hX;go_upto_region 14 with fail
      rw[←HX.out];clear HX s0 s1 s2 s3 s4 z0 z1 z2 z3;go_wp2_with fail
      go_roundw
      case rel=>exact⟨k+1,true,its,by omega,by go_num,rfl,(by have:=HIL.out;show its.length≤2*(k+1);omega),HR2.out,(by have h:=HC.out;rw[HE.out,if_neg (by simp),List.nil_append]at h;exact h),HB2.out⟩
      case measure=>simp[intOf];omega
     ·have q0:(mn != 0)=true:=by simp[hmn]
      have q1:(mn==0)=false:=by simp[hmn]
      have HM0:=hdzz hmn;clear hmn;go_wp2_with fail
      go_quiet_grown ((go_at_call 69;exact qak (CK.out _ (Lay.of_grow _ _).below)))
      have HZZ:=hdzz (HZ.out nq osq);have s0:=p0 nq osq;have s1:=p1 nq osq;have s2:=p2 nq osq;have s3:=p3 nq osq;have s4:=p4 nq osq;have z0:=y0 nq osq;have z1:=y1 nq osq;have z2:=y2 nq osq;have z3:=y3 nq osq;clear HZ CK p0 p1 p2 p3 p4 y0 y1 y2 y3;generalize grow (wr.drewN nq) osq=Z at *;have hzs:=HZZ.out.size;have HRZ:=hdzz (HR.out.below HZZ.out);have HUZ:Hid (RepP Z P u A1 c1):=hdzz (RepP.mono (fun _ h=>h) (fun p hp=>HZZ.out.cell (by have:=HP.out _ hp;have:=HSW.out;omega)) _ _ _ H5.out);have HBZ:Hid (Below (w.heap.size+1) V Z):=hdzz (HB.out.trans (HZZ.out.mono HSW.out));have HSZZ:Hid (w.heap.size+1≤Z.heap.size):=hdzz (by have:=HSW.out;exact(by omega:w.heap.size+1≤Z.heap.size))
      have HTZ:Hid (RepP Z P t At ct):=hdzz (RepP.mono (fun _ h=>h) (fun p hp=>(HZZ.out.cell (by have:=HP.out _ hp;have:=HSW.out;omega)).trans (HBW.out.cell (HP.out _ hp))) _ _ _ HRT.out);clear hzs;obtain⟨X,hX⟩:∃X,X=Z.alloc (.cells #[.int .i64 u.kind,.string u.name,.int .i64 u.sort,.slice A1 u.kids.length c1,.int .i64 mn] 163):=⟨_,rfl⟩;have hbX:Below Z.heap.size Z X:=by rw[hX];exact qad (Nat.le_refl _) _
      have hsX:Z.heap.size<X.heap.size:=by rw[hX];simp
      have hxX:X.heap[Z.heap.size]?=some (.cells #[.int .i64 u.kind,.string u.name,.int .i64 u.sort,.slice A1 u.kids.length c1,.int .i64 mn] 163 (0,0)):=by rw[hX];exact heap_alloc_new _ _
      obtain⟨x0,x1,x2,x3,x4,xf⟩:=qcd hxX;have HX:=hdzz hX;obtain⟨v2,w2,hap2,hr2,hbel2,hs2⟩:=(HRZ.out.below hbX).addP (fun b h=>by have:=HP.out b h;omega) (by have:=HSZZ.out;omega) ((u,A1,c1),mn) (RepP.mono (fun _ h=>h) (fun p hp=>hbX.cell (by have:=HP.out _ hp;have:=HSZZ.out;omega)) _ _ _ HUZ.out) (by have:=HIL.out;omega);have HR2:=hdzz hr2;have HB2:=hdzz (hbel2 V _ (HBZ.out.trans (hbX.mono HSZZ.out)) (Nat.le_refl _));clear hr2 hbel2 hs2 hbX hxX hsX hX;simp only at hap2;go_upto_region 14 with fail
      rw[←HX.out];clear HX s0 s1 s2 s3 s4 z0 z1 z2 z3;go_wp2_with (at_builtin;refine qab rfl _ _ rfl rfl rfl hap2 ?_)
      go_roundw
      case rel=>exact⟨k+1,true,_,by omega,by go_num,rfl,(by have:=HIL.out;simp[Hid];omega),HR2.out,(by have h:=HC.out;rw[HE.out,if_pos HM0.out,←List.append_assoc]at h;rw[List.map_append];exact h),HB2.out⟩
      case measure=>simp[intOf];omega
   ·rcases hd with⟨rfl,rfl⟩|⟨rfl,rfl⟩|⟨rfl,rfl⟩
    all_goals
     go_wp2_with fail
     go_quiet_grown ((go_at_call 69;exact qak (CK.out _ (Lay.of_grow _ _).below)))
     have HZZ:=hdzz (HZ.out nq osq);have s0:=p0 nq osq;have s1:=p1 nq osq;have s2:=p2 nq osq;have s3:=p3 nq osq;have s4:=p4 nq osq;have z0:=y0 nq osq;have z1:=y1 nq osq;have z2:=y2 nq osq;have z3:=y3 nq osq;clear HZ CK p0 p1 p2 p3 p4 y0 y1 y2 y3;generalize grow (wr.drewN nq) osq=Z at *;have hzs:=HZZ.out.size;have HRZ:=hdzz (HR.out.below HZZ.out);have HUZ:Hid (RepP Z P u A1 c1):=hdzz (RepP.mono (fun _ h=>h) (fun p hp=>HZZ.out.cell (by have:=HP.out _ hp;have:=HSW.out;omega)) _ _ _ H5.out);have HBZ:Hid (Below (w.heap.size+1) V Z):=hdzz (HB.out.trans (HZZ.out.mono HSW.out));have HSZZ:Hid (w.heap.size+1≤Z.heap.size):=hdzz (by have:=HSW.out;exact(by omega:w.heap.size+1≤Z.heap.size))
     have HTZ:Hid (RepP Z P t At ct):=hdzz (RepP.mono (fun _ h=>h) (fun p hp=>(HZZ.out.cell (by have:=HP.out _ hp;have:=HSW.out;omega)).trans (HBW.out.cell (HP.out _ hp))) _ _ _ HRT.out);clear hzs;obtain⟨X,hX⟩:∃X,X=Z.alloc (.cells #[.int .i64 u.kind,.string u.name,.int .i64 u.sort,.slice A1 u.kids.length c1,.int .i64 m] 163):=⟨_,rfl⟩;have hbX:Below Z.heap.size Z X:=by rw[hX];exact qad (Nat.le_refl _) _
     have hsX:Z.heap.size<X.heap.size:=by rw[hX];simp
     have hxX:X.heap[Z.heap.size]?=some (.cells #[.int .i64 u.kind,.string u.name,.int .i64 u.sort,.slice A1 u.kids.length c1,.int .i64 m] 163 (0,0)):=by rw[hX];exact heap_alloc_new _ _
     obtain⟨x0,x1,x2,x3,x4,xf⟩:=qcd hxX;have HX:=hdzz hX;obtain⟨v2,w2,hap2,hr2,hbel2,hs2⟩:=(HRZ.out.below hbX).addP (fun b h=>by have:=HP.out b h;omega) (by have:=HSZZ.out;omega) ((u,A1,c1),m) (RepP.mono (fun _ h=>h) (fun p hp=>hbX.cell (by have:=HP.out _ hp;have:=HSZZ.out;omega)) _ _ _ HUZ.out) (by have:=HIL.out;omega);have HR2:=hdzz hr2;have HB2:=hdzz (hbel2 V _ (HBZ.out.trans (hbX.mono HSZZ.out)) (Nat.le_refl _));clear hr2 hbel2 hs2 hbX hxX hsX hX;have q0:(m != 0)=true:=by simp[m0]
     have q1:(m==0)=false:=by simp[m0]
     have HM0:=hdzz m0;clear m0;simp only at hap2;go_upto_region 14 with fail
     rw[←HX.out];clear HX s0 s1 s2 s3 s4 z0 z1 z2 z3;go_wp2_with (at_builtin;refine qab rfl _ _ rfl rfl rfl hap2 ?_)
     go_roundw
     case rel=>
      refine⟨k+1,_,_,by omega,by go_num,rfl,by have:=HIL.out;simp[Hid];omega,HR2.out,?_,HB2.out⟩;have h:=HC.out;rw[HDR.out]at h;rw[←h];simp[Hid,IW.pw,HM0.out]
     case measure=>simp[intOf];omega
  ·obtain rfl:k=nl:=by omega
   have hd:addL t n d (l.drop k)=if d=true then []else [(t,n)]:=by rw[HNL.out,addL_end]
   have HD:=hdzz hd;clear hd
   cases d with
   | true=>
    have hm:its.map IW.pw=res:=by have h:=HC.out;rw[HD.out]at h;simpa using h
    obtain⟨A2,c2,rfl,hW⟩:=HR.out.toW (P:=fun b=>P b∨w.heap.size≤b∧b<wr.heap.size) (fun b h _=>.inl h) (fun b h=>.inr ⟨by have:=(HR.out.lt b h).1;omega,(HR.out.lt b h).2⟩);rw[hm]at hW;have hjl:its.length=res.length:=by rw[←hm];simp
    rw[hjl];have HW:=hdzz hW;clear hm hW hjl;go_wp2_with fail
    go_ret
    exact⟨A2,c2,rfl,HW.out,HBW.out⟩
   | false=>
    obtain⟨d0,d1,d2,d3,-⟩:=qaa HBXR.out;obtain⟨v2,w2,hap2,hr2,hbel2,hs2⟩:=HR.out.addP (fun b h=>by have:=HP.out b h;omega) (by have:=HSW.out;omega) ((t,At,ct),n) (RepP.mono (fun _ h=>h) (fun p hp=>HBW.out.cell (HP.out _ hp)) _ _ _ HRT.out) (by have:=HIL.out;omega);have hb2:=hbel2 w w.heap.size HBW.out (by omega);have hm:(its++[((t,At,ct),n)]).map IW.pw=res:=by have h:=HC.out;rw[HD.out]at h;rw[List.map_append];simpa[IW.pw]using h
    obtain⟨A2,c2,rfl,hW⟩:=hr2.toW (P:=fun b=>P b∨w.heap.size≤b∧b<w2.heap.size) (fun b h _=>.inl h) (fun b h=>.inr ⟨by have:=(hr2.lt b h).1;omega,(hr2.lt b h).2⟩);rw[hm]at hW;have hjl:(its++[((t,At,ct),n)]).length=res.length:=by rw[←hm,List.length_map]
    rw[hjl]at hap2;have HW:=hdzz hW;have HB2:=hdzz hb2;simp only at hap2;clear hm hW hjl hr2 hbel2 hs2 hb2;go_wp2_with (at_builtin;refine qab rfl _ _ rfl rfl rfl hap2 ?_)
    go_ret
    exact⟨A2,c2,rfl,HW.out,HB2.out⟩
theorem arBs_drop (l:List Tm) {k:Nat} (h:k<l.length):Tm.arBs (l.drop k)=(l[k].arB && Tm.arBs (l.drop (k+1))):=by
 rw[List.drop_eq_getElem_cons h,Tm.arBs]
theorem arB_leaf {t:Tm} (h:¬t.sym):t.arB=true:=by obtain⟨k,n,s,l⟩:=t;rw[Tm.arB,if_neg h]
theorem arB_node {k s:Int} {n:ByteArray} {l:List Tm} (h:(Tm.mk k n s l).sym):(Tm.mk k n s l).arB=(decide (arE n l.length) && Tm.arBs l):=by rw[Tm.arB,if_pos h]
theorem arE_cases {n:ByteArray} (hn:n=nMul∨n=nInv∨n=nOne) (m:Nat) :
  ((n.toList==[109,117,108])=true∧(n.toList==[105,110,118])=false∧(n.toList==[111,110,101])=false∧decide ((m:Int)<2) = !decide (arE n m))∨
  ((n.toList==[109,117,108])=false∧(n.toList==[105,110,118])=true∧(n.toList==[111,110,101])=false∧((m:Int) != 1) = !decide (arE n m))∨
  ((n.toList==[109,117,108])=false∧(n.toList==[105,110,118])=false∧(n.toList==[111,110,101])=true∧((m:Int) != 0) = !decide (arE n m)):=by
 have N1:=qat (n:=n) (c:=nMul) (L:=[109,117,108]) rfl;have N2:=qat (n:=n) (c:=nInv) (L:=[105,110,118]) rfl;have N3:=qat (n:=n) (c:=nOne) (L:=[111,110,101]) rfl;rcases hn with h|h|h
 ·have h1:=N1.1 h;refine .inl ⟨h1,qa4 h1 (by decide),qa4 h1 (by decide),?_⟩;have e:arE n m↔2≤m:=⟨fun a=>a.1 h,fun a=>⟨fun _=>a,fun e=>by rw[h]at e;exact absurd e (by decide),fun e=>by rw[h]at e;exact absurd e (by decide)⟩⟩;rw[decide_eq_decide.2 e,←decide_not];exact decide_eq_decide.2 (by omega)
 ·have h1:=N2.1 h;refine .inr (.inl ⟨qa4 h1 (by decide),h1,qa4 h1 (by decide),?_⟩);have e:arE n m↔m=1:=⟨fun a=>a.2.1 h,fun a=>⟨fun e=>by rw[h]at e;exact absurd e (by decide),fun _=>a,fun e=>by rw[h]at e;exact absurd e (by decide)⟩⟩;rw[show decide (arE n m)=decide (m=1)from decide_eq_decide.2 e,Bool.eq_iff_iff];simp;omega
 ·have h1:=N3.1 h;refine .inr (.inr ⟨qa4 h1 (by decide),qa4 h1 (by decide),h1,?_⟩);have e:arE n m↔m=0:=⟨fun a=>a.2.2 h,fun a=>⟨fun e=>by rw[h]at e;exact absurd e (by decide),fun e=>by rw[h]at e;exact absurd e (by decide),fun _=>a⟩⟩;rw[show decide (arE n m)=decide (m=0)from decide_eq_decide.2 e,Bool.eq_iff_iff];simp
theorem qm7 (n:Nat):∀(t:Tm) (A:Option Addr) (c:Nat) (w:World),t.size≤n→n≤1000000→RepT w w.heap.size t A c→
  Calls Tryz.prog 143 #[t.val A c] w fun e w'=>e=.returned (.bool t.arB)∧Below w.heap.size w w':=by
 induction n with
 | zero=>intro t _ _ _ h;have:=t.size_pos;omega
 | succ n ih=>
  intro t A c w hn hb hrep;obtain⟨tk,tn,ts,l⟩:=t;obtain⟨V,hV⟩:∃V,V=w.alloc (.cells #[.int .i64 tk,.string tn,.int .i64 ts,.slice A l.length c] 24):=⟨_,rfl⟩;have hbV:Below w.heap.size w V:=by rw[hV];exact qad (Nat.le_refl _) _
  have hsV:V.heap.size=w.heap.size+1:=by rw[hV];simp
  have hbx:V.heap[w.heap.size]?=some (.cells #[.int .i64 tk,.string tn,.int .i64 ts,.slice A l.length c] 24 (0,0)):=by rw[hV];exact heap_alloc_new _ _
  have SY:=qer (.mk tk tn ts l) A c V;obtain⟨r0,r1,r2,r3,rf⟩:=qaa hbx;have HV:=hdzz hV;have HBX:=hdzz hbx;have HBV:=hdzz hbV;have HSV:=hdzz hsV;clear hV hbx hbV hsV;obtain⟨r,hr⟩:∃r,r=(Tm.mk tk tn ts l).arB:=⟨_,rfl⟩;rw[←hr];by_cases hs:(Tm.mk tk tn ts l).sym
  case neg=>
   rw[arB_leaf hs]at hr;subst hr;rw[decide_eq_false hs]at SY;simp only[Tm.val,Tm.kind,Tm.name,Tm.sort,Tm.kids]at SY ⊢;have SY:=hdzz SY;clear ih hrep hs;go_enter Tryz.func143,Tryz.ntmps143
   go_wp2_with fail
   rw[←HV.out];clear HV;go_wp2_with fail
   refine SY.out.mono ?_;clear SY r0 r1 r2 r3 rf;rintro e w1 ⟨rfl,hl1⟩;have HB1:=hdzz (HBV.out.trans (hl1.below.mono (by have:=HSV.out;omega)));clear hl1;go_wp2_with fail
   go_ret
   exact⟨rfl,HB1.out⟩
  rw[arB_node hs]at hr;rw[decide_eq_true hs]at SY;have hcs:=arE_cases (n:=tn) hs.2 l.length;generalize hga:decide (arE tn l.length)=ga at hr hcs;clear hga;have hlen:(l.length:Int)≤1000000:=by have:=Tm.length_le_sizes l;rw[Tm.size]at hn;omega
  rw[qbh]at hrep;obtain⟨hr1,hr2,hr3,hr4⟩:=hrep;rw[Tm.size]at hn;simp only[Tm.val,Tm.kind,Tm.name,Tm.sort,Tm.kids]at SY ⊢;have SY:=hdzz SY;have IH:=hdzz ih;have HR:=hdzz hr;clear ih hr hs
  cases ga with
  | false=>
   have hr:r=false:=HR.out;subst hr;clear IH HR;rcases hcs with⟨q1,q2,q3,q4⟩|⟨q1,q2,q3,q4⟩|⟨q1,q2,q3,q4⟩
   all_goals
    have q4:=q4.trans (show(!false)=true from rfl);go_enter Tryz.func143,Tryz.ntmps143
    go_wp2_with fail
    rw[←HV.out];go_wp2_with fail
    refine SY.out.mono ?_;clear SY r0 r1 r2 r3 rf;rintro e w1 ⟨rfl,hl1⟩;have HB1:=hdzz (HBV.out.trans (hl1.below.mono (by have:=HSV.out;omega)));obtain⟨r0,r1,r2,r3,rf⟩:=qaa ((hl1.below.block _ (by have:=HSV.out;omega)).trans HBX.out);clear hl1;go_wp2_with fail
    go_ret
    exact⟨rfl,HB1.out⟩
  | true=>
   have HRR:Hid (Tm.arBs l=r):=hdzz (by have h:=HR.out;rw[Bool.true_and]at h;exact h.symm);clear HR;rcases hcs with⟨q1,q2,q3,q4⟩|⟨q1,q2,q3,q4⟩|⟨q1,q2,q3,q4⟩
   all_goals
    have q4:=q4.trans (show(!true)=false from rfl);go_enter Tryz.func143,Tryz.ntmps143
    go_wp2_with fail
    rw[←HV.out];go_wp2_with fail
    refine SY.out.mono ?_;clear SY r0 r1 r2 r3 rf;rintro e w1 ⟨rfl,hl1⟩;have HB1:=hdzz hl1.below;obtain⟨r0,r1,r2,r3,rf⟩:=qaa ((hl1.below.block _ (by have:=HSV.out;omega)).trans HBX.out);clear hl1;go_wp2_with fail
    clear r0 r1 r2 r3 rf q4;go_loopw [4] (fun i wr=>∃k:Nat,k≤l.length∧i=.int .i64 k∧Hid (Below V.heap.size V wr)∧Hid (Tm.arBs (l.drop k)=r)) (fun i _=>l.length - (intOf i).toNat)
    case atStart=>exact⟨0,Nat.zero_le _,rfl,HB1.out,HRR.out⟩
    case round=>
     obtain⟨k,hk,rfl,HB,HF⟩:=hrel;have i1:(0:Int)≤(k:Int):=Int.natCast_nonneg _;have hsr:=HB.out.size;have HBR:=hdzz (HBV.out.trans (HB.out.mono (by have:=HSV.out;omega)));obtain⟨r0,r1,r2,r3,rf⟩:=qaa ((HB.out.block _ (by have:=HSV.out;omega)).trans HBX.out);by_cases hlt:k<l.length
     ·have i2:(k:Int)<(l.length:Int):=by omega
      rcases hr4 with rfl|⟨b,off,rfl,hbB,hl⟩
      ·simp at hlt
      obtain⟨A',cap',h0,h1,h2,h3,h5⟩:=(hl.below HBR.out hbB).get k hlt;have hsg:=Tm.sizes_get l k hlt;have hf:=HF.out;rw[arBs_drop l hlt]at hf;have CON:=IH.out l[k] A' cap' wr (by omega) (by omega) (RepP.mono (fun b (h:b<w.heap.size)=>by have:=HBR.out.size;omega) (fun _ _=>rfl) _ _ _ h5);clear h5 hl;obtain⟨x,hx⟩:∃x,x=l[k]:=⟨_,rfl⟩;rw[←hx]at h0 h1 h2 h3 hf CON;clear hx;obtain⟨y,hy⟩:∃y,y=x.arB:=⟨_,rfl⟩;rw[←hy]at hf CON;clear hy;simp only[Tm.val]at CON;have CON:=hdzz CON;have HF2:=hdzz hf;clear hf HF;go_wp2_with fail
      refine CON.out.mono ?_;clear CON h0 h1 h2 h3 r0 r1 r2 r3 rf;rintro e w5 ⟨rfl,hb5⟩;have HB5:=hdzz (HB.out.trans (hb5.mono hsr));clear hb5
      cases y with
      | true=>
       have HF3:Hid (Tm.arBs (l.drop (k+1))=r):=hdzz ((Bool.true_and _).symm.trans HF2.out);go_wp2_with fail
       go_roundw
       case rel=>exact⟨k+1,by omega,by go_num,HB5.out,HF3.out⟩
       case measure=>simp[intOf];omega
      | false=>
       have hr:false=r:=(Bool.false_and _).symm.trans HF2.out;subst hr;clear HF2;go_wp2_with fail
       go_ret
       exact⟨rfl,HBV.out.trans (HB5.out.mono (by have:=HSV.out;omega))⟩
     ·obtain rfl:k=l.length:=by omega
      have hr:true=r:=by have h:=HF.out;rw[List.drop_length]at h;exact h
      subst hr;go_wp2_with fail
      go_ret
      exact⟨rfl,HBR.out⟩
theorem qki (n:Nat):∀(t:Tm) (A Al:Option Addr) (c cl:Nat) (w:World) (l0:List Pw) (sg:Int) (M L:Nat) (P:Nat→Prop),t.size≤n→n≤10000→(∀b,P b→b<w.heap.size)→RepP w P t A c→RepW w P l0 Al cl→
  qbj l0→BdP M L l0→M+t.size≤10000000→L+t.size≤40000→(sg=1∨sg = -1)→
  Calls Tryz.prog 144 #[.slice Al l0.length cl,t.val A c,.int .i64 sg] w (LstW P (colP t sg l0) w):=by
 induction n with
 | zero=>intro t _ _ _ _ _ _ _ _ _ _ h;have:=t.size_pos;omega
 | succ n ih=>
  intro t A Al c cl w l0 sg M L P hn hb hP hrep hrow hg hbd hM hL hsg;obtain⟨tk,tn,ts,l⟩:=t;have htsz:(Tm.mk tk tn ts l).size≤1000000:=by omega
  obtain⟨V,hV⟩:∃V,V=w.alloc (.cells #[.int .i64 tk,.string tn,.int .i64 ts,.slice A l.length c] 24):=⟨_,rfl⟩;have hbV:Below w.heap.size w V:=by rw[hV];exact qad (Nat.le_refl _) _
  have hsV:V.heap.size=w.heap.size+1:=by rw[hV];simp
  have hbx:V.heap[w.heap.size]?=some (.cells #[.int .i64 tk,.string tn,.int .i64 ts,.slice A l.length c] 24 (0,0)):=by rw[hV];exact heap_alloc_new _ _
  have SY:=qer (.mk tk tn ts l) A c V;obtain⟨r0,r1,r2,r3,rf⟩:=qaa hbx;have HV:=hdzz hV;have HBX:=hdzz hbx;have HBV:=hdzz hbV;have HSV:=hdzz hsV;clear hV hbx hbV hsV;obtain⟨res,hres⟩:∃r,r=colP (.mk tk tn ts l) sg l0:=⟨_,rfl⟩;rw[←hres];obtain⟨n0,hn0⟩:∃k,k=l0.length:=⟨_,rfl⟩;by_cases hs:(Tm.mk tk tn ts l).sym
  case neg=>
   rw[col_leaf hs,←qh7 _ _ _ hg]at hres;rw[decide_eq_false hs]at SY;have IN:Hid (∀X,Below V.heap.size V X→Calls Tryz.prog 147 #[.slice Al n0 cl,(Tm.mk tk tn ts l).val A c,.int .i64 sg] X (LstW P res X)):=hdzz fun X hX=>by
    have hWX:=HBV.out.trans (hX.mono (by have:=HSV.out;omega));have hXs:=hX.size;have h:=qkk l0 (.mk tk tn ts l) sg Al A cl c X P (fun b h=>by have:=hP b h;have:=HSV.out;omega) (by have:=hbd.1;omega) (fun p hp=>(hbd.2 p hp).1) htsz (fun p hp=>⟨hg.2 p hp,by have:=(hbd.2 p hp).2;omega⟩) (by omega)
     (hrow.mono (fun _ h=>h) (fun p hp=>hWX.cell (hP _ hp))) (RepP.mono (fun _ h=>h) (fun p hp=>hWX.cell (hP _ hp)) _ _ _ hrep)
    rw[←hres,←hn0]at h;exact h
   rw[←hn0];simp only[Tm.val,Tm.kind,Tm.name,Tm.sort,Tm.kids]at SY IN ⊢;have SY:=hdzz SY;have HP:=hdzz hP;clear hres hrow hg hbd ih hrep hP hn0;go_enter Tryz.func144,Tryz.ntmps144
   go_wp2_with fail
   rw[←HV.out];clear HV;go_wp2_with fail
   refine SY.out.mono ?_;clear SY r0 r1 r2 r3 rf;rintro e w1 ⟨rfl,hl1⟩;obtain⟨r0,r1,r2,r3,rf⟩:=qaa ((hl1.below.block _ (by have:=HSV.out;omega)).trans HBX.out);have IN:=hdzz (IN.out w1 hl1.below);have HB1:=hdzz (HBV.out.trans (hl1.below.mono (by have:=HSV.out;omega)));clear hl1;go_wp2_with fail
   refine IN.out.mono ?_;clear IN;rintro e w2 ⟨A2,c2,rfl,hr2,hb2⟩;have hs1:=HB1.out.size;have HRES:Hid (LstW P res w (.returned (.slice A2 res.length c2)) w2):=hdzz ⟨A2,c2,rfl,hr2.mono (fun b h=>h.imp id fun h=>⟨by omega,h.2⟩) (fun _ _=>rfl),HB1.out.trans (hb2.mono hs1)⟩;clear hr2 hb2 r0 r1 r2 r3 rf;go_wp2_with fail
   go_ret
   exact HRES.out
  rw[col_sym hs]at hres;rw[decide_eq_true hs]at SY;obtain⟨sg',hsg'⟩:∃s,s=if tn=nInv then -sg else sg:=⟨_,rfl⟩
  rw[←hsg']at hres;have hsg2:sg'=1∨sg' = -1:=by rw[hsg'];split<;>omega
  have N2:=qat (n:=tn) (c:=nInv) (L:=[105,110,118]) rfl;have hcase:((tn.toList==[105,110,118])=false∧sg'=sg)∨((tn.toList==[105,110,118])=true∧IntKind.i64.wrap (-sg)=sg'):=by
   by_cases h:tn=nInv
   ·exact .inr ⟨N2.1 h,by rw[hsg',if_pos h,IntKind.wrap_i64];omega⟩
   ·exact .inl ⟨by rw[←Bool.not_eq_true];exact fun e=>h (N2.2 e),by rw[hsg',if_neg h]⟩
  have hlen:(l.length:Int)≤1000000:=by have:=Tm.length_le_sizes l;rw[Tm.size]at htsz;omega
  have hrepL:RepS w P l A c:=by rw[RepP_mk]at hrep;exact hrep.2
  rw[Tm.size]at hn hM hL;rw[←hn0];simp only[Tm.val,Tm.kind,Tm.name,Tm.sort,Tm.kids]at SY ⊢;have SY:=hdzz SY;have HRES:=hdzz hres;have IH:=hdzz ih;have HROW:=hdzz hrow;have HG:=hdzz hg;have HBD:=hdzz hbd;have HS2:=hdzz hsg2;have HSG:=hdzz hsg;have HRL:=hdzz hrepL;have HP:=hdzz hP;have HN0:=hdzz hn0;clear hres ih hrow hg hbd hsg2 hsg hrepL hP hn0 hsg' N2 hs hrep;rcases hcase with⟨q2,q5⟩|⟨q2,q5⟩
  case' inl=>subst q5
  all_goals
   go_enter Tryz.func144,Tryz.ntmps144
   go_wp2_with fail
   rw[←HV.out];go_wp2_with fail
   refine SY.out.mono ?_;clear SY r0 r1 r2 r3 rf;rintro e w1 ⟨rfl,hl1⟩;obtain⟨r0,r1,r2,r3,rf⟩:=qaa ((hl1.below.block _ (by have:=HSV.out;omega)).trans HBX.out);have HB1:=hdzz hl1.below;clear hl1;go_wp2_with fail
   clear r0 r1 r2 r3 rf
   (try clear q5)
   go_loopw [0,7] (fun u0 i wr=>∃(k:Nat) (L':List Pw) (A':Option Addr) (c' m:Nat),k≤l.length∧i=.int .i64 k∧u0=.slice A' m c'∧Hid (m=L'.length)∧Hid (RepW wr (fun b=>P b∨w.heap.size≤b∧b<wr.heap.size) L' A' c')∧Hid (qbj L')∧
    Hid (BdP (M+Tm.sizes (l.take k)) (L+Tm.sizes (l.take k)) L')∧Hid (qdt (l.drop k) sg' L'=res)∧Hid (Below V.heap.size V wr)) (fun _ i _=>l.length - (intOf i).toNat)
   case atStart=>exact⟨0,l0,Al,cl,n0,Nat.zero_le _,rfl,rfl,HN0.out,HROW.out.mono (fun _ h=>.inl h) (fun p hp=>((HBV.out.trans (HB1.out.mono (by have:=HSV.out;omega))).cell (HP.out _ hp))),HG.out,HBD.out,HRES.out.symm,HB1.out⟩
   case round=>
    obtain⟨k,L',A',c',m,hk,rfl,rfl,HM,HR,HG,HBD,HC,HB⟩:=hrel;have i1:(0:Int)≤(k:Int):=Int.natCast_nonneg _;have hsr:=HB.out.size;have HBR:=hdzz (HBV.out.trans (HB.out.mono (by have:=HSV.out;omega)));obtain⟨r0,r1,r2,r3,rf⟩:=qaa ((HB.out.block _ (by have:=HSV.out;omega)).trans HBX.out);by_cases hlt:k<l.length
    ·have i2:(k:Int)<(l.length:Int):=by omega
     obtain⟨b,off,rfl,hbB,hl⟩:∃b off,A=some ⟨b,off,none⟩∧P b∧RepLP w P l b off:=by
      rcases HRL.out.2.2 with h|h
      ·rw[h]at hlt;simp at hlt
      ·exact h
     obtain⟨A1,c1,h0,h1,h2,h3,h5⟩:=RepLP.get (RepLP.mono (w':=wr) (P':=P) (fun _ h=>h) (fun p hp=>HBR.out.cell (HP.out _ hp)) _ _ _ hbB hl) k hlt;have hbs:b<w.heap.size:=HP.out b hbB;have hsg:=Tm.sizes_get l k hlt;have hst:=Tm.sizes_take_succ l k hlt;have hstl:=Tm.sizes_take_le l (k+1);have hco:=HC.out;rw[qky l sg' L' hlt]at hco;have hws:=HSV.out;have CON:=IH.out l[k] A1 A' c1 c' wr L' sg' (M+Tm.sizes (l.take k)) (L+Tm.sizes (l.take k)) (fun b=>P b∨w.heap.size≤b∧b<wr.heap.size) (by omega) (by omega) (fun b h=>h.elim (fun h=>by have:=HP.out b h;omega) (fun h=>h.2)) (RepP.mono (fun _ h=>.inl h) (fun _ _=>rfl) _ _ _ h5) HR.out HG.out HBD.out (by omega) (by omega) HS2.out;have hng:qbj (colP l[k] sg' L'):=qhg l[k] (by have:=HS2.out;omega) HG.out
     have hnb:BdP (M+Tm.sizes (l.take (k+1))) (L+Tm.sizes (l.take (k+1))) (colP l[k] sg' L'):=by
      rw[hst,←Nat.add_assoc,←Nat.add_assoc];exact BdP.col l[k] (by omega) HS2.out HBD.out
     rw[←HM.out]at CON;obtain⟨x,hx⟩:∃x,x=l[k]:=⟨_,rfl⟩;rw[←hx]at h0 h1 h2 h3 CON hco hng hnb;clear hx h5 hl hst hstl hsg;simp only[Tm.val]at CON;obtain⟨L2,hL2⟩:∃L2,L2=colP x sg' L':=⟨_,rfl⟩;rw[←hL2]at CON hco hng hnb;have CON:=hdzz CON;have HC2:=hdzz hco;have HG2:=hdzz hng;have HBD2:=hdzz hnb;clear hL2 hco hng hnb HR HG HBD HC HM;go_wp2_with fail
     refine CON.out.mono ?_;clear CON h0 h1 h2 h3 r0 r1 r2 r3 rf;rintro e w5 ⟨A5,c5,rfl,hr5,hb5⟩;have HB5:=hdzz (HB.out.trans (hb5.mono hsr));have HR5:Hid (RepW w5 (fun b=>P b∨w.heap.size≤b∧b<w5.heap.size) L2 A5 c5):=hdzz (hr5.mono (fun b h=>by
      have:=hb5.size;rcases h with(h|h)|h
      ·exact .inl h
      ·exact .inr ⟨h.1,by omega⟩
      ·exact .inr ⟨by omega,h.2⟩) (fun _ _=>rfl))
     clear hb5 hr5;go_wp2_with fail
     go_roundw
     case rel=>exact⟨k+1,L2,A5,c5,_,by omega,by go_num,rfl,rfl,HR5.out,HG2.out,HBD2.out,HC2.out,HB5.out⟩
     case measure=>simp[intOf];omega
    ·obtain rfl:k=l.length:=by omega
     have hr:L'=res:=by have h:=HC.out;rw[List.drop_length]at h;exact h
     subst hr;have hm:=HM.out;subst hm;go_wp2_with fail
     go_ret
     exact⟨A',c',rfl,HR.out,HBR.out⟩
def EoW (ok:Prop) (P:Nat→Prop) (l:List Pw) (w:World) (e:Ending) (w':World):Prop:=
 (∃k:Int,k≠0∧e=.returned (.tuple #[.slice none 0 0,.int .i64 k])∧Below w.heap.size w w')∨
 (ok∧∃A c,e=.returned (.tuple #[.slice A l.length c,.int .i64 0])∧RepW w' (fun b=>P b∨w.heap.size≤b∧b<w'.heap.size) l A c∧Below w.heap.size w w')
theorem qlf (t:Tm) (A:Option Addr) (c:Nat) (w:World) (P:Nat→Prop) (hP:∀b,P b→b<w.heap.size) (hsz:t.size≤1000000) (hrep:RepP w P t A c):Calls Tryz.prog 118 #[t.val A c] w (EoW (OfOK t) P (ofT t) w):=by
 obtain⟨V,hV⟩:∃V,V=w.alloc (qag t A c):=⟨_,rfl⟩;have hbV:Below w.heap.size w V:=by rw[hV];exact qad (Nat.le_refl _) _
 have hsV:V.heap.size=w.heap.size+1:=by rw[hV];simp
 have hbx:V.heap[w.heap.size]?=some (qag t A c):=by rw[hV];exact heap_alloc_new _ _
 have hrt:∀X,Below V.heap.size V X→RepP X P t A c:=fun X hX=>RepP.mono (fun _ h=>h) (fun p hp=>(hbV.trans (hX.mono (by omega))).cell (hP _ hp)) _ _ _ hrep;have hlt:∀X,Below V.heap.size V X→RepT X X.heap.size t A c:=fun X hX=>RepP.mono (fun b h=>by have:=hP b h;have:=hX.size;show b<_;omega) (fun _ _=>rfl) _ _ _ (hrt X hX);have VA:=qbr t A c V hsz (hlt V (Below.refl _ _));have AR:Hid (∀X,Below V.heap.size V X→Calls Tryz.prog 143 #[t.val A c] X fun e w'=>e=.returned (.bool t.arB)∧Below X.heap.size X w'):=hdzz fun X hX=>
  qm7 1000000 t A c X hsz (Nat.le_refl _) (hlt X hX)
 have CO:Hid (t.size≤10000→∀X,Below V.heap.size V X→Calls Tryz.prog 144 #[.slice none 0 0,t.val A c,.int .i64 1] X (LstW P (ofT t) X)):=hdzz fun hs X hX=>
  qki 10000 t A none c 0 X [] 1 0 0 P hs (Nat.le_refl _) (fun b h=>by have:=hP b h;have:=hX.size;omega) (hrt X hX) (RepW.nil _ _) qbj.nil BdP.nil (by omega) (by omega) (.inl rfl)
 obtain⟨ok,hok⟩:∃p,p=OfOK t:=⟨_,rfl⟩;rw[←hok];have HOK:Hid (t.valid=0→t.arB=true→(ofT t).length≤200→ok):=hdzz fun h1 h2 h3=>by rw[hok];exact⟨h1,h2,h3⟩
 have HVZ:Hid (t.valid=0→t.size≤10000):=hdzz fun h=>by have:=(qap h).2.1;omega
 obtain⟨res,hres⟩:∃r,r=ofT t:=⟨_,rfl⟩;obtain⟨vl,hvl⟩:∃r,r=t.valid:=⟨_,rfl⟩;obtain⟨ab,hab⟩:∃r,r=t.arB:=⟨_,rfl⟩;rw[←hres]at CO HOK ⊢;rw[←hvl]at VA HVZ HOK;rw[←hab]at AR HOK;clear hres hvl hab hok;simp only[qag]at hV hbx;simp only[Tm.val]at VA AR CO ⊢;have VA:=hdzz VA;have HBX:=hdzz hbx;obtain⟨r0,r1,r2,r3,rf⟩:=qaa hbx;have HV:=hdzz hV;have HBV:=hdzz hbV;have HSV:=hdzz hsV;clear hV hbx hbV hrep hsV hrt hlt hP;go_enter Tryz.func118,Tryz.ntmps118
 go_wp2_with fail
 rw[←HV.out];clear HV;go_wp2_with fail
 refine VA.out.mono ?_;clear VA r0 r1 r2 r3 rf;rintro e w1 ⟨rfl,hl1⟩;have HB1:=hdzz hl1.below;have hs1:=hl1.below.size;have HWB1:=hdzz (HBV.out.trans (hl1.below.mono (by have:=HSV.out;omega)));obtain⟨r0,r1,r2,r3,rf⟩:=qaa ((hl1.below.block _ (by have:=HSV.out;omega)).trans HBX.out);clear hl1;by_cases hv:vl=0
 case neg=>
  have q:(vl==0)=false:=by rw[beq_eq_false_iff_ne];exact hv
  have q':(vl != 0)=true:=by simp[hv]
  have HNV:=hdzz hv;clear hv;go_wp2_with fail
  go_ret2
  exact .inl ⟨vl,HNV.out,rfl,HWB1.out⟩
 subst hv;have AR:=hdzz (AR.out w1 HB1.out);go_wp2_with fail
 refine AR.out.mono ?_;clear AR r0 r1 r2 r3 rf;rintro e w2 ⟨rfl,hb2⟩;have hs2:=hb2.size;have HB2:=hdzz (HB1.out.trans (hb2.mono hs1));have HWB2:=hdzz (HWB1.out.trans (hb2.mono (by have:=HSV.out;omega)));obtain⟨r0,r1,r2,r3,rf⟩:=qaa ((HB2.out.block _ (by have:=HSV.out;omega)).trans HBX.out);clear hb2 HB1 HWB1
 cases ab with
 | false=>
  go_wp2_with fail
  go_ret2
  exact .inl ⟨6,by decide,rfl,HWB2.out⟩
 | true=>
  have CO:=hdzz (CO.out (HVZ.out (by trivial)) w2 HB2.out);go_wp2_with fail
  refine CO.out.mono ?_;clear CO r0 r1 r2 r3 rf;rintro e w3 ⟨A3,c3,rfl,hr3,hb3⟩;have hwb:=HWB2.out.size;have HB3:=hdzz (HWB2.out.trans (hb3.mono hwb));have HR3:Hid (RepW w3 (fun b=>P b∨w.heap.size≤b∧b<w3.heap.size) res A3 c3):=hdzz (hr3.mono (fun b h=>h.imp id fun h=>⟨by omega,h.2⟩) (fun _ _=>rfl));clear hb3 hr3;by_cases hL:res.length≤200
  ·have hlI:¬((200:Int)<(res.length:Int)):=by omega
   go_wp2_with fail
   go_ret2
   exact .inr ⟨HOK.out (by trivial) (by trivial) hL,A3,c3,rfl,HR3.out,HB3.out⟩
  ·have hlI:((200:Int)<(res.length:Int)):=by omega
   go_wp2_with fail
   go_ret2
   exact .inl ⟨3,by decide,rfl,HB3.out⟩
theorem rep_add9 {α:Type} (x:α) (a b:Nat):List.replicate (a+b) x=List.replicate a x++List.replicate b x:=by
 induction a with
 | zero=>simp
 | succ a ih=>rw[show a+1+b=(a+b)+1 by omega,List.replicate_succ,List.replicate_succ,ih];rfl
theorem exit9 {α:Type} (X Y:List α) (x:α) (k N:Nat) (hk:k≤N) (L:List α) (hL:L=(X++List.replicate k x).take 9) (hY:Y=X++List.replicate N x) (h:k=N∨9≤L.length):L=Y.take 9:=by
 rcases h with h|h
 ·rw[hL,hY,h]
 ·subst hL hY;rw[show N=k+(N - k)by omega,rep_add9,←List.append_assoc,take_app9 _ h]
theorem next9 {α:Type} (X:List α) (x:α) (k:Nat) (L:List α) (hL:L=(X++List.replicate k x).take 9) (h:L.length<9):L++[x]=(X++List.replicate (k+1) x).take 9:=by
 subst hL;rw[rep_succ,take_one9 _ h]
theorem roper_any (l:List Pw) (A:Option Addr) (c:Nat) (w:World) (P:Nat→Prop) (hP:∀b,P b→b<w.heap.size) (hlen:l.length≤200) (hb:∀p∈l,-1000≤p.2∧p.2≤1000) (hrep:RepW w P l A c) :
  Calls Tryz.prog 146 #[.slice A l.length c] w fun e w'=>∃A' c',e=.returned (.slice A' ((posP l++negP l).take 9).length c')∧RepS w' (fun b=>P b∨w.heap.size≤b∧b<w'.heap.size) ((posP l++negP l).take 9) A' c'∧((posP l++negP l).take 9=[]→A'=none∧c'=0)∧Below w.heap.size w w':=by
 obtain⟨o,ho⟩:∃o,o=(posP l++negP l).take 9:=⟨_,rfl⟩;rw[←ho];obtain⟨nl,hnl⟩:∃k,k=l.length:=⟨_,rfl⟩;rw[←hnl]at hlen ⊢;have hlI:(nl:Int)≤200:=by omega
 have HNL:=hdzz hnl;have HO:=hdzz ho;have HBD:=hdzz hb;have HREP:=hdzz hrep;have HP:=hdzz hP;clear hnl ho hb hrep hP;go_enter Tryz.func146,Tryz.ntmps146
 go_wp2_with fail
 go_loopw [3,4] (fun v iv wr=>∃(i n:Nat) (A':Option Addr) (c':Nat) (its:List It),i≤nl∧iv=.int .i64 i∧v=.slice A' n c'∧Hid (n=its.length)∧Hid (its=[]→A'=none∧c'=0)∧Hid (RowT wr w.heap.size (fun b=>P b∨w.heap.size≤b) (.slice A' n c') its)∧Hid (its.map (·.1)=(posP (l.take i)).take 9)∧Hid (Below w.heap.size w wr)) (fun _ iv _=>nl - (intOf iv).toNat)
 case atStart=>exact⟨0,0,none,0,[],Nat.zero_le _,rfl,rfl,rfl,fun _=>⟨rfl,rfl⟩,RowT.nil _ _ _,by rw[List.take_zero];rfl,Below.refl _ _⟩
 case round=>
  obtain⟨i,n,A0,c0,its,hi,rfl,rfl,HN,HE,HR,HF,HB⟩:=hrel;have i1:(0:Int)≤(i:Int):=Int.natCast_nonneg _;obtain⟨wo,hwo⟩:∃x,x=wr:=⟨_,rfl⟩;subst hwo;by_cases hlt:i<nl
  ·have i2:(i:Int)<(nl:Int):=by omega
   have hkl:i<l.length:=by have:=HNL.out;omega
   have hqb:=HBD.out l[i] (List.getElem_mem hkl);have HTK:=hdzz (qje l hkl);obtain⟨XX,hXX⟩:∃X,X=posP (l.take i):=⟨_,rfl⟩;have HFX:Hid (its.map (·.1)=(XX++List.replicate 0 l[i].1).take 9):=hdzz (by rw[List.replicate_zero,List.append_nil,hXX];exact HF.out);obtain⟨YY,hYY⟩:∃Y,Y=posP (l.take (i+1)):=⟨_,rfl⟩;have HY:Hid (YY=XX++List.replicate (l[i].2).toNat l[i].1):=hdzz (by rw[hYY,hXX,qje l hkl]);have HYY:=hdzz hYY;obtain⟨b,off,rfl,hbB,hget⟩:=HREP.out.get (fun e=>by rw[e]at hkl;simp at hkl);obtain⟨A1,c1,h0,h1,h2,h3,h4,h5⟩:=hget i hkl;have hbs:b<w.heap.size:=HP.out b hbB;obtain⟨x,hx⟩:∃x,x=l[i]:=⟨_,rfl⟩;rw[←hx]at h0 h1 h2 h3 h4 h5 hqb HFX HY;clear hx hget hXX hYY HF HTK;obtain⟨u,m⟩:=x;dsimp only at h0 h1 h2 h3 h4 h5 hqb HFX HY;obtain⟨mb1,mb2⟩:=hqb;have H0:=hdzz h0
   have H1:=hdzz h1;have H2:=hdzz h2;have H3:=hdzz h3;have H4:=hdzz h4;have H5:=hdzz h5;clear h0 h1 h2 h3 h4 h5;go_wp2_with fail
   go_loopw [3,5] (fun v kv wr=>∃(k n:Nat) (A':Option Addr) (c':Nat) (its:List It),k≤(m).toNat∧kv=.int .i64 k∧v=.slice A' n c'∧Hid (n=its.length)∧Hid (its=[]→A'=none∧c'=0)∧Hid (RowT wr w.heap.size (fun b=>P b∨w.heap.size≤b) (.slice A' n c') its)∧Hid (its.map (·.1)=(XX++List.replicate k u).take 9)∧Hid (Below w.heap.size w wr)) (fun _ kv _=>(m).toNat - (intOf kv).toNat)
   case atStart=>exact⟨0,n,A0,c0,its,Nat.zero_le _,rfl,rfl,HN.out,HE.out,HR.out,HFX.out,HB.out⟩
   case round=>
    clear HN HE HR HFX HB;obtain⟨k,n,A0,c0,its,hk,rfl,rfl,HN,HE,HR,HF,HB⟩:=hrel;have k1:(0:Int)≤(k:Int):=Int.natCast_nonneg _;have hsr:=HB.out.size;have hn9:n≤9:=by have h:=congrArg List.length HF.out;rw[List.length_map,List.length_take]at h;have:=HN.out;omega
    have h4:=(HB.out.cell (p:=⟨b,off+i*5+4,none⟩) (by show b<_;omega)).trans H4.out;by_cases hkm:(k:Int)<m
    ·by_cases hn:n<9
     ·have hnI:(n:Int)<9:=by omega
      have d1:decide (n<9)=true:=decide_eq_true hn;have h0:=(HB.out.cell (p:=⟨b,off+i*5,none⟩) (by show b<_;omega)).trans H0.out;have h1:=(HB.out.cell (p:=⟨b,off+i*5+1,none⟩) (by show b<_;omega)).trans H1.out;have h2:=(HB.out.cell (p:=⟨b,off+i*5+2,none⟩) (by show b<_;omega)).trans H2.out;have h3:=(HB.out.cell (p:=⟨b,off+i*5+3,none⟩) (by show b<_;omega)).trans H3.out;have HRU:Hid (RepP wr P u A1 c1):=hdzz (RepP.mono (fun _ h=>h) (fun p hp=>HB.out.cell (HP.out _ hp)) _ _ _ H5.out);have HFN:=hdzz (next9 XX u k _ HF.out (by rw[List.length_map,←HN.out];exact hn));obtain⟨g,c',w2,hap,hr2,hbel2,hold2,hs2,hg2⟩:=qdo HR.out (by omega) (u,A1,c1) (RepP.mono (fun b h=>by
       have:=HP.out b h;exact⟨.inl h,by omega,fun e=>by have:=(HR.out.lt b e).1;omega⟩) (fun _ _=>rfl) _ _ _ HRU.out) (by have:=HN.out;omega)
      have HB2:=hdzz (hbel2 w w.heap.size HB.out (Nat.le_refl _));rw[←HN.out]at hap hr2;have HR2:=hdzz hr2;simp only at hap;clear hr2 hbel2 hold2 hs2 hg2 hn;go_wp2_with (at_builtin;refine qab rfl _ _ rfl rfl rfl hap ?_)
      go_roundw
      case rel=>exact⟨k+1,n+1,_,c',_,by omega,by go_num,rfl,by rw[List.length_append,←HN.out];rfl,(fun e=>by simp at e),HR2.out,by rw[List.map_append];exact HFN.out,HB2.out⟩
      case measure=>simp[intOf];omega
     ·have hnI:¬((n:Int)<9):=by omega
      have d1:decide (n<9)=false:=decide_eq_false hn;have HFN:Hid (its.map (·.1)=YY.take 9):=hdzz (exit9 XX YY u k (m).toNat hk _ HF.out HY.out (.inr (by rw[List.length_map,←HN.out];omega)));go_wp2_with fail
      go_roundw
      case rel=>exact⟨i+1,n,A0,c0,its,by omega,by go_num,rfl,HN.out,HE.out,HR.out,by rw[←HYY.out];exact HFN.out,HB.out⟩
      case measure=>simp[intOf];omega
    ·have HFN:Hid (its.map (·.1)=YY.take 9):=hdzz (exit9 XX YY u k (m).toNat hk _ HF.out HY.out (.inl (by omega)));go_wp2_with fail
     go_roundw
     case rel=>exact⟨i+1,n,A0,c0,its,by omega,by go_num,rfl,HN.out,HE.out,HR.out,by rw[←HYY.out];exact HFN.out,HB.out⟩
     case measure=>simp[intOf];omega
  ·have hin:i=nl:=by omega
   have HF:Hid (its.map (·.1)=(posP l++negP []).take 9):=hdzz (by have h:=HF.out;rw[hin,HNL.out,List.take_length]at h;rw[h];simp[negP]);clear hin;go_wp2_with fail
   go_loopw [3,6] (fun v iv wr=>∃(i n:Nat) (A':Option Addr) (c':Nat) (its:List It),i≤nl∧iv=.int .i64 i∧v=.slice A' n c'∧Hid (n=its.length)∧Hid (its=[]→A'=none∧c'=0)∧Hid (RowT wr w.heap.size (fun b=>P b∨w.heap.size≤b) (.slice A' n c') its)∧Hid (its.map (·.1)=(posP l++negP (l.take i)).take 9)∧Hid (Below w.heap.size w wr)) (fun _ iv _=>nl - (intOf iv).toNat)
   case atStart=>exact⟨0,n,A0,c0,its,Nat.zero_le _,rfl,rfl,HN.out,HE.out,HR.out,by rw[List.take_zero];exact HF.out,HB.out⟩
   case round=>
    obtain⟨i,n,A0,c0,its,hi,rfl,rfl,HN,HE,HR,HF,HB⟩:=hrel;have i1:(0:Int)≤(i:Int):=Int.natCast_nonneg _;obtain⟨wo,hwo⟩:∃x,x=wr:=⟨_,rfl⟩;subst hwo;by_cases hlt:i<nl
    ·have i2:(i:Int)<(nl:Int):=by omega
     have hkl:i<l.length:=by have:=HNL.out;omega
     have hqb:=HBD.out l[i] (List.getElem_mem hkl);have HTK:=hdzz (qjj l hkl);obtain⟨XX,hXX⟩:∃X,X=posP l++negP (l.take i):=⟨_,rfl⟩;have HFX:Hid (its.map (·.1)=(XX++List.replicate 0 (Tm.mk 3 nInv 0 [l[i].1])).take 9):=hdzz (by rw[List.replicate_zero,List.append_nil,hXX];exact HF.out);obtain⟨YY,hYY⟩:∃Y,Y=posP l++negP (l.take (i+1)):=⟨_,rfl⟩;have HY:Hid (YY=XX++List.replicate (-l[i].2).toNat (Tm.mk 3 nInv 0 [l[i].1])):=hdzz (by rw[hYY,hXX,qjj l hkl,List.append_assoc]);have HYY:=hdzz hYY;obtain⟨b,off,rfl,hbB,hget⟩:=HREP.out.get (fun e=>by rw[e]at hkl;simp at hkl);obtain⟨A1,c1,h0,h1,h2,h3,h4,h5⟩:=hget i hkl;have hbs:b<w.heap.size:=HP.out b hbB;obtain⟨x,hx⟩:∃x,x=l[i]:=⟨_,rfl⟩;rw[←hx]at h0 h1 h2 h3 h4 h5 hqb HFX HY;clear hx hget hXX hYY HF HTK;obtain⟨u,m⟩:=x
     dsimp only at h0 h1 h2 h3 h4 h5 hqb HFX HY;obtain⟨m',hm'⟩:∃k,k = -m:=⟨_,rfl⟩;have hw:IntKind.i64.wrap (-m)=m':=by rw[IntKind.wrap_i64];omega
     rw[←hm']at HY;have hqb:-1000≤m'∧m'≤1000:=by omega
     clear hm';obtain⟨mb1,mb2⟩:=hqb;have H0:=hdzz h0;have H1:=hdzz h1;have H2:=hdzz h2;have H3:=hdzz h3;have H4:=hdzz h4;have H5:=hdzz h5;clear h0 h1 h2 h3 h4 h5;go_wp2_with fail
     go_loopw [3,7] (fun v kv wr=>∃(k n:Nat) (A':Option Addr) (c':Nat) (its:List It),k≤(m').toNat∧kv=.int .i64 k∧v=.slice A' n c'∧Hid (n=its.length)∧Hid (its=[]→A'=none∧c'=0)∧Hid (RowT wr w.heap.size (fun b=>P b∨w.heap.size≤b) (.slice A' n c') its)∧Hid (its.map (·.1)=(XX++List.replicate k (Tm.mk 3 nInv 0 [u])).take 9)∧Hid (Below w.heap.size w wr)) (fun _ kv _=>(m').toNat - (intOf kv).toNat)
     case atStart=>exact⟨0,n,A0,c0,its,Nat.zero_le _,rfl,rfl,HN.out,HE.out,HR.out,HFX.out,HB.out⟩
     case round=>
      clear HN HE HR HFX HB;obtain⟨k,n,A0,c0,its,hk,rfl,rfl,HN,HE,HR,HF,HB⟩:=hrel;have k1:(0:Int)≤(k:Int):=Int.natCast_nonneg _;have hsr:=HB.out.size;have hn9:n≤9:=by have h:=congrArg List.length HF.out;rw[List.length_map,List.length_take]at h;have:=HN.out;omega
      have h4:=(HB.out.cell (p:=⟨b,off+i*5+4,none⟩) (by show b<_;omega)).trans H4.out;by_cases hkm:(k:Int)<m'
      ·by_cases hn:n<9
       ·have hnI:(n:Int)<9:=by omega
        have d1:decide (n<9)=true:=decide_eq_true hn;have h0:=(HB.out.cell (p:=⟨b,off+i*5,none⟩) (by show b<_;omega)).trans H0.out;have h1:=(HB.out.cell (p:=⟨b,off+i*5+1,none⟩) (by show b<_;omega)).trans H1.out;have h2:=(HB.out.cell (p:=⟨b,off+i*5+2,none⟩) (by show b<_;omega)).trans H2.out;have h3:=(HB.out.cell (p:=⟨b,off+i*5+3,none⟩) (by show b<_;omega)).trans H3.out;have HRU:Hid (RepP wr P u A1 c1):=hdzz (RepP.mono (fun _ h=>h) (fun p hp=>HB.out.cell (HP.out _ hp)) _ _ _ H5.out);have HFN:=hdzz (next9 XX (Tm.mk 3 nInv 0 [u]) k _ HF.out (by rw[List.length_map,←HN.out];exact hn));obtain⟨X,hX⟩:∃X,X=wr.alloc (.cells #[.int .i64 u.kind,.string u.name,.int .i64 u.sort,.slice A1 u.kids.length c1] 24):=⟨_,rfl⟩
        have hbX:Below wr.heap.size wr X:=by rw[hX];exact qad (Nat.le_refl _) _
        have hsX:X.heap.size=wr.heap.size+1:=by rw[hX];simp
        have hxX:X.heap[wr.heap.size]?=some (.cells (itCells [((u,A1,c1):It)]).toArray 24 (0,0)):=by rw[hX];exact heap_alloc_new _ _
        have hXS:RepS X (fun b=>P b∨b=wr.heap.size) [u] (some ⟨wr.heap.size,0,none⟩) 1:=by
         refine⟨Nat.le_refl _,by unfold maxLen;omega,.inr ⟨wr.heap.size,0,rfl,.inr rfl,?_⟩⟩;refine RepLP.of_its [(u,A1,c1)] _ 0 (fun j v hj=>?_) (fun x hx=>?_)
         ·rw[Nat.zero_add];unfold World.cell?;rw[hxX];simpa using hj
         ·rw[List.mem_singleton]at hx;subst hx;exact RepP.mono (fun _ h=>.inl h) (fun p hp=>hbX.cell (by have:=HP.out _ hp;omega)) _ _ _ HRU.out
        have AP:=qb5 ⟨#[105,110,118]⟩ [u] (some ⟨wr.heap.size,0,none⟩) 1 X (fun b=>P b∨b=wr.heap.size) (fun b h=>h.elim (fun h=>by have:=HP.out b h;omega) (fun h=>by omega)) (by unfold maxLen;decide) (by simp) (by simp) hXS;simp only[Tm.val,Tm.kind,Tm.name,Tm.sort,Tm.kids,List.length_singleton]at AP;have AP:=hdzz AP;have HX:=hdzz hX;have HBX:=hdzz (HB.out.trans (hbX.mono hsr));have HBXX:=hdzz hbX;have HSX:=hdzz hsX;have HRX:=hdzz (HR.out.below hbX);clear hX hbX hsX hxX hXS;go_upto_region 15 with fail
        go_wp2_with fail
        rw[←HX.out];clear HX h0 h1 h2 h3 h4;refine AP.out.mono ?_;clear AP;rintro e w5 ⟨A5,c5,rfl,hr5,hb5⟩;have hs5:=hb5.size;have hsx:=HSX.out;obtain⟨g,c',w2,hap,hr2,hbel2,hold2,hs2,hg2⟩:=qdo (HRX.out.below hb5) (by omega) (.mk 3 nInv 0 [u],A5,c5) (RepP.mono (fun b h=>by
         rcases h with(h|h)|h
         ·have:=HP.out b h;exact⟨.inl h,by omega,fun e=>by have:=(HR.out.lt b e).1;omega⟩
         ·exact⟨.inr (by omega),by omega,fun e=>by have:=(HR.out.lt b e).2;omega⟩
         ·exact⟨.inr (by omega),h.2,fun e=>by have:=(HR.out.lt b e).2;omega⟩) (fun _ _=>rfl) _ _ _ hr5) (by have:=HN.out;omega)
        have HB2:=hdzz (hbel2 w w.heap.size (HBX.out.trans (hb5.mono (by omega))) (Nat.le_refl _));rw[←HN.out]at hap hr2;have HR2:=hdzz hr2;simp only[Tm.kind,Tm.name,Tm.sort,Tm.kids,nInv,List.length_singleton]at hap;clear hr2 hbel2 hold2 hs2 hg2 hn hr5 hb5 hsx hs5;simp only[Tm.kind,Tm.name,Tm.sort,Tm.kids];go_wp2_with (at_builtin;refine qab rfl _ _ rfl rfl rfl hap ?_)
        go_roundw
        case rel=>exact⟨k+1,n+1,_,c',_,by omega,by go_num,rfl,by rw[List.length_append,←HN.out];rfl,(fun e=>by simp at e),HR2.out,by rw[List.map_append];exact HFN.out,HB2.out⟩
        case measure=>simp[intOf];omega
       ·have hnI:¬((n:Int)<9):=by omega
        have d1:decide (n<9)=false:=decide_eq_false hn;have HFN:Hid (its.map (·.1)=YY.take 9):=hdzz (exit9 XX YY (Tm.mk 3 nInv 0 [u]) k (m').toNat hk _ HF.out HY.out (.inr (by rw[List.length_map,←HN.out];omega)));go_wp2_with fail
        go_roundw
        case rel=>exact⟨i+1,n,A0,c0,its,by omega,by go_num,rfl,HN.out,HE.out,HR.out,by rw[←HYY.out];exact HFN.out,HB.out⟩
        case measure=>simp[intOf];omega
      ·have HFN:Hid (its.map (·.1)=YY.take 9):=hdzz (exit9 XX YY (Tm.mk 3 nInv 0 [u]) k (m').toNat hk _ HF.out HY.out (.inl (by omega)));go_wp2_with fail
       go_roundw
       case rel=>exact⟨i+1,n,A0,c0,its,by omega,by go_num,rfl,HN.out,HE.out,HR.out,by rw[←HYY.out];exact HFN.out,HB.out⟩
       case measure=>simp[intOf];omega
    ·have hin:i=nl:=by omega
     have HF:Hid (its.map (·.1)=o):=hdzz (by have h:=HF.out;rw[hin,HNL.out,List.take_length]at h;rw[h,HO.out]);clear hin;obtain⟨A2,c2,he,hS⟩:=HR.out.toS (P:=fun b=>P b∨w.heap.size≤b∧b<wo.heap.size) (fun b h h'=>h.imp id fun h=>⟨h,h'⟩) (fun b h h'=>.inr ⟨h,h'⟩);injection he with he1 he2 he3;subst he1 he3;have hno:n=o.length:=by rw[←HF.out,List.length_map];exact HN.out
     rw[HF.out]at hS;have HS:=hdzz hS;have HOE:Hid (o=[]→A0=none∧c0=0):=hdzz fun e=>HE.out (by have h:=HF.out;rw[e]at h;simpa using h);have HNO:=hdzz hno;clear hS hno he2 HE;go_wp2_with fail
     go_ret
     have h:=HNO.out;subst h;exact⟨A0,c0,rfl,HS.out,HOE.out,HB.out⟩
theorem qfk (l:List Pw) (A:Option Addr) (c:Nat) (w:World) (ho:Okp l) (hlen:l.length≤1000000) (hsz:∀p∈l,p.1.size≤1000000) (hrep:RepW w (fun b=>b<w.heap.size) l A c) :
  Calls Tryz.prog 145 #[.slice A l.length c] w fun e w'=>∃v:Int,e=.returned (.int .i64 v)∧(v=0→VP l)∧Below w.heap.size w w':=by
 have mixed:=mixz;obtain⟨nl,hnl⟩:∃k,k=l.length:=⟨_,rfl⟩;rw[←hnl]at hlen ⊢;have hlI:(nl:Int)≤1000000:=by omega
 by_cases hL:nl≤200
 case neg=>
  have hlI2:(200:Int)<(nl:Int):=by omega
  clear hL;go_enter Tryz.func145,Tryz.ntmps145
  go_wp2_with fail
  go_ret
  exact⟨3,rfl,fun h=>absurd h (by decide),Below.refl _ _⟩
 have hlI2:¬((200:Int)<(nl:Int)):=by omega
 have HNL:=hdzz hnl;have HO:=hdzz ho;have HSZ:=hdzz hsz;have HREP:=hdzz hrep;have HL:=hdzz hL;clear hnl ho hsz hrep hL;go_enter Tryz.func145,Tryz.ntmps145
 go_wp2_with fail
 go_loopw [3] (fun i wr=>∃(k:Nat),k≤nl∧i=.int .i64 k∧Hid (∀p∈l.take k,p.1.valid=0∧-1000≤p.2∧p.2≤1000)∧Hid (Below w.heap.size w wr)) (fun i _=>nl - (intOf i).toNat)
 case atStart=>exact⟨0,Nat.zero_le _,rfl,(by simp[Hid]),Below.refl _ _⟩
 case round=>
  obtain⟨k,hk,rfl,HA,HB⟩:=hrel;have i1:(0:Int)≤(k:Int):=Int.natCast_nonneg _;have hsr:=HB.out.size;by_cases hlt:k<nl
  ·have i2:(k:Int)<(nl:Int):=by omega
   have hkl:k<l.length:=by have:=HNL.out;omega
   obtain⟨b,off,rfl,hbB,hget⟩:=(HREP.out.mono (w':=wr) (P':=fun b=>b<w.heap.size) (fun _ h=>h) (fun p hp=>HB.out.cell hp)).get (fun e=>by rw[e]at hkl;simp at hkl);obtain⟨A1,c1,h0,h1,h2,h3,h4,h5⟩:=hget k hkl;have hqs:=HSZ.out l[k] (List.getElem_mem hkl);have hqn:=HO.out.1.2 l[k] (List.getElem_mem hkl);have hqy:=HO.out.2 l[k] (List.getElem_mem hkl);have hall:l[k].1.valid=0→-1000≤l[k].2→l[k].2≤1000→∀p∈l.take (k+1),p.1.valid=0∧-1000≤p.2∧p.2≤1000:=fun e1 e2 e3 p hp=>by
    rw[List.take_succ_eq_append_getElem hkl]at hp;rcases List.mem_append.1 hp with hp|hp
    ·exact HA.out p hp
    ·rw[List.mem_singleton.1 hp];exact⟨e1,e2,e3⟩
   have PREV:Hid (∀j (hj:j+1=k),∃(u:Tm) (A2:Option Addr) (c2:Nat) (m:Int),wr.cell? ⟨b,off+j*5,none⟩=some (.int .i64 u.kind)∧wr.cell? ⟨b,off+j*5+1,none⟩=some (.string u.name)∧wr.cell? ⟨b,off+j*5+2,none⟩=some (.int .i64 u.sort)∧wr.cell? ⟨b,off+j*5+3,none⟩=some (.slice A2 u.kids.length c2)∧RepP wr (fun b=>b<w.heap.size) u A2 c2∧u.size≤1000000∧u.cmp l[k].1<0):=hdzz fun j hj=>by
    have hjl:j<l.length:=by omega
    obtain⟨A2,c2,g0,g1,g2,g3,-,g5⟩:=hget j hjl;exact⟨l[j].1,A2,c2,0,g0,g1,g2,g3,g5,HSZ.out l[j] (List.getElem_mem hjl),good_lt HO.out.1 (by omega) hkl⟩
   obtain⟨x,hx⟩:∃x,x=l[k]:=⟨_,rfl⟩;rw[←hx]at h0 h1 h2 h3 h4 h5 hqs hqn hqy hall PREV;clear hx hget;obtain⟨u,m⟩:=x;dsimp only at h0 h1 h2 h3 h4 h5 hqs hqn hqy hall PREV;have VA:=hdzz (qbr u A1 c1 wr hqs (RepP.mono (fun b (h:b<w.heap.size)=>by omega) (fun _ _=>rfl) _ _ _ h5));have SP:Hid (∀Z,Calls Tryz.prog 172 #[u.val A1 c1] Z fun e w'=>e=.returned (.bool false)∧Lay Z.heap.size Z w'):=hdzz fun Z=>by have h:=qer u A1 c1 Z;rw[decide_eq_false hqy]at h;exact h
   obtain⟨vl,hvl⟩:∃v,v=u.valid:=⟨_,rfl⟩;rw[←hvl]at VA hall;clear hvl;have HALL:=hdzz hall;have H5:=hdzz h5;have cs:∀(j:Nat) (v:Value) (Z:World),Below wr.heap.size wr Z→wr.cell? ⟨b,off+j,none⟩=some v→Z.cell? ⟨b,off+j,none⟩=some v:=fun j v Z hZ h=>(hZ.cell (by show b<_;omega)).trans h;have CS:=hdzz cs;simp only[Tm.val]at VA SP;clear hall h5 cs hqy;go_wp2_with fail
   refine VA.out.mono ?_;clear VA;rintro e w1 ⟨rfl,hl1⟩;have HB1:=hdzz hl1.below;have f0:=CS.out _ _ _ HB1.out h0;have f1:=CS.out (k*5+1) _ _ HB1.out (by rw[←Nat.add_assoc];exact h1);have f2:=CS.out (k*5+2) _ _ HB1.out (by rw[←Nat.add_assoc];exact h2);have f3:=CS.out (k*5+3) _ _ HB1.out (by rw[←Nat.add_assoc];exact h3);rw[←Nat.add_assoc]at f1 f2 f3;clear hl1;by_cases hv:vl=0
   case neg=>
    have q:(vl==0)=false:=by rw[beq_eq_false_iff_ne];exact hv
    have q':(vl != 0)=true:=by simp[hv]
    have HNV:=hdzz hv;clear hv;go_wp2_with fail
    go_ret
    exact⟨vl,rfl,fun e=>absurd e HNV.out,HB.out.trans (HB1.out.mono hsr)⟩
   subst hv;have SP1:=hdzz (SP.out w1);go_wp2_with fail
   refine SP1.out.mono ?_;clear SP SP1 f0 f1 f2 f3;rintro e w2 ⟨rfl,hl2⟩;have HB2:=sbtz HB1 hl2.below;have g4:=CS.out (k*5+4) _ _ HB2.out (by rw[←Nat.add_assoc];exact h4);rw[←Nat.add_assoc]at g4;clear hl2 HB1;have q0:(m==0)=false:=by rw[beq_eq_false_iff_ne];exact hqn
   clear hqn;by_cases hm1:m < -1000
   ·go_wp2_with fail
    go_ret
    exact⟨7,rfl,fun h=>absurd h (by decide),HB.out.trans (HB2.out.mono hsr)⟩
   by_cases hm2:1000<m
   ·go_wp2_with fail
    go_ret
    exact⟨7,rfl,fun h=>absurd h (by decide),HB.out.trans (HB2.out.mono hsr)⟩
   have HN:=hdzz (HALL.out (by trivial) (by omega) (by omega));clear HALL;rcases Nat.eq_zero_or_pos k with hk0|hk0
   ·have p0:decide (0<k)=false:=decide_eq_false (by omega);have p1:decide ((0:Int)<(k:Int))=false:=decide_eq_false (by omega);clear hk0 PREV h0 h1 h2 h3 h4;go_wp2_with fail
    go_quiet (fail)
    go_wp2_with fail
    go_roundw
    case rel=>exact⟨k+1,by omega,by go_num,HN.out,HB.out.trans ((HB2.out.trans (((Lay.refl w2.heap.size w2).drewN _).below.mono HB2.out.size)).mono hsr)⟩
    case measure=>simp[intOf];omega
   ·obtain⟨j,rfl⟩:∃j,k=j+1:=⟨k - 1,by omega⟩;have p0:decide (0<j+1)=true:=decide_eq_true (by omega);have j1:(0:Int)≤(j:Int):=Int.natCast_nonneg _;have j2:(j:Int)<(nl:Int):=by omega
    have j3:IntKind.i64.wrap ((j:Int)+1 - 1)=(j:Int):=by rw[IntKind.wrap_i64];omega
    have j4:IntKind.i64.wrap (j:Int)=(j:Int):=by rw[IntKind.wrap_i64];omega
    have j5:(0:Int)≤(j:Int)+1:=by omega
    have j6:(j:Int)+1<(nl:Int):=by omega
    obtain⟨y,A2,c2,_,y0,y1,y2,y3,y5,hys,hyc⟩:=PREV.out j rfl;have CK:Hid (∀X,Below w2.heap.size w2 X→Calls Tryz.prog 69 #[y.val A2 c2,u.val A1 c1] X fun e w'=>e=.returned (.int .i64 (y.cmp u))∧Lay X.heap.size X w'):=hdzz fun X hX=>
     have hb:=HB2.out.trans (hX.mono HB2.out.size)
     qdx 1000000 y u A2 A1 c2 c1 X hys (Nat.le_refl _) hqs (RepP.mono (fun b (h:b<w.heap.size)=>by have:=hb.size;show b<_;omega) (fun p (hp:p.block<w.heap.size)=>hb.cell (by omega)) _ _ _ y5)
      (RepP.mono (fun b (h:b<w.heap.size)=>by have:=hb.size;show b<_;omega) (fun p (hp:p.block<w.heap.size)=>hb.cell (by omega)) _ _ _ H5.out)
    obtain⟨cp,hcp⟩:∃v,v=y.cmp u:=⟨_,rfl⟩;rw[←hcp]at CK hyc;have d2:decide (0≤cp)=false:=decide_eq_false (by omega);have hold:∀n os o,(grow (w2.drewN n) os).cell? ⟨b,o,none⟩=wr.cell? ⟨b,o,none⟩:=fun n os o=>((Lay.of_grow (w:=w2) n os).below.cell (by show b<_;have:=HB2.out.size;omega)).trans (HB2.out.cell (by show b<_;omega));have t0:=fun n os=>(hold n os _).trans y0;have t1:=fun n os=>(hold n os _).trans y1;have t2:=fun n os=>(hold n os _).trans y2;have t3:=fun n os=>(hold n os _).trans y3;have o0:=fun n os=>(hold n os _).trans h0;have o1:=fun n os=>(hold n os _).trans h1;have o2:=fun n os=>(hold n os _).trans h2;have o3:=fun n os=>(hold n os _).trans h3;simp only[Tm.val]at CK;clear hyc hcp hold PREV h0 h1 h2 h3 h4 y0 y1 y2 y3 y5 hys hk0;go_wp2_with fail
    go_quiet_grown ((go_at_call 69;exact qak (CK.out _ (Lay.of_grow _ _).below)))
    go_wp2_with fail
    go_roundw
    case rel=>exact⟨j+1+1,by omega,by go_num,HN.out,HB.out.trans ((HB2.out.trans ((Lay.of_grow _ _).below.mono HB2.out.size)).mono hsr)⟩
    case measure=>simp[intOf];omega
  ·obtain rfl:k=nl:=by omega
   have HV:Hid (VP l):=hdzz ⟨by have:=HNL.out;have:=HL.out;omega,fun p hp=>by have h:=HA.out p (by rw[HNL.out,List.take_length];exact hp);exact h⟩;go_wp2_with fail
   go_ret
   exact⟨0,rfl,fun _=>HV.out,HB.out⟩
theorem qkd (l:List Pw) (A:Option Addr) (c:Nat) (w:World) (hlen:l.length≤1000000) (hrep:RepW w (fun b=>b<w.heap.size) l A c) :
  Calls Tryz.prog 148 #[.slice A l.length c] w fun e w'=>∃v:Int,e=.returned (.int .i64 v)∧(v=0→RP l)∧Below w.heap.size w w':=by
 obtain⟨nl,hnl⟩:∃k,k=l.length:=⟨_,rfl⟩;rw[←hnl]at hlen ⊢;have hlI:(nl:Int)≤1000000:=by omega
 have HNL:=hdzz hnl;have HREP:=hdzz hrep;clear hnl hrep;go_enter Tryz.func148,Tryz.ntmps148
 go_wp2_with fail
 go_loopw [3] (fun i wr=>∃(k:Nat),k≤nl∧i=.int .i64 k∧Hid (∀p∈l.take k,-1000≤p.2∧p.2≤1000)∧Hid (Below w.heap.size w wr)) (fun i _=>nl - (intOf i).toNat)
 case atStart=>exact⟨0,Nat.zero_le _,rfl,(by simp[Hid]),Below.refl _ _⟩
 case round=>
  obtain⟨k,hk,rfl,HA,HB⟩:=hrel;have i1:(0:Int)≤(k:Int):=Int.natCast_nonneg _;have hsr:=HB.out.size;by_cases hlt:k<nl
  ·have i2:(k:Int)<(nl:Int):=by omega
   have hkl:k<l.length:=by have:=HNL.out;omega
   obtain⟨b,off,rfl,hbB,hget⟩:=(HREP.out.mono (w':=wr) (P':=fun b=>b<w.heap.size) (fun _ h=>h) (fun p hp=>HB.out.cell hp)).get (fun e=>by rw[e]at hkl;simp at hkl);obtain⟨A1,c1,h0,h1,h2,h3,h4,h5⟩:=hget k hkl;have hall:-1000≤l[k].2→l[k].2≤1000→∀p∈l.take (k+1),-1000≤p.2∧p.2≤1000:=fun e2 e3 p hp=>by
    rw[List.take_succ_eq_append_getElem hkl]at hp;rcases List.mem_append.1 hp with hp|hp
    ·exact HA.out p hp
    ·rw[List.mem_singleton.1 hp];exact⟨e2,e3⟩
   obtain⟨m,hm⟩:∃x,x=l[k].2:=⟨_,rfl⟩;rw[←hm]at h4 hall;clear hm hget h0 h1 h2 h3 h5;have HALL:=hdzz hall;clear hall;by_cases hm1:m < -1000
   ·go_wp2_with fail
    go_ret
    exact⟨7,rfl,fun h=>absurd h (by decide),HB.out⟩
   by_cases hm2:1000<m
   ·go_wp2_with fail
    go_ret
    exact⟨7,rfl,fun h=>absurd h (by decide),HB.out⟩
   have HN:=hdzz (HALL.out (by omega) (by omega));clear HALL;go_wp2_with fail
   go_roundw
   case rel=>exact⟨k+1,by omega,by go_num,HN.out,HB.out⟩
   case measure=>simp[intOf];omega
  ·obtain rfl:k=nl:=by omega
   have HV:Hid (∀p∈l,-1000≤p.2∧p.2≤1000):=hdzz fun p hp=>HA.out p (by rw[HNL.out,List.take_length];exact hp);by_cases hL:k≤200
   ·have hlI2:¬((200:Int)<(k:Int)):=by omega
    go_wp2_with fail
    go_ret
    exact⟨0,rfl,fun _=>⟨by have:=HNL.out;omega,HV.out⟩,HB.out⟩
   ·have hlI2:(200:Int)<(k:Int):=by omega
    go_wp2_with fail
    go_ret
    exact⟨3,rfl,fun h=>absurd h (by decide),HB.out⟩
end Go.Proofs.YtjhjoiplpmjepaaGreat
