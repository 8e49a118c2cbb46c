/- Trpl, Tmrg, Trtog, Tplus, Town2, Tsums (joined by shake.py). -/
import Derived.Test.YtjhjoiplpmjepaaGreatL0
import Derived.Test.YtjhjoiplpmjepaaGreatL4
import Derived.Test.YtjhjoiplpmjepaaGreatL5
import Derived.Test.YtjhjoiplpmjepaaGreatL6
import Derived.Test.YtjhjoiplpmjepaaGreatL7
import Derived.Test.YtjhjoiplpmjepaaGreatL8
import Derived.Test.YtjhjoiplpmjepaaGreatL9
import Derived.Test.YtjhjoiplpmjepaaGreatL10
import Derived.Deep.Cut
import Derived.OwnWalk
set_option maxRecDepth 100000
set_option linter.unusedVariables false
set_option linter.unusedSimpArgs false
set_option maxHeartbeats 16000000
namespace Go.Proofs.YtjhjoiplpmjepaaGreat
theorem take_app9 {α:Type} {X:List α} (Y:List α) (h:9≤(X.take 9).length):(X++Y).take 9=X.take 9:=List.take_append_of_le_length (by rw[List.length_take]at h;omega)
theorem qhk {α:Type} {X:List α} (h:(X.take 9).length<9):X.take 9=X:=List.take_of_length_le (by rw[List.length_take]at h;omega)
theorem take_one9 {α:Type} {X:List α} (x:α) (h:(X.take 9).length<9):(X++[x]).take 9=X.take 9++[x]:=by
 have h':=qhk h;rw[h']at h ⊢;exact List.take_of_length_le (by rw[List.length_append,List.length_singleton];omega)
theorem rep_succ {α:Type} (t:α) (k:Nat) (X:List α):X++List.replicate (k+1) t=(X++List.replicate k t)++[t]:=by rw[List.replicate_succ',List.append_assoc]
theorem addL_drop (t:Tm) (n:Int) (d:Bool) (l:List (Tm×Int)) {k:Nat} (hk:k<l.length) :
  addL t n d (l.drop k)=(if d=false∧t.cmp l[k].1<0 then [(t,n)]else [])++((if (if t.cmp l[k].1=0 then l[k].2+n else l[k].2)≠0 then [(l[k].1,if t.cmp l[k].1=0 then l[k].2+n else l[k].2)]else [])++addL t n (d || decide (t.cmp l[k].1<0) || decide (t.cmp l[k].1=0)) (l.drop (k+1))):=by
 rw[List.drop_eq_getElem_cons hk,addL]
theorem addL_end (t:Tm) (n:Int) (d:Bool) (l:List (Tm×Int)):addL t n d (l.drop l.length)=if d=true then []else [(t,n)]:=by rw[List.drop_length,addL]
theorem qlx {α:Type} (f:α→Bool) (l:List α) {k:Nat} (hk:k<l.length):(l.take (k+1)).filter f=(l.take k).filter f++(if f l[k]=true then [l[k]]else []):=by
 rw[List.take_succ_eq_append_getElem hk,List.filter_append]
 congr 1
 by_cases h:f l[k]=true
 ·rw[if_pos h,List.filter_cons_of_pos h];rfl
 ·rw[if_neg h,List.filter_cons_of_neg h];rfl
theorem col_sym {k s:Int} {n:ByteArray} {l:List Tm} (h:(Tm.mk k n s l).sym) (i:Int) (a:List (Tm×Int)):colP (.mk k n s l) i a=qdt l (if n=nInv then -i else i) a:=by rw[colP,if_pos h]
theorem col_leaf {t:Tm} (h:¬t.sym) (i:Int) (a:List (Tm×Int)):colP t i a=insP t i a:=by obtain⟨k,n,s,l⟩:=t;rw[colP,if_neg h]
theorem tabS_des:∀s∈tabS,(s.kd=3↔desN s.nm):=by
 intro s hs;simp only[tabS,List.mem_cons,List.not_mem_nil,or_false]at hs;rcases hs with h|h|h|h|h|h|h|h|h|h|h|h|h|h|h|h|h|h|h|h|h<;>subst h<;>exact⟨fun h=>by revert h;decide,fun h=>by revert h;decide⟩
theorem desN_sym {n:ByteArray} (h:desN n):∃s,qeo n=some s:=by
 rcases h with h|h|h|h|h|h<;>subst h<;>exact⟨_,rfl⟩
def mrgT:List Tm→List Tm→List Tm
 | [],b=>b
 | x::a,[]=>x::a
 | x::a,y::b=>if x.cmp y<0 then x::mrgT a (y::b)else if 0<x.cmp y then y::mrgT (x::a) b else mrgT a b
termination_by a b=>a.length+b.length
theorem qf4 (b:List Tm):mrgT [] b=b:=by rw[mrgT]
theorem qhx (a:List Tm):mrgT a []=a:=by cases a<;>rw[mrgT]
theorem qlr {x y:Tm} {a b:List Tm} (h:x.cmp y<0):mrgT (x::a) (y::b)=x::mrgT a (y::b):=by rw[mrgT,if_pos h]
theorem qls {x y:Tm} {a b:List Tm} (h:0<x.cmp y):mrgT (x::a) (y::b)=y::mrgT (x::a) b:=by rw[mrgT,if_neg (by omega),if_pos h]
theorem qlt {x y:Tm} {a b:List Tm} (h:x.cmp y=0):mrgT (x::a) (y::b)=mrgT a b:=by rw[mrgT,if_neg (by omega),if_neg (by omega)]
theorem qi4 {x u:Tm} {a:List Tm} (h:Asc (x::a)) (hu:u∈a):x.cmp u<0:=(List.pairwise_cons.1 h).1 u hu
theorem qhi {x:Tm} {a:List Tm} (h:Asc (x::a)):Asc a:=(List.pairwise_cons.1 h).2
theorem qgc {x:Tm} {a:List Tm} (h:Asc (x::a)):x ∉ a:=fun e=>by have:=qi4 h e;rw[Tm.cmp_self]at this;omega
theorem qg4 {x y:Tm} {b:List Tm} (h:Asc (y::b)) (hxy:x.cmp y<0):x ∉ y::b:=by
 intro e;rcases List.mem_cons.1 e with e|e
 ·subst e;rw[Tm.cmp_self]at hxy;omega
 ·have h1:=qi4 h e;have h2:=Tm.cmp_neg x y;omega
theorem mrg_spec:∀(n:Nat) (a b:List Tm),a.length+b.length≤n→Asc a→Asc b→Asc (mrgT a b)∧∀x,x∈mrgT a b↔((x∈a∧x ∉ b)∨(x ∉ a∧x∈b)):=by
 intro n
 induction n with
 | zero=>
  intro a b h ha hb;obtain rfl:a=[]:=List.eq_nil_of_length_eq_zero (by omega);obtain rfl:b=[]:=List.eq_nil_of_length_eq_zero (by omega);rw[qf4];exact⟨ha,by simp⟩
 | succ n ih=>
  intro a b h ha hb
  match a,b,h,ha,hb with
  | [],b,_,_,hb=>rw[qf4];exact⟨hb,by simp⟩
  | x::a,[],_,ha,_=>rw[qhx];exact⟨ha,by simp⟩
  | x::a,y::b,h,ha,hb=>
   simp only[List.length_cons]at h;have hn:=Tm.cmp_neg x y;by_cases h1:x.cmp y<0
   ·rw[qlr h1];obtain⟨i1,i2⟩:=ih a (y::b) (by simp only[List.length_cons];omega) (qhi ha) hb;have hx:=qg4 hb h1;refine⟨List.pairwise_cons.2 ⟨fun u hu=>?_,i1⟩,fun u=>?_⟩
    ·rcases (i2 u).1 hu with⟨h2,-⟩|⟨-,h2⟩
     ·exact qi4 ha h2
     ·rcases List.mem_cons.1 h2 with e|e
      ·subst e;exact h1
      ·have:=Tm.cmp_tri x y u;have h3:=qi4 hb e;unfold Tri at this;omega
    ·rw[List.mem_cons,i2 u,List.mem_cons (a:=u) (b:=x)];by_cases e:u=x
     ·subst e;simp[qgc ha,hx]
     ·simp[e]
   ·by_cases h2:0<x.cmp y
    ·rw[qls h2];have h2':y.cmp x<0:=by omega
     obtain⟨i1,i2⟩:=ih (x::a) b (by simp only[List.length_cons];omega) ha (qhi hb);have hy:=qg4 ha h2';refine⟨List.pairwise_cons.2 ⟨fun u hu=>?_,i1⟩,fun u=>?_⟩
     ·rcases (i2 u).1 hu with⟨h3,-⟩|⟨-,h3⟩
      ·rcases List.mem_cons.1 h3 with e|e
       ·subst e;exact h2'
       ·have:=Tm.cmp_tri y x u;have h4:=qi4 ha e;unfold Tri at this;omega
      ·exact qi4 hb h3
     ·rw[List.mem_cons,i2 u,List.mem_cons (a:=u) (b:=y)];by_cases e:u=y
      ·subst e;simp[qgc hb,hy]
      ·simp[e]
    ·have h0:x.cmp y=0:=by omega
     rw[qlt h0];have e:=Tm.cmp_zero.1 h0;subst e;obtain⟨i1,i2⟩:=ih a b (by omega) (qhi ha) (qhi hb);refine⟨i1,fun u=>?_⟩;rw[i2 u,List.mem_cons,List.mem_cons];by_cases e:u=x
     ·subst e;simp[qgc ha,qgc hb]
     ·simp[e]
theorem mrg_plus {a b:List Tm} (ha:Asc a) (hb:Asc b):mrgT a b=qc4 a b:=by
 obtain⟨h1,h2⟩:=mrg_spec _ a b (Nat.le_refl _) ha hb;exact qd8 h1 (qhc b a ha) fun x=>by rw[h2 x,qdj b a x (qcb hb)]
theorem mrg_len:∀(n:Nat) (a b:List Tm),a.length+b.length≤n→(mrgT a b).length≤a.length+b.length:=by
 intro n
 induction n with
 | zero=>
  intro a b h;obtain rfl:a=[]:=List.eq_nil_of_length_eq_zero (by omega);rw[qf4];simp
 | succ n ih=>
  intro a b h
  match a,b,h with
  | [],b,_=>rw[qf4];simp
  | x::a,[],_=>rw[qhx];simp
  | x::a,y::b,h=>
   simp only[List.length_cons]at h;by_cases h1:x.cmp y<0
   ·rw[qlr h1];have:=ih a (y::b) (by simp only[List.length_cons];omega);simp only[List.length_cons]at this ⊢;omega
   ·by_cases h2:0<x.cmp y
    ·rw[qls h2];have:=ih (x::a) b (by simp only[List.length_cons];omega);simp only[List.length_cons]at this ⊢;omega
    ·rw[qlt (by omega)];have:=ih a b (by omega);simp only[List.length_cons];omega
theorem tog_len (t:Tm) (L:List Tm):(togT t L).length≤L.length+1:=by
 unfold togT;split
 ·exact Nat.le_succ_of_le (List.length_filter_le _ _)
 ·exact Tm.add_length t L
theorem qhb:∀(b a:List Tm),(qc4 a b).length≤a.length+b.length
 | [],a=>by simp[qc4]
 | t::r,a=>by
  have h1:=qhb r (togT t a);have h2:=tog_len t a;show(qc4 (togT t a) r).length≤_;simp only[List.length_cons];omega
mutual
theorem qfx:∀t:Tm,t.sumd.length≤t.size
 | .mk k n s l=>by
  rw[Tm.sumd,Tm.size]
  split
  ·simp
  ·split
   ·have:=qj2 l [];simp at this;omega
   ·simp
theorem qj2:∀(l a:List Tm),(Tm.sumds l a).length≤a.length+Tm.sizes l
 | [],a=>by rw[Tm.sumds,Tm.sizes];omega
 | t::r,a=>by
  have h1:=qj2 r (qc4 a t.sumd);have h2:=qhb t.sumd a;have h3:=qfx t;rw[Tm.sumds,Tm.sizes];omega
end
end Go.Proofs.YtjhjoiplpmjepaaGreat
namespace Go.Proofs.YtjhjoiplpmjepaaGreat
open Go.RowKit Go.Sort
theorem qle (its0:List It) (base0:Nat) (A0:Option Addr) (n0 c0:Nat) (t:Tm) (A:Option Addr) (cap:Nat) (w:World) (P:Nat→Prop) (hP:∀b,P b→b<w.heap.size) (hrow0:RowT w base0 P (.slice A0 n0 c0) its0) (hrep:RepP w P t A cap)
  (hn0:n0≤1000000) (ht:t.size≤1000000) (hsz:∀x∈its0,x.1.size≤1000000) :
  Calls Tryz.prog 50 #[.slice A0 n0 c0,t.val A cap] w (ql5 w P (togT t (its0.map (·.1)))):=by
 have mixed:=mixz;obtain⟨l,hl⟩:∃l,l=its0.map (·.1):=⟨_,rfl⟩;rw[←hl];have hlen0:=hrow0.len;have hll:l.length=n0:=by rw[hl,List.length_map];omega
 obtain⟨W0,hW0⟩:∃W0,W0=w.alloc (.cells #[.int .i64 t.kind,.string t.name,.int .i64 t.sort,.slice A t.kids.length cap] 24):=⟨_,rfl⟩;have hs0:W0.heap.size=w.heap.size+1:=by rw[hW0];simp
 have hb0:Below w.heap.size w W0:=by rw[hW0];exact qad (Nat.le_refl _) _
 have hbx:W0.heap[w.heap.size]?=some (.cells #[.int .i64 t.kind,.string t.name,.int .i64 t.sort,.slice A t.kids.length cap] 24 (0,0)):=by rw[hW0];exact heap_alloc_new _ _
 have hrow1:RowT W0 base0 P (.slice A0 n0 c0) its0:=hrow0.below hb0;obtain⟨A9,c9,he,hS0⟩:=hrow1.toS (P:=fun b=>b<W0.heap.size) (fun b _ h=>h) (fun b _ h=>h);injection he with he1 he2 he3;subst he1 he3;rw[←hl]at hS0;have htW:∀X,Below W0.heap.size W0 X→RepP X P t A cap:=fun X hX=>RepP.mono (fun _ h=>h) (fun p hp=>(hb0.trans (hX.mono (by omega))).cell (hP _ hp)) _ _ _ hrep;have HA:=rhas_any l A0 c0 t A cap W0 (fun x hx=>by
  rw[hl]at hx;obtain⟨y,hy,rfl⟩:=List.mem_map.1 hx;exact hsz y hy) ht hS0 (RepP.mono (fun b h=>by have:=hP b h;show b<_;omega) (fun _ _=>rfl) _ _ _ (htW W0 (Below.refl _ _)))
 rw[hll]at HA;have AD:Hid (∀X,Below W0.heap.size W0 X→Calls Tryz.prog 89 #[.slice A0 n0 c0,t.val A cap] X (ql5 X P (Tm.add t l))):=hdzz fun X hX=>by
  have h:=raddT_any its0 base0 A0 n0 c0 t A cap X P (fun b h=>by have:=hP b h;have:=hX.size;omega) (hrow1.below hX) (htW X hX) hn0 ht hsz;rw[←hl]at h;exact h
 obtain⟨res,hres⟩:∃r,r=togT t l:=⟨_,rfl⟩;rw[←hres];have hres:res=if hasT l t=true then l.filter (fun u=>!u.same t)else Tm.add t l:=hres
 obtain⟨hb,hhb⟩:∃b,b=hasT l t:=⟨_,rfl⟩;rw[←hhb]at hres HA;have HB0:=hdzz hb0;have HBX:=hdzz hbx;have HS0:=hdzz hs0;have HW0:=hdzz hW0;have HL:=hdzz hl;have HLL:=hdzz hll;have HLEN:=hdzz hlen0;have HR0:=hdzz hrow0;have HREP:=hdzz hrep;have HSZ:=hdzz hsz;have HP:=hdzz hP;clear hb0 hbx hs0 hW0 hl hll hlen0 hrow0 hrow1 hrep hsz hP hS0 htW hhb he2;simp only[Tm.val]at HA AD ⊢;have HA:=hdzz HA;have HRES:=hdzz hres;clear hres;obtain⟨x0,x1,x2,x3,xf⟩:=qaa HBX.out;go_enter Tryz.func50,Tryz.ntmps50
 go_upto_region 1 with fail
 rw[←HW0.out];clear HW0
 cases hb with
 | false=>
  have HR:Hid (res=Tm.add t l):=HRES.out;go_wp2_with fail
  refine HA.out.mono ?_;clear HA x0 x1 x2 x3 xf;rintro e w1 ⟨rfl,hl1⟩;obtain⟨x0,x1,x2,x3,xf⟩:=qaa ((hl1.below.block _ (by have:=HS0.out;omega)).trans HBX.out);have AD:=hdzz (AD.out w1 hl1.below);have HB1:=hdzz (HB0.out.trans (hl1.below.mono (by have:=HS0.out;omega)));clear hl1;go_wp2_with fail
  refine AD.out.mono ?_;clear AD x0 x1 x2 x3 xf;rintro e w2 ⟨A2,c2,n2,its,rfl,hn,hr,hbl,hm⟩;have HQ:Hid (ql5 w P res (.returned (.slice A2 n2 c2)) w2):=hdzz (by
   have hs1:=HB1.out.size;rw[HR.out];exact⟨A2,c2,n2,its,rfl,hn,hr.loosen hs1 (fun _ h=>h),HB1.out.trans (hbl.mono hs1),hm⟩)
  clear hn hr hbl hm;go_wp2_with fail
  go_ret
  exact HQ.out
 | true=>
  have HR:Hid (res=l.filter (fun u=>!u.same t)):=HRES.out;clear AD HRES;go_wp2_with fail
  refine HA.out.mono ?_;clear HA x0 x1 x2 x3 xf;rintro e w1 ⟨rfl,hl1⟩;have HB1:=hdzz hl1.below;clear hl1;go_wp2_with fail
  go_loopw [5,6] (fun v iv wr=>∃(k m c:Nat) (A':Option Addr) (its:List It),k≤n0∧iv=.int .i64 k∧v=.slice A' m c∧m≤k∧Hid (m=its.length)∧Hid (RowT wr (w.heap.size+1) P (.slice A' m c) its)∧Hid (its.map (·.1)=(l.take k).filter (fun u=>!u.same t))∧Hid (Below (w.heap.size+1) W0 wr))
   (fun _ iv _=>n0 - (intOf iv).toNat)
  case atStart=>exact⟨0,0,0,none,[],Nat.zero_le _,rfl,rfl,Nat.le_refl _,rfl,RowT.nil _ _ _,rfl,HB1.out.mono (by have:=HS0.out;omega)⟩
  case round=>
   obtain⟨k,m,c,A',its,hk,rfl,rfl,hmk,HML,HR1,HF,HBW⟩:=hrel;have i1:(0:Int)≤(k:Int):=Int.natCast_nonneg _;have HBWW:Hid (Below w.heap.size w wr):=HB0.out.trans (HBW.out.mono (by omega));have HSW:Hid (w.heap.size+1≤wr.heap.size):=by have:=HBW.out.size;have:=HS0.out;exact(by omega:w.heap.size+1≤wr.heap.size)
   obtain⟨b0,b1,b2,b3⟩:=qcj ((HBW.out.block w.heap.size (by omega)).trans HBX.out);by_cases hlt:k<n0
   ·have i2:(k:Int)<(n0:Int):=by omega
    have hki:k<its0.length:=by have:=HLEN.out;omega
    have hkl:k<l.length:=by have:=HLL.out;omega
    obtain⟨g0,hA0⟩:=HR0.out.some (by omega);subst hA0;have hrowk:=HR0.out.below HBWW.out;obtain⟨a0,a1,a2,a3⟩:=hrowk.slot_grown HLEN.out k hki;have hxrep:∀X,Below w.heap.size w X→RepP X P its0[k].1 its0[k].2.1 its0[k].2.2:=fun X hX=>
     RepP.mono (fun _ h=>h.1) (fun p hp=>hX.cell hp.2.1) _ _ _ (HR0.out.reps _ (List.getElem_mem hki))
    have HXR:=hdzz hxrep;have hxsz:=HSZ.out _ (List.getElem_mem hki);have hft:=qlx (fun u=>!u.same t) l hkl;have hlk:l[k]=its0[k].1:=by
     have h2:=HL.out;subst h2;simp
    rw[hlk]at hft;have hslot:∀X,Below w.heap.size w X→X.cell? ⟨g0,k*4,none⟩=some (.int .i64 its0[k].1.kind)∧X.cell? ⟨g0,k*4+1,none⟩=some (.string its0[k].1.name)∧X.cell? ⟨g0,k*4+2,none⟩=some (.int .i64 its0[k].1.sort)∧
      X.cell? ⟨g0,k*4+3,none⟩=some (.slice its0[k].2.1 its0[k].1.kids.length its0[k].2.2):=fun X hX=>by
     obtain⟨h0,h1,h2,h3,_⟩:=(HR0.out.below hX).slot HLEN.out k hki;exact⟨h0,h1,h2,h3⟩
    have HSL:=hdzz hslot;obtain⟨x,hx⟩:∃x,x=its0[k]:=⟨_,rfl⟩;rw[←hx]at a0 a1 a2 a3 HXR hxsz hft HSL;have CK:Hid (∀X,Lay wr.heap.size wr X→Calls Tryz.prog 31 #[x.1.val x.2.1 x.2.2,t.val A cap] X fun e w'=>e=.returned (.bool (x.1.same t))∧Lay X.heap.size X w'):=hdzz fun X hX=>
     have hb:Below w.heap.size w X:=HBWW.out.trans (hX.below.mono (by have:=HSW.out;omega))
     qd3 x.1 t x.2.1 A x.2.2 cap X hxsz ht (RepP.mono (fun b h=>by have:=HP.out b h;have:=hb.size;show b<_;omega) (fun _ _=>rfl) _ _ _ (HXR.out X hb))
      (RepP.mono (fun b h=>by have:=HP.out b h;have:=hb.size;show b<_;omega) (fun p hp=>hb.cell (HP.out _ hp)) _ _ _ HREP.out)
    obtain⟨q,hq⟩:∃q,q=x.1.same t:=⟨_,rfl⟩;rw[←hq]at CK hft;simp only[Tm.val]at CK;have HFT:=hdzz hft;clear hxrep hslot hrowk hx hlk hq hft hkl hki;have hZ:∀nq osq,Below w.heap.size w (grow (wr.drewN nq) osq)∧Below (w.heap.size+1) W0 (grow (wr.drewN nq) osq)∧RowT (grow (wr.drewN nq) osq) (w.heap.size+1) P (.slice A' m c) its∧wr.heap.size≤(grow (wr.drewN nq) osq).heap.size:=fun nq osq=>by
     have hX:Lay wr.heap.size wr (grow (wr.drewN nq) osq):=Lay.of_grow _ _;have:=HSW.out;exact⟨HBWW.out.trans (hX.below.mono (by omega)),HBW.out.trans (hX.below.mono (by omega)),HR1.out.below hX.below,hX.size⟩
    have HZ:=hdzz hZ;clear hZ
    cases q with
    | true=>
     go_wp2_with fail
     go_quiet_grown ((go_at_call 31;exact qak (CK.out _ (Lay.of_grow _ _))))
     obtain⟨hz1,hz2,hz3,hz4⟩:=HZ.out nq osq;have HZ2:=hdzz hz2;have HZ3:=hdzz hz3;clear HZ CK a0 a1 a2 a3 b0 b1 b2 b3 hz1 hz2 hz3;generalize grow (wr.drewN nq) osq=Z at *;clear hz4;go_wp2_with fail
     go_roundw
     case rel=>exact⟨k+1,m,c,A',its,by omega,by go_num,rfl,by omega,HML.out,HZ3.out,hdzz (by rw[HFT.out];simpa using HF.out),HZ2.out⟩
     case measure=>simp[intOf];omega
    | false=>
     go_wp2_with fail
     go_quiet_grown ((go_at_call 31;exact qak (CK.out _ (Lay.of_grow _ _))))
     obtain⟨hz1,hz2,hz3,hz4⟩:=HZ.out nq osq;clear HZ CK a0 a1 a2 a3 b0 b1 b2 b3;generalize grow (wr.drewN nq) osq=Z at *;obtain⟨s0,s1,s2,s3⟩:=HSL.out Z hz1;have hzs:=HSW.out;obtain⟨A1,c1,w1,hap,hr1,hg1⟩:=hz3.more1 (fun b h=>by have:=HP.out b h;omega) (by omega) x (HXR.out Z hz1) (by have:=HML.out;omega);have hb1:Below (w.heap.size+1) W0 w1:=qaw (hz2.trans (qad (by omega) _)) (by simp;omega) hg1 (fun q hq=>(HR1.out.lt q hq).1);rw[←HML.out]at hap hr1;have HR2:=hdzz hr1;have HB2:=hdzz hb1;clear hz1 hz2 hz3 hz4 hg1 hr1 hb1 hzs;go_wp2_with (at_builtin;refine qab rfl _ _ rfl rfl rfl hap ?_)
     go_roundw
     case rel=>exact⟨k+1,m+1,c1,A1,_,by omega,by go_num,rfl,by omega,(by rw[List.length_append,←HML.out];rfl),HR2.out,hdzz (by rw[HFT.out,List.map_append,HF.out];simp),HB2.out⟩
     case measure=>simp[intOf];omega
   ·obtain rfl:k=n0:=by omega
    have HRR:Hid (its.map (·.1)=res):=hdzz (by have h:=HF.out;rw[←HLL.out,List.take_length]at h;rw[HR.out];exact h);have HW:=HSW.out;clear b0 b1 b2 b3;go_wp2_with fail
    go_ret
    exact⟨A',c,m,its,rfl,(by rw[←HRR.out,List.length_map];exact HML.out),HR1.out.loosen (by omega) (fun _ h=>h),HBWW.out,HRR.out⟩
theorem slTerm:SlT 22 24 4 56 (.agg #[.int .i64 0,.string ⟨#[]⟩,.int .i64 0,.slice none 0 0]):=⟨Tryz.underlying22,by kernel_rfl,rfl,by decide,by decide⟩
theorem qim {w:World} {base base2:Nat} {P:Nat→Prop} {v:Value} {its its2:List It} {A:Option Addr} {n c:Nat} (hrow:RowT w base P v its) (hP:∀b,P b→b<base) (hbase:base≤w.heap.size) (h2:RowT w base2 P (.slice A n c) its2) (hlen:its.length+its2.length≤1000000) :
  ∃v' w',(∀ty,(Builtin.append_ #[22,22] ty #[v,.slice A n c]).run Tryz.prog w=.ok v' w')∧RowT w' base P v' (its++its2)∧(∀W0 B0,Below B0 W0 w→B0≤base→Below B0 W0 w')∧w.heap.size≤w'.heap.size:=by
 obtain⟨A1,c1,he,hV⟩:=ql9 h2.own;injection he with he1 he2 he3;subst he1 he2 he3;obtain⟨v',w',hap,hown,G⟩:=qjd slTerm hrow.own hbase (hV (fun _=>True) (fun _ _ _ _=>trivial)) (qb8 _) (by unfold maxLen;omega) (by omega);refine⟨v',w',hap,⟨by rw[List.length_append,qc8];exact hown,fun x hx=>?_⟩,fun W0 B0 h hB=>h.trans (G.below.mono hB),G.size⟩;have hne:∀b,P b→v'.ownBlock≠some b:=fun b h e=>by
  have:=hP b h;rcases G.own with h'|h'
  ·rw[h']at e;have:=(hrow.lt b e).1;omega
  ·have:=h' b e;omega
 have hsz:=G.size;rcases List.mem_append.1 hx with hx|hx
 ·exact RepP.mono (fun b h=>⟨h.1,by have:=h.2.1;omega,hne b h.1⟩) (fun p hp=>G.below.cell (hP _ hp.1)) _ _ _ (hrow.reps x hx)
 ·exact RepP.mono (fun b h=>⟨h.1,by have:=h.2.1;omega,hne b h.1⟩) (fun p hp=>G.below.cell (hP _ hp.1)) _ _ _ (h2.reps x hx)
theorem plus_take (a b:List Tm) {k:Nat} (hk:k<b.length):qc4 a (b.take (k+1))=togT b[k] (qc4 a (b.take k)):=by
 rw[List.take_succ_eq_append_getElem hk,qc4,List.foldl_append];rfl
theorem tog_mem {t x:Tm} {L:List Tm} (h:x∈togT t L):x=t∨x∈L:=((mem_tog t L x).1 h).imp (fun h=>h.1) (fun h=>h.2)
theorem qj9 (ia ib:List It) (ba bb:Nat) (A B:Option Addr) (na nb c d:Nat) (w:World) (P:Nat→Prop) (hP:∀b,P b→b<w.heap.size) (hra:RowT w ba P (.slice A na c) ia) (hrb:RowT w bb P (.slice B nb d) ib)
  (hla:na≤400000) (hlb:nb≤400000) (hsa:∀x∈ia,x.1.size≤1000000) (hsb:∀x∈ib,x.1.size≤1000000) :
  Calls Tryz.prog 21 #[.slice A na c,.slice B nb d] w (ql5 w P (qc4 (ia.map (·.1)) (ib.map (·.1)))):=by
 have hna:=hra.len;have hnb:=hrb.len;obtain⟨la,hla'⟩:∃l,l=ia.map (·.1):=⟨_,rfl⟩;obtain⟨lb,hlb'⟩:∃l,l=ib.map (·.1):=⟨_,rfl⟩;rw[←hla',←hlb'];have hbX:Below w.heap.size w (w.alloc (.cells #[] 24)):=qad (Nat.le_refl _) _;have hrX:RowT (w.alloc (.cells #[] 24)) w.heap.size P (.slice (some ⟨w.heap.size,0,none⟩) 0 0) []:=by
  refine⟨?_,by simp⟩;exact World.ownsRow_made (base:=w.heap.size) (e:=24) (size:=4) w #[] 0 (by simp) (by simp[maxLen]) rfl
 obtain⟨v3,w3,hap3,hr3,hbel3,hs3⟩:=qim hrX hP (by simp) (hra.below hbX) (by simp;omega);rw[List.nil_append]at hr3;have hb3:=hbel3 w w.heap.size hbX (Nat.le_refl _);obtain⟨A3,c3,rfl,-⟩:=hr3.toS (P:=fun _=>True) (fun _ _ _=>trivial) (fun _ _ _=>trivial);rw[←hna]at hap3 hr3;have hlbI:(nb:Int)≤400000:=by omega
 have HR3:=hdzz hr3;have HB3:=hdzz hb3;have HLA:=hdzz hla';have HLB:=hdzz hlb';have HNA:=hdzz hna;have HNB:=hdzz hnb;have HRB:=hdzz hrb;have HSA:=hdzz hsa;have HSB:=hdzz hsb;have HP:=hdzz hP;clear hbX hrX hr3 hbel3 hs3 hb3 hla' hlb' hna hnb hra hrb hsa hsb hP;go_enter Tryz.func21,Tryz.ntmps21
 go_wp2_with (at_builtin;refine qab rfl _ _ rfl rfl rfl hap3 ?_)
 go_loopw [5,6] (fun v iv wr=>∃(k m c:Nat) (A':Option Addr) (its:List It),k≤nb∧iv=.int .i64 k∧v=.slice A' m c∧Hid (m=its.length)∧Hid (m≤na+k)∧Hid (∀x∈its,x.1.size≤1000000)∧Hid (RowT wr w.heap.size P (.slice A' m c) its)∧Hid (its.map (·.1)=qc4 la (lb.take k))∧Hid (Below w.heap.size w wr))
  (fun _ iv _=>nb - (intOf iv).toNat)
 case atStart=>exact⟨0,na,c3,A3,ia,Nat.zero_le _,rfl,rfl,HNA.out,Nat.le_refl _,HSA.out,HR3.out,HLA.out.symm,HB3.out⟩
 case round=>
  obtain⟨k,m,c,A',its,hk,rfl,rfl,HM,HMK,HSZ,HR,HF,HB⟩:=hrel;have i1:(0:Int)≤(k:Int):=Int.natCast_nonneg _;have hsr:=HB.out.size;clear HR3 HB3 hap3;by_cases hlt:k<nb
  ·have i2:(k:Int)<(nb:Int):=by omega
   have hki:k<ib.length:=by have:=HNB.out;omega
   have hkl:k<lb.length:=by rw[HLB.out,List.length_map];exact hki
   obtain⟨g0,hB0⟩:=HRB.out.some (by omega);subst hB0;obtain⟨a0,a1,a2,a3,-⟩:=(HRB.out.below HB.out).slot HNB.out k hki;have hpt:=plus_take la lb hkl;have hlk:lb[k]=ib[k].1:=by
    have h2:=HLB.out;subst h2;simp
   rw[hlk,←HF.out]at hpt;have TG:=qle its w.heap.size A' m c ib[k].1 ib[k].2.1 ib[k].2.2 wr P (fun b h=>by have:=HP.out b h;omega) HR.out (RepP.mono (fun _ h=>h.1) (fun p hp=>HB.out.cell (HP.out _ hp.1)) _ _ _ (HRB.out.reps _ (List.getElem_mem hki))) (by have:=HMK.out;omega) (HSB.out _ (List.getElem_mem hki)) HSZ.out;have hsx:=HSB.out _ (List.getElem_mem hki);obtain⟨x,hx⟩:∃x,x=ib[k]:=⟨_,rfl⟩;rw[←hx]at a0 a1 a2 a3 hpt TG hsx;obtain⟨L2,hL2⟩:∃L,L=togT x.1 (its.map (·.1)):=⟨_,rfl⟩;have HL2:Hid (∀y∈L2,y.size≤1000000):=hdzz fun y hy=>by
    rw[hL2]at hy;rcases tog_mem hy with h|h
    ·rw[h];exact hsx
    ·obtain⟨z,hz,rfl⟩:=List.mem_map.1 h;exact HSZ.out z hz
   have HLL2:Hid (L2.length≤na+(k+1)):=hdzz (by
    have h1:=tog_len x.1 (its.map (·.1));rw[←hL2,List.length_map,←HM.out]at h1;have:=HMK.out;omega)
   rw[←hL2]at TG hpt;have HPT:=hdzz hpt;simp only[Tm.val]at TG;have TG:=hdzz TG;clear hx hL2 hpt hlk hkl hki hsx HR HF HSZ HM HMK;go_wp2_with fail
   refine TG.out.mono ?_;clear TG a0 a1 a2 a3;rintro e w5 ⟨A5,c5,n5,it5,rfl,hn5,hr5,hb5,hm5⟩;have HB5:=hdzz (HB.out.trans (hb5.mono hsr));have HR5:=hdzz (hr5.loosen hsr (fun _ h=>h));have HM5:=hdzz hm5;have HN5:=hdzz hn5;clear hb5 hr5 hm5 hn5;go_wp2_with fail
   go_roundw
   case rel=>exact⟨k+1,n5,c5,A5,it5,by omega,by go_num,rfl,HR5.out.len,(by have h:=HN5.out;have h2:=HLL2.out;show n5≤_;omega),(fun x hx=>HL2.out x.1 (by rw[←HM5.out];exact List.mem_map_of_mem hx)),HR5.out,(HM5.out.trans HPT.out.symm),HB5.out⟩
   case measure=>simp[intOf];omega
  ·obtain rfl:k=nb:=by omega
   have HFF:Hid (its.map (·.1)=qc4 la lb):=hdzz (by have h:=HF.out;rw[HNB.out,show ib.length=lb.length by rw[HLB.out,List.length_map],List.take_length]at h;exact h);go_wp2_with fail
   go_ret
   exact⟨A',c,m,its,rfl,(by rw[←HFF.out,List.length_map];exact HM.out),HR.out,HB.out,HFF.out⟩
def slLen:Value→Nat
 | .slice _ n _=>n
 | _=>0
def OkL (l:List Tm) (w:World) (e:Ending) (w':World):Prop:=
 ∃A c,e=.returned (.slice A l.length c)∧RepS w' (fun b=>b<w'.heap.size) l A c∧Below w.heap.size w w'
theorem qke {w:World} {P:Nat→Prop} {x:Tm} {r:List Tm} {b off c:Nat} (h:RepS w P (x::r) (some ⟨b,off,none⟩) c):RepS w P r (if c=1 then some ⟨b,off,none⟩else some ⟨b,off+4,none⟩) (c - 1):=by
 obtain⟨h1,h2,h3⟩:=h;simp only[List.length_cons]at h1;refine⟨by omega,by omega,?_⟩;by_cases hr:r=[]
 ·exact .inl hr
 ·have:0<r.length:=List.length_pos_iff.2 hr;rw[if_neg (by omega)];rcases h3 with h|⟨b',off',e,hb,hl⟩
  ·cases h
  ·injection e with e;injection e with e1 e2;subst e1 e2;rw[RepLP]at hl;exact .inr ⟨b,off+4,rfl,hb,hl.2⟩
theorem qkf {w:World} {P:Nat→Prop} {x:Tm} {r:List Tm} {A:Option Addr} {c:Nat} (h:RepS w P (x::r) A c):∃b off,A=some ⟨b,off,none⟩∧P b∧∃A' c',w.cell? ⟨b,off,none⟩=some (.int .i64 x.kind)∧w.cell? ⟨b,off+1,none⟩=some (.string x.name)∧w.cell? ⟨b,off+2,none⟩=some (.int .i64 x.sort)∧w.cell? ⟨b,off+3,none⟩=some (.slice A' x.kids.length c')∧RepP w P x A' c':=by
 rcases h.2.2 with h|⟨b,off,rfl,hb,hl⟩
 ·cases h
 ·rw[RepLP]at hl;obtain⟨⟨A',c',h0,h1,h2,h3,h4⟩,-⟩:=hl;exact⟨b,off,rfl,hb,A',c',h0,h1,h2,h3,h4⟩
attribute [local irreducible] qax
theorem xplus_any (a b:List Tm) (A B:Option Addr) (c d:Nat) (w:World) (ha:a.length≤40000) (hb:b.length≤40000) (hsa:∀t∈a,t.size≤1000000) (hsb:∀t∈b,t.size≤1000000) (hra:RepS w (fun b=>b<w.heap.size) a A c) (hrb:RepS w (fun b=>b<w.heap.size) b B d) :
  Calls Tryz.prog 94 #[.slice A a.length c,.slice B b.length d] w (OkL (mrgT a b) w):=by
 have mixed:=mixz;obtain⟨na,hna⟩:∃n,n=a.length:=⟨_,rfl⟩;obtain⟨nb,hnb⟩:∃n,n=b.length:=⟨_,rfl⟩;obtain⟨res,hres⟩:∃r,r=mrgT a b:=⟨_,rfl⟩;have hrl:res.length≤na+nb:=by rw[hres,hna,hnb];exact mrg_len _ a b (Nat.le_refl _)
 rw[←hna]at ha;rw[←hnb]at hb;rw[←hna,←hnb,←hres];have HNA:=hdzz hna;have HNB:=hdzz hnb;have HRA:=hdzz hra;have HRB:=hdzz hrb;have HSA:=hdzz hsa;have HSB:=hdzz hsb;have HRES:=hdzz hres;have HRL:=hdzz hrl;clear hna hnb hra hrb hsa hsb hres hrl;go_enter Tryz.func94,Tryz.ntmps94
 go_wp2_with fail
 go_loopw [0,1,5] (fun u0 u1 u5 wr=>∃(a' b':List Tm) (its:List It) (A1 B1:Option Addr) (c1 d1 n1 m1:Nat),u0=.slice A1 n1 c1∧u1=.slice B1 m1 d1∧Hid (n1=a'.length∧(∀t∈a',t.size≤1000000))∧Hid (m1=b'.length∧(∀t∈b',t.size≤1000000))∧
   Hid (RepS wr (fun b=>b<w.heap.size) a' A1 c1)∧Hid (RepS wr (fun b=>b<w.heap.size) b' B1 d1)∧Hid (RowT wr w.heap.size (fun b=>b<w.heap.size) u5 its)∧Hid (its.map (·.1)++mrgT a' b'=res)∧Hid (Below w.heap.size w wr)) (fun u0 u1 _ _=>slLen u0+slLen u1)
 case atStart=>exact⟨a,b,[],A,B,c,d,na,nb,rfl,rfl,⟨HNA.out,HSA.out⟩,⟨HNB.out,HSB.out⟩,HRA.out,HRB.out,RowT.nil _ _ _,HRES.out.symm,Below.refl _ _⟩
 case round=>
  obtain⟨a',b',its,A1,B1,c1,d1,n1,m1,rfl,rfl,HLA,HLB,HA,HB',HR,HE,HBW⟩:=hrel;have hsr:=HBW.out.size;have HFIN:Hid (mrgT a' b'=a'++b'→a'.length≤na+nb→b'.length≤na+nb→Hid (n1=a'.length)→Hid (m1=b'.length)→its.length+a'.length+b'.length=res.length):=hdzz fun h _ _ _ _=>by
   have:=congrArg List.length HE.out;rw[h]at this;simp only[List.length_append,List.length_map]at this;omega
  have HIL:Hid (its.length+1≤100000000):=hdzz (by
   have:=congrArg List.length HE.out;simp only[List.length_append,List.length_map]at this;have:=HRL.out;omega)
  by_cases hmain:a'≠[]∧b'≠[]
  case neg=>
   have hmr:mrgT a' b'=a'++b':=by
    rcases a' with _|⟨x,ra⟩
    ·rw[qf4];rfl
    ·rcases b' with _|⟨y,rb⟩
     ·rw[qhx,List.append_nil]
     ·exact absurd ⟨by simp,by simp⟩ hmain
   have he:=HE.out;rw[hmr]at he;have hlen:its.length+a'.length+b'.length≤80000:=by
    have h:=congrArg List.length he;simp only[List.length_append,List.length_map]at h;have:=HRL.out;omega
   obtain⟨A2,c2,w2,it2,hm2,hap2,hr2,hg2⟩:=qe2 HR.out (Nat.le_refl _) hsr HA.out (by omega);have hb2:=hg2 w w.heap.size HBW.out (Nat.le_refl _);have hl2:it2.length=a'.length:=by rw[←hm2,List.length_map]
   have hlen2:(its++it2).length=its.length+a'.length:=by rw[List.length_append,hl2]
   rw[←hlen2]at hr2;obtain⟨A3,c3,w3,it3,hm3,hap3,hr3,hg3⟩:=qe2 hr2 (Nat.le_refl _) hb2.size (RepS.mono (w:=wr) (fun _ h=>h) (fun p (hp:p.block<w.heap.size)=>(hb2.cell hp).trans (HBW.out.cell hp).symm) HB'.out) (by rw[hlen2];omega);have hb3:=hg3 w w.heap.size hb2 (Nat.le_refl _);rw[hlen2]at hap3;have HOK:Hid (OkL res w (.returned (.slice A3 (its.length+a'.length+b'.length) c3)) w3):=hdzz (by
    rw[hlen2]at hr3;obtain⟨A4,c4,hv,hS⟩:=hr3.toS (P:=fun b=>b<w3.heap.size) (fun b h _=>by have:=hb3.size;omega) (fun b _ h=>h);injection hv with e1 e2 e3;subst e1 e3;have hmm:(its++it2++it3).map (·.1)=res:=by rw[List.map_append,List.map_append,hm2,hm3,List.append_assoc];exact he
    rw[hmm]at hS;have hll:its.length+a'.length+b'.length=res.length:=by rw[←he];simp only[List.length_append,List.length_map];omega
    exact⟨A3,c3,by rw[hll],hS,hb3⟩)
   rw[←HLA.out.1]at hap2 hap3 HOK;rw[←HLB.out.1]at hap3 HOK;have hex:(n1=0)∨(0<n1∧m1=0):=by
    rcases Nat.eq_zero_or_pos n1 with h|h
    ·exact .inl h
    ·refine .inr ⟨h,?_⟩;have h1:a'≠[]:=fun e=>by have:=HLA.out.1;rw[e]at this;simp at this;omega
     have h2:b'=[]:=Classical.byContradiction fun e=>hmain ⟨h1,e⟩;have:=HLB.out.1;rw[h2]at this;simpa using this
   clear hr2 hr3 hg2 hg3 hb2 hb3 hm2 hm3 he hmr hmain hlen hlen2 hl2 HFIN;rcases hex with hn|⟨hn,hm⟩
   ·have q1:¬((0:Int)<(n1:Int)):=by omega
    clear hn;go_wp2_with (at_builtin;first|refine qab rfl _ _ rfl rfl rfl hap2 ?_|refine qab rfl _ _ rfl rfl rfl hap3 ?_)
    go_ret
    exact HOK.out
   ·have q1:(0:Int)<(n1:Int):=by omega
    have q2:¬((0:Int)<(m1:Int)):=by omega
    clear hn hm;go_wp2_with (at_builtin;first|refine qab rfl _ _ rfl rfl rfl hap2 ?_|refine qab rfl _ _ rfl rfl rfl hap3 ?_)
    go_ret
    exact HOK.out
  clear HFIN;obtain⟨x,ra,rfl⟩:∃x r,a'=x::r:=by rcases a' with _|⟨x,r⟩;exact absurd rfl hmain.1;exact⟨x,r,rfl⟩
  obtain⟨y,rb,rfl⟩:∃x r,b'=x::r:=by rcases b' with _|⟨x,r⟩;exact absurd rfl hmain.2;exact⟨x,r,rfl⟩
  clear hmain;obtain⟨ab,ao,rfl,hab,Ax,cx,p0,p1,p2,p3,px⟩:=qkf HA.out;obtain⟨bb,bo,rfl,hbb,Ay,cy,q0,q1,q2,q3,qy⟩:=qkf HB'.out;have hTA:=qke HA.out;have hTB:=qke HB'.out;obtain⟨At,hAt⟩:∃A:Option Addr,A=if c1=1 then some ⟨ab,ao,none⟩else some ⟨ab,ao+4,none⟩:=⟨_,rfl⟩
  obtain⟨Bt,hBt⟩:∃A:Option Addr,A=if d1=1 then some ⟨bb,bo,none⟩else some ⟨bb,bo+4,none⟩:=⟨_,rfl⟩
  rw[←hAt]at hTA;rw[←hBt]at hTB;have hAts:=hAt.symm;have hBts:=hBt.symm;clear hAt hBt;obtain⟨n2,rfl⟩:∃n2,n1=n2+1:=⟨ra.length,HLA.out.1⟩;obtain⟨m2,rfl⟩:∃m2,m1=m2+1:=⟨rb.length,HLB.out.1⟩;have HLAt:Hid (n2=ra.length∧∀t∈ra,t.size≤1000000):=hdzz ⟨by have:=HLA.out.1;simp only[List.length_cons]at this;omega,fun t ht=>HLA.out.2 t (List.mem_cons_of_mem _ ht)⟩;have HLBt:Hid (m2=rb.length∧∀t∈rb,t.size≤1000000):=hdzz ⟨by have:=HLB.out.1;simp only[List.length_cons]at this;omega,fun t ht=>HLB.out.2 t (List.mem_cons_of_mem _ ht)⟩;have HLAw:=HLA;have HLBw:=HLB;clear HLA HLB;have hca:n2+1≤c1:=by have:=HA.out.1;have:=HLAw.out.1;omega
  have hcb:m2+1≤d1:=by have:=HB'.out.1;have:=HLBw.out.1;omega
  have hca2:c1≤9223372036854775807:=by have:=HA.out.2.1;unfold maxLen at this;omega
  have hcb2:d1≤9223372036854775807:=by have:=HB'.out.2.1;unfold maxLen at this;omega
  have hcaI:(n2:Int)+1≤(c1:Int):=by omega
  have hcbI:(m2:Int)+1≤(d1:Int):=by omega
  have k1:(0:Int)<(n2:Int)+1:=by omega
  have k2:(0:Int)<(m2:Int)+1:=by omega
  have k3:(1:Int)≤(n2:Int)+1:=by omega
  have k4:(1:Int)≤(m2:Int)+1:=by omega
  have CM:Hid (Calls Tryz.prog 53 #[x.val Ax cx,y.val Ay cy] wr.drew fun e w'=>e=.returned (.int .i64 (x.cmp y))∧Lay wr.drew.heap.size wr.drew w'):=hdzz
   (qef 1000000 x y Ax Ay cx cy wr.drew (HLAw.out.2 x (List.mem_cons_self ..)) (Nat.le_refl _) (HLBw.out.2 y (List.mem_cons_self ..)) (RepP.mono (w:=wr) (w':=wr.drew) (fun b (h:b<w.heap.size)=>by show _<wr.heap.size;omega) (fun _ _=>rfl) _ _ _ px) (RepP.mono (w:=wr) (w':=wr.drew) (fun b (h:b<w.heap.size)=>by show _<wr.heap.size;omega) (fun _ _=>rfl) _ _ _ qy))
  have HMLT:Hid (x.cmp y<0→(its++[((x,Ax,cx):It)]).map (·.1)++mrgT ra (y::rb)=res):=hdzz fun h=>by have:=HE.out;rw[qlr h]at this;rw[List.map_append,List.append_assoc];exact this
  have HMGT:Hid (0<x.cmp y→(its++[((y,Ay,cy):It)]).map (·.1)++mrgT (x::ra) rb=res):=hdzz fun h=>by have:=HE.out;rw[qls h]at this;rw[List.map_append,List.append_assoc];exact this
  have HMEQ:Hid (x.cmp y=0→its.map (·.1)++mrgT ra rb=res):=hdzz fun h=>by have:=HE.out;rw[qlt h]at this;exact this
  obtain⟨r,hr⟩:∃r,r=x.cmp y:=⟨_,rfl⟩;rw[←hr]at CM HMLT HMGT HMEQ;clear hr HE;simp only[Tm.val]at CM;have HTA:=hdzz hTA;have HTB:=hdzz hTB;have HPX:=hdzz px;have HPY:=hdzz qy;clear hTA hTB px qy;go_wp2_with fail
  have a0:wr.drew.cell? ⟨ab,ao,none⟩=_:=p0;have a1:wr.drew.cell? ⟨ab,ao+1,none⟩=_:=p1;have a2:wr.drew.cell? ⟨ab,ao+2,none⟩=_:=p2;have a3:wr.drew.cell? ⟨ab,ao+3,none⟩=_:=p3;have b0:wr.drew.cell? ⟨bb,bo,none⟩=_:=q0;have b1:wr.drew.cell? ⟨bb,bo+1,none⟩=_:=q1;have b2:wr.drew.cell? ⟨bb,bo+2,none⟩=_:=q2;have b3:wr.drew.cell? ⟨bb,bo+3,none⟩=_:=q3;have hsD:w.heap.size≤wr.drew.heap.size:=hsr;have hbD:Below wr.heap.size wr wr.drew:=(Below.refl _ _).drew;clear p0 p1 p2 p3 q0 q1 q2 q3;refine qaf (fun Y=>Below wr.drew.heap.size wr.drew Y) (fun _=>True) [] (.held 0 (.held 1 (.held 2 (.held 3 (.held 4 (.held 5 (.op 6 (.held 7 .nil)))))))) mixed (by kernel_rfl) ?_;have hsE:wr.drew.heap.size=wr.heap.size:=rfl;generalize wr.drew=E at *
  refine stkz (.slice (some ⟨ab,ao,none⟩) (n2+1) c1) rfl rfl rfl (fun _ _ _ h=>h) (Below.refl _ _) (fun Y hY=>by
    (try simp only[Act.put]);go_simp) ?_
  refine stkz (.pointer (some ⟨ab,ao,none⟩)) rfl rfl rfl (fun _ _ _ h=>h) (Below.refl _ _) (fun Y hY=>by
    (try simp only[Act.put]);go_simp) ?_
  refine stkz (.agg #[.int .i64 x.kind,.string x.name,.int .i64 x.sort,.slice Ax x.kids.length cx]) rfl rfl rfl (fun _ _ _ h=>h) (Below.refl _ _) (fun Y hY=>by
    have z0:=sclz hY a0 (by omega);have z1:=sclz hY a1 (by omega);have z2:=sclz hY a2 (by omega);have z3:=sclz hY a3 (by omega)
    (try simp only[Act.put]);go_simp) ?_
  refine stkz (.slice (some ⟨bb,bo,none⟩) (m2+1) d1) rfl rfl rfl (fun _ _ _ h=>h) (Below.refl _ _) (fun Y hY=>by
    (try simp only[Act.put]);go_simp) ?_
  refine stkz (.pointer (some ⟨bb,bo,none⟩)) rfl rfl rfl (fun _ _ _ h=>h) (Below.refl _ _) (fun Y hY=>by
    (try simp only[Act.put]);go_simp) ?_
  refine stkz (.agg #[.int .i64 y.kind,.string y.name,.int .i64 y.sort,.slice Ay y.kids.length cy]) rfl rfl rfl (fun _ _ _ h=>h) (Below.refl _ _) (fun Y hY=>by
    have z0:=sclz hY b0 (by omega);have z1:=sclz hY b1 (by omega);have z2:=sclz hY b2 (by omega);have z3:=sclz hY b3 (by omega)
    (try simp only[Act.put]);go_simp) ?_
  simp only[Act.put,fsa,fsb,fsc,fsd,fse,fsf];refine qae rfl rfl (fun K hK=>?_);go_wp2_with fail
  refine CM.out.mono ?_;clear CM;rintro e w3 ⟨rfl,hl3⟩;refine hK _ _ ⟨⟨fun _=>hl3.below.mono (by omega),trivial⟩,?_⟩;clear hK K;refine stkz (.int .i64 r) rfl rfl rfl (fun _ _ _ h=>h) (hl3.below.mono (by omega)) (fun Y hY=>by
    (try simp only[Act.put]);go_simp) ?_
  refine qar ?_;have hb3:Below wr.heap.size wr w3:=hbD.trans (hl3.below.mono (by omega));have HB3:=hdzz (HBW.out.trans (hb3.mono hsr));have HR3:=hdzz (HR.out.below hb3);have hs3:=hb3.size;have HCL:Hid (∀p:Addr,p.block<w.heap.size→w3.cell? p=wr.cell? p):=hdzz fun p hp=>hb3.cell (by omega);have HRX0:Hid (∀Z,(∀p:Addr,p.block<w.heap.size→Z.cell? p=w3.cell? p)→RepP Z (fun b=>b<w.heap.size) x Ax cx∧RepP Z (fun b=>b<w.heap.size) y Ay cy):=hdzz fun Z hZ=>⟨RepP.mono (fun _ h=>h) (fun p h=>(hZ p h).trans (HCL.out p h)) _ _ _ HPX.out,RepP.mono (fun _ h=>h) (fun p h=>(hZ p h).trans (HCL.out p h)) _ _ _ HPY.out⟩;have RX:=hdzz (HRX0.out w3 fun _ _=>rfl).1;have RY:=hdzz (HRX0.out w3 fun _ _=>rfl).2
  have HXS:Hid (∀Z,(∀p:Addr,p.block<w.heap.size→Z.cell? p=w3.drew.cell? p)→RepS Z (fun b=>b<w.heap.size) (x::ra) (some ⟨ab,ao,none⟩) c1):=hdzz fun Z hZ=>RepS.mono (w:=wr) (fun _ h=>h) (fun p h=>(hZ p h).trans (HCL.out p h)) HA.out;have HYS:Hid (∀Z,(∀p:Addr,p.block<w.heap.size→Z.cell? p=w3.drew.cell? p)→RepS Z (fun b=>b<w.heap.size) (y::rb) (some ⟨bb,bo,none⟩) d1):=hdzz fun Z hZ=>RepS.mono (w:=wr) (fun _ h=>h) (fun p h=>(hZ p h).trans (HCL.out p h)) HB'.out;have HTA:Hid (∀Z,(∀p:Addr,p.block<w.heap.size→Z.cell? p=w3.drew.cell? p)→RepS Z (fun b=>b<w.heap.size) ra At (c1 - 1)):=hdzz fun Z hZ=>RepS.mono (w:=wr) (fun _ h=>h) (fun p h=>(hZ p h).trans (HCL.out p h)) HTA.out
  have HTB:Hid (∀Z,(∀p:Addr,p.block<w.heap.size→Z.cell? p=w3.drew.cell? p)→RepS Z (fun b=>b<w.heap.size) rb Bt (d1 - 1)):=hdzz fun Z hZ=>RepS.mono (w:=wr) (fun _ h=>h) (fun p h=>(hZ p h).trans (HCL.out p h)) HTB.out;have p0:=(hb3.cell (p:=⟨ab,ao,none⟩) (by show ab<_;omega)).trans ((hbD.cell (p:=⟨ab,ao,none⟩) (by show ab<_;omega)).symm.trans a0);have p1:=(hb3.cell (p:=⟨ab,ao+1,none⟩) (by show ab<_;omega)).trans ((hbD.cell (p:=⟨ab,ao+1,none⟩) (by show ab<_;omega)).symm.trans a1);have p2:=(hb3.cell (p:=⟨ab,ao+2,none⟩) (by show ab<_;omega)).trans ((hbD.cell (p:=⟨ab,ao+2,none⟩) (by show ab<_;omega)).symm.trans a2);have p3:=(hb3.cell (p:=⟨ab,ao+3,none⟩) (by show ab<_;omega)).trans ((hbD.cell (p:=⟨ab,ao+3,none⟩) (by show ab<_;omega)).symm.trans a3)
  have q0:=(hb3.cell (p:=⟨bb,bo,none⟩) (by show bb<_;omega)).trans ((hbD.cell (p:=⟨bb,bo,none⟩) (by show bb<_;omega)).symm.trans b0);have q1:=(hb3.cell (p:=⟨bb,bo+1,none⟩) (by show bb<_;omega)).trans ((hbD.cell (p:=⟨bb,bo+1,none⟩) (by show bb<_;omega)).symm.trans b1);have q2:=(hb3.cell (p:=⟨bb,bo+2,none⟩) (by show bb<_;omega)).trans ((hbD.cell (p:=⟨bb,bo+2,none⟩) (by show bb<_;omega)).symm.trans b2);have q3:=(hb3.cell (p:=⟨bb,bo+3,none⟩) (by show bb<_;omega)).trans ((hbD.cell (p:=⟨bb,bo+3,none⟩) (by show bb<_;omega)).symm.trans b3);clear hb3 hbD hl3 a0 a1 a2 a3 b0 b1 b2 b3 HA HB' HBW HR hsE HCL HPX HPY HRX0 hsD;simp only[Act.put,fsa,fsb,fsc,fsd,fse,fsf];by_cases hr1:r<0
  ·have HEA:=hdzz (HMLT.out hr1);clear q0 q1 q2 q3;go_wp2_with fail
   have hD:∀p:Addr,w3.drew.cell? p=w3.cell? p:=fun _=>rfl;have e0:=(hD _).trans p0;have e1:=(hD _).trans p1;have e2:=(hD _).trans p2;have e3:=(hD _).trans p3;have HRD:=hdzz (HR3.out.below (Below.refl _ _).drew);have HBD:=hdzz HB3.out.drew;have hsD:w3.heap.size≤w3.drew.heap.size:=Nat.le_refl _;have HRX:=hdzz (RepP.mono (w:=w3) (w':=w3.drew) (fun _ h=>h) (fun _ _=>rfl) _ _ _ RX.out);clear p0 p1 p2 p3 hD;refine qaf (fun Y=>∀p:Addr,p.block<w.heap.size→Y.cell? p=w3.drew.cell? p) (fun _=>True) [] (.held 0 (.held 1 (.held 2 (.held 3 (.held 6 (.held 7 (.op 4 (.op 5 (.held 8 (.held 9 .nil)))))))))) mixed (by kernel_rfl) ?_;generalize w3.drew=D at *;refine stkz (u5) rfl rfl rfl (fun _ _ _ h=>h) (fun _ _=>rfl) (fun Y hY=>by
     (try simp only[Act.put]);go_simp) ?_
   refine stkz (.slice (some ⟨ab,ao,none⟩) (n2+1) c1) rfl rfl rfl (fun _ _ _ h=>h) (fun _ _=>rfl) (fun Y hY=>by
     (try simp only[Act.put]);go_simp) ?_
   refine stkz (.pointer (some ⟨ab,ao,none⟩)) rfl rfl rfl (fun _ _ _ h=>h) (fun _ _=>rfl) (fun Y hY=>by
     (try simp only[Act.put]);go_simp) ?_
   refine stkz (.agg #[.int .i64 x.kind,.string x.name,.int .i64 x.sort,.slice Ax x.kids.length cx]) rfl rfl rfl (fun _ _ _ h=>h) (fun _ _=>rfl) (fun Y hY=>by
     have z0:=(hY ⟨ab,ao,none⟩ (by show ab<_;omega)).trans e0;have z1:=(hY ⟨ab,ao+1,none⟩ (by show ab<_;omega)).trans e1;have z2:=(hY ⟨ab,ao+2,none⟩ (by show ab<_;omega)).trans e2;have z3:=(hY ⟨ab,ao+3,none⟩ (by show ab<_;omega)).trans e3
     (try simp only[Act.put]);go_simp) ?_
   refine stkz (.slice (some ⟨ab,ao,none⟩) (n2+1) c1) rfl rfl rfl (fun _ _ _ h=>h) (fun _ _=>rfl) (fun Y hY=>by
     (try simp only[Act.put]);go_simp) ?_
   refine stkz (.slice At n2 (c1 - 1)) rfl rfl rfl (fun _ _ _ h=>h) (fun _ _=>rfl) (fun Y hY=>by
     (try simp only[Act.put]);go_simp) ?_
   simp only[Act.put,fsa,fsb,fsc,fsd,fse,fsf];obtain⟨W6,hW6⟩:∃W6,W6=D.alloc (.cells #[.int .i64 x.kind,.string x.name,.int .i64 x.sort,.slice Ax x.kids.length cx] 24):=⟨_,rfl⟩;obtain⟨A7,c7,w7,hap,hr7,hg7⟩:=HRD.out.more1 (fun b h=>by omega) HBD.out.size (x,Ax,cx) HRX.out (by have:=HIL.out;omega);dsimp only at hap hg7;rw[←hW6]at hap hg7;have hb6:Below D.heap.size D W6:=by rw[hW6];exact qad (Nat.le_refl _) _
   have hdb:=HBD.out.size;have HB7:=hdzz ((HBD.out.trans (hb6.mono hdb)).grown hg7 (by have:=hb6.size;omega) (fun j e=>by have:=(HRD.out.lt _ e).1;omega));have HS6:Hid (∀p:Addr,p.block<w.heap.size→W6.cell? p=D.cell? p):=hdzz fun p hp=>hb6.cell (by omega);have HS7:Hid (∀p:Addr,p.block<w.heap.size→w7.cell? p=D.cell? p):=hdzz fun p hp=>(World.cell?_of_block (hg7.block p.block (by have:=hb6.size;omega) (fun e=>by have:=(HRD.out.lt _ e.symm).1;omega))).trans (hb6.cell (by omega));have HR7:=hdzz hr7;clear hr7 hg7 hb6 e0 e1 e2 e3;refine qae rfl rfl (fun K hK=>?_);go_wp2_with fail
   rw[←hW6];refine⟨⟨fun _=>HS6.out,trivial⟩,?_⟩;clear hW6;refine qae rfl rfl (fun K hK=>?_);refine qdh _ _ rfl rfl rfl (fun ty=>hap ty) ?_;refine hK _ _ ⟨⟨fun _=>HS7.out,trivial⟩,?_⟩;clear hK K hap;refine stkz (.slice A7 (its.length+1) c7) rfl rfl rfl (fun _ _ _ h=>h) HS7.out (fun Y hY=>by
     (try simp only[Act.put]);go_simp) ?_
   refine stkz (.slice At n2 (c1 - 1)) rfl rfl rfl (fun _ _ _ h=>h) HS7.out (fun Y hY=>by
     (try simp only[Act.put]);go_simp) ?_
   refine qar ?_;simp only[Act.put,fsa,fsb,fsc,fsd,fse,fsf];go_wp2_with fail
   go_roundw
   case rel=>exact⟨ra,y::rb,its++[(x,Ax,cx)],At,some ⟨bb,bo,none⟩,c1 - 1,d1,n2,m2+1,rfl,rfl,HLAt.out,HLBw.out,HTA.out w7 HS7.out,HYS.out w7 HS7.out,HR7.out,HEA.out,HB7.out⟩
   case measure=>simp[slLen]
  ·by_cases hr2:0<r
   ·have HEB:=hdzz (HMGT.out hr2);clear p0 p1 p2 p3;go_wp2_with fail
    have hD:∀p:Addr,w3.drew.cell? p=w3.cell? p:=fun _=>rfl;have e0:=(hD _).trans q0;have e1:=(hD _).trans q1;have e2:=(hD _).trans q2;have e3:=(hD _).trans q3;have HRD:=hdzz (HR3.out.below (Below.refl _ _).drew);have HBD:=hdzz HB3.out.drew;have hsD:w3.heap.size≤w3.drew.heap.size:=Nat.le_refl _;have HRX:=hdzz (RepP.mono (w:=w3) (w':=w3.drew) (fun _ h=>h) (fun _ _=>rfl) _ _ _ RY.out);clear q0 q1 q2 q3 hD;refine qaf (fun Y=>∀p:Addr,p.block<w.heap.size→Y.cell? p=w3.drew.cell? p) (fun _=>True) [] (.held 0 (.held 1 (.held 2 (.held 3 (.held 6 (.held 7 (.op 4 (.op 5 (.held 8 (.held 9 .nil)))))))))) mixed (by kernel_rfl) ?_;generalize w3.drew=D at *;refine stkz (u5) rfl rfl rfl (fun _ _ _ h=>h) (fun _ _=>rfl) (fun Y hY=>by
      (try simp only[Act.put]);go_simp) ?_
    refine stkz (.slice (some ⟨bb,bo,none⟩) (m2+1) d1) rfl rfl rfl (fun _ _ _ h=>h) (fun _ _=>rfl) (fun Y hY=>by
      (try simp only[Act.put]);go_simp) ?_
    refine stkz (.pointer (some ⟨bb,bo,none⟩)) rfl rfl rfl (fun _ _ _ h=>h) (fun _ _=>rfl) (fun Y hY=>by
      (try simp only[Act.put]);go_simp) ?_
    refine stkz (.agg #[.int .i64 y.kind,.string y.name,.int .i64 y.sort,.slice Ay y.kids.length cy]) rfl rfl rfl (fun _ _ _ h=>h) (fun _ _=>rfl) (fun Y hY=>by
      have z0:=(hY ⟨bb,bo,none⟩ (by show bb<_;omega)).trans e0;have z1:=(hY ⟨bb,bo+1,none⟩ (by show bb<_;omega)).trans e1;have z2:=(hY ⟨bb,bo+2,none⟩ (by show bb<_;omega)).trans e2;have z3:=(hY ⟨bb,bo+3,none⟩ (by show bb<_;omega)).trans e3
      (try simp only[Act.put]);go_simp) ?_
    refine stkz (.slice (some ⟨bb,bo,none⟩) (m2+1) d1) rfl rfl rfl (fun _ _ _ h=>h) (fun _ _=>rfl) (fun Y hY=>by
      (try simp only[Act.put]);go_simp) ?_
    refine stkz (.slice Bt m2 (d1 - 1)) rfl rfl rfl (fun _ _ _ h=>h) (fun _ _=>rfl) (fun Y hY=>by
      (try simp only[Act.put]);go_simp) ?_
    simp only[Act.put,fsa,fsb,fsc,fsd,fse,fsf];obtain⟨W6,hW6⟩:∃W6,W6=D.alloc (.cells #[.int .i64 y.kind,.string y.name,.int .i64 y.sort,.slice Ay y.kids.length cy] 24):=⟨_,rfl⟩;obtain⟨A7,c7,w7,hap,hr7,hg7⟩:=HRD.out.more1 (fun b h=>by omega) HBD.out.size (y,Ay,cy) HRX.out (by have:=HIL.out;omega);dsimp only at hap hg7;rw[←hW6]at hap hg7;have hb6:Below D.heap.size D W6:=by rw[hW6];exact qad (Nat.le_refl _) _
    have hdb:=HBD.out.size;have HB7:=hdzz ((HBD.out.trans (hb6.mono hdb)).grown hg7 (by have:=hb6.size;omega) (fun j e=>by have:=(HRD.out.lt _ e).1;omega));have HS6:Hid (∀p:Addr,p.block<w.heap.size→W6.cell? p=D.cell? p):=hdzz fun p hp=>hb6.cell (by omega);have HS7:Hid (∀p:Addr,p.block<w.heap.size→w7.cell? p=D.cell? p):=hdzz fun p hp=>(World.cell?_of_block (hg7.block p.block (by have:=hb6.size;omega) (fun e=>by have:=(HRD.out.lt _ e.symm).1;omega))).trans (hb6.cell (by omega));have HR7:=hdzz hr7;clear hr7 hg7 hb6 e0 e1 e2 e3;refine qae rfl rfl (fun K hK=>?_);go_wp2_with fail
    rw[←hW6];refine⟨⟨fun _=>HS6.out,trivial⟩,?_⟩;clear hW6;refine qae rfl rfl (fun K hK=>?_);refine qdh _ _ rfl rfl rfl (fun ty=>hap ty) ?_;refine hK _ _ ⟨⟨fun _=>HS7.out,trivial⟩,?_⟩;clear hK K hap;refine stkz (.slice A7 (its.length+1) c7) rfl rfl rfl (fun _ _ _ h=>h) HS7.out (fun Y hY=>by
      (try simp only[Act.put]);go_simp) ?_
    refine stkz (.slice Bt m2 (d1 - 1)) rfl rfl rfl (fun _ _ _ h=>h) HS7.out (fun Y hY=>by
      (try simp only[Act.put]);go_simp) ?_
    refine qar ?_;simp only[Act.put,fsa,fsb,fsc,fsd,fse,fsf];go_wp2_with fail
    go_roundw
    case rel=>exact⟨x::ra,rb,its++[(y,Ay,cy)],some ⟨ab,ao,none⟩,Bt,c1,d1 - 1,n2+1,m2,rfl,rfl,HLAw.out,HLBt.out,HXS.out w7 HS7.out,HTB.out w7 HS7.out,HR7.out,HEB.out,HB7.out⟩
    case measure=>simp[slLen]
   ·have HEQ:=hdzz (HMEQ.out (by omega));clear p0 p1 p2 p3 q0 q1 q2 q3;go_wp2_with fail
    refine qaf (fun _=>True) (fun _=>True) [] (.held 0 (.held 1 (.held 2 (.held 3 (.held 4 (.held 5 .nil)))))) mixed (by kernel_rfl) ?_;refine stkz (.slice (some ⟨ab,ao,none⟩) (n2+1) c1) rfl rfl rfl (fun _ _ _ h=>h) trivial (fun Y hY=>by
      (try simp only[Act.put]);go_simp) ?_
    refine stkz (.slice At n2 (c1 - 1)) rfl rfl rfl (fun _ _ _ h=>h) trivial (fun Y hY=>by
      (try simp only[Act.put]);go_simp) ?_
    refine stkz (.slice (some ⟨bb,bo,none⟩) (m2+1) d1) rfl rfl rfl (fun _ _ _ h=>h) trivial (fun Y hY=>by
      (try simp only[Act.put]);go_simp) ?_
    refine stkz (.slice Bt m2 (d1 - 1)) rfl rfl rfl (fun _ _ _ h=>h) trivial (fun Y hY=>by
      (try simp only[Act.put]);go_simp) ?_
    refine stkz (.slice At n2 (c1 - 1)) rfl rfl rfl (fun _ _ _ h=>h) trivial (fun Y hY=>by
      (try simp only[Act.put]);go_simp) ?_
    refine stkz (.slice Bt m2 (d1 - 1)) rfl rfl rfl (fun _ _ _ h=>h) trivial (fun Y hY=>by
      (try simp only[Act.put]);go_simp) ?_
    refine qar ?_;simp only[Act.put,fsa,fsb,fsc,fsd,fse,fsf];go_wp2_with fail
    go_roundw
    case rel=>exact⟨ra,rb,its,At,Bt,c1 - 1,d1 - 1,n2,m2,rfl,rfl,HLAt.out,HLBt.out,HTA.out _ (fun _ _=>rfl),HTB.out _ (fun _ _=>rfl),HR3.out.below (Below.refl _ _).drew,HEQ.out,HB3.out.drew⟩
    case measure=>simp[slLen];omega
theorem qk8 (n:Nat):(madeCells (Value.agg #[.int .i64 0,.string ⟨#[]⟩,.int .i64 0,.slice none 0 0]).cells (n*4)).toList=itCells (List.replicate n ((Tm.mk 0 ⟨#[]⟩ 0 [],none,0):It)):=by
 have hz:(Value.agg #[.int .i64 0,.string ⟨#[]⟩,.int .i64 0,.slice none 0 0]).cells=#[.int .i64 0,.string ⟨#[]⟩,.int .i64 0,.slice none 0 0]:=rfl;rw[hz];refine List.ext_getElem? fun j=>?_;by_cases hj:j<n*4
 ·obtain⟨i,r,hr,rfl⟩:∃i r,r<4∧j=i*4+r:=⟨j / 4,j % 4,Nat.mod_lt _ (by decide),by omega⟩;have g:=qfo (List.replicate n ((Tm.mk 0 ⟨#[]⟩ 0 [],none,0):It)) i (by rw[List.length_replicate];omega);simp only[List.getElem_replicate]at g;obtain⟨g0,g1,g2,g3⟩:=g;have e:∀z:Array Value,z.size=4→(madeCells z (n*4)).toList[i*4+r]?=some (z[r]!):=fun z hz=>by
   have:(i*4+r) % 4=r:=by omega
   simp[madeCells,hz,hj,this]
  rw[e _ rfl]
  match r,hr with
  | 0,_=>exact g0.symm
  | 1,_=>exact g1.symm
  | 2,_=>exact g2.symm
  | 3,_=>exact g3.symm
 ·rw[List.getElem?_eq_none (by simp[madeCells];omega),List.getElem?_eq_none (by rw[qb2,List.length_replicate];omega)]
theorem qnf (w:World) (n:Nat) (hn:n≤1000000):∃w',(∀(ops:Array Oper) (rest:List Oper) (o:Oper) (a:Act) (Q:Exit→Act→World→Prop) (l c:Operand),o.guard=none→o.op=Op.makeSlice 22 l c→a.eval l=.int .i64 n→a.eval c=.int .i64 n→wpList Tryz.prog ops Q rest (a.put o.dst (.slice (some ⟨w.heap.size,0,none⟩) n n)) w'→wpList Tryz.prog ops Q (o::rest) a w)∧
  RowT w' w.heap.size (fun b=>w.heap.size<b) (.slice (some ⟨w.heap.size,0,none⟩) n n) (List.replicate n ((Tm.mk 0 ⟨#[]⟩ 0 [],none,0):It))∧Below w.heap.size w w'∧w.heap.size<w'.heap.size:=by
 obtain⟨i0,hi0,hz0,hz1,hz2⟩:=info_parts qcv;obtain⟨w',hrun,r1,r2⟩:=run_make_full (P:=Tryz.prog) w w.heap.size 22 24 i0 _ 4 Tryz.underlying22 hi0 hz0 hz1 .i64 .i64 n (by rw[hz2];omega) (by unfold maxLen;omega) (Nat.le_refl _);refine⟨w',fun ops rest o a Q l c hg hop hl hc h=>?_,⟨by rw[List.length_replicate,←qk8];exact r1,fun x hx=>?_⟩,(Below.refl w.heap.size w).grown r2 (Nat.le_refl _) (fun j e=>by cases e),(r1.lt _ rfl).2⟩
 ·refine wpList_plain hg fun K hK=>?_;unfold Oper.wp;simp[execOp,hop,hl,hc,hrun,Result.andThen];exact hK _ _ h
 ·obtain rfl:=List.eq_of_mem_replicate hx;rw[RepP_mk];exact⟨by decide,Nat.le_refl _,Nat.zero_le _,.inl rfl⟩
theorem itCells_setK:∀(its:List It) (i:Nat) (h:i<its.length) (A:Option Addr) (c:Nat),(itCells its).set (i*4+3) (.slice A its[i].1.kids.length c)=itCells (its.set i (its[i].1,A,c))
 | [],_,h,_,_=>by simp at h
 | x::r,0,_,A,c=>by simp[itCells,Tm.cells]
 | x::r,i+1,h,A,c=>by
  have g:=itCells_setK r i (by simpa using h) A c;rw[show(i+1)*4+3=(i*4+3)+1+1+1+1 by omega];simp only[itCells,Tm.cells,List.cons_append,List.nil_append,List.set_cons_succ,List.getElem_cons_succ,g]
theorem qka {w:World} {base:Nat} {F:Nat→Prop} {g cap n:Nat} {its:List It} (h:RowT w base F (.slice (some ⟨g,0,none⟩) n cap) its) (hn:n=its.length) (i:Nat) (hi:i<its.length) (A:Option Addr) (c:Nat)
  (hX:RepP w (fun b=>F b∧b<w.heap.size∧g≠b) its[i].1 A c):RowT (w.setCell ⟨g,i*4+3,none⟩ (.slice A its[i].1.kids.length c)) base F (.slice (some ⟨g,0,none⟩) n cap) (its.set i (its[i].1,A,c)):=by
 subst hn;have hown:=own_set h.own (i*4+3) (.slice A its[i].1.kids.length c);rw[itCells_setK its i hi A c]at hown;refine⟨by rw[List.length_set];exact hown,fun x hx=>?_⟩;have key:RepP w (fun b=>F b∧b<w.heap.size∧g≠b) x.1 x.2.1 x.2.2:=by
  rcases List.mem_or_eq_of_mem_set hx with hx|rfl
  ·exact RepP.mono (fun b ⟨h1,h2,h3⟩=>⟨h1,h2,fun e=>h3 (by rw[e];rfl)⟩) (fun _ _=>rfl) _ _ _ (h.reps x hx)
  ·exact hX
 refine RepP.mono ?_ ?_ _ _ _ key
 ·rintro b ⟨h1,h2,h3⟩;exact⟨h1,by simpa[World.setCell]using h2,fun e=>h3 (by injection e)⟩
 ·rintro p ⟨h1,h2,h3⟩;have hne:∀o,(⟨g,o,none⟩:Addr)≠p:=fun o e=>h3 (by rw[←e]);rw[World.cell?_setCell_other _ _ _ _ (hne _)]
def OwnL (l:List Tm) (w:World) (e:Ending) (w':World):Prop:=
 ∃A c,e=.returned (.slice A l.length c)∧RepS w' (fun b=>w.heap.size≤b∧b<w'.heap.size) l A c∧Below w.heap.size w w'
theorem set_take {α:Type}:∀(a:List α) (k:Nat) (x:α),k<a.length→(a.set k x).take (k+1)=a.take k++[x]
 | [],_,_,h=>by simp at h
 | _::_,0,_,_=>rfl
 | y::a,k+1,x,h=>by simp[set_take a k x (by simpa using h)]
structure OwnR (w:World) (l:List Tm) (k:Nat) (jts:List It) (wr:World):Prop where
 row:RowT wr w.heap.size (fun b=>w.heap.size<b) (.slice (some ⟨w.heap.size,0,none⟩) l.length l.length) jts
 len:jts.length=l.length
 eq:(jts.map (·.1)).take k=l.take k
 bel:Below w.heap.size w wr
theorem OwnR.lt {w:World} {l:List Tm} {k:Nat} {jts:List It} {wr:World} (h:OwnR w l k jts wr):w.heap.size<wr.heap.size:=(h.row.lt _ rfl).2
theorem xown_any (n:Nat):∀(l:List Tm) (A:Option Addr) (c:Nat) (w:World),Tm.sizes l<n→n≤1000000→RepS w (fun b=>b<w.heap.size) l A c→
  Calls Tryz.prog 52 #[.slice A l.length c] w (OwnL l w):=by
 induction n with
 | zero=>intro l _ _ _ h;omega
 | succ n ih=>
  intro l A c w hn hb hrep;have hll:=Tm.length_le_sizes l;obtain⟨w1,hmk,hrow1,hb1,hs1⟩:=qnf w l.length (by omega);have HR1:Hid (OwnR w l 0 (List.replicate l.length ((Tm.mk 0 ⟨#[]⟩ 0 [],none,0):It)) w1):=hdzz ⟨hrow1,List.length_replicate,by rw[List.take_zero,List.take_zero],hb1⟩;have HRW:=hdzz hrep;have IH:=hdzz ih;obtain⟨nl,hnl⟩:∃n,n=l.length:=⟨_,rfl⟩;rw[←hnl]at hmk hll ⊢;have HNL:=hdzz hnl;clear hrow1 hb1 hrep ih hnl;have hlI:(nl:Int)≤1000000:=by omega
  go_enter Tryz.func52,Tryz.ntmps52
  go_wp2_with (at_make;refine hmk _ _ _ _ _ _ _ rfl rfl rfl rfl ?_)
  clear hmk;go_loopw [11] (fun i wr=>∃(k:Nat) (jts:List It),k≤nl∧i=.int .i64 k∧Hid (OwnR w l k jts wr)) (fun i _=>nl - (intOf i).toNat)
  case atStart=>exact⟨0,_,Nat.zero_le _,rfl,HR1.out⟩
  case round=>
   clear HR1;obtain⟨k,jts,hk,rfl,HR⟩:=hrel;have i1:(0:Int)≤(k:Int):=Int.natCast_nonneg _;have hsr:=HR.out.lt;by_cases hlt:k<nl
   ·have i2:(k:Int)<(nl:Int):=by omega
    have hkl:k<l.length:=by have:=HNL.out;omega
    obtain⟨bb,off,rfl,hbb,hl⟩:∃bb off,A=some ⟨bb,off,none⟩∧bb<w.heap.size∧RepLP w (fun b=>b<w.heap.size) l bb off:=by
     rcases HRW.out.2.2 with h|h
     ·rw[h]at hkl;simp at hkl
     ·exact h
    obtain⟨A1,c1,p0,p1,p2,p3,p5⟩:=RepLP.get (RepLP.mono (w':=wr) (P:=fun b=>b<w.heap.size) (P':=fun b=>b<w.heap.size) (fun _ h=>h) (fun p (hp:p.block<w.heap.size)=>HR.out.bel.cell hp) _ _ _ hbb hl) k hkl;have hsg:=Tm.sizes_get l k hkl;have HTK:=hdzz (List.take_succ_eq_append_getElem hkl);obtain⟨x,hx⟩:∃x,x=l[k]:=⟨_,rfl⟩;rw[←hx]at p0 p1 p2 p3 p5 hsg HTK;clear hx hl;obtain⟨X,hX⟩:∃X,X=wr.alloc (.cells #[.int .i64 x.kind,.string x.name,.int .i64 x.sort,.slice A1 x.kids.length c1] 24):=⟨_,rfl⟩;have hbX:Below wr.heap.size wr X:=by rw[hX];exact qad (Nat.le_refl _) _
    have hsX:X.heap.size=wr.heap.size+1:=by rw[hX];simp
    have hxX:X.heap[wr.heap.size]?=some (.cells #[.int .i64 x.kind,.string x.name,.int .i64 x.sort,.slice A1 x.kids.length c1] 24 (0,0)):=by rw[hX];exact heap_alloc_new wr _
    obtain⟨x0,x1,x2,x3,xf⟩:=qaa hxX;have hrX:RepT X X.heap.size x A1 c1:=RepP.mono (w:=wr) (fun b (h:b<w.heap.size)=>by omega) (fun p (h:p.block<w.heap.size)=>hbX.cell (by omega)) _ _ _ p5;have RP:=qlj x x A1 A1 c1 c1 [] none 0 X (by omega) (by omega) (by simp) hrX hrX (by unfold RepI;simp[maxLen]);have hrp:Tm.repl [] x x=some x:=rfl;rw[hrp]at RP;simp only[Tm.val,List.length_nil]at RP;have RP:=hdzz RP;have HX:=hdzz hX;have HXX:=hdzz hxX;have HBX:=hdzz hbX;have HP5:=hdzz p5;obtain⟨B,hB⟩:∃B,B=wr.heap.size:=⟨_,rfl⟩;rw[←hB]at x0 x1 x2 x3 HXX;have HBE:=hdzz hB;clear hX hbX hxX hrX p5 hB;go_wp2_with fail
    rw[←HX.out,←HBE.out];clear HX p0 p1 p2 p3;go_wp2_with fail
    refine RP.out.mono ?_;clear RP x0 x1 x2 x3 xf;rintro e w5 ⟨hb5,A5,c5,rfl,hrep5⟩;have hs5:=hb5.size;have hrow5:=HR.out.row.below (HBX.out.trans (hb5.mono (by omega)));have hjl:=HR.out.len;have hkn:=HNL.out;have hjk:k<jts.length:=by omega
    obtain⟨g0,g1,g2,g3,gz⟩:=hrow5.slot hjl.symm k hjk;have hrow6:=hrow5.set hjl.symm k hkl (x,A5,c5) (RepP.mono (fun b h=>⟨by omega,h.2,by omega⟩) (fun _ _=>rfl) _ _ _ hrep5);obtain⟨W6,hW6⟩:∃W6,W6=((((w5.setCell ⟨w.heap.size,k*4,none⟩ (.int .i64 x.kind)).setCell ⟨w.heap.size,k*4+1,none⟩ (.string x.name)).setCell ⟨w.heap.size,k*4+2,none⟩ (.int .i64 x.sort)).setCell ⟨w.heap.size,k*4+3,none⟩ (.slice A5 x.kids.length c5)):=⟨_,rfl⟩;rw[←hW6]at hrow6;have hs6:W6.heap.size=w5.heap.size:=by rw[hW6];simp[World.setCell]
    have hblk6:∀q,q≠w.heap.size→W6.heap[q]?=w5.heap[q]?:=fun q hq=>by
     rw[hW6];iterate 4 rw[Below.heap_setCell _ _ _ _ (by show _≠w.heap.size;exact hq)]
    have hbel6:Below w.heap.size w W6:=by
     rw[hW6];iterate 4 refine Below.setCell ?_ (by exact Nat.le_refl _) _
     exact HR.out.bel.trans ((HBX.out.trans (hb5.mono (by omega))).mono (by omega))
    have hBw:B<w5.heap.size∧B≠w.heap.size:=by have:=HBE.out;omega
    have hxx6:=(hblk6 B hBw.2).trans ((hb5.block B (by have:=HBE.out;omega)).trans HXX.out);obtain⟨xk,xn,xs,xl⟩:=x;have hkr:RepS W6 (fun b=>b<W6.heap.size) xl A1 c1:=by
     have h:=HP5.out;rw[RepP_mk]at h;exact RepS.mono (w:=wr) (P:=fun b=>b<w.heap.size) (fun b h=>by omega) (fun p h=>World.cell?_of_block ((hblk6 p.block (by omega)).trans ((hb5.block _ (by omega)).trans (HBX.out.block _ (by omega))))) h.2
    have OW:=hdzz (IH.out xl A1 c1 W6 (by rw[Tm.size]at hsg;omega) (by omega) hkr);have HNM:Hid (xn.size≤maxLen):=hdzz (by have h:=HP5.out;rw[RepP_mk]at h;exact h.1);obtain⟨y0,y1,y2,y3,yf⟩:=qaa hxx6;have HR6:=hdzz hrow6;have HXX6:=hdzz hxx6;have HW6:=hdzz hW6;have HB6:=hdzz hbel6;have HJT:Hid (∀A c,((jts.set k (Tm.mk xk xn xs xl,A,c)).map (·.1)).take (k+1)=l.take (k+1)):=hdzz fun A c=>by
     rw[List.map_set,set_take _ _ _ (by simpa using hjk),HR.out.eq,HTK.out]
    obtain⟨x0,x1,x2,x3,xf⟩:=qaa ((hb5.block B (by have:=HBE.out;omega)).trans HXX.out);clear hW6 hrow6 hbel6 hkr hrep5 hb5 hrow5 hblk6 hxx6 HP5;simp only[Tm.val,Tm.kind,Tm.name,Tm.sort,Tm.kids]at HW6 HXX6 x0 x1 x2 x3 y0 y1 y2 y3 ⊢;have hkI:¬(nl≤k):=by omega
    clear hkn;go_wp2_with fail
    rw[←HW6.out];clear HW6 g0 g1 g2 g3 gz x0 x1 x2 x3 xf;go_wp2_with fail
    refine OW.out.mono ?_;clear OW;rintro e w8 ⟨A8,c8,rfl,hrep8,hb8⟩;have hs8:=hb8.size;have hrow8:=HR6.out.below hb8;have hjl2:(jts.set k (Tm.mk xk xn xs xl,A5,c5)).length=l.length:=by rw[List.length_set];omega
    obtain⟨g0,g1,g2,g3,gz⟩:=hrow8.slot hjl2.symm k (by omega);have hgk:(jts.set k (Tm.mk xk xn xs xl,A5,c5))[k]'(by omega)=(Tm.mk xk xn xs xl,A5,c5):=by simp
    rw[hgk]at g0 g1 g2 g3;have hSK:∀(A9:Option Addr) (c9:Nat) (Z:World),RowT Z w.heap.size (fun b=>w.heap.size<b) (.slice (some ⟨w.heap.size,0,none⟩) l.length l.length) (jts.set k (Tm.mk xk xn xs xl,A5,c5))→RepP Z (fun b=>w.heap.size<b∧b<Z.heap.size∧w.heap.size≠b) (Tm.mk xk xn xs xl) A9 c9→
      RowT (Z.setCell ⟨w.heap.size,k*4+3,none⟩ (.slice A9 xl.length c9)) w.heap.size (fun b=>w.heap.size<b) (.slice (some ⟨w.heap.size,0,none⟩) l.length l.length) (jts.set k (Tm.mk xk xn xs xl,A9,c9)):=fun A9 c9 Z hZ hp=>by
     have h:=qka hZ hjl2.symm k (by omega) A9 c9 (by rw[hgk];exact hp);rw[hgk]at h;rw[List.set_set]at h;exact h
    have hp8:RepP w8 (fun b=>w.heap.size<b∧b<w8.heap.size∧w.heap.size≠b) (Tm.mk xk xn xs xl) A8 c8:=by
     rw[RepP_mk];exact⟨HNM.out,RepS.mono (fun b h=>by omega) (fun _ _=>rfl) hrep8⟩
    obtain⟨W9,hW9⟩:∃W9,W9=w8.setCell ⟨w.heap.size,k*4+3,none⟩ (.slice A8 xl.length c8):=⟨_,rfl⟩;have hrow9:RowT W9 w.heap.size (fun b=>w.heap.size<b) (.slice (some ⟨w.heap.size,0,none⟩) l.length l.length) (jts.set k (Tm.mk xk xn xs xl,A8,c8)):=by rw[hW9];exact hSK A8 c8 w8 hrow8 hp8
    have HB9:Hid (Below w.heap.size w W9):=hdzz (by rw[hW9];exact(HB6.out.trans (hb8.mono (by omega))).setCell (Nat.le_refl _) _);have hbx9:W9.heap[B]?=some (.cells #[.int .i64 xk,.string xn,.int .i64 xs,.slice A1 xl.length c1] 24 (0,0)):=by rw[hW9,Below.heap_setCell _ _ _ _ (by show _≠w.heap.size;exact hBw.2)];exact(hb8.block B (by omega)).trans HXX6.out
    have hjl9:(jts.set k (Tm.mk xk xn xs xl,A8,c8)).length=l.length:=by rw[List.length_set];omega
    have HW9:=hdzz hW9;have HR9:=hdzz hrow9;obtain⟨y0,y1,y2,y3,yf⟩:=qaa ((hb8.block B (by omega)).trans HXX6.out);obtain⟨v0,v1,v2,v3,vf⟩:=qaa hbx9;obtain⟨e0,e1,e2,e3,ez⟩:=hrow9.slot hjl9.symm k (by omega);have hge:(jts.set k (Tm.mk xk xn xs xl,A8,c8))[k]'(by omega)=(Tm.mk xk xn xs xl,A8,c8):=by simp
    rw[hge]at e0 e1 e2 e3;have HLR:Hid (xl.length=0→RowT (W9.setCell ⟨w.heap.size,k*4+3,none⟩ (.slice none 0 0)) w.heap.size (fun b=>w.heap.size<b) (.slice (some ⟨w.heap.size,0,none⟩) l.length l.length) (jts.set k (Tm.mk xk xn xs xl,none,0))):=hdzz fun h0=>by
     have h:=qka hrow9 hjl9.symm k (by omega) none 0 (by
      rw[hge,RepP_mk];exact⟨HNM.out,by omega,Nat.zero_le _,.inl (List.eq_nil_of_length_eq_zero h0)⟩)
     rw[hge,List.set_set]at h;have e:(Tm.mk xk xn xs xl).kids.length=0:=h0;rw[e]at h;exact h
    clear hW9 hrow9 hrow8 hp8 hSK hrep8 hb8 hbx9 hge hgk hjl2;simp only[Tm.kind,Tm.name,Tm.sort,Tm.kids]at g0 g1 g2 g3 e0 e1 e2 e3;by_cases hz:xl.length=0
    ·have hzI:((xl.length:Int)==0)=true:=by rw[hz];rfl
     have hrz:=HLR.out hz;have HRZ:=hdzz hrz;clear hz hrz;go_wp2_with fail
     rw[←HW9.out];go_roundw
     case rel=>exact⟨k+1,jts.set k (Tm.mk xk xn xs xl,none,0),by omega,by go_num,⟨HRZ.out,by rw[List.length_set];omega,HJT.out none 0,HB9.out.setCell (Nat.le_refl _) _⟩⟩
     case measure=>simp[intOf];omega
    ·have hzI:((xl.length:Int)==0)=false:=by rw[beq_eq_false_iff_ne];omega
     go_wp2_with fail
     rw[←HW9.out];go_roundw
     case rel=>exact⟨k+1,jts.set k (Tm.mk xk xn xs xl,A8,c8),by omega,by go_num,⟨HR9.out,hjl9,HJT.out A8 c8,HB9.out⟩⟩
     case measure=>simp[intOf];omega
   ·obtain rfl:k=nl:=by omega
    have hm:=HR.out.eq;have hkn:=HNL.out;rw[List.take_of_length_le (l:=l) (by rw[hkn];exact Nat.le_refl _),List.take_of_length_le (by rw[List.length_map,HR.out.len,hkn];exact Nat.le_refl _)]at hm;obtain⟨Av,cv,hv,hS⟩:=HR.out.row.toS (P:=fun b=>w.heap.size≤b∧b<wr.heap.size) (fun b h h'=>⟨by omega,h'⟩) (fun b h h'=>⟨h,h'⟩);rw[hm]at hS;injection hv with e1 e2 e3;subst e1 e3;have HOK:Hid (OwnL l w (.returned (.slice (some ⟨w.heap.size,0,none⟩) l.length l.length)) wr):=hdzz ⟨_,_,rfl,hS,HR.out.bel⟩;rw[←hkn]at HOK;clear hS e2 hm hkn;go_wp2_with fail
    go_ret
    exact HOK.out
mutual
theorem qep:∀(t:Tm),∀p∈t.sumd,p.size≤t.size
 | .mk k n s l,p,hp=>by
  rw[Tm.sumd]at hp
  split at hp
  ·cases hp
  ·split at hp
   ·rw[Tm.size];have:=qig l [] (Tm.sizes l) (by simp) (Nat.le_refl _) p hp;omega
   ·rw[List.mem_singleton.1 hp];exact Nat.le_refl _
theorem qig:∀(l a:List Tm) (M:Nat),(∀p∈a,p.size≤M)→Tm.sizes l≤M→∀p∈Tm.sumds l a,p.size≤M
 | [],_,_,ha,_,p,hp=>ha p hp
 | t::r,a,M,ha,hM,p,hp=>by
  rw[Tm.sizes]at hM;refine qig r _ M (fun q hq=>?_) (by omega) p hp;rcases (qdj t.sumd a q (qcb (qcw t))).1 hq with⟨h1,-⟩|⟨-,h2⟩
  ·exact ha q h1
  ·have:=qep t q h2;omega
end
theorem qez (l a:List Tm) {k:Nat} (hk:k<l.length):Tm.sumds (l.drop k) a=Tm.sumds (l.drop (k+1)) (qc4 a l[k].sumd):=by rw[List.drop_eq_getElem_cons hk,Tm.sumds]
def SumB (M:Nat) (a:List Tm):Prop:=Asc a∧a.length≤M∧∀p∈a,p.size≤40000
theorem SumB.nil:SumB 0 []:=⟨List.Pairwise.nil,Nat.le_refl _,by simp⟩
theorem SumB.plus {M:Nat} {a:List Tm} (h:SumB M a) {t:Tm} (ht:t.size≤40000):SumB (M+t.size) (qc4 a t.sumd):=by
 refine⟨qhc _ _ h.1,?_,fun p hp=>?_⟩
 ·have h1:=qhb t.sumd a;have h2:=qfx t;have:=h.2.1;omega
 ·rcases (qdj t.sumd a p (qcb (qcw t))).1 hp with⟨h1,-⟩|⟨-,h2⟩
  ·exact h.2.2 p h1
  ·have:=qep t p h2;omega
theorem SumB.sumd {t:Tm} (ht:t.size≤40000):SumB t.size t.sumd:=⟨qcw t,qfx t,fun p hp=>by have:=qep t p hp;omega⟩
theorem qis {a:List Tm} {t:Tm} {M:Nat} (ha:SumB M a) (hM:M≤40000) (ht:t.size≤40000) (A B:Option Addr) (c d:Nat) (w:World) (hra:RepS w (fun b=>b<w.heap.size) a A c) (hrb:RepS w (fun b=>b<w.heap.size) t.sumd B d) :
  Calls Tryz.prog 94 #[.slice A a.length c,.slice B t.sumd.length d] w (OkL (qc4 a t.sumd) w):=by
 have hs:=SumB.sumd ht;have h:=xplus_any a t.sumd A B c d w (by have:=ha.2.1;omega) (by have:=hs.2.1;omega) (fun p hp=>by have:=ha.2.2 p hp;omega) (fun p hp=>by have:=hs.2.2 p hp;omega) hra hrb;rw[mrg_plus ha.1 hs.1]at h;exact h
theorem qi6 (n:Nat):∀(t:Tm) (A:Option Addr) (c:Nat) (w:World),t.size≤n→n≤40000→RepT w w.heap.size t A c→Calls Tryz.prog 55 #[t.val A c] w (OkL t.sumd w):=by
 induction n with
 | zero=>intro t _ _ _ h;have:=t.size_pos;omega
 | succ n ih=>
  intro t A c w hn hb hrep;obtain⟨V,hV⟩:∃V,V=w.alloc (qag t A c):=⟨_,rfl⟩;have hbV:Below w.heap.size w V:=by rw[hV];exact qad (Nat.le_refl _) _
  have hsV:V.heap.size=w.heap.size+1:=by rw[hV];simp
  have hbx:V.heap[w.heap.size]?=some (qag t A c):=by rw[hV];exact heap_alloc_new _ _
  have hrV:=hrep.go hbV (show w.heap.size≤V.heap.size by omega);obtain⟨tk,tn,ts,l⟩:=t;obtain⟨res,hres⟩:∃r,r=(Tm.mk tk tn ts l).sumd:=⟨_,rfl⟩;rw[←hres];rw[Tm.sumd]at hres;have N1:=qat (n:=tn) (c:=qch) (L:=[122,101,114,111]) rfl;have N2:=qat (n:=tn) (c:=nXor) (L:=[120,111,114]) rfl;simp only[qag,Tm.kind,Tm.name,Tm.sort,Tm.kids]at hV hbx;simp only[Tm.val,Tm.kind,Tm.name,Tm.sort,Tm.kids];obtain⟨r0,r1,r2,r3,rf⟩:=qaa hbx;have hcase:(((tk==3)=false∨((tk==3)=true∧(tn.toList==[122,101,114,111])=true∧((l.length:Int)==0)=false∧(tn.toList==[120,111,114])=false)∨((tk==3)=true∧(tn.toList==[122,101,114,111])=false∧(tn.toList==[120,111,114])=false))∧res=[.mk tk tn ts l])∨
    ((tk==3)=true∧(tn.toList==[122,101,114,111])=true∧((l.length:Int)==0)=true∧res=[])∨((tk==3)=true∧(tn.toList==[122,101,114,111])=false∧(tn.toList==[120,111,114])=true∧res=Tm.sumds l []):=by
   by_cases hk:tk=3
   ·have hk':(tk==3)=true:=by rw[hk];rfl
    by_cases hz:tn=qch
    ·have h1:=N1.1 hz;have h2:(tn.toList==[120,111,114])=false:=by
      rw[beq_eq_false_iff_ne];rw[beq_iff_eq]at h1;rw[h1];decide
     have hx:tn≠nXor:=fun e=>by rw[e]at hz;exact absurd hz (by decide)
     by_cases hl:l=[]
     ·exact .inr (.inl ⟨hk',h1,by rw[hl];rfl,by rw[hres,if_pos ⟨hk,hz,hl⟩]⟩)
     ·refine .inl ⟨.inr (.inl ⟨hk',h1,?_,h2⟩),by rw[hres,if_neg (fun e=>hl e.2.2),if_neg (fun e=>hx e.2)]⟩;rw[beq_eq_false_iff_ne];have:=List.length_pos_iff.2 hl;omega
    ·have h1:(tn.toList==[122,101,114,111])=false:=by rw[←Bool.not_eq_true];exact fun e=>hz (N1.2 e)
     by_cases hx:tn=nXor
     ·exact .inr (.inr ⟨hk',h1,N2.1 hx,by rw[hres,if_neg (fun e=>hz e.2.1),if_pos ⟨hk,hx⟩]⟩)
     ·have h2:(tn.toList==[120,111,114])=false:=by rw[←Bool.not_eq_true];exact fun e=>hx (N2.2 e)
      exact .inl ⟨.inr (.inr ⟨hk',h1,h2⟩),by rw[hres,if_neg (fun e=>hz e.2.1),if_neg (fun e=>hx e.2)]⟩
   ·exact .inl ⟨.inl (by rw[beq_eq_false_iff_ne];exact hk),by rw[hres,if_neg (fun e=>hk e.1),if_neg (fun e=>hk e.1)]⟩
  clear hres N1 N2;have HRV:=hdzz hrV;have HBX:=hdzz hbx;have HBV:=hdzz hbV;have hlen:(l.length:Int)≤1000000:=by have:=Tm.length_le_sizes l;rw[Tm.size]at hn;omega
  rcases hcase with⟨hc,hr⟩|⟨q1,q2,q3,hr⟩|⟨q1,q2,q3,hr⟩
  ·subst hr;obtain⟨W2,hW2⟩:∃W,W=V.alloc (.cells #[.int .i64 tk,.string tn,.int .i64 ts,.slice A l.length c] 24):=⟨_,rfl⟩;have HOK:Hid (OkL [.mk tk tn ts l] w (.returned (.slice (some ⟨V.heap.size,0,none⟩) 1 1)) W2):=hdzz (by
    have hb2:Below V.heap.size V W2:=by rw[hW2];exact qad (Nat.le_refl _) _
    have hs2:W2.heap.size=V.heap.size+1:=by rw[hW2];simp
    have hx2:W2.heap[V.heap.size]?=some (.cells (itCells [((Tm.mk tk tn ts l,A,c):It)]).toArray 24 (0,0)):=by rw[hW2];exact heap_alloc_new _ _
    refine⟨_,1,rfl,⟨Nat.le_refl _,by unfold maxLen;omega,.inr ⟨V.heap.size,0,rfl,by omega,?_⟩⟩,HBV.out.trans (hb2.mono (by omega))⟩;refine RepLP.of_its [(Tm.mk tk tn ts l,A,c)] _ 0 (fun j u hj=>?_) (fun x hx=>?_)
    ·rw[Nat.zero_add];unfold World.cell?;rw[hx2];simpa using hj
    ·rw[List.mem_singleton]at hx;subst hx;exact RepP.mono (fun b h=>by have:b<V.heap.size:=h;omega) (fun p h=>hb2.cell h) _ _ _ HRV.out)
   have HV:=hdzz hV;have HW2:=hdzz hW2;clear hV hW2 hbx hbV hrV hrep ih;rcases hc with q1|⟨q1,q2,q3,q4⟩|⟨q1,q2,q3⟩
   all_goals
    go_enter Tryz.func55,Tryz.ntmps55
    go_wp2_with fail
    rw[←HV.out];go_wp2_with fail
    go_ret
    rw[←HW2.out];have h:=HOK.out;rw[hsV]at h;exact h
  ·subst hr;have HV:=hdzz hV;clear hV hbx hbV hrV hrep ih;go_enter Tryz.func55,Tryz.ntmps55
   go_wp2_with fail
   rw[←HV.out];go_wp2_with fail
   go_ret
   exact⟨none,0,rfl,⟨Nat.le_refl _,Nat.zero_le _,.inl rfl⟩,HBV.out⟩
  ·have HRES:=hdzz hr;have HV:=hdzz hV;have IH:=hdzz ih;rw[Tm.size]at hn;clear hr hV hbx hbV hrV hrep ih;go_enter Tryz.func55,Tryz.ntmps55
   go_wp2_with fail
   rw[←HV.out];go_wp2_with fail
   clear r0 r1 r2 r3 rf;go_loopw [3,33] (fun u3 i wr=>∃(k:Nat) (a:List Tm) (Aa:Option Addr) (ca na:Nat),k≤l.length∧i=.int .i64 k∧u3=.slice Aa na ca∧Hid (na=a.length)∧Hid (SumB (Tm.sizes (l.take k)) a)∧Hid (RepS wr (fun b=>b<wr.heap.size) a Aa ca)∧Hid (Tm.sumds (l.drop k) a=res)∧Hid (Below V.heap.size V wr)) (fun _ i _=>l.length - (intOf i).toNat)
   case atStart=>exact⟨0,[],none,0,0,Nat.zero_le _,rfl,rfl,rfl,SumB.nil,⟨Nat.le_refl _,Nat.zero_le _,.inl rfl⟩,HRES.out.symm,Below.refl _ _⟩
   case round=>
    obtain⟨k,a,Aa,ca,na,hk,rfl,rfl,HNA,HSB,HRA,HCO,HB⟩:=hrel;have i1:(0:Int)≤(k:Int):=Int.natCast_nonneg _;have hsr:=HB.out.size;by_cases hlt:k<l.length
    ·have i2:(k:Int)<(l.length:Int):=by omega
     obtain⟨b,off,rfl,hbB,hl⟩:∃b off,A=some ⟨b,off,none⟩∧b<V.heap.size∧RepLP V (fun b=>b<V.heap.size) l b off:=by
      have h:=HRV.out;rw[qbh]at h;rcases h.2.2.2 with h|h
      ·rw[h]at hlt;simp at hlt
      ·exact h
     obtain⟨A',cap',h0,h1,h2,h3,h5⟩:=RepLP.get (RepLP.mono (w':=wr) (P:=fun b=>b<V.heap.size) (P':=fun b=>b<V.heap.size) (fun _ h=>h) (fun p (hp:p.block<V.heap.size)=>HB.out.cell hp) _ _ _ hbB hl) k hlt;have hsg:=Tm.sizes_get l k hlt;have hst:=Tm.sizes_take_succ l k hlt;have hstl:=Tm.sizes_take_le l (k+1);have hco:=HCO.out;rw[qez l a hlt]at hco;have hnx:=HSB.out.plus (t:=l[k]) (by omega);rw[←hst]at hnx;obtain⟨x,hx⟩:∃x,x=l[k]:=⟨_,rfl⟩;rw[←hx]at h0 h1 h2 h3 h5 hco hnx hsg hst;clear hx hl;have HCN:=hdzz hco;have HNX:=hdzz hnx;obtain⟨X,hX⟩:∃X,X=wr.alloc (.cells #[.int .i64 x.kind,.string x.name,.int .i64 x.sort,.slice A' x.kids.length cap'] 24):=⟨_,rfl⟩;have hbX:Below wr.heap.size wr X:=by rw[hX];exact qad (Nat.le_refl _) _
     have hxX:X.heap[wr.heap.size]?=some (.cells #[.int .i64 x.kind,.string x.name,.int .i64 x.sort,.slice A' x.kids.length cap'] 24 (0,0)):=by rw[hX];exact heap_alloc_new wr _
     obtain⟨x0,x1,x2,x3,xf⟩:=qaa hxX;have hszX:=hbX.size;have CON:=IH.out x A' cap' X (by omega) (by omega) (RepP.mono (w:=wr) (fun b (h:b<V.heap.size)=>by omega) (fun p (h:p.block<V.heap.size)=>hbX.cell (by omega)) _ _ _ h5);have PL:Hid (∀(Z:World) (B:Option Addr) (d:Nat),Below X.heap.size X Z→RepS Z (fun b=>b<Z.heap.size) x.sumd B d→Calls Tryz.prog 94 #[.slice Aa a.length ca,.slice B x.sumd.length d] Z (OkL (qc4 a x.sumd) Z)):=hdzz fun Z B d hZ hr=>
      qis HSB.out (by omega) (by omega) Aa B ca d Z (RepS.mono (w:=wr) (P:=fun b=>b<wr.heap.size) (fun b h=>by have:=hZ.size;omega) (fun p h=>(hZ.cell (by omega)).trans (hbX.cell h)) HRA.out) hr
     rw[←HNA.out]at PL;simp only[Tm.val]at CON;have CON:=hdzz CON;have HX:=hdzz hX;have HBX2:=hdzz (HB.out.trans (hbX.mono hsr));obtain⟨sl,hsl⟩:∃s,s=x.sumd:=⟨_,rfl⟩;rw[←hsl]at CON PL HCN HNX;clear hX hbX hxX hco hnx hsg hst hstl h5 hsl HRA HSB HNA;go_wp2_with fail
     rw[←HX.out];clear HX h0 h1 h2 h3;go_wp2_with fail
     refine CON.out.mono ?_;clear CON x0 x1 x2 x3 xf;rintro e w2 ⟨A2,c2,rfl,hr2,hb2⟩;have PL:=hdzz (PL.out w2 A2 c2 hb2 hr2);have HB2:=hdzz (HBX2.out.trans (hb2.mono (by omega)));have HS2:=hdzz hb2.size;clear hr2 hb2;go_wp2_with fail
     refine PL.out.mono ?_;clear PL;rintro e w3 ⟨A3,c3,rfl,hr3,hb3⟩;have HR3:=hdzz hr3;have HB3:=hdzz (HB2.out.trans (hb3.mono (by have:=HS2.out;omega)));clear hr3 hb3;go_wp2_with fail
     go_roundw
     case rel=>exact⟨k+1,_,A3,c3,_,by omega,by go_num,rfl,rfl,HNX.out,HR3.out,HCN.out,HB3.out⟩
     case measure=>simp[intOf];omega
    ·obtain rfl:k=l.length:=by omega
     have hco:=HCO.out;rw[List.drop_length,Tm.sumds]at hco;have HFIN:Hid (OkL res w (.returned (.slice Aa na ca)) wr):=hdzz ⟨Aa,ca,by rw[HNA.out,hco],by rw[←hco];exact HRA.out,HBV.out.trans (HB.out.mono (by omega))⟩;clear hco HCO HRA;go_wp2_with fail
     go_ret
     exact HFIN.out
end Go.Proofs.YtjhjoiplpmjepaaGreat
