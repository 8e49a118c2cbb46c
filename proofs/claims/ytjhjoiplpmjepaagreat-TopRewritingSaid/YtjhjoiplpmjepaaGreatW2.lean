/- Gc (joined by shake.py). -/
import Derived.Test.YtjhjoiplpmjepaaGreatW0
import Derived.Test.YtjhjoiplpmjepaaGreatShl
import Derived.Test.YtjhjoiplpmjepaaGreatW1
import Derived.Shelf.Small.Strs
import Derived.Shelf.SlSortCmp.QuietGrown
import Derived.BigQuiet
import Derived.WalkLawsBesides
import Derived.WalkSpells
set_option maxRecDepth 100000
set_option linter.unusedVariables false
set_option linter.unusedSimpArgs false
set_option maxHeartbeats 4000000
namespace Go.Proofs.YtjhjoiplpmjepaaGreat
open Go.RowKit Go.Sort
open Go.RowKit Go.Sort
open Go.RowKit Go.Sort
open Go.RowKit Go.Sort
theorem qap {P:Program} {f:FuncId} {args:Array Value} {w:World} {n:Nat} {os:Array Obj} {v:Value}
  (h:Calls P f args (grow (w.drewN n) os) fun e w'=>e=.returned v∧Lay (grow (w.drewN n) os).heap.size (grow (w.drewN n) os) w') :
  Calls P f args (grow (w.drewN n) os) fun e w''=>e=.returned v∧∃p:GrownBy,w''=grow (w.drewN p.n) p.os:=
 Calls.grown_of (h.mono fun _ _ ⟨he,hl⟩=>⟨he,hl.grow⟩)
theorem qcb {P:Program} {f:FuncId} {args:Array Value} {w:World} {n:Nat} {os:Array Obj} {v:Value}
  (h:Calls P f args (grow (w.drewN n) os) fun e w'=>e=.returned v∧grow (w.drewN n) os=w') :
  Calls P f args (grow (w.drewN n) os) fun e w''=>e=.returned v∧∃p:GrownBy,w''=grow (w.drewN p.n) p.os:=
 h.mono fun _ _ ⟨he,hl⟩=>⟨he,⟨n,os⟩,hl.symm⟩
theorem qhs (a b:Int) (w:World):Calls Tryz.prog 91 #[.int .i64 a,.int .i64 b] w fun e w'=>e=.returned (.int .i64 (sgn a b))∧w=w':=by
 unfold sgn;by_cases h1:a<b
 ·rw[if_pos h1];go_enter Tryz.func91,Tryz.ntmps91
  go_wp2
  go_ret
  exact⟨rfl,rfl⟩
 ·by_cases h2:b<a
  ·rw[if_neg h1,if_pos h2];go_enter Tryz.func91,Tryz.ntmps91
   go_wp2
   go_ret
   exact⟨rfl,rfl⟩
  ·rw[if_neg h1,if_neg h2];go_enter Tryz.func91,Tryz.ntmps91
   go_wp2
   go_ret
   exact⟨rfl,rfl⟩
theorem qff (a b:Int) (w:World):Calls Tryz.prog 109 #[.int .i64 a,.int .i64 b] w fun e w'=>e=.returned (.int .i64 (sgn a b))∧w=w':=by
 unfold sgn;by_cases h1:a<b
 ·rw[if_pos h1];go_enter Tryz.func109,Tryz.ntmps109
  go_wp2
  go_ret
  exact⟨rfl,rfl⟩
 ·by_cases h2:b<a
  ·rw[if_neg h1,if_pos h2];go_enter Tryz.func109,Tryz.ntmps109
   go_wp2
   go_ret
   exact⟨rfl,rfl⟩
  ·rw[if_neg h1,if_neg h2];go_enter Tryz.func109,Tryz.ntmps109
   go_wp2
   go_ret
   exact⟨rfl,rfl⟩
theorem qdf {W:World} {B:Nat} {k:Int} {s:ByteArray} {r:Int} {v:Value} {T:TypeId} (h:W.heap[B]?=some (.cells #[.int .i64 k,.string s,.int .i64 r,v] T (0,0))) :
  (∀n os,(grow (W.drewN n) os).cell? ⟨B,0,none⟩=some (.int .i64 k))∧(∀n os,(grow (W.drewN n) os).cell? ⟨B,1,none⟩=some (.string s))∧
  (∀n os,(grow (W.drewN n) os).cell? ⟨B,2,none⟩=some (.int .i64 r))∧(∀n os,(grow (W.drewN n) os).cell? ⟨B,3,none⟩=some v):=by
 have hlt:B<W.heap.size:=(sltz h);refine⟨fun n os=>cell_grown hlt ?_ n os,fun n os=>cell_grown hlt ?_ n os,fun n os=>cell_grown hlt ?_ n os,fun n os=>cell_grown hlt ?_ n os⟩<;>simp[World.cell?,h]
theorem RepL.get_grown {w wr:World} {B:Nat} {l:List Tm} {b off:Nat} (h:RepL w B l b off) (hw:Lay B w wr) (hbB:b<B) (hB:B≤w.heap.size) (i:Nat) (hi:i<l.length):∃A cap,
  (∀n os,(grow (wr.drewN n) os).cell? ⟨b,off+i*4,none⟩=some (.int .i64 l[i].kind))∧(∀n os,(grow (wr.drewN n) os).cell? ⟨b,off+i*4+1,none⟩=some (.string l[i].name))∧
   (∀n os,(grow (wr.drewN n) os).cell? ⟨b,off+i*4+2,none⟩=some (.int .i64 l[i].sort))∧(∀n os,(grow (wr.drewN n) os).cell? ⟨b,off+i*4+3,none⟩=some (.slice A l[i].kids.length cap))∧RepT wr B l[i] A cap:=by
 obtain⟨A,cap,h0,h1,h2,h3,h4⟩:=(h.below hw.below hbB).get i hi;have hlt:b<wr.heap.size:=Nat.lt_of_lt_of_le hbB (Nat.le_trans hB hw.size);exact⟨A,cap,fun n os=>cell_grown hlt h0 n os,fun n os=>cell_grown hlt h1 n os,fun n os=>cell_grown hlt h2 n os,fun n os=>cell_grown hlt h3 n os,h4⟩
theorem qb7 (n:Nat):∀(t u:Tm) (A A':Option Addr) (cap cap':Nat) (w:World),t.size≤n→n≤1000000→u.size≤1000000→RepT w w.heap.size t A cap→RepT w w.heap.size u A' cap'→
  Calls Tryz.prog 53 #[t.val A cap,u.val A' cap'] w fun e w'=>e=.returned (.int .i64 (t.cmp u))∧Lay w.heap.size w w':=by
 induction n with
 | zero=>intro t _ _ _ _ _ _ h;have:=t.size_pos;omega
 | succ n ih=>
  intro t u A A' cap cap' w hn hb hu hrep hrep';have hsz:=fun W h1=>qoh 1000000 t A cap W (by omega) (by omega) h1;have hsz':=fun W h1=>qoh 1000000 u A' cap' W (by omega) (by omega) h1;obtain⟨tk,tn,ts,l⟩:=t;obtain⟨uk,un,us,m⟩:=u;simp only[Tm.val,Tm.kind,Tm.name,Tm.sort,Tm.kids]at hsz hsz' ⊢;have mixed:=mixz;rw[Tm.cmp];have hll:l.length≤1000000:=by have:=Tm.length_le_sizes l;rw[Tm.size]at hn;omega
  have hml:m.length≤1000000:=by have:=Tm.length_le_sizes m;rw[Tm.size]at hu;omega
  obtain⟨W,hW⟩:∃W,W=(w.alloc (.cells #[.int .i64 tk,.string tn,.int .i64 ts,.slice A l.length cap] 24)).alloc (.cells #[.int .i64 uk,.string un,.int .i64 us,.slice A' m.length cap'] 24):=⟨_,rfl⟩;have hB1:W.heap[w.heap.size]?=some (.cells #[.int .i64 tk,.string tn,.int .i64 ts,.slice A l.length cap] 24 (0,0)):=by
   subst hW;rw[Below.heap_alloc _ _ _ (by simp)];exact heap_alloc_new _ _
  have hB2:W.heap[w.heap.size+1]?=some (.cells #[.int .i64 uk,.string un,.int .i64 us,.slice A' m.length cap'] 24 (0,0)):=by
   subst hW;have h:=heap_alloc_new (w.alloc (.cells #[.int .i64 tk,.string tn,.int .i64 ts,.slice A l.length cap] 24)) (.cells #[.int .i64 uk,.string un,.int .i64 us,.slice A' m.length cap'] 24);rw[World.size_alloc]at h;exact h
  have hWs:W.heap.size=w.heap.size+2:=by subst hW;simp
  have hWL:Lay w.heap.size w W:=by subst hW;exact((Lay.refl _ _).alloc (Nat.le_refl _) _).alloc (by simp) _
  obtain⟨a0,a1,a2,a3⟩:=qdf hB1;obtain⟨b0,b1,b2,b3⟩:=qdf hB2;have HB1:=hdzz hB1;clear hB1;have HB2:=hdzz hB2;clear hB2;have hsub:∀i (h:i<l.length),l[i].size≤n:=fun i h=>by have:=Tm.sizes_get l i h;rw[Tm.size]at hn;omega
  have hsub':∀i (h:i<m.length),m[i].size≤1000000:=fun i h=>by have:=Tm.sizes_get m i h;rw[Tm.size]at hu;omega
  have HSUB:=hdzz hsub;clear hsub;have HSUB':=hdzz hsub';clear hsub';generalize (Tm.mk tk tn ts l).size=s1 at *;generalize (Tm.mk uk un us m).size=s2 at *;have HSZ:=hdzz hsz;clear hsz;have HSZ':=hdzz hsz';clear hsz';have HR:=hdzz hrep;clear hrep;have HR':=hdzz hrep';clear hrep';have IH:=hdzz ih;clear ih;have HW:=hdzz hW;clear hW;have S1:=fun X=>qhs (s1:Int) (s2:Int) X;have S2:=fun X=>qhs tk uk X;have S3:=fun X=>(Tryz.strings_Compare tn un X);have S4:=fun X=>qhs ts us X;have S5:=fun X=>qhs (l.length:Int) (m.length:Int) X;have hlm:sgn (l.length:Int) (m.length:Int)=0→l.length=m.length:=fun h=>by have:=qcu.1 h;omega
  generalize sgn (s1:Int) (s2:Int)=c1 at *;generalize sgn tk uk=c2 at *;generalize Lib.compareBytes tn.data.toList un.data.toList=c3 at *;generalize sgn ts us=c4 at *;generalize sgn (l.length:Int) (m.length:Int)=c5 at *;have HS1:=hdzz S1;clear S1;have HS2:=hdzz S2;clear S2;have HS3:=hdzz S3;clear S3;have HS4:=hdzz S4;clear S4;have HS5:=hdzz S5;clear S5;have hzs:c1≠0∨(c1=0∧c2≠0)∨(c1=0∧c2=0∧c3≠0)∨(c1=0∧c2=0∧c3=0∧c4≠0)∨(c1=0∧c2=0∧c3=0∧c4=0∧c5≠0)∨(c1=0∧c2=0∧c3=0∧c4=0∧c5=0):=by omega
  rcases hzs with z|⟨rfl,z⟩|⟨rfl,rfl,z⟩|⟨rfl,rfl,rfl,z⟩|⟨rfl,rfl,rfl,rfl,z⟩|⟨rfl,rfl,rfl,rfl,rfl⟩
  ·have z':(c1==0)=false:=by simpa using z
   clear hlm;rw[qdc _ z];clear z;go_enter Tryz.func53,Tryz.ntmps53
   go_wp2_with fail
   rw[←HW.out]
   go_quiet_grown (first
    | (go_at_call 91;exact qcb (HS1.out _))
    | (go_at_call_of 92 tn;refine qap (HSZ.out _ ?_);exact HR.out.go (hWL.trans ((Lay.of_grow _ _).mono hWL.size)).below (Nat.le_trans hWL.size (Lay.of_grow _ _).size))
    | (go_at_call_of 92 un;refine qap (HSZ'.out _ ?_);exact HR'.out.go (hWL.trans ((Lay.of_grow _ _).mono hWL.size)).below (Nat.le_trans hWL.size (Lay.of_grow _ _).size)))
   go_wp2_with (first
    | (go_at_call_of 91 tk;refine(HS2.out _).mono ?_;rintro e w1 ⟨rfl,rfl⟩)
    | (go_at_call 93;refine(HS3.out _).mono ?_;rintro e w1 ⟨rfl,rfl⟩)
    | (go_at_call_of 91 ts;refine(HS4.out _).mono ?_;rintro e w1 ⟨rfl,rfl⟩)
    | (go_at_call_of 91 l;refine(HS5.out _).mono ?_;rintro e w1 ⟨rfl,rfl⟩))
   refine wp_loop_rounds 1 ?_;rw[rounds_succ];go_wp2_with fail
   go_ret
   exact⟨rfl,hWL.trans ((Lay.of_grow _ _).mono hWL.size)⟩
  ·have z':(c2==0)=false:=by simpa using z
   clear hlm;rw[qcx,qdc _ z];clear z;go_enter Tryz.func53,Tryz.ntmps53
   go_wp2_with fail
   rw[←HW.out]
   go_quiet_grown (first
    | (go_at_call 91;exact qcb (HS1.out _))
    | (go_at_call_of 92 tn;refine qap (HSZ.out _ ?_);exact HR.out.go (hWL.trans ((Lay.of_grow _ _).mono hWL.size)).below (Nat.le_trans hWL.size (Lay.of_grow _ _).size))
    | (go_at_call_of 92 un;refine qap (HSZ'.out _ ?_);exact HR'.out.go (hWL.trans ((Lay.of_grow _ _).mono hWL.size)).below (Nat.le_trans hWL.size (Lay.of_grow _ _).size)))
   go_wp2_with (first
    | (go_at_call_of 91 tk;refine(HS2.out _).mono ?_;rintro e w1 ⟨rfl,rfl⟩)
    | (go_at_call 93;refine(HS3.out _).mono ?_;rintro e w1 ⟨rfl,rfl⟩)
    | (go_at_call_of 91 ts;refine(HS4.out _).mono ?_;rintro e w1 ⟨rfl,rfl⟩)
    | (go_at_call_of 91 l;refine(HS5.out _).mono ?_;rintro e w1 ⟨rfl,rfl⟩))
   refine wp_loop_rounds 1 ?_;rw[rounds_succ];go_wp2_with fail
   go_ret
   exact⟨rfl,hWL.trans ((Lay.of_grow _ _).mono hWL.size)⟩
  ·have z':(c3==0)=false:=by simpa using z
   clear hlm;rw[qcx,qcx,qdc _ z];clear z;go_enter Tryz.func53,Tryz.ntmps53
   go_wp2_with fail
   rw[←HW.out]
   go_quiet_grown (first
    | (go_at_call 91;exact qcb (HS1.out _))
    | (go_at_call_of 92 tn;refine qap (HSZ.out _ ?_);exact HR.out.go (hWL.trans ((Lay.of_grow _ _).mono hWL.size)).below (Nat.le_trans hWL.size (Lay.of_grow _ _).size))
    | (go_at_call_of 92 un;refine qap (HSZ'.out _ ?_);exact HR'.out.go (hWL.trans ((Lay.of_grow _ _).mono hWL.size)).below (Nat.le_trans hWL.size (Lay.of_grow _ _).size)))
   go_wp2_with (first
    | (go_at_call_of 91 tk;refine(HS2.out _).mono ?_;rintro e w1 ⟨rfl,rfl⟩)
    | (go_at_call 93;refine(HS3.out _).mono ?_;rintro e w1 ⟨rfl,rfl⟩)
    | (go_at_call_of 91 ts;refine(HS4.out _).mono ?_;rintro e w1 ⟨rfl,rfl⟩)
    | (go_at_call_of 91 l;refine(HS5.out _).mono ?_;rintro e w1 ⟨rfl,rfl⟩))
   refine wp_loop_rounds 1 ?_;rw[rounds_succ];go_wp2_with fail
   go_ret
   exact⟨rfl,hWL.trans ((Lay.of_grow _ _).mono hWL.size)⟩
  ·have z':(c4==0)=false:=by simpa using z
   clear hlm;rw[qcx,qcx,qcx,qdc _ z];clear z;go_enter Tryz.func53,Tryz.ntmps53
   go_wp2_with fail
   rw[←HW.out]
   go_quiet_grown (first
    | (go_at_call 91;exact qcb (HS1.out _))
    | (go_at_call_of 92 tn;refine qap (HSZ.out _ ?_);exact HR.out.go (hWL.trans ((Lay.of_grow _ _).mono hWL.size)).below (Nat.le_trans hWL.size (Lay.of_grow _ _).size))
    | (go_at_call_of 92 un;refine qap (HSZ'.out _ ?_);exact HR'.out.go (hWL.trans ((Lay.of_grow _ _).mono hWL.size)).below (Nat.le_trans hWL.size (Lay.of_grow _ _).size)))
   go_wp2_with (first
    | (go_at_call_of 91 tk;refine(HS2.out _).mono ?_;rintro e w1 ⟨rfl,rfl⟩)
    | (go_at_call 93;refine(HS3.out _).mono ?_;rintro e w1 ⟨rfl,rfl⟩)
    | (go_at_call_of 91 ts;refine(HS4.out _).mono ?_;rintro e w1 ⟨rfl,rfl⟩)
    | (go_at_call_of 91 l;refine(HS5.out _).mono ?_;rintro e w1 ⟨rfl,rfl⟩))
   refine wp_loop_rounds 1 ?_;rw[rounds_succ];go_wp2_with fail
   go_ret
   exact⟨rfl,hWL.trans ((Lay.of_grow _ _).mono hWL.size)⟩
  ·have z':(c5==0)=false:=by simpa using z
   clear hlm;rw[qcx,qcx,qcx,qcx,qdc _ z];clear z;go_enter Tryz.func53,Tryz.ntmps53
   go_wp2_with fail
   rw[←HW.out]
   go_quiet_grown (first
    | (go_at_call 91;exact qcb (HS1.out _))
    | (go_at_call_of 92 tn;refine qap (HSZ.out _ ?_);exact HR.out.go (hWL.trans ((Lay.of_grow _ _).mono hWL.size)).below (Nat.le_trans hWL.size (Lay.of_grow _ _).size))
    | (go_at_call_of 92 un;refine qap (HSZ'.out _ ?_);exact HR'.out.go (hWL.trans ((Lay.of_grow _ _).mono hWL.size)).below (Nat.le_trans hWL.size (Lay.of_grow _ _).size)))
   go_wp2_with (first
    | (go_at_call_of 91 tk;refine(HS2.out _).mono ?_;rintro e w1 ⟨rfl,rfl⟩)
    | (go_at_call 93;refine(HS3.out _).mono ?_;rintro e w1 ⟨rfl,rfl⟩)
    | (go_at_call_of 91 ts;refine(HS4.out _).mono ?_;rintro e w1 ⟨rfl,rfl⟩)
    | (go_at_call_of 91 l;refine(HS5.out _).mono ?_;rintro e w1 ⟨rfl,rfl⟩))
   refine wp_loop_rounds 1 ?_;rw[rounds_succ];go_wp2_with fail
   go_ret
   exact⟨rfl,hWL.trans ((Lay.of_grow _ _).mono hWL.size)⟩
  ·have HLEN:=hdzz (hlm rfl);clear hlm;simp only[qcx];go_enter Tryz.func53,Tryz.ntmps53
   go_wp2_with fail
   rw[←HW.out]
   go_quiet_grown (first
    | (go_at_call 91;exact qcb (HS1.out _))
    | (go_at_call_of 92 tn;refine qap (HSZ.out _ ?_);exact HR.out.go (hWL.trans ((Lay.of_grow _ _).mono hWL.size)).below (Nat.le_trans hWL.size (Lay.of_grow _ _).size))
    | (go_at_call_of 92 un;refine qap (HSZ'.out _ ?_);exact HR'.out.go (hWL.trans ((Lay.of_grow _ _).mono hWL.size)).below (Nat.le_trans hWL.size (Lay.of_grow _ _).size)))
   go_wp2_with (first
    | (go_at_call_of 91 tk;refine(HS2.out _).mono ?_;rintro e w1 ⟨rfl,rfl⟩)
    | (go_at_call 93;refine(HS3.out _).mono ?_;rintro e w1 ⟨rfl,rfl⟩)
    | (go_at_call_of 91 ts;refine(HS4.out _).mono ?_;rintro e w1 ⟨rfl,rfl⟩)
    | (go_at_call_of 91 l;refine(HS5.out _).mono ?_;rintro e w1 ⟨rfl,rfl⟩))
   obtain⟨X,HX⟩:∃X,Hid (X=grow (W.drewN nq) osq):=⟨_,rfl⟩;have hXL:Lay (w.heap.size+2) W X:=by rw[HX.out,←hWs];exact Lay.of_grow _ _
   rw[←HX.out];go_loopw [5,6] (fun v i wr=>∃(k:Nat) (c:Int),k≤l.length∧i=.int .i64 k∧v=.int .i64 c∧Hid (Tm.cmps l m=ord c (Tm.cmps (l.drop k) (m.drop k)))∧Lay (w.heap.size+2) W wr)
    (fun _ i _=>l.length - (intOf i).toNat)
   case atStart=>exact⟨0,0,Nat.zero_le _,rfl,rfl,by simp[qcx,Hid],hXL⟩
   case round=>
    clear a0 a1 a2 a3 b0 b1 b2 b3 hXL;obtain⟨k,c,hk,rfl,rfl,HL,hbel⟩:=hrel;have hwr:Lay w.heap.size w wr:=hWL.trans (hbel.mono (by omega));have hsz:=hbel.size;obtain⟨a0,a1,a2,a3⟩:=qdf ((hbel.below.block w.heap.size (by omega)).trans HB1.out);obtain⟨b0,b1,b2,b3⟩:=qdf ((hbel.below.block (w.heap.size+1) (by omega)).trans HB2.out);have d3:wr.cell? ⟨w.heap.size,3,none⟩=some (.slice A l.length cap):=a3 0 #[];by_cases hc:c=0
    ·subst hc;by_cases hlt:k<l.length
     ·have hkm:k<m.length:=by have:=HLEN.out;omega
      have hr:=HR.out;have hr':=HR'.out;rw[qbe]at hr hr';obtain⟨_,hc1,hc2,hr4⟩:=hr;obtain⟨_,hc1',hc2',hr4'⟩:=hr';rcases hr4 with rfl|⟨b,off,rfl,hbB,hl⟩
      ·simp at hlt
      rcases hr4' with rfl|⟨b',off',rfl,hbB',hl'⟩
      ·simp at hkm
      obtain⟨A1,cap1,e0,e1,e2,e3,hrt⟩:=hl.get_grown hwr hbB (Nat.le_refl _) k hlt;obtain⟨A2,cap2,g0,g1,g2,g3,hrt'⟩:=hl'.get_grown hwr hbB' (Nat.le_refl _) k hkm;have HC:Hid (Tm.cmps l m=ord (Tm.cmp l[k] m[k]) (Tm.cmps (l.drop (k+1)) (m.drop (k+1)))):=by
       rw[HL.out,qcx,List.drop_eq_getElem_cons hlt,List.drop_eq_getElem_cons hkm,Tm.cmps];exact rfl
      have CK:=hdzz (show ∀X,RepT X X.heap.size l[k] A1 cap1→RepT X X.heap.size m[k] A2 cap2→Calls Tryz.prog 53 #[l[k].val A1 cap1,m[k].val A2 cap2] X fun e w'=>e=.returned (.int .i64 (Tm.cmp l[k] m[k]))∧Lay X.heap.size X w' from fun X hX hX'=>IH.out l[k] m[k] A1 A2 cap1 cap2 X (HSUB.out k hlt) (by omega) (HSUB'.out k hkm) hX hX');clear hl hl' hc1 hc1' hc2 hc2';have HRT:=hdzz hrt;clear hrt;have HRT':=hdzz hrt';clear hrt';generalize Tm.cmp l[k] m[k]=c' at *;simp only[Tm.val]at CK;go_wp2_with fail
      go_quiet_grown ((go_at_call 53;refine qap (CK.out _ ?_ ?_);exact HRT.out.go ((Lay.of_grow _ _).mono (by omega)).below (Nat.le_trans (by omega) (Lay.of_grow _ _).size);exact HRT'.out.go ((Lay.of_grow _ _).mono (by omega)).below (Nat.le_trans (by omega) (Lay.of_grow _ _).size)))
      go_wp2_with fail
      go_roundw
      case rel=>exact⟨k+1,c',by omega,by go_num,rfl,HC,hbel.trans ((Lay.of_grow _ _).mono (by omega))⟩
      case measure=>simp[intOf];omega
     ·obtain rfl:k=l.length:=by omega
      go_wp2_with fail
      go_ret
      exact⟨qej (by rw[HL.out];simp[Tm.cmps,ord]),hwr⟩
    ·have hc':(c==0)=false:=by simpa using hc
     have HE:Hid (Tm.cmps l m=c):=by rw[HL.out,qdc _ hc];exact rfl
     clear hc;go_wp2_with fail
     go_ret
     exact⟨qej HE.out.symm,hwr⟩
theorem qgr:∀a b:List UInt8,Op.bytesLess a b=decide (Lib.compareBytes a b<0)
 | [],[]=>by simp[Op.bytesLess,Lib.compareBytes]
 | [],_::_=>by simp[Op.bytesLess,Lib.compareBytes]
 | _::_,[]=>by simp[Op.bytesLess,Lib.compareBytes]
 | x::a,y::b=>by
  rw[Op.bytesLess,Lib.compareBytes,qgr a b];by_cases h:x<y
  ·simp[h]
  ·by_cases h':y<x
   ·have hne:x≠y:=fun e=>by subst e;exact UInt8.lt_irrefl _ h'
    simp[h,h',hne]
   ·have e:x=y:=UInt8.le_antisymm (UInt8.not_lt.1 h') (UInt8.not_lt.1 h);subst e;simp[h]
theorem qiu (a b:ByteArray):Op.bytesLess a.toList b.toList=decide (Lib.compareBytes a.data.toList b.data.toList<0):=by
 rw[Lib.toList_data,Lib.toList_data];exact qgr _ _
theorem qn4 (a b:ByteArray):(a.toList==b.toList)=decide (Lib.compareBytes a.data.toList b.data.toList=0):=by
 rw[Lib.toList_data,Lib.toList_data,Bool.eq_iff_iff];simp[qfj]
theorem ql0 (n:Nat):∀(t u:Tm) (A A':Option Addr) (cap cap':Nat) (w:World),t.size≤n→n≤1000000→u.size≤1000000→RepT w w.heap.size t A cap→RepT w w.heap.size u A' cap'→
  Calls Tryz.prog 69 #[t.val A cap,u.val A' cap'] w fun e w'=>e=.returned (.int .i64 (t.cmp u))∧Lay w.heap.size w w':=by
 induction n with
 | zero=>intro t _ _ _ _ _ _ h;have:=t.size_pos;omega
 | succ n ih=>
  intro t u A A' cap cap' w hn hb hu hrep hrep';have hsz:=fun W h1=>qic 1000000 t A cap W (by omega) (by omega) h1;have hsz':=fun W h1=>qic 1000000 u A' cap' W (by omega) (by omega) h1;obtain⟨tk,tn,ts,l⟩:=t;obtain⟨uk,un,us,m⟩:=u;simp only[Tm.val,Tm.kind,Tm.name,Tm.sort,Tm.kids]at hsz hsz' ⊢;have mixed:=mixz;rw[Tm.cmp];have hll:l.length≤1000000:=by have:=Tm.length_le_sizes l;rw[Tm.size]at hn;omega
  have hml:m.length≤1000000:=by have:=Tm.length_le_sizes m;rw[Tm.size]at hu;omega
  obtain⟨W,hW⟩:∃W,W=(w.alloc (.cells #[.int .i64 tk,.string tn,.int .i64 ts,.slice A l.length cap] 24)).alloc (.cells #[.int .i64 uk,.string un,.int .i64 us,.slice A' m.length cap'] 24):=⟨_,rfl⟩;have hB1:W.heap[w.heap.size]?=some (.cells #[.int .i64 tk,.string tn,.int .i64 ts,.slice A l.length cap] 24 (0,0)):=by
   subst hW;rw[Below.heap_alloc _ _ _ (by simp)];exact heap_alloc_new _ _
  have hB2:W.heap[w.heap.size+1]?=some (.cells #[.int .i64 uk,.string un,.int .i64 us,.slice A' m.length cap'] 24 (0,0)):=by
   subst hW;have h:=heap_alloc_new (w.alloc (.cells #[.int .i64 tk,.string tn,.int .i64 ts,.slice A l.length cap] 24)) (.cells #[.int .i64 uk,.string un,.int .i64 us,.slice A' m.length cap'] 24);rw[World.size_alloc]at h;exact h
  have hWs:W.heap.size=w.heap.size+2:=by subst hW;simp
  have hWL:Lay w.heap.size w W:=by subst hW;exact((Lay.refl _ _).alloc (Nat.le_refl _) _).alloc (by simp) _
  obtain⟨a0,a1,a2,a3⟩:=qdf hB1;obtain⟨b0,b1,b2,b3⟩:=qdf hB2;have HB1:=hdzz hB1;clear hB1;have HB2:=hdzz hB2;clear hB2;have hsub:∀i (h:i<l.length),l[i].size≤n:=fun i h=>by have:=Tm.sizes_get l i h;rw[Tm.size]at hn;omega
  have hsub':∀i (h:i<m.length),m[i].size≤1000000:=fun i h=>by have:=Tm.sizes_get m i h;rw[Tm.size]at hu;omega
  have HSUB:=hdzz hsub;clear hsub;have HSUB':=hdzz hsub';clear hsub';generalize (Tm.mk tk tn ts l).size=s1 at *;generalize (Tm.mk uk un us m).size=s2 at *;have HSZ:=hdzz hsz;clear hsz;have HSZ':=hdzz hsz';clear hsz';have HR:=hdzz hrep;clear hrep;have HR':=hdzz hrep';clear hrep';have IH:=hdzz ih;clear ih;have HW:=hdzz hW;clear hW;have S1:=fun X=>qff (s1:Int) (s2:Int) X;have S2:=fun X=>qff tk uk X;have N1:=qiu tn un;have N2:=qn4 tn un;have S4:=fun X=>qff ts us X;have S5:=fun X=>qff (l.length:Int) (m.length:Int) X;have hlm:sgn (l.length:Int) (m.length:Int)=0→l.length=m.length:=fun h=>by have:=qcu.1 h;omega
  generalize sgn (s1:Int) (s2:Int)=c1 at *;generalize sgn tk uk=c2 at *;have hu3':qn7 (Lib.compareBytes tn.data.toList un.data.toList):=qfk _ _;generalize Lib.compareBytes tn.data.toList un.data.toList=c3 at *;generalize sgn ts us=c4 at *;generalize sgn (l.length:Int) (m.length:Int)=c5 at *;have HS1:=hdzz S1;clear S1;have HS2:=hdzz S2;clear S2;have HS4:=hdzz S4;clear S4;have HS5:=hdzz S5;clear S5;have hu3:c3 = -1∨c3=0∨c3=1:=hu3';clear hu3';have hzs:c1≠0∨(c1=0∧c2≠0)∨(c1=0∧c2=0∧c3 = -1)∨(c1=0∧c2=0∧c3=1)∨(c1=0∧c2=0∧c3=0∧c4≠0)∨(c1=0∧c2=0∧c3=0∧c4=0∧c5≠0)∨(c1=0∧c2=0∧c3=0∧c4=0∧c5=0):=by omega
  clear hu3;rcases hzs with z|⟨rfl,z⟩|⟨rfl,rfl,rfl⟩|⟨rfl,rfl,rfl⟩|⟨rfl,rfl,rfl,z⟩|⟨rfl,rfl,rfl,rfl,z⟩|⟨rfl,rfl,rfl,rfl,rfl⟩
  ·have z':(c1 != 0)=true:=by simpa using z
   clear hlm;clear N1 N2;rw[qdc _ z];clear z;go_enter Tryz.func69,Tryz.ntmps69
   go_wp2_with fail
   rw[←HW.out]
   go_quiet_grown (first
    | (go_at_call 109;exact qcb (HS1.out _))
    | (go_at_call_of 15 tn;refine qap (HSZ.out _ ?_);exact HR.out.go (hWL.trans ((Lay.of_grow _ _).mono hWL.size)).below (Nat.le_trans hWL.size (Lay.of_grow _ _).size))
    | (go_at_call_of 15 un;refine qap (HSZ'.out _ ?_);exact HR'.out.go (hWL.trans ((Lay.of_grow _ _).mono hWL.size)).below (Nat.le_trans hWL.size (Lay.of_grow _ _).size)))
   go_wp2_with (first
    | (go_at_call_of 109 tk;refine(HS2.out _).mono ?_;rintro e w1 ⟨rfl,rfl⟩)
    | (go_at_call_of 109 ts;refine(HS4.out _).mono ?_;rintro e w1 ⟨rfl,rfl⟩)
    | (go_at_call_of 109 l;refine(HS5.out _).mono ?_;rintro e w1 ⟨rfl,rfl⟩))
   go_ret
   exact⟨rfl,hWL.trans ((Lay.of_grow _ _).mono hWL.size)⟩
  ·have z':(c2 != 0)=true:=by simpa using z
   clear hlm;clear N1 N2;rw[qcx,qdc _ z];clear z;go_enter Tryz.func69,Tryz.ntmps69
   go_wp2_with fail
   rw[←HW.out]
   go_quiet_grown (first
    | (go_at_call 109;exact qcb (HS1.out _))
    | (go_at_call_of 15 tn;refine qap (HSZ.out _ ?_);exact HR.out.go (hWL.trans ((Lay.of_grow _ _).mono hWL.size)).below (Nat.le_trans hWL.size (Lay.of_grow _ _).size))
    | (go_at_call_of 15 un;refine qap (HSZ'.out _ ?_);exact HR'.out.go (hWL.trans ((Lay.of_grow _ _).mono hWL.size)).below (Nat.le_trans hWL.size (Lay.of_grow _ _).size)))
   go_wp2_with (first
    | (go_at_call_of 109 tk;refine(HS2.out _).mono ?_;rintro e w1 ⟨rfl,rfl⟩)
    | (go_at_call_of 109 ts;refine(HS4.out _).mono ?_;rintro e w1 ⟨rfl,rfl⟩)
    | (go_at_call_of 109 l;refine(HS5.out _).mono ?_;rintro e w1 ⟨rfl,rfl⟩))
   go_ret
   exact⟨rfl,hWL.trans ((Lay.of_grow _ _).mono hWL.size)⟩
  ·have z:True:=trivial;clear hlm
   replace N1:Op.bytesLess tn.toList un.toList=true:=by rw[N1];decide
   replace N2:(tn.toList==un.toList)=false:=by rw[N2];decide
   rw[qcx,qcx,qdc _ (by decide)];clear z;go_enter Tryz.func69,Tryz.ntmps69
   go_wp2_with fail
   rw[←HW.out]
   go_quiet_grown (first
    | (go_at_call 109;exact qcb (HS1.out _))
    | (go_at_call_of 15 tn;refine qap (HSZ.out _ ?_);exact HR.out.go (hWL.trans ((Lay.of_grow _ _).mono hWL.size)).below (Nat.le_trans hWL.size (Lay.of_grow _ _).size))
    | (go_at_call_of 15 un;refine qap (HSZ'.out _ ?_);exact HR'.out.go (hWL.trans ((Lay.of_grow _ _).mono hWL.size)).below (Nat.le_trans hWL.size (Lay.of_grow _ _).size)))
   go_wp2_with (first
    | (go_at_call_of 109 tk;refine(HS2.out _).mono ?_;rintro e w1 ⟨rfl,rfl⟩)
    | (go_at_call_of 109 ts;refine(HS4.out _).mono ?_;rintro e w1 ⟨rfl,rfl⟩)
    | (go_at_call_of 109 l;refine(HS5.out _).mono ?_;rintro e w1 ⟨rfl,rfl⟩))
   go_ret
   exact⟨rfl,hWL.trans ((Lay.of_grow _ _).mono hWL.size)⟩
  ·have z:True:=trivial;clear hlm
   replace N1:Op.bytesLess tn.toList un.toList=false:=by rw[N1];decide
   replace N2:(tn.toList==un.toList)=false:=by rw[N2];decide
   have N3:(!(Op.bytesLess tn.toList un.toList) && !(tn.toList==un.toList))=true:=by rw[N1,N2];rfl
   have N4:¬tn.toList=un.toList:=by simpa using N2
   rw[qcx,qcx,qdc _ (by decide)];clear z;go_enter Tryz.func69,Tryz.ntmps69
   go_wp2_with fail
   rw[←HW.out]
   go_quiet_grown (first
    | (go_at_call 109;exact qcb (HS1.out _))
    | (go_at_call_of 15 tn;refine qap (HSZ.out _ ?_);exact HR.out.go (hWL.trans ((Lay.of_grow _ _).mono hWL.size)).below (Nat.le_trans hWL.size (Lay.of_grow _ _).size))
    | (go_at_call_of 15 un;refine qap (HSZ'.out _ ?_);exact HR'.out.go (hWL.trans ((Lay.of_grow _ _).mono hWL.size)).below (Nat.le_trans hWL.size (Lay.of_grow _ _).size)))
   go_wp2_with (first
    | (go_at_call_of 109 tk;refine(HS2.out _).mono ?_;rintro e w1 ⟨rfl,rfl⟩)
    | (go_at_call_of 109 ts;refine(HS4.out _).mono ?_;rintro e w1 ⟨rfl,rfl⟩)
    | (go_at_call_of 109 l;refine(HS5.out _).mono ?_;rintro e w1 ⟨rfl,rfl⟩))
   go_ret
   exact⟨rfl,hWL.trans ((Lay.of_grow _ _).mono hWL.size)⟩
  ·have z':(c4 != 0)=true:=by simpa using z
   clear hlm
   replace N1:Op.bytesLess tn.toList un.toList=false:=by rw[N1];decide
   replace N2:(tn.toList==un.toList)=true:=by rw[N2];decide
   rw[qcx,qcx,qcx,qdc _ z];clear z;go_enter Tryz.func69,Tryz.ntmps69
   go_wp2_with fail
   rw[←HW.out]
   go_quiet_grown (first
    | (go_at_call 109;exact qcb (HS1.out _))
    | (go_at_call_of 15 tn;refine qap (HSZ.out _ ?_);exact HR.out.go (hWL.trans ((Lay.of_grow _ _).mono hWL.size)).below (Nat.le_trans hWL.size (Lay.of_grow _ _).size))
    | (go_at_call_of 15 un;refine qap (HSZ'.out _ ?_);exact HR'.out.go (hWL.trans ((Lay.of_grow _ _).mono hWL.size)).below (Nat.le_trans hWL.size (Lay.of_grow _ _).size)))
   go_wp2_with (first
    | (go_at_call_of 109 tk;refine(HS2.out _).mono ?_;rintro e w1 ⟨rfl,rfl⟩)
    | (go_at_call_of 109 ts;refine(HS4.out _).mono ?_;rintro e w1 ⟨rfl,rfl⟩)
    | (go_at_call_of 109 l;refine(HS5.out _).mono ?_;rintro e w1 ⟨rfl,rfl⟩))
   go_ret
   exact⟨rfl,hWL.trans ((Lay.of_grow _ _).mono hWL.size)⟩
  ·have z':(c5 != 0)=true:=by simpa using z
   clear hlm
   replace N1:Op.bytesLess tn.toList un.toList=false:=by rw[N1];decide
   replace N2:(tn.toList==un.toList)=true:=by rw[N2];decide
   rw[qcx,qcx,qcx,qcx,qdc _ z];clear z;go_enter Tryz.func69,Tryz.ntmps69
   go_wp2_with fail
   rw[←HW.out]
   go_quiet_grown (first
    | (go_at_call 109;exact qcb (HS1.out _))
    | (go_at_call_of 15 tn;refine qap (HSZ.out _ ?_);exact HR.out.go (hWL.trans ((Lay.of_grow _ _).mono hWL.size)).below (Nat.le_trans hWL.size (Lay.of_grow _ _).size))
    | (go_at_call_of 15 un;refine qap (HSZ'.out _ ?_);exact HR'.out.go (hWL.trans ((Lay.of_grow _ _).mono hWL.size)).below (Nat.le_trans hWL.size (Lay.of_grow _ _).size)))
   go_wp2_with (first
    | (go_at_call_of 109 tk;refine(HS2.out _).mono ?_;rintro e w1 ⟨rfl,rfl⟩)
    | (go_at_call_of 109 ts;refine(HS4.out _).mono ?_;rintro e w1 ⟨rfl,rfl⟩)
    | (go_at_call_of 109 l;refine(HS5.out _).mono ?_;rintro e w1 ⟨rfl,rfl⟩))
   go_ret
   exact⟨rfl,hWL.trans ((Lay.of_grow _ _).mono hWL.size)⟩
  ·have HLEN:=hdzz (hlm rfl);clear hlm;simp only[qcx]
   replace N1:Op.bytesLess tn.toList un.toList=false:=by rw[N1];decide
   replace N2:(tn.toList==un.toList)=true:=by rw[N2];decide
   go_enter Tryz.func69,Tryz.ntmps69
   go_wp2_with fail
   rw[←HW.out]
   go_quiet_grown (first
    | (go_at_call 109;exact qcb (HS1.out _))
    | (go_at_call_of 15 tn;refine qap (HSZ.out _ ?_);exact HR.out.go (hWL.trans ((Lay.of_grow _ _).mono hWL.size)).below (Nat.le_trans hWL.size (Lay.of_grow _ _).size))
    | (go_at_call_of 15 un;refine qap (HSZ'.out _ ?_);exact HR'.out.go (hWL.trans ((Lay.of_grow _ _).mono hWL.size)).below (Nat.le_trans hWL.size (Lay.of_grow _ _).size)))
   go_wp2_with (first
    | (go_at_call_of 109 tk;refine(HS2.out _).mono ?_;rintro e w1 ⟨rfl,rfl⟩)
    | (go_at_call_of 109 ts;refine(HS4.out _).mono ?_;rintro e w1 ⟨rfl,rfl⟩)
    | (go_at_call_of 109 l;refine(HS5.out _).mono ?_;rintro e w1 ⟨rfl,rfl⟩))
   obtain⟨X,HX⟩:∃X,Hid (X=grow (W.drewN nq) osq):=⟨_,rfl⟩;have hXL:Lay (w.heap.size+2) W X:=by rw[HX.out,←hWs];exact Lay.of_grow _ _
   rw[←HX.out];go_loopw [4,9,10] (fun _ i _ wr=>∃(k:Nat),k≤l.length∧i=.int .i64 k∧Hid (Tm.cmps l m=Tm.cmps (l.drop k) (m.drop k))∧Lay (w.heap.size+2) W wr)
    (fun _ i _ _=>l.length - (intOf i).toNat)
   case atStart=>exact⟨0,Nat.zero_le _,rfl,by simp[Hid],hXL⟩
   case round=>
    clear a0 a1 a2 a3 b0 b1 b2 b3 hXL;obtain⟨k,hk,rfl,HL,hbel⟩:=hrel;have hwr:Lay w.heap.size w wr:=hWL.trans (hbel.mono (by omega));have hsz:=hbel.size;obtain⟨a0,a1,a2,a3⟩:=qdf ((hbel.below.block w.heap.size (by omega)).trans HB1.out);obtain⟨b0,b1,b2,b3⟩:=qdf ((hbel.below.block (w.heap.size+1) (by omega)).trans HB2.out);have d3:wr.cell? ⟨w.heap.size,3,none⟩=some (.slice A l.length cap):=a3 0 #[];by_cases hlt:k<l.length
    ·have hkm:k<m.length:=by have:=HLEN.out;omega
     have hr:=HR.out;have hr':=HR'.out;rw[qbe]at hr hr';obtain⟨_,hc1,hc2,hr4⟩:=hr;obtain⟨_,hc1',hc2',hr4'⟩:=hr';rcases hr4 with rfl|⟨b,off,rfl,hbB,hl⟩
     ·simp at hlt
     rcases hr4' with rfl|⟨b',off',rfl,hbB',hl'⟩
     ·simp at hkm
     obtain⟨A1,cap1,e0,e1,e2,e3,hrt⟩:=hl.get_grown hwr hbB (Nat.le_refl _) k hlt;obtain⟨A2,cap2,g0,g1,g2,g3,hrt'⟩:=hl'.get_grown hwr hbB' (Nat.le_refl _) k hkm;have HC0:Hid (Tm.cmps l m=ord (Tm.cmp l[k] m[k]) (Tm.cmps (l.drop (k+1)) (m.drop (k+1)))):=by
      rw[HL.out,List.drop_eq_getElem_cons hlt,List.drop_eq_getElem_cons hkm,Tm.cmps];exact rfl
     have CK:=hdzz (show ∀X,RepT X X.heap.size l[k] A1 cap1→RepT X X.heap.size m[k] A2 cap2→Calls Tryz.prog 69 #[l[k].val A1 cap1,m[k].val A2 cap2] X fun e w'=>e=.returned (.int .i64 (Tm.cmp l[k] m[k]))∧Lay X.heap.size X w' from fun X hX hX'=>IH.out l[k] m[k] A1 A2 cap1 cap2 X (HSUB.out k hlt) (by omega) (HSUB'.out k hkm) hX hX');clear hl hl' hc1 hc1' hc2 hc2';have HRT:=hdzz hrt;clear hrt;have HRT':=hdzz hrt';clear hrt';generalize Tm.cmp l[k] m[k]=c' at *;simp only[Tm.val]at CK;go_wp2_with fail
     go_quiet_grown ((go_at_call 69;refine qap (CK.out _ ?_ ?_);exact HRT.out.go ((Lay.of_grow _ _).mono (by omega)).below (Nat.le_trans (by omega) (Lay.of_grow _ _).size);exact HRT'.out.go ((Lay.of_grow _ _).mono (by omega)).below (Nat.le_trans (by omega) (Lay.of_grow _ _).size)))
     by_cases hc:c'=0
     ·subst hc;have HC:Hid (Tm.cmps l m=Tm.cmps (l.drop (k+1)) (m.drop (k+1))):=by rw[HC0.out,qcx];exact rfl
      go_wp2_with fail
      go_roundw
      case rel=>exact⟨k+1,by omega,by go_num,HC,hbel.trans ((Lay.of_grow _ _).mono (by omega))⟩
      case measure=>simp[intOf];omega
     ·have hc':(c' != 0)=true:=by simpa using hc
      have HE:Hid (Tm.cmps l m=c'):=by rw[HC0.out,qdc _ hc];exact rfl
      clear hc;go_wp2_with fail
      go_ret
      exact⟨qej HE.out.symm,hwr.trans ((Lay.of_grow _ _).mono (by omega))⟩
    ·obtain rfl:k=l.length:=by omega
     go_wp2_with fail
     go_ret
     exact⟨qej (by rw[HL.out];simp[Tm.cmps]),hwr⟩
def Tm.same (t u:Tm):Bool:=decide (t.cmp u=0)
theorem Tm.same_iff {t u:Tm}:t.same u=true↔t=u:=by unfold Tm.same;rw[decide_eq_true_eq];exact Tm.cmp_zero
theorem Tm.same_false {t u:Tm}:t.same u=false↔t≠u:=by rw[←Bool.not_eq_true,Tm.same_iff]
theorem qoi (t u:Tm) (A A':Option Addr) (cap cap':Nat) (w:World) (ht:t.size≤1000000) (hu:u.size≤1000000) (hrep:RepT w w.heap.size t A cap) (hrep':RepT w w.heap.size u A' cap') :
  Calls Tryz.prog 178 #[t.val A cap,u.val A' cap'] w fun e w'=>e=.returned (.bool (t.same u))∧Lay w.heap.size w w':=by
 have hL:Lay w.heap.size w ((w.alloc (.cells #[.int .i64 t.kind,.string t.name,.int .i64 t.sort,.slice A t.kids.length cap] 24)).alloc (.cells #[.int .i64 u.kind,.string u.name,.int .i64 u.sort,.slice A' u.kids.length cap'] 24)):=
  ((Lay.refl _ _).alloc (Nat.le_refl _) _).alloc (by simp) _
 have hC:=qb7 1000000 t u A A' cap cap' _ ht (by omega) hu (hrep.go hL.below hL.size) (hrep'.go hL.below hL.size);have HC:=hdzz hC;clear hC;have e:t.same u=(t.cmp u==0):=by unfold Tm.same;rw[Bool.eq_iff_iff];simp
 rw[e];generalize t.cmp u=c at *;simp only[Tm.val]at HC ⊢;go_enter Tryz.func178,Tryz.ntmps178
 go_wp2_with fail
 refine HC.out.mono ?_;rintro e w' ⟨rfl,hl⟩;go_wp2_with fail
 go_ret
 exact⟨rfl,hL.trans (hl.mono hL.size)⟩
def qa4 (p:Tm):List It→List It
 | []=>[]
 | y::r=>if y.1.same p then qa4 y.1 r else y::qa4 y.1 r
def comp:List It→List It
 | []=>[]
 | x::r=>x::qa4 x.1 r
theorem qgq:∀(l:List It) (x:It),(∀i,(h:i+1<(x::l).length)→(x::l)[i+1].1.same (x::l)[i].1=false)→qa4 x.1 l=l
 | [],_,_=>rfl
 | y::r,x,h=>by
  have h0:=h 0 (by simp);simp only[List.getElem_cons_succ,List.getElem_cons_zero]at h0;rw[qa4,h0];simp only[Bool.false_eq_true,if_false];rw[qgq r y (fun i hi=>by have:=h (i+1) (by simpa using hi);simpa using this)]
theorem qjz:∀(l:List It) (x:It) (k:Nat) (hk:k<(x::l).length),(∀i,(h:i+1<(x::l).length)→i+1≤k→(x::l)[i+1].1.same (x::l)[i].1=false)→
  qa4 x.1 l=(l.take k)++qa4 (x::l)[k].1 (l.drop k)
 | l,x,0,_,_=>by simp
 | [],x,k+1,hk,_=>by simp at hk
 | y::r,x,k+1,hk,h=>by
  have h0:=h 0 (by simp) (by omega);simp only[List.getElem_cons_succ,List.getElem_cons_zero]at h0;rw[qa4,h0];simp only[Bool.false_eq_true,if_false,List.take_succ_cons,List.drop_succ_cons,List.cons_append,List.getElem_cons_succ];rw[qjz r y k (by simpa using hk) (fun i hi hik=>by have:=h (i+1) (by simpa using hi) (by omega);simpa using this)]
def Compacted (w:World) (base:Nat) (F:Nat→Prop) (v:Value) (its:List It) (e:Ending) (w':World):Prop:=
 ∃v',e=.returned v'∧RowT w' base F v' (comp its)∧w.grownBy w' v.ownBlock∧v'.ownBlock=v.ownBlock
theorem qdx {w w':World} (h:Lay w.heap.size w w') (row:Option Nat):w.grownBy w' row:=⟨h.below.os,h.below.tape,h.below.output,h.size,fun b hb _=>h.below.block b hb⟩
theorem RowT.slot_grown {w:World} {base:Nat} {F:Nat→Prop} {g cap n:Nat} {its:List It} (h:RowT w base F (.slice (some ⟨g,0,none⟩) n cap) its) (hn:n=its.length) (i:Nat) (hi:i<its.length) :
  (∀m os,(grow (w.drewN m) os).cell? ⟨g,i*4,none⟩=some (.int .i64 its[i].1.kind))∧(∀m os,(grow (w.drewN m) os).cell? ⟨g,i*4+1,none⟩=some (.string its[i].1.name))∧
  (∀m os,(grow (w.drewN m) os).cell? ⟨g,i*4+2,none⟩=some (.int .i64 its[i].1.sort))∧(∀m os,(grow (w.drewN m) os).cell? ⟨g,i*4+3,none⟩=some (.slice its[i].2.1 its[i].1.kids.length its[i].2.2)):=by
 obtain⟨h0,h1,h2,h3,_⟩:=h.slot hn i hi;have hl:=(h.lt g rfl).2;exact⟨fun m os=>cell_grown hl h0 m os,fun m os=>cell_grown hl h1 m os,fun m os=>cell_grown hl h2 m os,fun m os=>cell_grown hl h3 m os⟩
theorem qoy {α:Type} {a b:List α} {i:Nat} (h:a.drop i=b.drop i) (j:Nat) (hij:i≤j) (ha:j<a.length) (hb:j<b.length):a[j]=b[j]:=by
 have:=congrArg (·[j - i]?) h;simpa[show i+(j - i)=j by omega,ha,hb]using this
theorem qmm {α:Type} {a b:List α} {i j:Nat} (h:a.drop i=b.drop i) (hij:i≤j):a.drop j=b.drop j:=by
 have:=congrArg (·.drop (j - i)) h;simpa[show i+(j - i)=j by omega]using this
theorem qga {α:Type}:∀(a:List α) (k:Nat) (x:α),k<a.length→(a.set k x).take (k+1)=a.take k++[x]
 | [],_,_,h=>by simp at h
 | _::_,0,_,_=>rfl
 | y::a,k+1,x,h=>by simp[qga a k x (by simpa using h)]
theorem grown_set4 (w:World) (g a b c d:Nat) (x y z u:Value):w.grownBy ((((w.setCell ⟨g,a,none⟩ x).setCell ⟨g,b,none⟩ y).setCell ⟨g,c,none⟩ z).setCell ⟨g,d,none⟩ u) (some g):=
 ⟨rfl,rfl,rfl,by simp[World.setCell],fun k _ hne=>by
  have:g≠k:=fun e=>hne (by rw[e]);simp[World.setCell,Array.getElem?_modify,this]⟩
theorem qi1 (n:Nat):∀v∈(Builtin.zeroCells #[.int .i64 0,.string ⟨#[]⟩,.int .i64 0,.slice none 0 0] n).toList,v.oneCell'=true:=by
 intro v hv;simp only[Builtin.zeroCells,Array.toList_map,List.mem_map,Array.mem_toList_iff,Array.mem_range]at hv;obtain⟨i,_,rfl⟩:=hv;have:i % 4=0∨i % 4=1∨i % 4=2∨i % 4=3:=by omega
 rcases this with h|h|h|h<;>simp[h]<;>rfl
theorem RowT.clear {w:World} {base:Nat} {F:Nat→Prop} {g cap n:Nat} {its:List It} (h:RowT w base F (.slice (some ⟨g,0,none⟩) n cap) its) (hn:n=its.length) (k:Nat) (hk:k<n) :
  ∃w',(∀ty,(Builtin.clear_ #[22] ty #[.slice (some ⟨g,k*4,none⟩) (n - k) (cap - k)]).run Tryz.prog w=.ok (.tuple #[]) w')∧
   RowT w' base F (.slice (some ⟨g,0,none⟩) k cap) (its.take k)∧w.grownBy w' (some g):=by
 subst hn;rcases h.own.2 with⟨hv,_⟩|⟨g',cap',cur,hv,hb,hg,hnc,hcm,hs,ht⟩
 ·cases hv
 injection hv with h1 h2 h3;injection h1 with h1;injection h1 with h1;subst h1 h3;obtain⟨m,hm⟩:∃m,its.length - k=m+1:=⟨its.length - k - 1,by omega⟩;have hlen:(Builtin.zeroCells #[.int .i64 0,.string ⟨#[]⟩,.int .i64 0,.slice none 0 0] (m+1)).toList.length=(m+1)*4:=by simp[Builtin.zeroCells]
 have hone:=qi1 (m+1);obtain⟨zs,hzs⟩:∃zs,zs=(Builtin.zeroCells #[.int .i64 0,.string ⟨#[]⟩,.int .i64 0,.slice none 0 0] (m+1)).toList:=⟨_,rfl⟩;rw[←hzs]at hlen hone;have hst:=run_storeCells_at (P:=Tryz.prog) g (k*4) 24 zs 0 cur w hg (by rw[hlen,hs];omega) hone;have hu:Tryz.prog.underlying 22=some (.slice 24):=by kernel_rfl
 have hgs:g<w.heap.size:=(h.lt g rfl).2;have hl:(its.take k).length=k:=by rw[List.length_take];omega
 refine⟨w.setRow g (cur.toList.take (k*4)++zs++cur.toList.drop (k*4+zs.length)).toArray,fun ty=>?_,⟨⟨?_,.inr ⟨g,cap,_,?_,hb,setRow_heap w g cur _ _ _ hg,by omega,hcm,?_,?_⟩⟩,?_⟩,?_⟩
 ·rw[hm];simp[Builtin.clear_,run_underlying hu,Value.cells,←hzs,hst]
 ·rw[qa8]
 ·rw[hl]
 ·simp[hlen,hs];omega
 ·have e:itCells (its.take k)=(itCells its).take (k*4):=by
   conv=>rhs;rw[←List.take_append_drop k its,qc9]
   rw[List.take_left' (by rw[qa8];simp;omega)]
  have e2:(its.take k).length*4=k*4:=by simp;omega
  rw[e,e2,←ht];simp only[List.append_assoc];rw[List.take_left' (by simp[hs];omega),List.take_take,Nat.min_eq_left (by omega)]
 ·intro x hx;refine RepP.mono ?_ ?_ _ _ _ (h.reps x (List.mem_of_mem_take hx))
  ·rintro b ⟨h1,h2,h3⟩;exact⟨h1,by simpa using h2,h3⟩
  ·rintro p ⟨h1,h2,h3⟩;exact cell_setRow_other _ _ _ _ (fun e=>h3 (by rw[e];rfl))
 ·exact⟨rfl,rfl,rfl,by simp,fun b hb hne=>by rw[setRow_other _ _ _ _ (fun e=>hne (by rw[e]))]⟩
theorem qn1 (w:World) (base g cap n:Nat) (F:Nat→Prop) (its:List It) (hn:n=its.length) (hn2:n≤10000000) (hrow:RowT w base F (.slice (some ⟨g,0,none⟩) n cap) its) (hsz:∀x∈its,x.1.size≤1000000) :
  Calls Tryz.prog 84 #[.slice (some ⟨g,0,none⟩) n cap,.func (.func 178) #[] #[]] w (Compacted w base F (.slice (some ⟨g,0,none⟩) n cap) its):=by
 subst hn;have mixed:=mixz;have eg:∀args w,(callFunc 178 args).run Tryz.prog w=.ok (.enter 178 args) w:=enters_of Tryz.func178 (by kernel_rfl) rfl;by_cases hshort:its.length<2
 ·have hc:comp its=its:=by
   match its,hshort with
   | [],_=>rfl
   | [x],_=>rfl
  have HC:=hdzz hc;clear hc;go_enter Tryz.func84,Tryz.ntmps84
  go_wp2_with fail
  go_ret
  exact⟨_,rfl,by rw[HC.out];exact hrow,qdx (Lay.refl _ _) _,rfl⟩
 ·have hgl:=(hrow.lt g rfl).2;have hcap:its.length≤cap:=by
   rcases hrow.own.2 with⟨hv,_⟩|⟨g',cap',cur,hv,_,_,hnc,_⟩
   ·cases hv
   ·injection hv with _ _ h3;subst h3;exact hnc
  have hb0:decide ((its.length:Int)<2)=false:=by simp;omega
  go_enter Tryz.func84,Tryz.ntmps84
  go_wp2_with fail
  go_loopw [5] (fun i wr=>∃m:Nat,1≤m∧m≤its.length∧i=.int .i64 m∧Hid (∀i,(h:i+1<its.length)→i+1<m→its[i+1].1.same its[i].1=false)∧Lay w.heap.size w wr)
   (fun i _=>its.length - (intOf i).toNat)
  case atStart=>exact⟨1,Nat.le_refl _,by omega,rfl,fun i h h'=>absurd h' (by omega),Lay.refl _ _⟩
  case round=>
   obtain⟨m,hm,hml,rfl,HD,hlay⟩:=hrel;by_cases hlt:m<its.length
   ·have hrow':=hrow.below hlay.below;have hs:=hlay.size;obtain⟨j,hj⟩:∃j,j+1=m:=⟨m - 1,by omega⟩;have hjl:j<its.length:=by omega
    obtain⟨a0,a1,a2,a3⟩:=hrow'.slot_grown rfl m hlt;obtain⟨b0,b1,b2,b3⟩:=hrow'.slot_grown rfl j hjl;have hrep:∀i (h:i<its.length) X,Lay wr.heap.size wr X→RepT X X.heap.size its[i].1 its[i].2.1 its[i].2.2:=fun i h X hX=>
     RepP.mono (fun b ⟨_,h2,_⟩=>Nat.lt_of_lt_of_le h2 hX.size) (fun p ⟨_,h2,_⟩=>hX.below.cell h2) _ _ _ (hrow'.reps _ (List.getElem_mem h))
    have CK:Hid (∀X,Lay wr.heap.size wr X→Calls Tryz.prog 178 #[its[m].1.val its[m].2.1 its[m].2.2,its[j].1.val its[j].2.1 its[j].2.2] X fun e w'=>e=.returned (.bool (its[m].1.same its[j].1))∧Lay X.heap.size X w'):=fun X hX=>
     qoi _ _ _ _ _ _ X (hsz _ (List.getElem_mem _)) (hsz _ (List.getElem_mem _)) (hrep m hlt X hX) (hrep j hjl X hX)
    have hwrap:IntKind.i64.wrap ((m:Int) - 1)=(j:Int):=by rw[show(m:Int) - 1=j by omega];exact IntWalk.i64_in _ (by omega)
    have i1:(0:Int)≤(j:Int):=Int.natCast_nonneg _;have i2:(m:Int)<(its.length:Int):=by omega
    have i3:(j:Int)<(its.length:Int):=by omega
    obtain⟨c,hc⟩:∃c,c=its[m].1.same its[j].1:=⟨_,rfl⟩;rw[←hc]at CK;have HC:=hdzz hc;clear hc;have HREP:=hdzz hrep;clear hrep;have HROW:=hdzz hrow';clear hrow';simp only[Tm.val]at CK
    cases c with
    | false=>
     go_wp2_with fail
     go_quiet_grown ((go_at_call 178;exact qap (CK.out _ (Lay.of_grow _ _))))
     go_wp2_with fail
     go_roundw
     case rel=>
      refine⟨m+1,by omega,by omega,by go_num,fun i h h'=>?_,hlay.trans ((Lay.of_grow _ _).mono hs)⟩;by_cases e:i=j
      ·subst e;subst hj;exact HC.out.symm
      ·exact HD.out i h (by omega)
     case measure=>simp[intOf];omega
    | true=>
     go_wp2_with fail
     go_quiet_grown ((go_at_call 178;exact qap (CK.out _ (Lay.of_grow _ _))))
     go_wp2_with fail
     have hX:Lay wr.heap.size wr (grow (wr.drewN nq) osq):=Lay.of_grow _ _;have hrow0:=HROW.out.below hX.below;have hgrow0:w.grownBy (grow (wr.drewN nq) osq) (some g):=qdx (hlay.trans (hX.mono hs)) _;have hstart:its.take m++qa4 its[m].1 (its.drop (m+1))=comp its:=by
      have h2:=HD.out;have h3:=HC.out;subst hj
      match its,hlt,hjl,h2,h3 with
      | x::l,hlt,hjl,h2,h3=>
       rw[comp,qjz l x j hjl (fun i h h'=>h2 i h (by omega))];have hjl':j<l.length:=by simpa using hlt
       rw[List.drop_eq_getElem_cons hjl',qa4];simp only[List.getElem_cons_succ]at h3 ⊢;rw[←h3];simp
     have HST:=hdzz hstart;clear hstart;clear HD HREP HROW CK HC a0 a1 a2 a3 b0 b1 b2 b3;have HR0:=hdzz hrow0;clear hrow0;have HG0:=hdzz hgrow0;clear hgrow0;have HSZ:=hdzz hsz;clear hsz;clear hlay hs hX hrow hwrap;generalize grow (wr.drewN nq) osq=X0 at *;go_loopw [5,7] (fun a b wr=>∃(k d:Nat) (cur:List It),a=.int .i64 k∧b=.int .i64 d∧1≤k∧k+1≤m+d∧1≤d∧m+d≤its.length∧Hid (RowT wr base F (.slice (some ⟨g,0,none⟩) its.length cap) cur)∧
      cur.length=its.length∧Hid (∃h:m+d - 1<its.length,cur.take k++qa4 its[m+d - 1].1 (its.drop (m+d))=comp its)∧Hid (cur.drop (m+d - 1)=its.drop (m+d - 1))∧Hid (∀x∈cur,x∈its)∧Hid (w.grownBy wr (some g)))
      (fun _ b _=>its.length - (intOf b).toNat)
     case atStart=>exact⟨m,1,its,rfl,rfl,hm,Nat.le_refl _,Nat.le_refl _,hlt,HR0.out,rfl,⟨hlt,HST.out⟩,rfl,fun _ h=>h,HG0.out⟩
     case round=>
      obtain⟨k,d,cur,rfl,rfl,hk1,hkd,hd1,hmd,HR,HL,HT,HDr,HM,HG⟩:=hrel;by_cases hlt2:m+d<its.length
      ·obtain⟨e,he⟩:∃e,e+1=d:=⟨d - 1,by omega⟩;have hel:m+e<its.length:=by omega
       have q1:cur[m+d]=its[m+d]:=qoy HDr.out _ (by omega) _ _;have q0:cur[m+e]=its[m+e]:=qoy HDr.out _ (by omega) _ _;obtain⟨a0,a1,a2,a3⟩:=HR.out.slot_grown HL.symm (m+d) (by omega);obtain⟨b0,b1,b2,b3⟩:=HR.out.slot_grown HL.symm (m+e) (by omega);rw[q1]at a0 a1 a2 a3;rw[q0]at b0 b1 b2 b3;rw[Nat.add_mul]at a0 a1 a2 a3 b0 b1 b2 b3;have hrep:∀x∈cur,∀X,Lay wr.heap.size wr X→RepP X (fun b=>F b∧b<X.heap.size∧g≠b) x.1 x.2.1 x.2.2:=fun x hx X hX=>
        RepP.mono (fun b ⟨h1,h2,h3⟩=>⟨h1,Nat.lt_of_lt_of_le h2 hX.size,fun e=>h3 (by rw[e];rfl)⟩) (fun p ⟨_,h2,_⟩=>hX.below.cell h2) _ _ _ (HR.out.reps _ hx)
       have hrt:∀x∈cur,∀X,Lay wr.heap.size wr X→RepT X X.heap.size x.1 x.2.1 x.2.2:=fun x hx X hX=>RepP.mono (fun b h=>h.2.1) (fun _ _=>rfl) _ _ _ (hrep x hx X hX);have HREP:=hdzz hrep;clear hrep;have CK:Hid (∀X,Lay wr.heap.size wr X→Calls Tryz.prog 178 #[its[m+d].1.val its[m+d].2.1 its[m+d].2.2,its[m+e].1.val its[m+e].2.1 its[m+e].2.2] X fun e' w'=>e'=.returned (.bool (its[m+d].1.same its[m+e].1))∧Lay X.heap.size X w'):=fun X hX=>
        qoi _ _ _ _ _ _ X (HSZ.out _ (List.getElem_mem _)) (HSZ.out _ (List.getElem_mem _)) (by rw[←q1];exact hrt _ (List.getElem_mem _) X hX) (by rw[←q0];exact hrt _ (List.getElem_mem _) X hX)
       clear hrt;have hwrap:IntKind.i64.wrap ((d:Int) - 1)=(e:Int):=by rw[show(d:Int) - 1=e by omega];exact IntWalk.i64_in _ (by omega)
       have i1:(0:Int)≤(e:Int):=Int.natCast_nonneg _;have i2:(d:Int)<((its.length - m:Nat):Int):=by omega
       have i3:(e:Int)<((its.length - m:Nat):Int):=by omega
       obtain⟨c,hc⟩:∃c,c=its[m+d].1.same its[m+e].1:=⟨_,rfl⟩;rw[←hc]at CK;have HC:=hdzz hc;clear hc;have Q1:=hdzz q1;clear q1;have Q0:=hdzz q0;clear q0;simp only[Tm.val]at CK;have hnext:its.drop (m+d)=its[m+d]::its.drop (m+d+1):=List.drop_eq_getElem_cons hlt2;have HN:=hdzz hnext;clear hnext
       cases c with
       | true=>
        go_wp2_with fail
        go_quiet_grown ((go_at_call 178;exact qap (CK.out _ (Lay.of_grow _ _))))
        go_wp2_with fail
        have hX:Lay wr.heap.size wr (grow (wr.drewN nq) osq):=Lay.of_grow _ _;go_roundw
        case rel=>
         refine⟨k,d+1,cur,rfl,by go_num,hk1,by omega,by omega,by omega,HR.out.below hX.below,HL,?_,?_,HM,?_⟩
         ·obtain⟨h,h2⟩:=HT.out;refine⟨by omega,?_⟩;have hc:=HC.out.symm;have e1:its[m+e]=its[m+d - 1]:=getElem_congr_idx (by omega);have e2:its[m+(d+1) - 1]=its[m+d]:=getElem_congr_idx (by omega);rw[e1]at hc;rw[HN.out,qa4,hc,if_pos rfl]at h2;rw[e2];exact h2
         ·exact qmm HDr.out (by omega)
         ·exact HG.out.trans (qdx hX _)
        case measure=>simp[intOf];omega
       | false=>
        go_wp2_with fail
        go_quiet_grown ((go_at_call 178;exact qap (CK.out _ (Lay.of_grow _ _))))
        have hX:Lay wr.heap.size wr (grow (wr.drewN nq) osq):=Lay.of_grow _ _;have hRX:=HR.out.below hX.below;obtain⟨k0,k1,k2,k3,k4⟩:=hRX.slot HL.symm k (by omega);have HX:=hdzz hX;clear hX;have HRX:=hdzz hRX;clear hRX;have a0':=a0 nq osq;have a1':=a1 nq osq;have a2':=a2 nq osq;have a3':=a3 nq osq;clear a0 a1 a2 a3 b0 b1 b2 b3;have hGX:(wr.grownBy (grow (wr.drewN nq) osq) (some g)):=qdx HX.out _;have HGX:=hdzz hGX;clear hGX;have HIN:Hid (∀x∈cur,RepP (grow (wr.drewN nq) osq) (fun b=>F b∧b<(grow (wr.drewN nq) osq).heap.size∧g≠b) x.1 x.2.1 x.2.2):=fun x hx=>HREP.out x hx _ HX.out;clear HREP CK HX;generalize grow (wr.drewN nq) osq=Z at *;have k5:(k:Int)<(its.length:Int):=by omega
        generalize cur[k]=old at k0 k1 k2 k3;go_wp2_with fail
        go_roundw
        case rel=>
         refine⟨k+1,d+1,cur.set k its[m+d],by go_num,by go_num,by omega,by omega,by omega,by omega,HRX.out.set HL.symm k (by omega) _ ?_,by rw[List.length_set];exact HL,?_,?_,?_,?_⟩
         ·rw[←Q1.out];exact HIN.out _ (List.getElem_mem _)
         ·obtain⟨h,h2⟩:=HT.out;refine⟨by omega,?_⟩;have hc:=HC.out.symm;have e1:its[m+e]=its[m+d - 1]:=getElem_congr_idx (by omega);have e2:its[m+(d+1) - 1]=its[m+d]:=getElem_congr_idx (by omega);rw[e1]at hc;rw[HN.out,qa4,hc]at h2;simp only[Bool.false_eq_true,if_false]at h2;rw[e2,qga _ _ _ (by omega),List.append_assoc];exact h2
         ·rw[List.drop_set_of_lt (by omega)];exact qmm HDr.out (by omega)
         ·intro x hx;rcases List.mem_or_eq_of_mem_set hx with hx|rfl
          ·exact HM.out x hx
          ·exact List.getElem_mem _
         ·exact HG.out.trans (HGX.out.trans (grown_set4 _ _ _ _ _ _ _ _ _ _))
        case measure=>simp[intOf];omega
      ·have hq:m+d=its.length:=by omega
       have hres:cur.take k=comp its:=by
        obtain⟨h,h2⟩:=HT.out
        rwa[List.drop_eq_nil_of_le (by omega),qa4,List.append_nil]at h2
       obtain⟨wc,hcl,hrc,hgc⟩:=HR.out.clear HL.symm k (by omega);rw[hres]at hrc;have HRC:=hdzz hrc;clear hrc;have HGC:=hdzz hgc;clear hgc;have hck:¬cap=k:=by omega
       go_wp2_with fail
       go_ret
       exact⟨_,rfl,HRC.out,HG.out.trans HGC.out,rfl⟩
   ·have hm2:m=its.length:=by omega
    have hcomp:comp its=its:=by
     have h2:=HD.out
     match its,h2 with
     | [],_=>rfl
     | x::l,h2=>exact congrArg (x :: ·) (qgq l x (fun i h=>h2 i h (by omega)))
    have HC:=hdzz hcomp;clear hcomp;go_wp2_with fail
    go_ret
    exact⟨_,rfl,by rw[HC.out];exact hrow.below hlay.below,qdx hlay _,rfl⟩
theorem RepS.below {w w':World} {B:Nat} {l:List Tm} {A:Option Addr} {cap:Nat} (h:RepS w (fun b=>b<B) l A cap) (hb:Below B w w'):RepS w' (fun b=>b<B) l A cap:=
 RepS.mono (fun _ h=>h) (fun _ hp=>hb.cell hp) h
theorem RepS.up {w:World} {B B':Nat} {l:List Tm} {A:Option Addr} {cap:Nat} (h:RepS w (fun b=>b<B) l A cap) (hb:B≤B'):RepS w (fun b=>b<B') l A cap:=
 RepS.mono (fun _ h=>by omega) (fun _ _=>rfl) h
theorem few_any (l:List Tm) (A:Option Addr) (cap:Nat) (n:Int) (m:Int) (w:World) (hm0:0≤m) (hm1:m≤1000000) (hrep:RepS w (fun b=>b<w.heap.size) l A cap) :
  Calls Tryz.prog 7 #[.slice A l.length cap,.int .i64 n,.int .i64 m] w fun e w'=>e=.returned (.bool (decide ((l.length:Int)≤n∧0≤Tm.lefts l m)))∧Lay w.heap.size w w':=by
 obtain⟨hr1,hr2,hr4⟩:=hrep;unfold maxLen at hr2;by_cases hn:n<(l.length:Int)
 ·have e:decide ((l.length:Int)≤n∧0≤Tm.lefts l m)=false:=decide_eq_false (by omega);rw[e];go_enter Tryz.func7,Tryz.ntmps7
  go_wp2_with fail
  go_ret
  exact⟨rfl,Lay.refl _ _⟩
 ·have e:decide ((l.length:Int)≤n∧0≤Tm.lefts l m)=decide (0≤Tm.lefts l m):=by congr 1;exact propext ⟨fun h=>h.2,fun h=>⟨by omega,h⟩⟩
  rw[e];have hn2:decide (n<(l.length:Int))=false:=decide_eq_false hn;clear e;go_enter Tryz.func7,Tryz.ntmps7
  go_wp2_with fail
  go_loopw [2,7] (fun v i wr=>∃(k:Nat) (j:Int),k≤l.length∧i=.int .i64 k∧v=.int .i64 j∧0≤j∧j≤m∧Hid (Tm.lefts (l.drop k) j=Tm.lefts l m)∧Lay w.heap.size w wr)
   (fun _ i _=>l.length - (intOf i).toNat)
  case atStart=>exact⟨0,m,Nat.zero_le _,rfl,rfl,by omega,by omega,rfl,Lay.refl _ _⟩
  case round=>
   obtain⟨k,j,hk,rfl,rfl,hj0,hj1,HL,hbel⟩:=hrel;by_cases hlt:k<l.length
   ·rcases hr4 with rfl|⟨b,off,rfl,hbB,hl⟩
    ·simp at hlt
    obtain⟨A',cap',h0,h1,h2,h3,h5⟩:=(RepL.below hl hbel.below hbB).get k hlt;have HD:Hid (l.drop k=l[k]::l.drop (k+1)):=List.drop_eq_getElem_cons hlt;have hll:=Tm.left_le l[k] j;have HU:Hid (Tm.lefts l m=if l[k].left j<0 then -1 else Tm.lefts (l.drop (k+1)) (l[k].left j)):=by
     rw[←HL.out,HD.out,Tm.lefts];exact rfl
    have HC:=hdzz (qql l[k].size l[k] A' cap' j wr (Nat.le_refl _) hj0 (by omega) (h5.go (Below.refl _ _) hbel.size));simp only[Tm.val]at HC;by_cases hneg:l[k].left j<0
    ·have HE:=hdzz (show decide (0≤Tm.lefts l m)=false from decide_eq_false (by rw[HU.out,if_pos hneg];omega));go_wp2_with fail
     refine HC.out.mono ?_;rintro e w1 ⟨rfl,hb1⟩;go_wp2_with fail
     go_ret
     exact⟨by rw[HE.out];rfl,hbel.trans (hb1.mono hbel.size)⟩
    ·go_wp2_with fail
     refine HC.out.mono ?_;rintro e w1 ⟨rfl,hb1⟩;go_wp2_with fail
     go_roundw
     case rel=>exact⟨k+1,_,by omega,by go_num,rfl,by omega,by omega,by rw[HU.out,if_neg (by omega)];exact rfl,hbel.trans (hb1.mono hbel.size)⟩
     case measure=>simp[intOf];omega
   ·obtain rfl:k=l.length:=by omega
    have HE:=hdzz (show decide (0≤Tm.lefts l m)=true from decide_eq_true (by rw[←HL.out,List.drop_length,Tm.lefts];omega));go_wp2_with fail
    go_ret
    exact⟨by rw[HE.out];rfl,hbel⟩
theorem qls (t u:Tm) (A A':Option Addr) (cap cap':Nat) (w:World) (ht:t.size≤1000000) (hu:u.size≤1000000) (hrep:RepT w w.heap.size t A cap) (hrep':RepT w w.heap.size u A' cap') :
  Calls Tryz.prog 31 #[t.val A cap,u.val A' cap'] w fun e w'=>e=.returned (.bool (t.same u))∧Lay w.heap.size w w':=by
 have hL:Lay w.heap.size w ((w.alloc (.cells #[.int .i64 t.kind,.string t.name,.int .i64 t.sort,.slice A t.kids.length cap] 24)).alloc (.cells #[.int .i64 u.kind,.string u.name,.int .i64 u.sort,.slice A' u.kids.length cap'] 24)):=
  ((Lay.refl _ _).alloc (Nat.le_refl _) _).alloc (by simp) _
 have hC:=ql0 1000000 t u A A' cap cap' _ ht (by omega) hu (hrep.go hL.below hL.size) (hrep'.go hL.below hL.size);have HC:=hdzz hC;clear hC;have e:t.same u=(t.cmp u==0):=by unfold Tm.same;rw[Bool.eq_iff_iff];simp
 rw[e];generalize t.cmp u=c at *;simp only[Tm.val]at HC ⊢;go_enter Tryz.func31,Tryz.ntmps31
 go_wp2_with fail
 refine HC.out.mono ?_;rintro e w' ⟨rfl,hl⟩;go_wp2_with fail
 go_ret
 exact⟨rfl,hL.trans (hl.mono hL.size)⟩
theorem RepLP.get_grown {w:World} {l:List Tm} {b off:Nat} (hb:b<w.heap.size) (h:RepL w w.heap.size l b off) (i:Nat) (hi:i<l.length):∃A cap,
  (∀m os,(grow (w.drewN m) os).cell? ⟨b,off+i*4,none⟩=some (.int .i64 l[i].kind))∧(∀m os,(grow (w.drewN m) os).cell? ⟨b,off+i*4+1,none⟩=some (.string l[i].name))∧
  (∀m os,(grow (w.drewN m) os).cell? ⟨b,off+i*4+2,none⟩=some (.int .i64 l[i].sort))∧(∀m os,(grow (w.drewN m) os).cell? ⟨b,off+i*4+3,none⟩=some (.slice A l[i].kids.length cap))∧RepT w w.heap.size l[i] A cap:=by
 obtain⟨A,cap,h0,h1,h2,h3,h5⟩:=RepLP.get h i hi;exact⟨A,cap,fun m os=>cell_grown hb h0 m os,fun m os=>cell_grown hb h1 m os,fun m os=>cell_grown hb h2 m os,fun m os=>cell_grown hb h3 m os,h5⟩
end Go.Proofs.YtjhjoiplpmjepaaGreat
