/- Ugcat (joined by shake.py). -/
import Derived.Test.YtjhjoiplpmjepaaGreatW0
import Derived.Test.YtjhjoiplpmjepaaGreatW5
import Derived.Laws.OwnMore
set_option maxRecDepth 100000
set_option linter.unusedVariables false
set_option linter.unusedSimpArgs false
set_option maxHeartbeats 2000000
namespace Go.Proofs.YtjhjoiplpmjepaaGreat
open Go.RowKit Go.Sort
theorem grow_run (w:World) (n:Nat) (h0:0<n) (hn:n≤1000000) (ty:TypeId) :
  ∃cap w',(Builtin.append_ #[22,3] ty #[.slice none 0 0,.int .i64 n]).run Tryz.prog w=.ok (.slice (some ⟨w.heap.size,0,none⟩) n cap) w'∧n≤cap∧RowT w' w.heap.size (fun _=>True) (.slice (some ⟨w.heap.size,0,none⟩) 0 cap) []∧Below w.heap.size w w':=by
 obtain⟨i0,hi0,hz0,hz1,hz2⟩:=info_parts qcj;have hcap:=grownCap_ge w n 0 24;have hcap2:=grownCap_le_maxLen w n 0 24 (by unfold maxLen;omega);obtain⟨zz,hzz⟩:∃z:Value,z=.agg #[.int .i64 0,.string ⟨#[]⟩,.int .i64 0,.slice none 0 0]:=⟨_,rfl⟩;have hzs:zz.cells.size=4:=by rw[hzz];rfl
 rw[←hzz]at hz0;refine⟨grownCap w n 0 24,w.drew.alloc (.cells (Builtin.zeroCells zz.cells n++Builtin.zeroCells zz.cells (grownCap w n 0 24 - n)) 24),?_,hcap,⟨⟨by simp[itCells],.inr ⟨w.heap.size,_,_,rfl,Nat.le_refl _,heap_alloc_new w.drew _,Nat.zero_le _,hcap2,?_,by simp[itCells]⟩⟩,by simp⟩,?_⟩
 ·have hn0:n≠0:=by omega
  have h63':¬(9223372036854775807<(n:Int)):=by omega
  have h48':¬(281474976710656<Builtin.nextslicecap n 0*i0.bytes):=by rw[nextslicecap_zero h0,hz2];omega
  have hw:IntKind.i64.wrap (n:Int)=(n:Int):=by rw[IntKind.wrap_i64];omega
  have hneg:¬((n:Int)<0):=by omega
  have hbig:¬(281474976710656<(n:Int)*(i0.bytes:Int)):=by rw[hz2];omega
  have hsz:¬(n*i0.size=0):=by rw[hz1];omega
  simp[Builtin.append_,run_underlying Tryz.underlying22,run_underlying Tryz.underlying3,sizeOf,typeInfo,zeroValue,hi0,hz0,hn0,h63',h48',Question.forced,run_firstCells_none,newRow,grownCap,asInt,asIntOf,hw,hneg,hbig,hsz]
 ·simp only[Array.size_append,size_zeroCells,hzs,←Nat.add_mul]
  congr 1
  omega
 ·exact(Below.refl _ _).drew.alloc (Nat.le_refl _) _
theorem qd4 {w w':World} {ops:Array Oper} {rest:List Oper} {o:Oper} {a:Act} {Q:Exit→Act→World→Prop} {v u v':Value} {t t2:TypeId} (hgd:o.guard=none) (s x:Operand)
  (ho:o.op=.call { callee:=.builtin .append,args:=#[s,x],argTypes:=#[t,t2] }) (hs:a.eval s=v) (hx:a.eval x=u)
  (hrun:∀ty,(Builtin.append_ #[t,t2] ty #[v,u]).run Tryz.prog w=.ok v' w') (h:wpList Tryz.prog ops Q rest (a.put o.dst v') w'):wpList Tryz.prog ops Q (o::rest) a w:=by
 refine wpList_plain hgd fun K hK=>?_;unfold Oper.wp execOp;simp only[ho,resolve,invoke,builtin,Sem.run_bind,Sem.run_pure,Result.andThen_ok,List.map_toArray,List.map_cons,List.map_nil,hs,hx,hrun];exact hK _ _ h
def Grew (w:World) (e:Ending) (w':World):Prop:=∃A c,e=.returned (.slice A 0 c)∧RowT w' w.heap.size (fun _=>True) (.slice A 0 c) []∧Below w.heap.size w w'
theorem qou (n:Nat) (hn:n≤1000000) (w:World):Calls Tryz.prog 122 #[.slice none 0 0,.int .i64 n] w (Grew w):=by
 rcases Nat.eq_zero_or_pos n with rfl|h0
 ·go_enter Tryz.func122,Tryz.ntmps122
  go_wp2_with fail
  go_ret
  exact⟨none,0,rfl,RowT.nil _ _ _,Below.refl _ _⟩
 ·have i1:(0:Int)<(n:Int):=by omega
  have i2:¬((n:Int)<0):=by omega
  have hr:∃cap w',(∀ty,(Builtin.append_ #[22,3] ty #[.slice none 0 0,.int .i64 n]).run Tryz.prog w=.ok (.slice (some ⟨w.heap.size,0,none⟩) n cap) w')∧n≤cap∧RowT w' w.heap.size (fun _=>True) (.slice (some ⟨w.heap.size,0,none⟩) 0 cap) []∧Below w.heap.size w w':=by
   obtain⟨cap,w',h1,h2⟩:=grow_run w n h0 hn 0;exact⟨cap,w',fun _=>h1,h2⟩
  obtain⟨cap,w',hap,hcap,hrow,hb⟩:=hr;have HROW:=hdzz hrow;clear hrow;have HB:=hdzz hb;clear hb;obtain⟨g,hg⟩:∃g,g=w.heap.size:=⟨_,rfl⟩;rw[←hg]at hap HROW;go_enter Tryz.func122,Tryz.ntmps122
  go_wp2_with (at_builtin;refine qd4 rfl _ _ rfl rfl rfl hap ?_)
  go_ret
  have hrow:=HROW.out;rw[hg]at hrow;exact⟨some ⟨w.heap.size,0,none⟩,cap,rfl,hrow,HB.out⟩
theorem qhn {w:World} {base n:Nat} {v:Value} {xs:List Value} (hown:w.ownsRow base 24 4 v n xs) (A:Option Addr) (c:Nat) (ty:TypeId) :
  (Builtin.append_ #[22,22] ty #[v,.slice A 0 c]).run Tryz.prog w=.ok v w:=by
 obtain⟨i0,hi0,hz0,hz1,hz2⟩:=info_parts qcj;rcases hown.2 with⟨rfl,rfl⟩|⟨g,cap,cur,rfl,_,_,hnc,_⟩
 ·cases A<;>simp[Builtin.append_,run_underlying Tryz.underlying22,sizeOf,typeInfo,hi0,Builtin.lenOf,Builtin.firstCells,loadCells,loadCellsFrom]
 ·cases A<;>simp[Builtin.append_,run_underlying Tryz.underlying22,sizeOf,typeInfo,hi0,Builtin.lenOf,Builtin.firstCells,hnc,storeCells,loadCells,loadCellsFrom]
theorem qfb {w:World} {base:Nat} {v:Value} {its:List It} {B:Nat} (hrow:RowT w base (fun b=>b<B) v its) (hB:B≤base) (hbase:base≤w.heap.size) {l:List Tm} {A:Option Addr} {c:Nat} (hS:RepS w (fun b=>b<B) l A c) (hlen:its.length+l.length≤100000000) :
  ∃A' c' w' it2,it2.map (·.1)=l∧(∀ty,(Builtin.append_ #[22,22] ty #[v,.slice A l.length c]).run Tryz.prog w=.ok (.slice A' (its.length+l.length) c') w')∧
   RowT w' base (fun b=>b<B) (.slice A' (its.length+l.length) c') (its++it2)∧(∀W0 B0,Below B0 W0 w→B0≤base→Below B0 W0 w'):=by
 have grown:∀{w1:World},w.grownBy w1 v.ownBlock→∀W0 B0,Below B0 W0 w→B0≤base→Below B0 W0 w1:=fun hg W0 B0 hb hB0=>
  qbf hb (by omega) hg (fun k hk=>by have:=(hrow.lt k hk).1;omega)
 rcases hS.2.2 with h|⟨b,off,rfl,hbB,hl⟩
 ·subst h;have hc0:∀ty,(Builtin.append_ #[22,22] ty #[v,.slice A 0 c]).run Tryz.prog w=.ok v w:=fun ty=>qhn hrow.own A c ty;rcases hrow.own.2 with⟨hv,h0⟩|⟨g,cap,cur,hv,_⟩
  ·refine⟨none,0,w,[],rfl,fun ty=>?_,?_,fun _ _ h _=>h⟩
   ·rw[hv]at hc0;rw[hv,h0];exact hc0 ty
   ·rw[hv]at hrow;rw[List.append_nil,h0];exact hrow
  ·refine⟨some ⟨g,0,none⟩,cap,w,[],rfl,fun ty=>?_,?_,fun _ _ h _=>h⟩
   ·have h2:=hc0 ty;rw[hv]at h2;rw[hv];exact h2
   ·rw[hv]at hrow;rw[List.append_nil];exact hrow
 ·obtain⟨it2,hm,hc,hr⟩:=RepLP.its l b off hl;have hl2:l.length=it2.length:=by rw[←hm,List.length_map]
  obtain⟨A',c',w',h1,h2,h3,-⟩:=hrow.more (fun b h=>by omega) hbase b off c l.length it2 hl2 hc hr hlen;exact⟨A',c',w',it2,hm,h1,h2,grown h3⟩
def Catted (L:List Tm) (w:World) (e:Ending) (w':World):Prop:=
 ∃A c its,e=.returned (.slice A L.length c)∧RowT w' w.heap.size (fun b=>b<w.heap.size) (.slice A L.length c) its∧its.map (·.1)=L∧Below w.heap.size w w'
theorem qqi (l m:List Tm) (A0 A1:Option Addr) (c0 c1 sb:Nat) (w:World) (hl:l.length≤100000) (hm:m.length≤100000)
  (hx:w.heap[sb]?=some (.cells #[.slice A0 l.length c0,.slice A1 m.length c1] 22 (0,0))) (h0:RepS w (fun b=>b<w.heap.size) l A0 c0) (h1:RepS w (fun b=>b<w.heap.size) m A1 c1) :
  Calls Tryz.prog 81 #[.slice (some ⟨sb,0,none⟩) 2 2] w (Catted (l++m) w):=by
 have hsb:=(sltz hx);have x0:w.cell? ⟨sb,0,none⟩=some (.slice A0 l.length c0):=by simp[World.cell?,hx]
 have x1:w.cell? ⟨sb,1,none⟩=some (.slice A1 m.length c1):=by simp[World.cell?,hx]
 have GR:=qou (l.length+m.length) (by omega) w;rw[show((l.length+m.length:Nat):Int)=(l.length:Int)+(m.length:Int)by omega]at GR;have GR:=hdzz GR;have H0:=hdzz h0;clear h0;have H1:=hdzz h1;clear h1;have i1:(0:Int)≤(l.length:Int):=by omega
 have i2:(0:Int)≤(m.length:Int):=by omega
 have i3:¬((l.length:Int)<0):=by omega
 have i4:¬((l.length:Int)+(m.length:Int)<0):=by omega
 go_enter Tryz.func81,Tryz.ntmps81
 go_wp2_with fail
 refine wp_loop_rounds 3 ?_;rw[rounds_succ];go_wp2_with fail
 rw[rounds_succ];go_wp2_with fail
 rw[rounds_succ];go_wp2_with fail
 refine GR.out.mono ?_;clear GR x0 x1;rintro e w1 ⟨A,c,rfl,hrow,hb⟩;have hrow':RowT w1 w.heap.size (fun b=>b<w.heap.size) (.slice A 0 c) []:=⟨hrow.own,by simp⟩;have up:∀{Z:World} {t:List Tm} {T:Option Addr} {k:Nat},Below w.heap.size w Z→RepS w (fun b=>b<w.heap.size) t T k→RepS Z (fun b=>b<w.heap.size) t T k:=fun hZ h=>RepS.mono (fun _ h=>h) (fun p hp=>hZ.cell hp) h;obtain⟨A2,c2,w2,it2,hm2,hap1,hrow2,hg2⟩:=qfb hrow' (Nat.le_refl _) hb.size (up hb H0.out) (by simp;omega);have hb2:=hg2 _ _ hb (Nat.le_refl _);simp only[List.length_nil,Nat.zero_add,List.nil_append]at hap1 hrow2;have hl2:it2.length=l.length:=by rw[←hm2,List.length_map]
 rw[←hl2]at hrow2;obtain⟨A3,c3,w3,it3,hm3,hap2,hrow3,hg3⟩:=qfb hrow2 (Nat.le_refl _) hb2.size (up hb2 H1.out) (by omega);have hb3:=hg3 _ _ hb2 (Nat.le_refl _);rw[hl2]at hap2 hrow3;have x0:w1.cell? ⟨sb,0,none⟩=some (.slice A0 l.length c0):=by rw[hb.cell (show sb<_ from hsb)];simp[World.cell?,hx]
 have x1:w2.cell? ⟨sb,1,none⟩=some (.slice A1 m.length c1):=by rw[hb2.cell (show sb<_ from hsb)];simp[World.cell?,hx]
 have HROW:=hdzz hrow3;clear hrow3 hrow2 hrow' hrow hg2 hg3;have HB:=hdzz hb3;clear hb3 hb2 hb;have HM:Hid ((it2++it3).map (·.1)=l++m):=by show _=_;rw[List.map_append,hm2,hm3]
 clear hm2 hm3 hl2 hx up i1 i2 i3 i4;go_wp2_with fail
 refine wp_loop_rounds 3 ?_;rw[rounds_succ];go_wp2_with (at_builtin;refine qag rfl _ _ rfl rfl rfl hap1 ?_)
 rw[rounds_succ];go_wp2_with (at_builtin;refine qag rfl _ _ rfl rfl rfl hap2 ?_)
 rw[rounds_succ];go_wp2_with fail
 go_ret
 exact⟨A3,c3,it2++it3,by rw[List.length_append];rfl,by rw[List.length_append];exact HROW.out,HM.out,HB.out⟩
end Go.Proofs.YtjhjoiplpmjepaaGreat
