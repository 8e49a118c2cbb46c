/- Town, Gj (joined by shake.py). -/
import Derived.Test.YtjhjoiplpmjepaaGreatW0
import Derived.Test.YtjhjoiplpmjepaaGreatShl
import Derived.Test.YtjhjoiplpmjepaaGreatW1
import Derived.Test.YtjhjoiplpmjepaaGreatW5
set_option maxRecDepth 100000
set_option linter.unusedVariables false
set_option linter.unusedSimpArgs false
set_option maxHeartbeats 4000000
namespace Go.Proofs.YtjhjoiplpmjepaaGreat
open Go.RowKit Go.Sort
def RepV (w:World) (P:Nat→Prop) (sz:Nat) (vs:List Value) (A:Option Addr) (n cap:Nat):Prop:=
 vs.length=n*sz∧n≤cap∧cap≤maxLen∧(n=0∨∃b off,A=some ⟨b,off,none⟩∧P b∧∀j u,vs[j]?=some u→w.cell? ⟨b,off+j,none⟩=some u)
theorem RepV.mono {w w':World} {P P':Nat→Prop} {sz:Nat} {vs:List Value} {A:Option Addr} {n cap:Nat} (hP:∀b,P b→P' b) (hc:∀p:Addr,P p.block→w'.cell? p=w.cell? p) (h:RepV w P sz vs A n cap):RepV w' P' sz vs A n cap:=by
 obtain⟨h1,h2,h3,h4⟩:=h;refine⟨h1,h2,h3,?_⟩;rcases h4 with h4|⟨b,off,hA,hb,hl⟩
 ·exact .inl h4
 ·exact .inr ⟨b,off,hA,hP b hb,fun j u hj=>by rw[hc _ hb];exact hl j u hj⟩
theorem RepV.nil {w:World} {P:Nat→Prop} {sz:Nat}:RepV w P sz [] none 0 0:=⟨by simp,Nat.le_refl _,Nat.zero_le _,.inl rfl⟩
theorem RepV.at {w:World} {P:Nat→Prop} {sz:Nat} {vs:List Value} {A:Option Addr} {n cap:Nat} (h:RepV w P sz vs A n cap) (hn:0<n) :
  ∃b off,A=some ⟨b,off,none⟩∧P b∧∀j u,vs[j]?=some u→w.cell? ⟨b,off+j,none⟩=some u:=by
 rcases h.2.2.2 with h|h
 ·omega
 ·exact h
theorem qok {w:World} {base n sz:Nat} {te:TypeId} {v:Value} {vs:List Value} (h:w.ownsRow base te sz v n vs) :
  ∃A cap,v=.slice A n cap∧∀P:Nat→Prop,(∀b,base≤b→b<w.heap.size→v.ownBlock=Option.some b→P b)→RepV w P sz vs A n cap:=by
 rcases h.2 with⟨rfl,rfl⟩|⟨g,cap,cur,rfl,hb,hg,hnc,hcm,-⟩
 ·refine⟨none,0,rfl,fun P _=>?_⟩;have hl:=h.1;exact⟨hl,Nat.le_refl _,Nat.zero_le _,.inl rfl⟩
 ·refine⟨some ⟨g,0,none⟩,cap,rfl,fun P hP=>⟨h.1,hnc,hcm,.inr ⟨g,0,rfl,hP g hb (sltz hg) rfl,fun j u hj=>?_⟩⟩⟩;have:=h.cells (g:=g) rfl j u hj;unfold Addr.add at this
  split at this<;>simp_all
theorem qie {w w':World} {base n sz:Nat} {te:TypeId} {v:Value} {vs:List Value} (h:w.ownsRow base te sz v n vs) (hb:Below w.heap.size w w'):w'.ownsRow base te sz v n vs:=by
 refine⟨h.1,?_⟩;rcases h.2 with hn|⟨g,cap,cur,rfl,hg,hgb,r⟩
 ·exact .inl hn
 ·exact .inr ⟨g,cap,cur,rfl,hg,by rw[hb.block g (sltz hgb)];exact hgb,r⟩
theorem qp8 {w:World} {base base' n sz:Nat} {te:TypeId} {v:Value} {vs:List Value} (h:w.ownsRow base te sz v n vs) (hb:base'≤base):w.ownsRow base' te sz v n vs:=by
 refine⟨h.1,?_⟩;rcases h.2 with h|⟨g,cap,cur,h1,h2,h3⟩
 ·exact .inl h
 ·exact .inr ⟨g,cap,cur,h1,by omega,h3⟩
theorem own_keep {w w':World} {base n sz:Nat} {te:TypeId} {v:Value} {vs:List Value} (h:w.ownsRow base te sz v n vs) (hc:∀k,v.ownBlock=Option.some k→w'.heap[k]?=w.heap[k]?):w'.ownsRow base te sz v n vs:=by
 refine⟨h.1,?_⟩;rcases h.2 with hn|⟨g,cap,cur,rfl,hg,hgb,r⟩
 ·exact .inl hn
 ·exact .inr ⟨g,cap,cur,rfl,hg,by rw[hc g rfl];exact hgb,r⟩
structure SlT (ts te:TypeId) (sz by_:Nat) (z:Value):Prop where
 und:Tryz.prog.underlying ts=some (.slice te)
 info:(Tryz.prog.info? te).map (fun i=>(i.zero,i.size,i.bytes))=some (some z,sz,by_)
 cells:z.cells.size=sz
 pos:0<sz
 le:by_≤64
structure GrewV (base:Nat) (w w':World) (v v':Value):Prop where
 below:Below base w w'
 old:∀k,k<w.heap.size→v.ownBlock≠Option.some k→w'.heap[k]?=w.heap[k]?
 own:v'.ownBlock=v.ownBlock∨∀k,v'.ownBlock=Option.some k→w.heap.size≤k
 size:w.heap.size≤w'.heap.size
theorem row_add {ts te:TypeId} {sz by_:Nat} {z:Value} (T:SlT ts te sz by_ z) {w:World} {base n:Nat} {v:Value} {xs:List Value} (hrow:w.ownsRow base te sz v n xs) (hbase:base≤w.heap.size)
  (news:List Value) (hl:news.length=sz) (h1:∀u∈news,u.oneCell'=true) (hlen:n+1≤1000000) :
  ∃g cap w',(∀ty,(Builtin.append_ #[ts,ts] ty #[v,.slice (some ⟨w.heap.size,0,none⟩) 1 1]).run Tryz.prog (w.alloc (.cells news.toArray te))=.ok (.slice (some ⟨g,0,none⟩) (n+1) cap) w')∧
   w'.ownsRow base te sz (.slice (some ⟨g,0,none⟩) (n+1) cap) (n+1) (xs++news)∧GrewV base w w' v (.slice (some ⟨g,0,none⟩) (n+1) cap):=by
 obtain⟨i0,hi0,hz0,hz1,hz2⟩:=info_parts T.info;have hb:Below w.heap.size w (w.alloc (.cells news.toArray te)):=qab (Nat.le_refl _) _;have hrow':=qie hrow hb;have hn:=heap_alloc_new w (.cells news.toArray te);have hsz:(w.alloc (.cells news.toArray te)).heap.size=w.heap.size+1:=by simp
 generalize w.alloc (.cells news.toArray te)=Z at *;have hby:(n+1)*by_≤140737488355328:=by
  have:=T.le;have:(n+1)*by_≤1000000*64:=Nat.mul_le_mul hlen T.le;omega
 obtain⟨v',w',hr,ho,hg,-,hat⟩:=run_append_own_at (P:=Tryz.prog) (w:=Z) base ts 0 te i0 _ sz by_ T.und hi0 hz0 hz1 hz2 T.cells T.pos v n xs hrow'
  ⟨w.heap.size,0,none⟩ 1 1 news (by rw[hl,Nat.one_mul]) (fun j u hj=>World.news_of_block hn j u (by simpa using hj)) h1 (by unfold maxLen;omega) hby (by omega)
 rcases ho.2 with⟨-,h0⟩|⟨g,cap,cur,rfl,_⟩
 ·omega
 ·refine⟨g,cap,w',fun ty=>hr,ho,qbf (hb.mono hbase) (by omega) hg (fun k hk=>(hrow.lt k hk).1),fun k hk hne=>?_,?_,by have:=hg.size;omega⟩
  ·rw[hg.block k (by omega) (fun e=>hne e.symm),hb.block k hk]
  ·rcases hat with h|h
   ·exact .inl h
   ·right;intro k hk;rw[h]at hk;injection hk with hk;omega
theorem qla {w:World} {base:Nat} {e:TypeId} {size n:Nat} {v:Value} {xs:List Value} (t ty:TypeId) (i:TypeInfo) (ht:Tryz.prog.underlying t=some (.slice e)) (hi:Tryz.prog.info? e=some i)
  (hown:w.ownsRow base e size v n xs) (c:Nat):(Builtin.append_ #[t,t] ty #[v,.slice none 0 c]).run Tryz.prog w=.ok v w:=by
 rcases hown.2 with⟨rfl,rfl⟩|⟨g,cap,cur,rfl,_,_,hnc,_⟩
 ·simp[Builtin.append_,run_underlying ht,sizeOf,typeInfo,hi,Builtin.lenOf,Builtin.firstCells]
 ·simp[Builtin.append_,run_underlying ht,sizeOf,typeInfo,hi,Builtin.lenOf,Builtin.firstCells,hnc,storeCells]
theorem qdh {w w':World} {o:Oper} {a:Act} {K:Act→World→Prop} {Q:Exit→Act→World→Prop} {v u v':Value} {t:TypeId} (s x:Operand)
  (ho:o.op=.call { callee:=.builtin .append,args:=#[s,x],argTypes:=#[t,t] }) (hs:a.eval s=v) (hx:a.eval x=u)
  (hrun:∀ty,(Builtin.append_ #[t,t] ty #[v,u]).run Tryz.prog w=.ok v' w') (h:K (a.put o.dst v') w'):Oper.wp Tryz.prog o a w K Q:=by
 unfold Oper.wp;simp[execOp,ho,resolve,invoke,builtin,hs,hx,hrun,Result.andThen];exact h
theorem qoj {ts te:TypeId} {sz by_:Nat} {z:Value} (T:SlT ts te sz by_ z) {w:World} {base n m:Nat} {v:Value} {xs vs:List Value} (hrow:w.ownsRow base te sz v n xs) (hbase:base≤w.heap.size)
  {P:Nat→Prop} {A:Option Addr} {c:Nat} (hs:RepV w P sz vs A m c) (h1:∀u∈vs,u.oneCell'=true) (h63:n+m≤maxLen) (hby:(n+m)*by_≤140737488355328) :
  ∃v' w',(∀ty,(Builtin.append_ #[ts,ts] ty #[v,.slice A m c]).run Tryz.prog w=.ok v' w')∧w'.ownsRow base te sz v' (n+m) (xs++vs)∧GrewV base w w' v v':=by
 obtain⟨i0,hi0,hz0,hz1,hz2⟩:=info_parts T.info
 cases A with
 | none=>
  have hm:m=0:=by
   rcases hs.2.2.2 with h|⟨_,_,h,_⟩
   ·exact h
   ·cases h
  subst hm;have hv:vs=[]:=List.eq_nil_of_length_eq_zero (by rw[hs.1,Nat.zero_mul]);subst hv;exact⟨v,w,fun ty=>qla _ ty i0 T.und hi0 hrow c,by rw[List.append_nil];exact hrow,Below.refl _ _,fun _ _ _=>rfl,.inl rfl,Nat.le_refl _⟩
 | some a=>
  obtain⟨v',w',hr,ho,hg,-,hat⟩:=run_append_own_at (P:=Tryz.prog) (w:=w) base ts 0 te i0 _ sz by_ T.und hi0 hz0 hz1 hz2 T.cells T.pos v n xs hrow a m c vs hs.1 (fun j u hj=>by
   rcases hs.2.2.2 with h|⟨b,off,h,_,hc⟩
   ·subst h;have hv:vs=[]:=List.eq_nil_of_length_eq_zero (by rw[hs.1,Nat.zero_mul]);subst hv;simp at hj
   ·injection h with h;subst h;have:=hc j u hj;rw[show(⟨b,off,none⟩:Addr).add j=⟨b,off+j,none⟩by unfold Addr.add;split<;>simp_all];exact this) h1 h63 hby hbase
  refine⟨v',w',fun ty=>hr,ho,qbf (Below.refl _ _) hbase hg (fun k hk=>(hrow.lt k hk).1),fun k hk hne=>hg.block k hk (fun e=>hne e.symm),?_,hg.size⟩;rcases hat with h|h
  ·exact .inl h
  ·right;intro k hk;rw[h]at hk;injection hk with hk;omega
end Go.Proofs.YtjhjoiplpmjepaaGreat
namespace Go.Proofs.YtjhjoiplpmjepaaGreat
open Go.RowKit
open Go.RowKit
open Go.RowKit
abbrev Ip:=List Int×Option Addr×Nat
def ints (p:List Int):List Value:=p.map (Value.int .i64)
def qe2 (x:Ip):Value:=.slice x.2.1 x.1.length x.2.2
def IRep (w:World) (P:Nat→Prop) (p:List Int) (A:Option Addr) (cap:Nat):Prop:=
 ∃b off,A=some ⟨b,off,none⟩∧P b∧p.length≤cap∧cap≤maxLen∧∀j u,(ints p)[j]?=some u→w.cell? ⟨b,off+j,none⟩=some u
theorem IRep.mono {w w':World} {P P':Nat→Prop} (hP:∀b,P b→P' b) (hc:∀p:Addr,P p.block→w'.cell? p=w.cell? p) {p:List Int} {A:Option Addr} {cap:Nat} (h:IRep w P p A cap):IRep w' P' p A cap:=by
 obtain⟨b,off,h1,h2,h3,h4,h5⟩:=h;exact⟨b,off,h1,hP b h2,h3,h4,fun j u hj=>by rw[hc _ h2];exact h5 j u hj⟩
theorem ints_one (p:List Int):∀u∈ints p,u.oneCell'=true:=by
 intro u hu;obtain⟨i,_,rfl⟩:=List.mem_map.1 hu;rfl
theorem ip_one (its:List Ip):∀u∈its.map qe2,u.oneCell'=true:=by
 intro u hu;obtain⟨i,_,rfl⟩:=List.mem_map.1 hu;rfl
theorem qfz {w:World} {base n:Nat} {v:Value} {p:List Int} (h:w.ownsRow base 3 1 v n (ints p)) (hn:n=p.length) (hv:v≠.slice none 0 0) :
  ∃g cap,v=.slice (some ⟨g,0,none⟩) n cap∧base≤g∧g<w.heap.size∧∀P:Nat→Prop,P g→IRep w P p (some ⟨g,0,none⟩) cap:=by
 subst hn;rcases h.2 with⟨h1,_⟩|⟨g,cap,cur,rfl,hb,hg,hnc,hcm,_⟩
 ·exact absurd h1 hv
 ·refine⟨g,cap,rfl,hb,(sltz hg),fun P hP=>⟨g,0,rfl,hP,hnc,hcm,fun j u hj=>?_⟩⟩;have:=h.cells (g:=g) rfl j u hj;unfold Addr.add at this
  split at this<;>simp_all
structure PRow (w:World) (base:Nat) (F:Nat→Prop) (v:Value) (its:List Ip):Prop where
 own:w.ownsRow base 36 1 v its.length (its.map qe2)
 reps:∀x∈its,IRep w (fun b=>F b∧b<w.heap.size∧v.ownBlock≠some b) x.1 x.2.1 x.2.2
theorem PRow.nil (w:World) (base:Nat) (F:Nat→Prop):PRow w base F (.slice none 0 0) []:=⟨World.ownsRow_nil _ _ _ _,by simp⟩
theorem PRow.keep {w w':World} {base:Nat} {F:Nat→Prop} {v:Value} {its:List Ip} (h:PRow w base F v its) (hs:w.heap.size≤w'.heap.size)
  (hc:∀b,b<w.heap.size→(F b∨v.ownBlock=some b)→w'.heap[b]?=w.heap[b]?):PRow w' base F v its:=by
 refine⟨⟨h.own.1,?_⟩,fun x hx=>?_⟩
 ·rcases h.own.2 with hn|⟨g,cap,cur,rfl,hb,hg,r⟩
  ·exact .inl hn
  ·have hlt:g<w.heap.size:=(sltz hg);exact .inr ⟨g,cap,cur,rfl,hb,by rw[hc g hlt (Or.inr rfl)];exact hg,r⟩
 ·refine IRep.mono ?_ ?_ (h.reps x hx)
  ·rintro b ⟨h1,h2,h3⟩;exact⟨h1,by omega,h3⟩
  ·rintro p ⟨h1,h2,h3⟩;exact World.cell?_of_block (hc p.block h2 (Or.inl h1))
theorem PRow.below {w w':World} {base:Nat} {F:Nat→Prop} {v:Value} {its:List Ip} (h:PRow w base F v its) (hb:Below w.heap.size w w'):PRow w' base F v its:=
 h.keep hb.size fun b hb' _=>hb.block b hb'
theorem PRow.lt {w:World} {base:Nat} {F:Nat→Prop} {v:Value} {its:List Ip} (h:PRow w base F v its):∀k,v.ownBlock=some k→base≤k∧k<w.heap.size:=h.own.lt
theorem PRow.loosen {w:World} {base base':Nat} {F F':Nat→Prop} {v:Value} {its:List Ip} (h:PRow w base F v its) (hb:base'≤base) (hF:∀b,F b→F' b):PRow w base' F' v its:=by
 refine⟨⟨h.own.1,?_⟩,fun x hx=>IRep.mono (fun b ⟨h1,h2⟩=>⟨hF b h1,h2⟩) (fun _ _=>rfl) (h.reps x hx)⟩;rcases h.own.2 with h|⟨g,cap,cur,h1,h2,h3⟩
 ·exact .inl h
 ·exact .inr ⟨g,cap,cur,h1,by omega,h3⟩
theorem PRow.form {w:World} {base:Nat} {F:Nat→Prop} {v:Value} {its:List Ip} (h:PRow w base F v its):∃A cap,v=.slice A its.length cap∧(A=none→cap=0):=by
 rcases h.own.2 with⟨rfl,h0⟩|⟨g,cap,cur,rfl,_⟩
 ·exact⟨none,0,by rw[h0],fun _=>rfl⟩
 ·exact⟨_,cap,rfl,fun e=>by cases e⟩
theorem PRow.slot {w:World} {base:Nat} {F:Nat→Prop} {A:Option Addr} {cap n:Nat} {its:List Ip} (h:PRow w base F (.slice A n cap) its) (i:Nat) (hi:i<its.length) :
  ∃g,A=some ⟨g,0,none⟩∧w.cell? ⟨g,i,none⟩=some (.slice its[i].2.1 its[i].1.length its[i].2.2):=by
 rcases h.own.2 with⟨hv,h0⟩|⟨g,cap',cur,hv,hb,hg,r⟩
 ·omega
 ·injection hv with h1;subst h1;have:=h.own.cells (g:=g) rfl i (qe2 its[i]) (by simp[hi]);refine⟨g,rfl,?_⟩;unfold Addr.add at this
  split at this<;>simp_all[qe2]
theorem posInfo:(Tryz.prog.info? 36).map (fun i=>(i.zero,i.size,i.bytes))=some (some (.slice none 0 0),1,24):=by kernel_rfl
theorem intInfo:(Tryz.prog.info? 3).map (fun i=>(i.zero,i.size,i.bytes))=some (some (.int .i64 0),1,8):=by kernel_rfl
theorem ql1 {w:World} {base:Nat} {F:Nat→Prop} {v:Value} {its:List Ip} {X:Ip} {g cap:Nat} {w':World} (hrow:PRow w base F v its)
  (hX:IRep w (fun b=>F b∧b<w.heap.size∧v.ownBlock≠some b) X.1 X.2.1 X.2.2)
  (ho:w'.ownsRow base 36 1 (.slice (some ⟨g,0,none⟩) (its.length+1) cap) (its.length+1) (its.map qe2++[qe2 X])) (hg:w.grownBy w' v.ownBlock)
  (hat:v.ownBlock=some g∨g=w.heap.size):PRow w' base F (.slice (some ⟨g,0,none⟩) (its.length+1) cap) (its++[X]):=by
 refine⟨by simpa using ho,fun x hx=>?_⟩;have key:IRep w (fun b=>F b∧b<w.heap.size∧v.ownBlock≠some b) x.1 x.2.1 x.2.2:=by
  rcases List.mem_append.1 hx with hx|hx
  ·exact hrow.reps x hx
  ·rw[List.mem_singleton.1 hx];exact hX
 refine IRep.mono ?_ ?_ key
 ·rintro b ⟨h1,h2,h3⟩;refine⟨h1,Nat.lt_of_lt_of_le h2 hg.size,fun e=>?_⟩;injection e with e;rcases hat with e'|e'
  ·exact h3 (by rw[e'];exact congrArg _ e)
  ·simp at e;omega
 ·rintro p ⟨h1,h2,h3⟩;exact World.cell?_of_block (hg.block p.block h2 (fun e=>h3 e.symm))
section
variable {w:World}
theorem wp_ppush {o:Oper} {a:Act} {K:Act→World→Prop} {Q:Exit→Act→World→Prop} (s x:Operand)
  (ho:o.op=.call { callee:=.builtin .append,args:=#[s,x],argTypes:=#[34,34] })
  (base:Nat) (F:Nat→Prop) (v:Value) (its:List Ip) (hs:a.eval s=v) (hrow:PRow w base F v its)
  (X:Ip) (B c:Nat) (fr:Nat×Nat) (hx:a.eval x=.slice (some ⟨B,0,none⟩) 1 c) (hB:w.heap[B]?=some (.cells #[qe2 X] 36 fr))
  (hX:IRep w (fun b=>F b∧b<w.heap.size∧v.ownBlock≠some b) X.1 X.2.1 X.2.2) (hlen:its.length+1≤100000000) (hbase:base≤w.heap.size)
  (h:∀g cap w',PRow w' base F (.slice (some ⟨g,0,none⟩) (its.length+1) cap) (its++[X])→w.grownBy w' v.ownBlock→(v.ownBlock=some g∨g=w.heap.size)→base≤g→g<w'.heap.size→K (a.put o.dst (.slice (some ⟨g,0,none⟩) (its.length+1) cap)) w') :
  Oper.wp Tryz.prog o a w K Q:=by
 obtain⟨i0,hi0,hz0,hz1,hz2⟩:=info_parts posInfo;refine wp_append_lies w s x _ ho base _ i0 _ 1 24 Tryz.underlying34 hi0 hz0 hz1 hz2 rfl (by omega) v its.length (its.map qe2) hs hrow.own ⟨B,0,none⟩ 1 c [qe2 X] hx rfl
  (fun j u hu=>World.news_of_block hB j u (by simpa using hu)) (fun u hu=>ip_one [X] u (by simpa using hu)) (by omega) (by unfold maxLen;omega) (by omega) hbase w.heap.size rfl ?_
 intro g cap w' h1 h2 h3 h4;have hR:=ql1 hrow hX h1 h2 h3;exact h g cap w' hR h2 h3 (hR.lt g rfl).1 h4
theorem qod {o:Oper} {a:Act} {K:Act→World→Prop} {Q:Exit→Act→World→Prop} (s x:Operand)
  (ho:o.op=.call { callee:=.builtin .append,args:=#[s,x],argTypes:=#[36,36] })
  (base:Nat) (v:Value) (n:Nat) (p:List Int) (hs:a.eval s=v) (hrow:w.ownsRow base 3 1 v n (ints p))
  (i:Int) (B c:Nat) (fr:Nat×Nat) (hx:a.eval x=.slice (some ⟨B,0,none⟩) 1 c) (hB:w.heap[B]?=some (.cells #[.int .i64 i] 3 fr)) (hlen:n+1≤100000000) (hbase:base≤w.heap.size)
  (h:∀g cap w',w'.ownsRow base 3 1 (.slice (some ⟨g,0,none⟩) (n+1) cap) (n+1) (ints (p++[i]))→w.grownBy w' v.ownBlock→base≤g→g<w'.heap.size→K (a.put o.dst (.slice (some ⟨g,0,none⟩) (n+1) cap)) w') :
  Oper.wp Tryz.prog o a w K Q:=by
 obtain⟨i0,hi0,hz0,hz1,hz2⟩:=info_parts intInfo;refine wp_append_lies w s x _ ho base _ i0 _ 1 8 Tryz.underlying36 hi0 hz0 hz1 hz2 rfl (by omega) v n (ints p) hs hrow ⟨B,0,none⟩ 1 c [.int .i64 i] hx rfl
  (fun j u hu=>World.news_of_block hB j u (by simpa using hu)) (fun u hu=>ints_one [i] u (by simpa[ints]using hu)) (by omega) (by unfold maxLen;omega) (by omega) hbase w.heap.size rfl ?_
 intro g cap w' h1 h2 _ h4;exact h g cap w' (by simpa[ints]using h1) h2 (h1.lt g rfl).1 h4
end
mutual
def Tm.poss:Tm→List (List Int)
 | .mk _ _ _ l=>[]::Tm.posss l 0
def Tm.posss:List Tm→Nat→List (List Int)
 | [],_=>[]
 | t::r,i=>t.poss.map ((i:Int) :: ·)++Tm.posss r (i+1)
end
mutual
theorem Tm.poss_length:∀t:Tm,t.poss.length=t.size
 | .mk _ _ _ l=>by rw[Tm.poss,Tm.size,List.length_cons,Tm.posss_length l 0];omega
theorem Tm.posss_length:∀(l:List Tm) (i:Nat),(Tm.posss l i).length=Tm.sizes l
 | [],_=>by simp[Tm.posss,Tm.sizes]
 | t::r,i=>by rw[Tm.posss,Tm.sizes,List.length_append,List.length_map,Tm.poss_length t,Tm.posss_length r (i+1)]
end
theorem Tm.posss_take_succ:∀(l:List Tm) (j i:Nat) (h:i<l.length),Tm.posss (l.take (i+1)) j=Tm.posss (l.take i) j++l[i].poss.map (((j+i:Nat):Int) :: ·)
 | [],_,_,h=>by simp at h
 | t::r,j,0,_=>by simp[Tm.posss]
 | t::r,j,i+1,h=>by
  have:=Tm.posss_take_succ r (j+1) i (by simpa using h);simp only[List.take_succ_cons,Tm.posss,List.getElem_cons_succ,this,List.append_assoc];rw[show j+1+i=j+(i+1)by omega]
structure PAcc (B0 ob:Nat) (w0 w:World) (its:List Ip):Prop where
 box:∃v,w.heap[ob]?=some (.cells #[v] 34 (0,0))∧PRow w (ob+2) (fun b=>ob+2≤b) v its
 vis:w.heap[ob+1]?=some (.cells #[.func (.func 99) #[] #[.pointer (some ⟨ob,0,none⟩),.pointer (some ⟨ob+1,0,none⟩)]] 123 (0,0))
 le:B0≤ob
 lt:ob+1<w.heap.size
 below:Below B0 w0 w
theorem PAcc.keep {B0 ob:Nat} {w0 w w':World} {its:List Ip} (h:PAcc B0 ob w0 w its) (hb:Below w.heap.size w w'):PAcc B0 ob w0 w' its:=by
 obtain⟨⟨v,h1,h2⟩,h3,h4,h5,h6⟩:=h;have:=hb.size;exact⟨⟨v,(hb.block ob (by omega)).trans h1,h2.below hb⟩,(hb.block (ob+1) h5).trans h3,h4,by omega,h6.trans (hb.mono (by omega))⟩
def At (w:World) (ob:Nat) (p:List Int) (A:Option Addr) (cap:Nat):Prop:=IRep w (fun b=>ob+2≤b∧b<w.heap.size∧qd3 w ob≠some b) p A cap
theorem At.step {w w':World} {ob:Nat} {p:List Int} {A:Option Addr} {cap:Nat} (h:At w ob p A cap) (hs:Step ob w w'):At w' ob p A cap:=by
 refine IRep.mono (fun b ⟨h1,h2,h3⟩=>⟨h1,Nat.lt_of_lt_of_le h2 hs.size,fun e=>?_⟩) (fun q ⟨h1,h2,h3⟩=>World.cell?_of_block (hs.same q.block h2 (by omega) h3)) h;rcases hs.own with e'|e'
 ·rw[e']at e;exact h3 e
 ·have:=e' b e;omega
theorem qms (p:List Int) (A:Option Addr) (cap:Nat) (P:Nat→Prop) (w:World) (h:IRep w P p A cap) (hp:p.length≤1000000) :
  Calls Tryz.prog 100 #[.slice A p.length cap] w fun e w'=>∃g c,e=.returned (.slice (some ⟨g,0,none⟩) p.length c)∧w'.ownsRow w.heap.size 3 1 (.slice (some ⟨g,0,none⟩) p.length c) p.length (ints p)∧
   w.heap.size≤g∧g<w'.heap.size∧Below w.heap.size w w':=by
 obtain⟨b,off,rfl,_,h3,h4,h5⟩:=h;refine(Tryz.slices_Clone_int b off p.length cap p w (Nat.le_refl _) (by omega) (fun j hj=>h5 j _ (by simp[ints,hj]))).mono ?_;rintro e w' ⟨v',rfl,ho,hv,hb⟩;rw[List.take_length]at ho;obtain⟨g,c,rfl,h1,h2,_⟩:=qfz (p:=p) ho rfl hv;exact⟨g,c,rfl,ho,h1,h2,hb⟩
theorem own_base {w:World} {base base':Nat} {e:TypeId} {size n:Nat} {v:Value} {xs:List Value} (h:w.ownsRow base e size v n xs) (hb:base'≤base):w.ownsRow base' e size v n xs:=by
 refine⟨h.1,?_⟩;rcases h.2 with h|⟨g,cap,cur,h1,h2,h3⟩
 ·exact .inl h
 ·exact .inr ⟨g,cap,cur,h1,by omega,h3⟩
def Visited (B0 ob:Nat) (w0 w:World) (l:List (List Int)) (e:Ending) (w':World):Prop:=
 e=.returned (.tuple #[])∧Step ob w w'∧∃its',PAcc B0 ob w0 w' its'∧its'.map (·.1)=l
theorem pos_end {B0 ob g c:Nat} {w0 w w2:World} {its:List Ip} {X:Ip} {v:Value} (hrow:PRow w2 (ob+2) (fun b=>ob+2≤b) (.slice (some ⟨g,0,none⟩) (its.length+1) c) (its++[X]))
  (hbox:w.heap[ob]?=some (.cells #[v] 34 (0,0))) (hacc:PAcc B0 ob w0 w its) (hg:v.ownBlock=some g∨w.heap.size≤g) (hs:w.heap.size≤w2.heap.size)
  (h2:∀b,b<w.heap.size→v.ownBlock≠some b→w2.heap[b]?=w.heap[b]?) (ho:w2.os=w.os) (ht:w2.tape=w.tape) (hu:w2.output=w.output) :
  PAcc B0 ob w0 (w2.setCell ⟨ob,0,none⟩ (.slice (some ⟨g,0,none⟩) (its.length+1) c)) (its++[X])∧Step ob w (w2.setCell ⟨ob,0,none⟩ (.slice (some ⟨g,0,none⟩) (its.length+1) c)):=by
 obtain⟨⟨v',h1,hr⟩,hvis,hle,hlt,hbel⟩:=hacc;obtain rfl:v'=v:=by rw[h1]at hbox;simpa using hbox
 have hown:∀b,b<ob+2→v'.ownBlock≠some b:=fun b hb e=>by have:=(hr.lt b e).1;omega
 have hgo:=(hrow.lt g rfl).1;have hb1:(w2.setCell ⟨ob,0,none⟩ (.slice (some ⟨g,0,none⟩) (its.length+1) c)).heap[ob]?=some (.cells #[.slice (some ⟨g,0,none⟩) (its.length+1) c] 34 (0,0)):=by
  have:=(h2 ob (by omega) (hown ob (by omega))).trans h1;simp[World.setCell,Array.getElem?_modify,this]
 have hsz:(w2.setCell ⟨ob,0,none⟩ (.slice (some ⟨g,0,none⟩) (its.length+1) c)).heap.size=w2.heap.size:=by simp[World.setCell]
 have hoth:∀b,b≠ob→(w2.setCell ⟨ob,0,none⟩ (.slice (some ⟨g,0,none⟩) (its.length+1) c)).heap[b]?=w2.heap[b]?:=fun b hb=>Below.heap_setCell _ _ _ _ hb;refine⟨⟨⟨_,hb1,hrow.keep (by omega) (fun b hb hF=>hoth b ?_)⟩,?_,hle,by omega,?_⟩,?_⟩
 ·rcases hF with h|h
  ·omega
  ·have:=(hrow.lt b h).1;omega
 ·rw[hoth _ (by omega),h2 _ hlt (hown _ (by omega))];exact hvis
 ·refine hbel.trans ⟨ho,ht,hu,by omega,fun b hb=>?_⟩;rw[hoth b (by omega),h2 b (by omega) (hown b (by omega))]
 ·exact qke (w2:=w2) (n:=its.length+1) (cap:=c) (T:=34) (v:=v') (g:=g) (by simp[World.cell?,h1]) hs h2 hg (fun b _ hc=>hoth b hc) hsz hb1
theorem visit_any (B0 ob:Nat) (w0:World) (n:Nat):∀(t:Tm) (A:Option Addr) (cap:Nat) (p:List Int) (Ap:Option Addr) (cp:Nat) (w:World) (its:List Ip),
  t.size≤n→its.length+t.size≤1000000→p.length+n≤1000000→PAcc B0 ob w0 w its→RepT w B0 t A cap→At w ob p Ap cp→
  Calls Tryz.prog 99 #[t.val A cap,.slice Ap p.length cp,.pointer (some ⟨ob,0,none⟩),.pointer (some ⟨ob+1,0,none⟩)] w
   (Visited B0 ob w0 w (its.map (·.1)++t.poss.map (p ++ ·))):=by
 have mixed:=mixz
 induction n with
 | zero=>intro t _ _ _ _ _ _ _ h;have:=t.size_pos;omega
 | succ n ih=>
  intro t A cap p Ap cp w its hn hlen hpn hacc hrep hat;obtain⟨tk,tn,ts,l⟩:=t;rw[Tm.size]at hn hlen;obtain⟨W0,hW0⟩:∃W0,W0=w.alloc (.cells #[.int .i64 tk,.string tn,.int .i64 ts,.slice A l.length cap] 24):=⟨_,rfl⟩;have hb0:Below w.heap.size w W0:=by rw[hW0];exact qab (Nat.le_refl _) _
  have hs0:W0.heap.size=w.heap.size+1:=by rw[hW0];simp
  have hacc1:=hacc.keep hb0;obtain⟨⟨v,hbox,hrow⟩,hvis,hle,hlt,hbel⟩:=hacc1;obtain⟨Av,cv,rfl,_⟩:=hrow.form;have hcb:∀X,Below W0.heap.size W0 X→X.cell? ⟨ob,0,none⟩=some (.slice Av its.length cv):=fun X hX=>by rw[hX.cell (by show ob<_;omega)];simp[World.cell?,hbox]
  have hcf:∀X,Below W0.heap.size W0 X→X.frozen? ⟨ob,0,none⟩=false:=fun X hX=>by rw[hX.frozen (by show ob<_;omega)];simp[World.frozen?,hbox]
  have hbw:W0.heap[w.heap.size]?=some (.cells #[.int .i64 tk,.string tn,.int .i64 ts,.slice A l.length cap] 24 (0,0)):=by rw[hW0];exact heap_alloc_new _ _
  have hown0:∀k,(Value.slice Av its.length cv).ownBlock=some k→ob+2≤k∧k<w.heap.size:=fun k hk=>by
   obtain⟨⟨v',h1,h2⟩,_,_,h5,_⟩:=hacc;have e:v'=.slice Av its.length cv:=by
    have:=(hb0.block ob (by omega)).trans h1;rw[hbox]at this;simpa using this.symm
   subst e;exact h2.lt k hk
  have HC1:Hid (∀X,Below W0.heap.size W0 X→Calls Tryz.prog 100 #[.slice Ap p.length cp] X fun e w'=>∃g c,e=.returned (.slice (some ⟨g,0,none⟩) p.length c)∧w'.ownsRow X.heap.size 3 1 (.slice (some ⟨g,0,none⟩) p.length c) p.length (ints p)∧
   X.heap.size≤g∧g<w'.heap.size∧Below X.heap.size X w'):=fun X hX=>
   qms p Ap cp (fun _=>True) X (IRep.mono (fun _ _=>trivial) (fun q hq=>(hb0.trans (hX.mono (by omega))).cell hq.2.1) hat) (by omega)
  have HBX:=hdzz hbox;have HOWN:=hdzz hown0;clear hown0;have HROW:=hdzz hrow;clear hrow;have HACC0:=hdzz hacc;clear hacc;have HACC:Hid (PAcc B0 ob w0 W0 its):=HACC0.out.keep hb0;have HAT:=hdzz hat;clear hat;have HCB:=hdzz hcb;have HREP:=hdzz hrep;clear hrep;have IH:=hdzz ih;clear ih;have HB0:=hdzz hb0;clear hb0;have HS0:=hdzz hs0;clear hs0;have HW0:=hdzz hW0;clear hW0;have HBW:=hdzz hbw;clear hbw;have HVIS:=hdzz hvis;clear hvis hbox hbel;simp only[Tm.val,Tm.kind,Tm.name,Tm.sort,Tm.kids];go_enter Tryz.func99,Tryz.ntmps99
  go_wp2_with fail
  rw[←HW0.out];refine qbr (fun w'=>w'.cell? ⟨ob,0,none⟩=some (.slice Av its.length cv)) 5 (.held 0 (.held 1 (.op 2 (.op 3 (.op 4 (.op 5 .nil)))))) mixed (by kernel_rfl) ?_;refine qav (v:=.slice Av its.length cv) rfl rfl (fun _ _ _ h=>h) (by exact hcb _ (Below.refl _ _).drew) (fun w' hS=>by go_simp) ?_;refine qav (v:=.slice Ap p.length cp) rfl rfl (fun _ _ _ h=>h) (by exact hcb _ (Below.refl _ _).drew) (fun w' hS=>by simp only[Act.put];go_simp) ?_;simp only[Act.put,List.setIfInBounds_toArray];refine mix_op rfl rfl (fun K hK=>?_);go_wp2_with fail
  refine(HC1.out _ (Below.refl _ _).drew).mono ?_;rintro e w1 ⟨g1,c1,rfl,ho1,hg1,hg1',hb1⟩;have hb1':Below W0.heap.size W0 w1:=(Below.refl _ _).drew.trans (hb1.mono (by simp));refine hK _ _ ⟨fun _=>hcb _ hb1',?_⟩;clear hK K;refine mix_op rfl rfl (fun K hK=>?_);go_wp2_with fail
  have hs1:=hb1'.size;refine⟨fun _=>hcb _ (hb1'.alloc hs1 _),?_⟩;refine mix_op rfl rfl (fun K hK=>?_);have hrow1:PRow (w1.alloc (.cells #[.slice (some ⟨g1,0,none⟩) p.length c1] 36)) (ob+2) (fun b=>ob+2≤b) (.slice Av its.length cv) its:=(HROW.out.below (hb1'.alloc hs1 _));have hX1:IRep (w1.alloc (.cells #[.slice (some ⟨g1,0,none⟩) p.length c1] 36)) (fun b=>ob+2≤b∧b<(w1.alloc (.cells #[.slice (some ⟨g1,0,none⟩) p.length c1] 36)).heap.size∧(Value.slice Av its.length cv).ownBlock≠some b) p (some ⟨g1,0,none⟩) c1:=by
   obtain⟨g',c',he,_,_,hI⟩:=qfz (p:=p) ho1 rfl (by simp);injection he with h1 _ h3;injection h1 with h1;injection h1 with h1;subst h1 h3;refine IRep.mono (P:=fun b=>b=g1) ?_ (fun q hq=>by rw[(qab (Nat.le_refl _) _).cell (by rw[hq];exact hg1')]) (hI _ rfl);rintro b rfl;have h5:=HS0.out;simp only[World.size_drew]at hg1;exact⟨by omega,by simp;omega,fun e=>by have:=(HOWN.out _ e).2;omega⟩
  refine wp_ppush (.tmp 8) (.tmp 11) (by rfl) (ob+2) (fun b=>ob+2≤b) (.slice Av its.length cv) its (by rfl) hrow1 (p,some ⟨g1,0,none⟩,c1) w1.heap.size _ (0,0) (by rfl) (by exact heap_alloc_new _ _) hX1 (by omega) (by simp;omega) ?_;intro g c2 w2 hrow2 hgr2 hat2 hbg hgs2;have hne:(Value.slice Av its.length cv).ownBlock≠some ob:=fun e=>by have:=(HOWN.out _ e).1;omega
  have h2:∀b,b<W0.heap.size→(Value.slice Av its.length cv).ownBlock≠some b→w2.heap[b]?=W0.heap[b]?:=fun b hb hne=>by
   rw[hgr2.block b (by simp;omega) (fun e=>hne e.symm)];exact(hb1'.alloc hs1 _).block b hb
  have hs2:W0.heap.size≤w2.heap.size:=by have:=hgr2.size;simp at this;omega
  have hc2:w2.cell? ⟨ob,0,none⟩=some (.slice Av its.length cv):=by rw[World.cell?_of_block (h2 ob (by omega) hne)];exact HCB.out _ (Below.refl _ _)
  have hf2:w2.frozen? ⟨ob,0,none⟩=false:=by rw[World.frozen?_of_block (h2 ob (by omega) hne)];exact hcf _ (Below.refl _ _)
  refine hK _ _ ⟨fun _=>hc2,?_⟩;clear hK K;have hg2:(Value.slice Av its.length cv).ownBlock=some g∨W0.heap.size≤g:=hat2.elim Or.inl (fun h=>Or.inr (by rw[h];simp;omega));have hend:=pos_end hrow2 HBX.out HACC.out hg2 hs2 h2 (hgr2.os.trans hb1'.os) (hgr2.tape.trans hb1'.tape) (hgr2.output.trans hb1'.output);obtain⟨hacc2,hst2⟩:=hend;have HACC2:=hdzz hacc2;clear hacc2;have HST2:=hdzz hst2;clear hst2;clear hrow2 hgr2 hat2 hX1 hrow1 h2 hb1 hb1' ho1 hg1 hg1' hs1 hs2 hbg hg2;simp only[Act.put,List.setIfInBounds_toArray];refine mix_op rfl rfl (fun K hK=>?_);go_wp2_with fail
  refine⟨fun h=>absurd h (by decide),qel ?_⟩;generalize w2.setCell ⟨ob,0,none⟩ (.slice (some ⟨g,0,none⟩) (its.length+1) c2)=w3 at *;clear mixed;have mixed:=mixz;have hob:ob<w.heap.size:=by have:=HACC0.out.lt;omega
  have hst03:Step ob w w3:=(Step.of_below HB0.out hob).trans HST2.out;have hbox3:w3.heap[w.heap.size]?=some (.cells #[.int .i64 tk,.string tn,.int .i64 ts,.slice A l.length cap] 24 (0,0)):=by
   rw[HST2.out.same w.heap.size (by have:=HS0.out;omega) (by omega) (fun e=>?_)]
   ·exact HBW.out
   ·have e1:qd3 W0 ob=(Value.slice Av its.length cv).ownBlock:=by unfold qd3;rw[HCB.out _ (Below.refl _ _)];rfl
    rw[e1]at e;have:=(HOWN.out _ e).2;omega
  have hc3:w3.cell? ⟨w.heap.size,3,none⟩=some (.slice A l.length cap):=by simp[World.cell?,hbox3]
  have hr:=HREP.out;rw[qbe]at hr;obtain⟨hr1,hr2,hr3,hr4⟩:=hr;have hls:=Tm.length_le_sizes l;have hlen3:its.length+1+Tm.sizes l≤1000000:=by omega
  have HST3:=hdzz hst03;clear hst03;clear hbox3 hcb hcf hc2 hf2 hne;have hle':=HACC0.out.le;go_wp2_with fail
  go_loopw [16] (fun i wr=>∃(k:Nat) (its':List Ip),k≤l.length∧i=.int .i64 k∧Hid (PAcc B0 ob w0 wr its')∧Hid (Step ob w wr)∧Hid (its'.map (·.1)=its.map (·.1)++p::(Tm.posss (l.take k) 0).map (p ++ ·)))
   (fun i _=>l.length - (intOf i).toNat)
  case atStart=>exact⟨0,_,Nat.zero_le _,rfl,HACC2.out,HST3.out,by simp[Tm.posss,Hid]⟩
  case round=>
   obtain⟨k,its',hk,rfl,HA,HS,HM⟩:=hrel;by_cases hlt:k<l.length
   ·rcases hr4 with rfl|⟨b,off,rfl,hbB,hl⟩
    ·simp at hlt
    have hwr:Below B0 w wr:=⟨(HA.out.below.os).trans HACC0.out.below.os.symm,(HA.out.below.tape).trans HACC0.out.below.tape.symm,(HA.out.below.output).trans HACC0.out.below.output.symm,HS.out.size,fun b hb=>(HA.out.below.block b hb).trans (HACC0.out.below.block b hb).symm⟩;obtain⟨A',cap',h0,h1,h2,h3,h5⟩:=(RepL.below hl hwr hbB).get k hlt;have hsg:=Tm.sizes_get l k hlt;have htk:=Tm.sizes_take_succ l k hlt;have htl:=Tm.sizes_take_le l (k+1);have hlen':its'.length=its.length+1+Tm.sizes (l.take k):=by
     have h:=congrArg List.length HM.out;simp only[List.length_map,List.length_append,List.length_cons,Tm.posss_length]at h;omega
    have hob2:ob+1<wr.heap.size:=HA.out.lt;obtain⟨X0,hX0⟩:∃X0,X0=wr.alloc (.cells #[.int .i64 l[k].kind,.string l[k].name,.int .i64 l[k].sort,.slice A' l[k].kids.length cap'] 24):=⟨_,rfl⟩;have hX0b:Below wr.heap.size wr X0:=by rw[hX0];exact qab (Nat.le_refl _) _
    have hX0s:X0.heap.size=wr.heap.size+1:=by rw[hX0];simp
    have hbx:X0.heap[wr.heap.size]?=some (.cells #[.int .i64 l[k].kind,.string l[k].name,.int .i64 l[k].sort,.slice A' l[k].kids.length cap'] 24 (0,0)):=by rw[hX0];exact heap_alloc_new _ _
    have hatw:At wr ob p Ap cp:=HAT.out.step HS.out;obtain⟨SS,hSS⟩:∃SS:World→Prop,SS=fun w'=>w'.cell? ⟨ob+1,0,none⟩=some (.func (.func 99) #[] #[.pointer (some ⟨ob,0,none⟩),.pointer (some ⟨ob+1,0,none⟩)])∧
     w'.cell? ⟨wr.heap.size,0,none⟩=some (.int .i64 l[k].kind)∧w'.cell? ⟨wr.heap.size,1,none⟩=some (.string l[k].name)∧w'.cell? ⟨wr.heap.size,2,none⟩=some (.int .i64 l[k].sort)∧w'.cell? ⟨wr.heap.size,3,none⟩=some (.slice A' l[k].kids.length cap'):=⟨_,rfl⟩
    have hS1:∀X,Below X0.heap.size X0 X→SS X:=fun X hX=>by
     rw[hSS];have hv:=HA.out.vis;have e1:X.heap[ob+1]?=wr.heap[ob+1]?:=(hX.block _ (by omega)).trans (hX0b.block _ (by omega));have e2:X.heap[wr.heap.size]?=X0.heap[wr.heap.size]?:=hX.block _ (by omega);refine⟨?_,?_,?_,?_,?_⟩
     ·simp[World.cell?,e1,hv]
     all_goals simp[World.cell?,e2,hbx]
    have HC2:Hid (∀X,Below wr.heap.size wr X→Calls Tryz.prog 100 #[.slice Ap p.length cp] X fun e w'=>∃g c,e=.returned (.slice (some ⟨g,0,none⟩) p.length c)∧w'.ownsRow X.heap.size 3 1 (.slice (some ⟨g,0,none⟩) p.length c) p.length (ints p)∧
     X.heap.size≤g∧g<w'.heap.size∧Below X.heap.size X w'):=fun X hX=>
     qms p Ap cp (fun _=>True) X (IRep.mono (fun _ _=>trivial) (fun q hq=>hX.cell hq.2.1) hatw) (by omega)
    have HV : Hid (∀ (X : World) (g c : Nat), Below wr.heap.size wr X → wr.heap.size < g → X.ownsRow X0.heap.size 3 1 (.slice (some ⟨g, 0, none⟩) (p.length + 1) c) (p.length + 1) (ints (p ++ [(k : Int)])) → g < X.heap.size → SS X →
      Calls Tryz.prog 99 #[l[k].val A' cap',.slice (some ⟨g,0,none⟩) (p.length+1) c,.pointer (some ⟨ob,0,none⟩),.pointer (some ⟨ob+1,0,none⟩)] X fun e w'=>e=.returned (.tuple #[])∧SS w'∧
       ∃its'',PAcc B0 ob w0 w' its''∧Step ob w w'∧its''.map (·.1)=its.map (·.1)++p::(Tm.posss (l.take (k+1)) 0).map (p ++ ·)):=fun X g c hX hg ho hgX hSX=>by
     obtain⟨g',c',he,_,_,hI⟩:=qfz (p:=p++[(k:Int)]) ho (by simp) (by simp);injection he with h1 _ h3;injection h1 with h1;injection h1 with h1;subst h1 h3;have haccX:=HA.out.keep hX;have hownX:∀b,qd3 X ob=some b→b<wr.heap.size:=fun b hb=>by
      obtain⟨v,hb1,hr⟩:=HA.out.box;have e1:qd3 X ob=v.ownBlock:=by unfold qd3;rw[hX.cell (by show ob<_;omega)];simp[World.cell?,hb1]
      rw[e1]at hb;exact(hr.lt b hb).2
     have hatX:At X ob (p++[(k:Int)]) (some ⟨g,0,none⟩) c:=IRep.mono (P:=fun b=>b=g) (by rintro b rfl;exact⟨by omega,hgX,fun e=>by have:=hownX _ e;omega⟩) (fun _ _=>rfl) (hI _ rfl);have hC:=IH.out l[k] A' cap' (p++[(k:Int)]) (some ⟨g,0,none⟩) c X its' (by omega) (by omega) (by simp;omega) haccX (h5.go (hX.mono (by have:=HA.out.le;omega)) (Nat.le_refl _)) hatX;rw[show(p++[(k:Int)]).length=p.length+1 by simp]at hC;refine hC.mono ?_;rintro e w' ⟨rfl,hst,its'',hacc'',hm''⟩;have hob3:ob<wr.heap.size:=by omega
     refine⟨rfl,?_,its'',hacc'',HS.out.trans ((Step.of_below hX hob3).trans hst),?_⟩
     ·rw[hSS]at hSX ⊢;obtain⟨s0,s1,s2,s3,s4⟩:=hSX;have hsX:=hX.size;have hlX:wr.heap.size<X.heap.size:=by omega
      have hsame:w'.heap[wr.heap.size]?=X.heap[wr.heap.size]?:=hst.same _ hlX (by omega) (fun e=>by have:=hownX _ e;omega);refine⟨?_,?_,?_,?_,?_⟩
      ·have:=hacc''.vis;simp[World.cell?,this]
      all_goals (rw[World.cell?_of_block hsame];assumption)
     ·rw[hm'',HM.out,Tm.posss_take_succ l 0 k hlt];simp
    have HX0:=hdzz hX0;clear hX0;have HS1:=hdzz hS1;clear hS1;have hS0:=HS1.out X0 (Below.refl _ _);have hSd:=HS1.out X0.drew (Below.refl _ _).drew;have HX0B:=hdzz hX0b;clear hX0b;clear h5 htk htl hlen' hatw hsg hbx hl;have hS1':∀X,SS X→X.cell? ⟨ob+1,0,none⟩=some (.func (.func 99) #[] #[.pointer (some ⟨ob,0,none⟩),.pointer (some ⟨ob+1,0,none⟩)])∧
     X.cell? ⟨wr.heap.size,0,none⟩=some (.int .i64 l[k].kind)∧X.cell? ⟨wr.heap.size,1,none⟩=some (.string l[k].name)∧X.cell? ⟨wr.heap.size,2,none⟩=some (.int .i64 l[k].sort)∧X.cell? ⟨wr.heap.size,3,none⟩=some (.slice A' l[k].kids.length cap'):=fun X h=>by rw[hSS]at h;exact h
    clear hSS;have HSS:=hdzz hS1';clear hS1';simp only[Tm.val]at HV;go_wp2_with fail
    rw[←HX0.out];refine qbr SS 8 (.held 0 (.held 1 (.held 2 (.held 4 (.two 3 5 (.op 5 (.op 6 (.op 7 .nil))) (.op 3 (.op 6 (.op 7 .nil)))))))) mixed (by kernel_rfl) ?_;refine qav (v:=.func (.func 99) #[] #[.pointer (some ⟨ob,0,none⟩),.pointer (some ⟨ob+1,0,none⟩)]) rfl rfl (fun _ _ _ h=>h) hSd (fun w' hS=>by obtain⟨g0,g1,g2,g3,g4⟩:=HSS.out w' hS;go_simp) ?_;refine qav (v:=.agg #[.int .i64 l[k].kind,.string l[k].name,.int .i64 l[k].sort,.slice A' l[k].kids.length cap']) rfl rfl (fun _ _ _ h=>h) hSd (fun w' hS=>by obtain⟨g0,g1,g2,g3,g4⟩:=HSS.out w' hS;simp only[Act.put];go_simp) ?_;refine qav (v:=.slice Ap p.length cp) rfl rfl (fun _ _ _ h=>h) hSd (fun w' hS=>by simp only[Act.put];go_simp) ?_
    refine qav (v:=.int .i64 k) rfl rfl (fun _ _ _ h=>h) hSd (fun w' hS=>by simp only[Act.put];go_simp) ?_;simp only[Act.put,List.setIfInBounds_toArray];refine mix_two (mix_op rfl rfl (fun K hK=>?_)) (mix_op rfl rfl (fun K hK=>?_))
    ·go_wp2_with fail
     refine(HC2.out _ HX0B.out.drew).mono ?_;rintro e w4 ⟨g2,c2',rfl,ho2,hg2,hg2',hb2⟩;have hb2':Below X0.heap.size X0 w4:=(Below.refl _ _).drew.trans (hb2.mono (by simp));refine hK _ _ ⟨fun _=>HS1.out _ hb2',?_⟩;clear hK K;refine mix_op rfl rfl (fun K hK=>?_);go_wp2_with fail
     have hs2:=hb2'.size;have hb3:Below X0.heap.size X0 (w4.alloc (.cells #[.int .i64 k] 3)):=hb2'.alloc hs2 _;have hs3:X0.heap.size≤(w4.alloc (.cells #[.int .i64 k] 3)).heap.size:=by simp;omega
     refine⟨fun _=>HS1.out _ hb3,?_⟩;refine mix_op rfl rfl (fun K hK=>?_);refine qod (.tmp 24) (.tmp 26) (by rfl) X0.heap.size (.slice (some ⟨g2,0,none⟩) p.length c2') p.length p (by rfl) (by have:=ho2.alloc (.cells #[.int .i64 k] 3);simpa only [World.size_drew]using this) k w4.heap.size _ (0,0) (by rfl) (by exact heap_alloc_new _ _) (by omega) (by simp;omega) ?_;intro g c3 w5 ho5 hgr5 hbg hgs5;have hb5:Below X0.heap.size X0 w5:=qbf hb3 hs3 hgr5 (fun q hq=>by injection hq with hq;simp only[World.size_drew]at hg2;subst hq;show X0.heap.size≤g2;omega);refine hK _ _ ⟨fun _=>HS1.out _ hb5,?_⟩;clear hK K;have hV:=HV.out w5 g c3 (HX0B.out.trans (hb5.mono (by omega))) (by omega) ho5 hgs5 (HS1.out _ hb5);have HV':=hdzz hV;clear hV hb5 hb3 ho5 hgr5 ho2 hb2 hb2';simp only[Act.put,List.setIfInBounds_toArray]
     refine mix_op rfl rfl (fun K hK=>?_);go_wp2_with fail
     refine HV'.out.mono ?_;rintro e w6 ⟨rfl,hS6,its'',hacc'',hst'',hm''⟩;refine hK _ _ ⟨fun _=>hS6,qel ?_⟩;clear hK K;have HA6:=hdzz hacc'';clear hacc'';have HS6:=hdzz hst'';clear hst'';have HM6:=hdzz hm'';clear hm'';go_wp2_with fail
     go_roundw
     case rel=>exact⟨k+1,its'',by omega,by go_num,HA6.out,HS6.out,HM6.out⟩
     case measure=>simp[intOf];omega
    ·go_wp2_with fail
     refine⟨fun _=>HS1.out _ ((Below.refl _ _).alloc (Nat.le_refl _) _).drew,?_⟩;refine mix_op rfl rfl (fun K hK=>?_);go_wp2_with fail
     refine(HC2.out _ ((HX0B.out.alloc (by omega) _).drew)).mono ?_;rintro e w4 ⟨g2,c2',rfl,ho2,hg2,hg2',hb2⟩;have hb2':Below X0.heap.size X0 w4:=((Below.refl _ _).alloc (Nat.le_refl _) _).drew.trans (hb2.mono (by simp));have hs2:=hb2'.size;have hb3:=hb2';have hs3:=hs2;have hsrc:w4.heap[wr.heap.size+1]?=some (.cells #[.int .i64 k] 3 (0,0)):=by
      rw[←hX0s,hb2.block _ (by simp)];exact heap_alloc_new _ _
     refine hK _ _ ⟨fun _=>HS1.out _ hb2',?_⟩;clear hK K;refine mix_op rfl rfl (fun K hK=>?_);refine qod (.tmp 24) (.tmp 26) (by rfl) X0.heap.size (.slice (some ⟨g2,0,none⟩) p.length c2') p.length p (by rfl) (own_base ho2 (by simp)) k (wr.heap.size+1) _ (0,0) (by rfl) hsrc (by omega) (by omega) ?_;intro g c3 w5 ho5 hgr5 hbg hgs5;have hb5:Below X0.heap.size X0 w5:=qbf hb3 hs3 hgr5 (fun q hq=>by injection hq with hq;simp only[World.size_drew,World.size_alloc]at hg2;subst hq;show X0.heap.size≤g2;omega);refine hK _ _ ⟨fun _=>HS1.out _ hb5,?_⟩;clear hK K;have hV:=HV.out w5 g c3 (HX0B.out.trans (hb5.mono (by omega))) (by omega) ho5 hgs5 (HS1.out _ hb5);have HV':=hdzz hV;clear hV hb5 hb3 ho5 hgr5 ho2 hb2 hb2';simp only[Act.put,List.setIfInBounds_toArray];refine mix_op rfl rfl (fun K hK=>?_);go_wp2_with fail
     refine HV'.out.mono ?_;rintro e w6 ⟨rfl,hS6,its'',hacc'',hst'',hm''⟩;refine hK _ _ ⟨fun _=>hS6,qel ?_⟩;clear hK K;have HA6:=hdzz hacc'';clear hacc'';have HS6:=hdzz hst'';clear hst'';have HM6:=hdzz hm'';clear hm'';go_wp2_with fail
     go_roundw
     case rel=>exact⟨k+1,its'',by omega,by go_num,HA6.out,HS6.out,HM6.out⟩
     case measure=>simp[intOf];omega
   ·obtain rfl:k=l.length:=by omega
    go_wp2_with fail
    go_end0
    exact⟨rfl,HS.out,its',HA.out,by rw[HM.out,List.take_length,Tm.poss];simp⟩
theorem store_new {P:Program} (X:World) (b:Nat) (hb:b=X.heap.size) (v old:Value) (T:TypeId) (hv:v.oneCell'=true):(store ⟨b,0,none⟩ v).run P (X.alloc (.cells #[old] T))=.ok () (X.alloc (.cells #[v] T)):=by
 subst hb;have c:(X.alloc (.cells #[old] T)).cell? ⟨X.heap.size,0,none⟩=some old:=by unfold World.cell?;rw[heap_alloc_new];rfl
 have f:(X.alloc (.cells #[old] T)).frozen? ⟨X.heap.size,0,none⟩=false:=by unfold World.frozen?;rw[heap_alloc_new];rfl
 rw[run_store _ _ _ _ _ hv,c,f,World.setCell_alloc_new];rfl
def PosOf (w:World) (l:List (List Int)) (e:Ending) (w':World):Prop:=
 ∃v its,e=.returned v∧PRow w' w.heap.size (fun b=>w.heap.size≤b) v its∧Below w.heap.size w w'∧its.map (·.1)=l
theorem qkh (t:Tm) (A:Option Addr) (cap:Nat) (w:World) (hn:t.size≤500000) (hrep:RepT w w.heap.size t A cap) :
  Calls Tryz.prog 64 #[t.val A cap] w (PosOf w t.poss):=by
 obtain⟨W1,hW1⟩:∃W1,W1=w.alloc (.cells #[.int .i64 t.kind,.string t.name,.int .i64 t.sort,.slice A t.kids.length cap] 24):=⟨_,rfl⟩;obtain⟨W2,hW2⟩:∃W2,W2=W1.alloc (.cells #[.slice none 0 0] 34):=⟨_,rfl⟩;obtain⟨W3,hW3⟩:∃W3,W3=W2.alloc (.cells #[.func (.func 99) #[] #[.pointer (some ⟨w.heap.size+1,0,none⟩),.pointer (some ⟨w.heap.size+1+1,0,none⟩)]] 123):=⟨_,rfl⟩;obtain⟨W4,hW4⟩:∃W4,W4=W3.alloc (.cells #[] 3):=⟨_,rfl⟩;have s1:W1.heap.size=w.heap.size+1:=by rw[hW1];simp
 have s2:W2.heap.size=w.heap.size+1+1:=by rw[hW2];simp[s1]
 have s3:W3.heap.size=w.heap.size+1+1+1:=by rw[hW3];simp[s2]
 have s4:W4.heap.size=w.heap.size+1+1+1+1:=by rw[hW4];simp[s3]
 have b1:Below w.heap.size w W1:=by rw[hW1];exact qab (Nat.le_refl _) _
 have b2:Below W1.heap.size W1 W2:=by rw[hW2];exact qab (Nat.le_refl _) _
 have b3:Below W2.heap.size W2 W3:=by rw[hW3];exact qab (Nat.le_refl _) _
 have b4:Below W3.heap.size W3 W4:=by rw[hW4];exact qab (Nat.le_refl _) _
 have hacc:PAcc (w.heap.size+1) (w.heap.size+1) W1 W4 []:=by
  refine⟨⟨.slice none 0 0,?_,PRow.nil _ _ _⟩,?_,Nat.le_refl _,by omega,b2.trans ((b3.trans (b4.mono (by omega))).mono (by omega)) |>.mono (by omega)⟩
  ·rw[b4.block _ (by omega),b3.block _ (by omega),hW2,←s1];exact heap_alloc_new _ _
  ·rw[b4.block _ (by omega),hW3,←s2];exact heap_alloc_new _ _
 have hbw:Below w.heap.size w W4:=b1.trans ((b2.trans ((b3.trans (b4.mono (by omega))).mono (by omega))).mono (by omega));have hat:At W4 (w.heap.size+1) [] (some ⟨w.heap.size+1+1+1,0,none⟩) 0:=by
  refine⟨_,_,rfl,⟨by omega,by omega,fun e=>?_⟩,Nat.le_refl _,Nat.zero_le _,by simp[ints]⟩;obtain⟨⟨v,h1,h2⟩,_⟩:=hacc;have e1:qd3 W4 (w.heap.size+1)=v.ownBlock:=by unfold qd3;simp[World.cell?,h1]
  rw[b4.block _ (by omega),b3.block _ (by omega),hW2,←s1,heap_alloc_new]at h1;rw[e1]at e;have:v=.slice none 0 0:=by simpa using h1.symm
  subst this;cases e
 have hC:=visit_any (w.heap.size+1) (w.heap.size+1) W1 t.size t A cap [] (some ⟨w.heap.size+1+1+1,0,none⟩) 0 W4 [] (Nat.le_refl _) (by simp;omega) (by simp;omega) hacc (hrep.go hbw (by omega)) hat;simp only[List.map_nil,List.nil_append,List.length_nil,List.map_id']at hC;have HW4:Hid (W4=(((w.alloc (.cells #[.int .i64 t.kind,.string t.name,.int .i64 t.sort,.slice A t.kids.length cap] 24)).alloc (.cells #[.slice none 0 0] 34)).alloc (.cells #[.func (.func 99) #[] #[.pointer (some ⟨w.heap.size+1,0,none⟩),.pointer (some ⟨w.heap.size+1+1,0,none⟩)]] 123)).alloc (.cells #[] 3)):=by
  rw[hW4,hW3,hW2,hW1];exact rfl
 have HC:=hdzz hC;clear hC hat hrep;have HB:=hdzz hbw;clear hbw;have HB1:=hdzz b1;clear b1;clear b2 b3 b4 hW1 hW2 hW3 hW4 s2 s3 s4 hacc;simp only[Tm.val]at HC ⊢;go_enter Tryz.func64,Tryz.ntmps64
 have hst:(store ⟨w.heap.size+1+1,0,none⟩ (.func (.func 99) #[] #[.pointer (some ⟨w.heap.size+1,0,none⟩),.pointer (some ⟨w.heap.size+1+1,0,none⟩)])).run Tryz.prog (((w.alloc (.cells #[.int .i64 t.kind,.string t.name,.int .i64 t.sort,.slice A t.kids.length cap] 24)).alloc (.cells #[.slice none 0 0] 34)).alloc (.cells #[.nilFunc] 123)) =
   .ok () (((w.alloc (.cells #[.int .i64 t.kind,.string t.name,.int .i64 t.sort,.slice A t.kids.length cap] 24)).alloc (.cells #[.slice none 0 0] 34)).alloc (.cells #[.func (.func 99) #[] #[.pointer (some ⟨w.heap.size+1,0,none⟩),.pointer (some ⟨w.heap.size+1+1,0,none⟩)]] 123)):=by
  exact store_new _ _ (by simp) _ _ _ rfl
 go_wp2_with fail
 rw[←HW4.out];refine HC.out.mono ?_;rintro e w5 ⟨rfl,hst,its,⟨⟨v,hbox,hrow⟩,_,_,_,hbel⟩,hmap⟩;obtain⟨Av,cv,rfl,_⟩:=hrow.form;have hcell:w5.cell? ⟨w.heap.size+1,0,none⟩=some (.slice Av its.length cv):=by simp[World.cell?,hbox]
 have HR:=hdzz (hrow.loosen (base':=w.heap.size) (F':=fun b=>w.heap.size≤b) (by omega) (fun b hb=>by omega));clear hrow;have HBB:=hdzz (HB1.out.trans (hbel.mono (by omega)));clear hbel;have HM:=hdzz hmap;clear hmap hst hbox;go_wp2_with fail
 go_ret
 exact⟨_,its,rfl,HR.out,HBB.out,HM.out⟩
theorem PRow.more1 {w:World} {base:Nat} {F:Nat→Prop} {v:Value} {its:List Ip} (hrow:PRow w base F v its) (hbase:base≤w.heap.size) (X:Ip)
  (hX:IRep w (fun b=>F b∧b<w.heap.size∧v.ownBlock≠some b) X.1 X.2.1 X.2.2) (hlen:its.length+1≤100000000) :
  ∃g c' w',(∀ty,(Builtin.append_ #[34,34] ty #[v,.slice (some ⟨w.heap.size,0,none⟩) 1 1]).run Tryz.prog (w.alloc (.cells #[qe2 X] 36))=.ok (.slice (some ⟨g,0,none⟩) (its.length+1) c') w')∧
   PRow w' base F (.slice (some ⟨g,0,none⟩) (its.length+1) c') (its++[X])∧(w.alloc (.cells #[qe2 X] 36)).grownBy w' v.ownBlock∧(v.ownBlock=some g∨g=w.heap.size+1):=by
 obtain⟨i0,hi0,hz0,hz1,hz2⟩:=info_parts posInfo;have hb:Below w.heap.size w (w.alloc (.cells #[qe2 X] 36)):=qab (Nat.le_refl _) _;have hrow':=hrow.below hb;have hn:=heap_alloc_new w (.cells #[qe2 X] 36);obtain⟨v',w',hr,ho,hg,-,hat⟩:=run_append_own_at (P:=Tryz.prog) (w:=w.alloc (.cells #[qe2 X] 36)) base 34 0 36 i0 _ 1 24 Tryz.underlying34 hi0 hz0 hz1 hz2 rfl (by omega) v its.length (its.map qe2) hrow'.own
  ⟨w.heap.size,0,none⟩ 1 1 [qe2 X] rfl (fun j u hj=>by
   match j,hj with
   | 0,hj=>
    simp only[List.getElem?_cons_zero,Option.some.injEq]at hj;subst hj;unfold World.cell? Addr.add;simp only[if_true,hn];rfl
   | j+1,hj=>simp at hj) (fun u hu=>ip_one [X] u (by simpa using hu)) (by unfold maxLen;omega) (by omega) (by simp;omega)
 rcases ho.2 with⟨-,h0⟩|⟨g,cap,cur,rfl,_⟩
 ·omega
 ·have hat':v.ownBlock=some g∨g=(w.alloc (.cells #[qe2 X] 36)).heap.size:=by
   rcases hat with h|h
   ·exact .inl h.symm
   ·exact .inr (by injection h)
  refine⟨g,cap,w',fun ty=>hr,ql1 hrow' (IRep.mono (fun b ⟨h1,h2,h3⟩=>⟨h1,by simp;omega,h3⟩) (fun p ⟨_,h2,_⟩=>hb.cell h2) hX) ho hg hat',hg,?_⟩;simpa using hat'
mutual
theorem Tm.poss_len:∀(t:Tm) (p:List Int),p∈t.poss→p.length<t.size
 | .mk _ _ _ l,p,h=>by
  rw[Tm.poss,List.mem_cons]at h;rw[Tm.size];rcases h with rfl|h
  ·simp;omega
  ·have:=Tm.posss_len l 0 p h;omega
theorem Tm.posss_len:∀(l:List Tm) (i:Nat) (p:List Int),p∈Tm.posss l i→p.length<1+Tm.sizes l
 | [],_,p,h=>by simp[Tm.posss]at h
 | t::r,i,p,h=>by
  rw[Tm.posss,List.mem_append,List.mem_map]at h;rw[Tm.sizes];rcases h with⟨q,hq,rfl⟩|h
  ·have:=Tm.poss_len t q hq;simp;omega
  ·have:=Tm.posss_len r (i+1) p h;omega
end
end Go.Proofs.YtjhjoiplpmjepaaGreat
