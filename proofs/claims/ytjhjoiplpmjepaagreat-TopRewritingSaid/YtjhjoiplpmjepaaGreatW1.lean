/- Ga (joined by shake.py). -/
import Derived.Test.YtjhjoiplpmjepaaGreatW0
import Derived.Test.YtjhjoiplpmjepaaGreatProg
import Derived.WalkKit
import Derived.Sort.Grow
import Derived.Deep.Draws
import Derived.Deep.AppendLies
import Derived.Maps.AppendAt
import Derived.Lib.Bytealg
import Derived.OwnWalk
import Derived.StillTail
import Derived.OrdersHeld
import Derived.Deep.LoopGhost
import Derived.Lib.Hide
import Derived.WalkSpells
set_option linter.unusedVariables false
set_option linter.unusedSimpArgs false
set_option maxHeartbeats 1600000
namespace Go.Proofs.YtjhjoiplpmjepaaGreat
open Go.RowKit
open Go.RowKit
open Go.RowKit
open Go.RowKit
open Go.RowKit
open Go.RowKit
inductive Tm where
 | mk (kind:Int) (name:ByteArray) (sort:Int) (kids:List Tm)
 deriving Inhabited
namespace Tm
def kind:Tm→Int|.mk k _ _ _=>k
def name:Tm→ByteArray|.mk _ n _ _=>n
def sort:Tm→Int|.mk _ _ s _=>s
def kids:Tm→List Tm|.mk _ _ _ l=>l
mutual
def size:Tm→Nat
 | .mk _ _ _ l=>1+sizes l
def sizes:List Tm→Nat
 | []=>0
 | t::r=>size t+sizes r
end
mutual
def depth:Tm→Nat
 | .mk _ _ _ l=>1+depths l
def depths:List Tm→Nat
 | []=>0
 | t::r=>max (depth t) (depths r)
end
def val (t:Tm) (A:Option Addr) (cap:Nat):Value:=
 .agg #[.int .i64 t.kind,.string t.name,.int .i64 t.sort,.slice A t.kids.length cap]
end Tm
mutual
def RepP (w:World) (P:Nat→Prop):Tm→Option Addr→Nat→Prop
 | .mk _ n _ l,A,cap=>n.size≤maxLen∧l.length≤cap∧cap≤maxLen∧(l=[]∨∃b off,A=some ⟨b,off,none⟩∧P b∧RepLP w P l b off)
def RepLP (w:World) (P:Nat→Prop):List Tm→Nat→Nat→Prop
 | [],_,_=>True
 | t::r,b,off=>(∃A cap,w.cell? ⟨b,off,none⟩=some (.int .i64 t.kind)∧w.cell? ⟨b,off+1,none⟩=some (.string t.name)∧
   w.cell? ⟨b,off+2,none⟩=some (.int .i64 t.sort)∧w.cell? ⟨b,off+3,none⟩=some (.slice A t.kids.length cap)∧RepP w P t A cap)∧RepLP w P r b (off+4)
end
def RepS (w:World) (P:Nat→Prop) (l:List Tm) (A:Option Addr) (cap:Nat):Prop:=
 l.length≤cap∧cap≤maxLen∧(l=[]∨∃b off,A=some ⟨b,off,none⟩∧P b∧RepLP w P l b off)
def RepT (w:World) (B:Nat) (t:Tm) (A:Option Addr) (cap:Nat):Prop:=RepP w (fun b=>b<B) t A cap
def RepL (w:World) (B:Nat) (l:List Tm) (b off:Nat):Prop:=RepLP w (fun b=>b<B) l b off
theorem qa3 {w:World} {P:Nat→Prop} {k s:Int} {n:ByteArray} {l:List Tm} {A:Option Addr} {cap:Nat}:RepP w P (.mk k n s l) A cap =
  (n.size≤maxLen∧l.length≤cap∧cap≤maxLen∧(l=[]∨∃b off,A=some ⟨b,off,none⟩∧P b∧RepLP w P l b off)):=by rw[RepP]
theorem qbe {w:World} {B:Nat} {k s:Int} {n:ByteArray} {l:List Tm} {A:Option Addr} {cap:Nat}:RepT w B (.mk k n s l) A cap =
  (n.size≤maxLen∧l.length≤cap∧cap≤maxLen∧(l=[]∨∃b off,A=some ⟨b,off,none⟩∧b<B∧RepL w B l b off)):=by rw[RepT,RepP];rfl
theorem RepLP.get {w:World} {P:Nat→Prop}:∀{l:List Tm} {b off:Nat},RepLP w P l b off→∀i (h:i<l.length),∃A cap,
  w.cell? ⟨b,off+i*4,none⟩=some (.int .i64 l[i].kind)∧w.cell? ⟨b,off+i*4+1,none⟩=some (.string l[i].name)∧
   w.cell? ⟨b,off+i*4+2,none⟩=some (.int .i64 l[i].sort)∧w.cell? ⟨b,off+i*4+3,none⟩=some (.slice A l[i].kids.length cap)∧RepP w P l[i] A cap
 | [],_,_,_,_,h=>by simp at h
 | t::r,b,off,h,i,hi=>by
  rw[RepLP]at h;obtain⟨⟨A,cap,h0,h1,h2,h3,h4⟩,hr⟩:=h
  cases i with
  | zero=>exact⟨A,cap,by simpa using h0,by simpa using h1,by simpa using h2,by simpa using h3,h4⟩
  | succ i=>
   obtain⟨A',cap',g⟩:=RepLP.get hr i (by simpa using hi);refine⟨A',cap',?_⟩;have e:off+(i+1)*4=off+4+i*4:=by omega
   simpa[e]using g
theorem RepL.get {w:World} {B:Nat} {l:List Tm} {b off:Nat} (h:RepL w B l b off) (i:Nat) (hi:i<l.length):∃A cap,
  w.cell? ⟨b,off+i*4,none⟩=some (.int .i64 l[i].kind)∧w.cell? ⟨b,off+i*4+1,none⟩=some (.string l[i].name)∧
   w.cell? ⟨b,off+i*4+2,none⟩=some (.int .i64 l[i].sort)∧w.cell? ⟨b,off+i*4+3,none⟩=some (.slice A l[i].kids.length cap)∧RepT w B l[i] A cap:=RepLP.get h i hi
mutual
theorem RepP.mono {w w':World} {P P':Nat→Prop} (hP:∀b,P b→P' b) (hc:∀p:Addr,P p.block→w'.cell? p=w.cell? p):∀(t:Tm) (A:Option Addr) (cap:Nat),RepP w P t A cap→RepP w' P' t A cap
 | .mk _ n _ l,A,cap,h=>by
  rw[RepP]at h ⊢;obtain⟨h1,h2,h3,h4⟩:=h;refine⟨h1,h2,h3,?_⟩;rcases h4 with h4|⟨b,off,hA,hb,hl⟩
  ·exact Or.inl h4
  ·exact Or.inr ⟨b,off,hA,hP b hb,RepLP.mono hP hc l b off hb hl⟩
theorem RepLP.mono {w w':World} {P P':Nat→Prop} (hP:∀b,P b→P' b) (hc:∀p:Addr,P p.block→w'.cell? p=w.cell? p):∀(l:List Tm) (b off:Nat),P b→RepLP w P l b off→RepLP w' P' l b off
 | [],_,_,_,_=>by rw[RepLP];trivial
 | t::r,b,off,hb,h=>by
  rw[RepLP]at h ⊢;obtain⟨⟨A,cap,h0,h1,h2,h3,h4⟩,hr⟩:=h;exact⟨⟨A,cap,by rw[hc _ hb];exact h0,by rw[hc _ hb];exact h1,by rw[hc _ hb];exact h2,by rw[hc _ hb];exact h3,RepP.mono hP hc t A cap h4⟩,RepLP.mono hP hc r b (off+4) hb hr⟩
end
theorem RepS.mono {w w':World} {P P':Nat→Prop} (hP:∀b,P b→P' b) (hc:∀p:Addr,P p.block→w'.cell? p=w.cell? p) {l:List Tm} {A:Option Addr} {cap:Nat} (h:RepS w P l A cap):RepS w' P' l A cap:=by
 obtain⟨h1,h2,h3⟩:=h;refine⟨h1,h2,?_⟩;rcases h3 with h3|⟨b,off,hA,hb,hl⟩
 ·exact Or.inl h3
 ·exact Or.inr ⟨b,off,hA,hP b hb,RepLP.mono hP hc l b off hb hl⟩
theorem RepT.below {w w':World} {B:Nat} {t:Tm} {A:Option Addr} {cap:Nat} (h:RepT w B t A cap) (hb:Below B w w'):RepT w' B t A cap:=
 RepP.mono (fun _ h=>h) (fun _ hp=>hb.cell hp) t A cap h
theorem RepL.below {w w':World} {B:Nat} {l:List Tm} {b off:Nat} (h:RepL w B l b off) (hb:Below B w w') (hB:b<B):RepL w' B l b off:=
 RepLP.mono (fun _ h=>h) (fun _ hp=>hb.cell hp) l b off hB h
theorem RepT.go {w w':World} {B B':Nat} {t:Tm} {A:Option Addr} {cap:Nat} (h:RepT w B t A cap) (hb:Below B w w') (hB:B≤B'):RepT w' B' t A cap:=
 RepP.mono (fun _ h=>Nat.lt_of_lt_of_le h hB) (fun _ hp=>hb.cell hp) t A cap h
theorem RepL.go {w w':World} {B B':Nat} {l:List Tm} {b off:Nat} (h:RepL w B l b off) (hb:Below B w w') (hB:B≤B') (hbB:b<B):RepL w' B' l b off:=
 RepLP.mono (fun _ h=>Nat.lt_of_lt_of_le h hB) (fun _ hp=>hb.cell hp) l b off hbB h
theorem qaa {W:World} {B:Nat} {a b c d:Value} {T:TypeId} (h:W.heap[B]?=some (.cells #[a,b,c,d] T (0,0))) :
  W.cell? ⟨B,0,none⟩=some a∧W.cell? ⟨B,1,none⟩=some b∧W.cell? ⟨B,2,none⟩=some c∧W.cell? ⟨B,3,none⟩=some d∧∀o,W.frozen? ⟨B,o,none⟩=false:=by
 refine⟨?_,?_,?_,?_,fun o=>?_⟩<;>simp[World.cell?,World.frozen?,h]
theorem qhq {W:World} {B:Nat} (t:Tm) {A:Option Addr} {c:Nat} (h:W.heap[B]?=some (.cells #[.int .i64 t.kind,.string t.name,.int .i64 t.sort,.slice A t.kids.length c] 24 (0,0))) :
  W.cell? ⟨B,0,none⟩=some (.int .i64 t.kind)∧W.cell? ⟨B,1,none⟩=some (.string t.name)∧W.cell? ⟨B,2,none⟩=some (.int .i64 t.sort)∧W.cell? ⟨B,3,none⟩=some (.slice A t.kids.length c)∧∀o,W.frozen? ⟨B,o,none⟩=false:=qaa h
theorem qe3 {W:World} {B:Nat} {a b c d u:Value} {T:TypeId} (h:W.heap[B]?=some (.cells #[a,b,c,d] T (0,0))) :
  (W.setCell ⟨B,3,none⟩ u).heap[B]?=some (.cells #[a,b,c,u] T (0,0)):=by
 simp[World.setCell,Array.getElem?_modify,h]
theorem qab {B:Nat} {w:World} (h:B≤w.heap.size) (o:Obj):Below B w (w.alloc o):=(Below.refl _ _).alloc h o
structure Lay (B:Nat) (w w':World):Prop where
 below:Below B w w'
 drawn:w.drawn≤w'.drawn
theorem Lay.refl (B:Nat) (w:World):Lay B w w:=⟨Below.refl _ _,Nat.le_refl _⟩
theorem Lay.trans {B:Nat} {a b c:World} (h:Lay B a b) (k:Lay B b c):Lay B a c:=⟨h.below.trans k.below,Nat.le_trans h.drawn k.drawn⟩
theorem Lay.mono {B B':Nat} {w w':World} (h:Lay B w w') (hB:B'≤B):Lay B' w w':=⟨h.below.mono hB,h.drawn⟩
theorem Lay.alloc {B:Nat} {a w:World} (h:Lay B a w) (hB:B≤w.heap.size) (o:Obj):Lay B a (w.alloc o):=⟨h.below.alloc hB o,h.drawn⟩
theorem Lay.setCell {B:Nat} {a w:World} (h:Lay B a w) {p:Addr} (hp:B≤p.block) (u:Value):Lay B a (w.setCell p u):=⟨h.below.setCell hp u,h.drawn⟩
theorem Lay.drew {B:Nat} {a w:World} (h:Lay B a w):Lay B a w.drew:=⟨h.below.drew,Nat.le_trans h.drawn (Nat.le_succ _)⟩
theorem Lay.drewN {B:Nat} {a w:World} (h:Lay B a w) (n:Nat):Lay B a (w.drewN n):=⟨⟨h.below.os,h.below.tape,h.below.output,h.below.size,h.below.block⟩,Nat.le_trans h.drawn (Nat.le_add_right _ _)⟩
theorem Lay.size {B:Nat} {w w':World} (h:Lay B w w'):w.heap.size≤w'.heap.size:=h.below.size
theorem Lay.grow {w w':World} (h:Lay w.heap.size w w'):∃q os,w'=Sort.grow (w.drewN q) os:=by
 refine⟨w'.drawn - w.drawn,w'.heap.extract w.heap.size w'.heap.size,?_⟩;obtain⟨⟨h1,h2,h3,h4,h5⟩,h6⟩:=h;obtain⟨hp,tp,dr,os,ou⟩:=w';simp only at h1 h2 h3 h4 h5 h6;subst h1 h2 h3;unfold Sort.grow World.drewN;simp only[World.mk.injEq,true_and,and_true];refine⟨?_,by omega⟩;apply Array.ext_getElem?;intro i;rw[Array.getElem?_append]
 split
 ·rename_i hi;exact h5 i hi
 ·rename_i hi
  rw[Array.getElem?_extract]
  split
  ·congr 1;omega
  ·rw[Array.getElem?_eq_none];omega
theorem Lay.of_grow {w:World} (q:Nat) (os:Array Obj):Lay w.heap.size w (Sort.grow (w.drewN q) os):=by
 refine⟨⟨rfl,rfl,rfl,?_,fun k hk=>?_⟩,Nat.le_add_right _ _⟩
 ·show w.heap.size≤(w.heap++os).size;simp
 ·show(w.heap++os)[k]?=_;rw[Array.getElem?_append,if_pos hk]
theorem Tm.size_pos:∀t:Tm,0<t.size
 | .mk _ _ _ _=>by rw[Tm.size];omega
theorem Tm.length_le_sizes:∀l:List Tm,l.length≤Tm.sizes l
 | []=>by simp
 | t::r=>by have:=Tm.length_le_sizes r;have:=t.size_pos;simp[Tm.sizes];omega
theorem Tm.sizes_get:∀(l:List Tm) (i:Nat) (h:i<l.length),l[i].size≤Tm.sizes l
 | [],_,h=>by simp at h
 | t::r,0,_=>by simp[Tm.sizes]
 | t::r,i+1,h=>by have:=Tm.sizes_get r i (by simpa using h);simp[Tm.sizes];omega
theorem Tm.sizes_take_succ:∀(l:List Tm) (i:Nat) (h:i<l.length),Tm.sizes (l.take (i+1))=Tm.sizes (l.take i)+l[i].size
 | [],_,h=>by simp at h
 | t::r,0,_=>by simp[Tm.sizes]
 | t::r,i+1,h=>by have:=Tm.sizes_take_succ r i (by simpa using h);simp[Tm.sizes]at this ⊢;omega
theorem Tm.sizes_take_le:∀(l:List Tm) (i:Nat),Tm.sizes (l.take i)≤Tm.sizes l
 | [],_=>by simp
 | t::r,0=>by simp[Tm.sizes]
 | t::r,i+1=>by have:=Tm.sizes_take_le r i;simp[Tm.sizes];omega
abbrev It:=Tm×Option Addr×Nat
def Tm.cells (t:Tm) (A:Option Addr) (cap:Nat):List Value:=[.int .i64 t.kind,.string t.name,.int .i64 t.sort,.slice A t.kids.length cap]
def itCells:List It→List Value
 | []=>[]
 | x::r=>x.1.cells x.2.1 x.2.2++itCells r
theorem qc9 (a b:List It):itCells (a++b)=itCells a++itCells b:=by
 induction a with
 | nil=>rfl
 | cons x r ih=>simp[itCells,ih]
theorem qa8 (a:List It):(itCells a).length=a.length*4:=by
 induction a with
 | nil=>rfl
 | cons x r ih=>simp[itCells,Tm.cells,ih];omega
theorem qbt (a:List It):∀u∈itCells a,u.oneCell'=true:=by
 induction a with
 | nil=>simp[itCells]
 | cons x r ih=>
  intro u hu;simp only[itCells,Tm.cells,List.cons_append,List.nil_append,List.mem_cons]at hu;rcases hu with rfl|rfl|rfl|rfl|hu
  ·rfl
  ·rfl
  ·rfl
  ·rfl
  ·exact ih u hu
theorem qc0 {α:Type} (a b c d:α) (r:List α) (j:Nat):(a::b::c::d::r)[4+j]?=r[j]?:=by
 rw[show 4+j=j+1+1+1+1 by omega];simp
theorem qc3:∀(a:List It) (i:Nat) (h:i<a.length),
  (itCells a)[i*4]?=some (.int .i64 a[i].1.kind)∧(itCells a)[i*4+1]?=some (.string a[i].1.name)∧(itCells a)[i*4+2]?=some (.int .i64 a[i].1.sort)∧
  (itCells a)[i*4+3]?=some (.slice a[i].2.1 a[i].1.kids.length a[i].2.2)
 | [],_,h=>by simp at h
 | x::r,0,_=>by simp[itCells,Tm.cells]
 | x::r,i+1,h=>by
  have g:=qc3 r i (by simpa using h);have e0:(i+1)*4=4+i*4:=by omega
  simp only[itCells,Tm.cells,List.getElem_cons_succ,List.cons_append,List.nil_append];rw[e0,Nat.add_assoc 4 (i*4) 1,Nat.add_assoc 4 (i*4) 2,Nat.add_assoc 4 (i*4) 3,qc0,qc0,qc0,qc0];exact g
structure RowT (w:World) (base:Nat) (F:Nat→Prop) (v:Value) (its:List It):Prop where
 own:w.ownsRow base 24 4 v its.length (itCells its)
 reps:∀x∈its,RepP w (fun b=>F b∧b<w.heap.size∧v.ownBlock≠some b) x.1 x.2.1 x.2.2
theorem RowT.nil (w:World) (base:Nat) (F:Nat→Prop):RowT w base F (.slice none 0 0) []:=⟨World.ownsRow_nil _ _ _ _,by simp⟩
theorem RowT.keep {w w':World} {base:Nat} {F:Nat→Prop} {v:Value} {its:List It} (h:RowT w base F v its) (hs:w.heap.size≤w'.heap.size)
  (hc:∀b,b<w.heap.size→(F b∨v.ownBlock=some b)→w'.heap[b]?=w.heap[b]?):RowT w' base F v its:=by
 refine⟨⟨h.own.1,?_⟩,fun x hx=>?_⟩
 ·rcases h.own.2 with hn|⟨g,cap,cur,rfl,hb,hg,r⟩
  ·exact .inl hn
  ·have hlt:g<w.heap.size:=(sltz hg);exact .inr ⟨g,cap,cur,rfl,hb,by rw[hc g hlt (Or.inr rfl)];exact hg,r⟩
 ·refine RepP.mono ?_ ?_ _ _ _ (h.reps x hx)
  ·rintro b ⟨h1,h2,h3⟩;exact⟨h1,by omega,h3⟩
  ·rintro p ⟨h1,h2,h3⟩;exact World.cell?_of_block (hc p.block h2 (Or.inl h1))
theorem RowT.below {w w':World} {base:Nat} {F:Nat→Prop} {v:Value} {its:List It} (h:RowT w base F v its) (hb:Below w.heap.size w w'):RowT w' base F v its:=
 h.keep hb.size (fun b hlt _=>hb.block b hlt)
theorem RowT.alloc {w:World} {base:Nat} {F:Nat→Prop} {v:Value} {its:List It} (h:RowT w base F v its) (o:Obj):RowT (w.alloc o) base F v its:=
 h.below ((Below.refl _ _).alloc (Nat.le_refl _) _)
theorem RowT.drew {w:World} {base:Nat} {F:Nat→Prop} {v:Value} {its:List It} (h:RowT w base F v its):RowT w.drew base F v its:=
 h.below ((Below.refl _ _).drew)
theorem RowT.setCell {w:World} {base:Nat} {F:Nat→Prop} {v:Value} {its:List It} (h:RowT w base F v its) {p:Addr} (hF:¬F p.block) (hp:p.block<base) (u:Value):RowT (w.setCell p u) base F v its:=
 h.keep (by simp[World.setCell]) (fun b _ hb=>Below.heap_setCell _ _ _ _ (by
  rintro rfl;rcases hb with hb|hb
  ·exact hF hb
  ·have:=(h.own.lt _ hb).1;omega))
theorem RowT.lt {w:World} {base:Nat} {F:Nat→Prop} {v:Value} {its:List It} (h:RowT w base F v its):∀k,v.ownBlock=some k→base≤k∧k<w.heap.size:=h.own.lt
theorem RowT.push {w w':World} {base:Nat} {F:Nat→Prop} {v v':Value} {its news:List It} (h:RowT w base F v its)
  (hn:∀x∈news,RepP w (fun b=>F b∧b<w.heap.size∧v.ownBlock≠some b) x.1 x.2.1 x.2.2)
  (ho:w'.ownsRow base 24 4 v' (its.length+news.length) (itCells its++itCells news)) (hg:w.grownBy w' v.ownBlock)
  (hat:v'.ownBlock=v.ownBlock∨v'.ownBlock=some w.heap.size):RowT w' base F v' (its++news):=by
 refine⟨by rw[qc9,List.length_append];exact ho,fun x hx=>?_⟩;have key:RepP w (fun b=>F b∧b<w.heap.size∧v.ownBlock≠some b) x.1 x.2.1 x.2.2:=by
  rcases List.mem_append.1 hx with hx|hx
  ·exact h.reps x hx
  ·exact hn x hx
 refine RepP.mono ?_ ?_ _ _ _ key
 ·rintro b ⟨h1,h2,h3⟩;refine⟨h1,Nat.lt_of_lt_of_le h2 hg.size,?_⟩;rcases hat with e|e<;>rw[e]
  ·exact h3
  ·intro e;injection e with e;omega
 ·rintro p ⟨h1,h2,h3⟩;exact World.cell?_of_block (hg.block p.block h2 (fun e=>h3 e.symm))
theorem RepLP.of_its {w:World} {P:Nat→Prop}:∀(its:List It) (b off:Nat),(∀j u,(itCells its)[j]?=some u→w.cell? ⟨b,off+j,none⟩=some u)→
  (∀x∈its,RepP w P x.1 x.2.1 x.2.2)→RepLP w P (its.map (·.1)) b off
 | [],_,_,_,_=>by simp[RepLP]
 | x::r,b,off,hc,hr=>by
  rw[List.map_cons,RepLP];refine⟨⟨x.2.1,x.2.2,hc 0 _ (by simp[itCells,Tm.cells]),hc 1 _ (by simp[itCells,Tm.cells]),hc 2 _ (by simp[itCells,Tm.cells]),hc 3 _ (by simp[itCells,Tm.cells]),hr x (by simp)⟩,?_⟩;refine RepLP.of_its r b (off+4) (fun j u hj=>?_) (fun y hy=>hr y (by simp[hy]));have:=hc (4+j) u (by simp only[itCells,Tm.cells,List.cons_append,List.nil_append];rw[qc0];exact hj);rw[show off+4+j=off+(4+j)by omega];exact this
theorem RowT.toS {w:World} {base:Nat} {F P:Nat→Prop} {v:Value} {its:List It} (h:RowT w base F v its) (hF:∀b,F b→b<w.heap.size→P b) (hP:∀b,base≤b→b<w.heap.size→P b) :
  ∃A cap,v=.slice A its.length cap∧RepS w P (its.map (·.1)) A cap:=by
 rcases h.own.2 with⟨rfl,h0⟩|⟨g,cap,cur,rfl,hb,hg,hnc,hcm,r⟩
 ·have:its=[]:=List.eq_nil_of_length_eq_zero h0;subst this;exact⟨none,0,rfl,by simp,by simp[maxLen],.inl rfl⟩
 ·refine⟨some ⟨g,0,none⟩,cap,rfl,by simpa using hnc,hcm,.inr ⟨g,0,rfl,hP g hb (sltz hg),?_⟩⟩;refine RepLP.of_its its g 0 (fun j u hj=>?_) (fun x hx=>?_)
  ·have:=h.own.cells (g:=g) rfl j u hj;simpa[Addr.add]using (by
    unfold Addr.add at this
    split at this<;>simp_all)
  ·exact RepP.mono (fun b ⟨h1,h2,_⟩=>hF b h1 h2) (fun _ _=>rfl) _ _ _ (h.reps x hx)
theorem qcj:(Tryz.prog.info? 24).map (fun i=>(i.zero,i.size,i.bytes))=some (some (.agg #[.int .i64 0,.string ⟨#[]⟩,.int .i64 0,.slice none 0 0]),4,56):=by kernel_rfl
section
variable {P:Program} {w:World}
theorem qge {base:Nat} {F:Nat→Prop} {v:Value} {its:List It} {X:It} {g cap:Nat} {w':World} (hrow:RowT w base F v its)
  (hX:RepP w (fun b=>F b∧b<w.heap.size∧v.ownBlock≠some b) X.1 X.2.1 X.2.2)
  (ho:w'.ownsRow base 24 4 (.slice (some ⟨g,0,none⟩) (its.length+1) cap) (its.length+1) (itCells its++X.1.cells X.2.1 X.2.2)) (hg:w.grownBy w' v.ownBlock)
  (hat:v.ownBlock=some g∨g=w.heap.size):RowT w' base F (.slice (some ⟨g,0,none⟩) (its.length+1) cap) (its++[X]):=by
 refine hrow.push (by simpa using hX) (by simpa[itCells]using ho) hg ?_;rcases hat with e|e
 ·left;rw[e];rfl
 ·right;rw[e];rfl
theorem step_push {ops:Array Oper} {o:Oper} {a:Act} {K:Act→World→Prop} {Q:Exit→Act→World→Prop} {E:Prop} (hgd:o.guard=none) (s x:Operand)
  (ho:o.op=.call { callee:=.builtin .append,args:=#[s,x],argTypes:=#[22,22] })
  (base:Nat) (F:Nat→Prop) (v:Value) (its:List It) (hs:a.eval s=v) (hrow:RowT w base F v its)
  (X:It) (B c:Nat) (fr:Nat×Nat) (hx:a.eval x=.slice (some ⟨B,0,none⟩) 1 c) (hB:w.heap[B]?=some (.cells (X.1.cells X.2.1 X.2.2).toArray 24 fr))
  (hX:RepP w (fun b=>F b∧b<w.heap.size∧v.ownBlock≠some b) X.1 X.2.1 X.2.2) (hlen:its.length+1≤100000000) (hbase:base≤w.heap.size)
  (h:∀g cap w',RowT w' base F (.slice (some ⟨g,0,none⟩) (its.length+1) cap) (its++[X])→w.grownBy w' v.ownBlock→(v.ownBlock=some g∨g=w.heap.size)→base≤g→K (a.put o.dst (.slice (some ⟨g,0,none⟩) (its.length+1) cap)) w') :
  if Region.wanted o (yielded ops a.tmps)=true then Oper.wp Tryz.prog o a w K Q else E:=by
 obtain⟨i0,hi0,hz0,hz1,hz2⟩:=info_parts qcj;refine step_append_lies w hgd s x _ ho base _ i0 _ 4 56 Tryz.underlying22 hi0 hz0 hz1 hz2 rfl (by omega) v its.length (itCells its) hs hrow.own ⟨B,0,none⟩ 1 c (X.1.cells X.2.1 X.2.2) hx rfl
  (fun j u hu=>World.news_of_block hB j u (by simpa using hu)) (fun u hu=>qbt [X] u (by simpa[itCells]using hu)) (by omega) (by unfold maxLen;omega) (by omega) hbase w.heap.size rfl ?_
 intro g cap w' h1 h2 h3 h4;have hR:=qge hrow hX h1 h2 h3;exact h g cap w' hR h2 h3 (hR.lt g rfl).1
theorem qm4 {o:Oper} {a:Act} {K:Act→World→Prop} {Q:Exit→Act→World→Prop} (_hgd:o.guard=none) (s x:Operand)
  (ho:o.op=.call { callee:=.builtin .append,args:=#[s,x],argTypes:=#[22,22] })
  (base:Nat) (F:Nat→Prop) (v:Value) (its:List It) (hs:a.eval s=v) (hrow:RowT w base F v its)
  (X:It) (B c:Nat) (fr:Nat×Nat) (hx:a.eval x=.slice (some ⟨B,0,none⟩) 1 c) (hB:w.heap[B]?=some (.cells (X.1.cells X.2.1 X.2.2).toArray 24 fr))
  (hX:RepP w (fun b=>F b∧b<w.heap.size∧v.ownBlock≠some b) X.1 X.2.1 X.2.2) (hlen:its.length+1≤100000000) (hbase:base≤w.heap.size)
  (h:∀g cap w',RowT w' base F (.slice (some ⟨g,0,none⟩) (its.length+1) cap) (its++[X])→w.grownBy w' v.ownBlock→(v.ownBlock=some g∨g=w.heap.size)→base≤g→K (a.put o.dst (.slice (some ⟨g,0,none⟩) (its.length+1) cap)) w') :
  Oper.wp Tryz.prog o a w K Q:=by
 obtain⟨i0,hi0,hz0,hz1,hz2⟩:=info_parts qcj;refine wp_append_lies w s x _ ho base _ i0 _ 4 56 Tryz.underlying22 hi0 hz0 hz1 hz2 rfl (by omega) v its.length (itCells its) hs hrow.own ⟨B,0,none⟩ 1 c (X.1.cells X.2.1 X.2.2) hx rfl
  (fun j u hu=>World.news_of_block hB j u (by simpa using hu)) (fun u hu=>qbt [X] u (by simpa[itCells]using hu)) (by omega) (by unfold maxLen;omega) (by omega) hbase w.heap.size rfl ?_
 intro g cap w' h1 h2 h3 h4;have hR:=qge hrow hX h1 h2 h3;exact h g cap w' hR h2 h3 (hR.lt g rfl).1
theorem wpList_push {ops:Array Oper} {rest:List Oper} {o:Oper} {a:Act} {Q:Exit→Act→World→Prop} (hgd:o.guard=none) (s x:Operand)
  (ho:o.op=.call { callee:=.builtin .append,args:=#[s,x],argTypes:=#[22,22] })
  (base:Nat) (F:Nat→Prop) (v:Value) (its:List It) (hs:a.eval s=v) (hrow:RowT w base F v its)
  (X:It) (B c:Nat) (fr:Nat×Nat) (hx:a.eval x=.slice (some ⟨B,0,none⟩) 1 c) (hB:w.heap[B]?=some (.cells (X.1.cells X.2.1 X.2.2).toArray 24 fr))
  (hX:RepP w (fun b=>F b∧b<w.heap.size∧v.ownBlock≠some b) X.1 X.2.1 X.2.2) (hlen:its.length+1≤100000000) (hbase:base≤w.heap.size)
  (h:∀g cap w',RowT w' base F (.slice (some ⟨g,0,none⟩) (its.length+1) cap) (its++[X])→w.grownBy w' v.ownBlock→(v.ownBlock=some g∨g=w.heap.size)→base≤g→wpList Tryz.prog ops Q rest (a.put o.dst (.slice (some ⟨g,0,none⟩) (its.length+1) cap)) w') :
  wpList Tryz.prog ops Q (o::rest) a w:=by
 obtain⟨i0,hi0,hz0,hz1,hz2⟩:=info_parts qcj;refine wpList_append_lies w hgd s x _ ho base _ i0 _ 4 56 Tryz.underlying22 hi0 hz0 hz1 hz2 rfl (by omega) v its.length (itCells its) hs hrow.own ⟨B,0,none⟩ 1 c (X.1.cells X.2.1 X.2.2) hx rfl
  (fun j u hu=>World.news_of_block hB j u (by simpa using hu)) (fun u hu=>qbt [X] u (by simpa[itCells]using hu)) (by omega) (by unfold maxLen;omega) (by omega) hbase w.heap.size rfl ?_
 intro g cap w' h1 h2 h3 h4;have hR:=qge hrow hX h1 h2 h3;exact h g cap w' hR h2 h3 (hR.lt g rfl).1
end
theorem own_set {w:World} {base:Nat} {e:TypeId} {size g n cap:Nat} {xs:List Value} (h:w.ownsRow base e size (.slice (some ⟨g,0,none⟩) n cap) n xs) (j:Nat) (u:Value) :
  (w.setCell ⟨g,j,none⟩ u).ownsRow base e size (.slice (some ⟨g,0,none⟩) n cap) n (xs.set j u):=by
 refine⟨by rw[List.length_set];exact h.1,?_⟩;rcases h.2 with⟨hv,_⟩|⟨g',cap',cur,hv,hb,hg,hn,hc,hs,ht⟩
 ·cases hv
 ·injection hv with h1 h2 h3;injection h1 with h1;injection h1 with h1;subst h1 h3;refine .inr ⟨g,cap,cur.setIfInBounds j u,rfl,hb,?_,hn,hc,by simpa using hs,?_⟩
  ·simp[World.setCell,Array.getElem?_modify,hg]
  ·rw[Array.toList_setIfInBounds,List.take_set,ht]
theorem itCells_set:∀(its:List It) (i:Nat) (X:It),i<its.length→
  ((((itCells its).set (i*4) (.int .i64 X.1.kind)).set (i*4+1) (.string X.1.name)).set (i*4+2) (.int .i64 X.1.sort)).set (i*4+3) (.slice X.2.1 X.1.kids.length X.2.2)=itCells (its.set i X)
 | [],_,_,h=>by simp at h
 | x::r,0,X,_=>by simp[itCells,Tm.cells]
 | x::r,i+1,X,h=>by
  have g:=itCells_set r i X (by simpa using h);have e:(i+1)*4=i*4+1+1+1+1:=by omega
  simp only[itCells,Tm.cells,List.cons_append,List.nil_append,List.set_cons_succ];rw[e];simp only[show ∀a:Nat,a+1+1+1+1+1=(a+1)+1+1+1+1 from fun _=>rfl,show ∀a:Nat,a+1+1+1+1+2=(a+2)+1+1+1+1 from fun _=>rfl,List.set_cons_succ];rw[g]
theorem RowT.slot {w:World} {base:Nat} {F:Nat→Prop} {g cap n:Nat} {its:List It} (h:RowT w base F (.slice (some ⟨g,0,none⟩) n cap) its) (hn:n=its.length) (i:Nat) (hi:i<its.length) :
  w.cell? ⟨g,i*4,none⟩=some (.int .i64 its[i].1.kind)∧w.cell? ⟨g,i*4+1,none⟩=some (.string its[i].1.name)∧w.cell? ⟨g,i*4+2,none⟩=some (.int .i64 its[i].1.sort)∧
  w.cell? ⟨g,i*4+3,none⟩=some (.slice its[i].2.1 its[i].1.kids.length its[i].2.2)∧∀o,w.frozen? ⟨g,o,none⟩=false:=by
 subst hn;have hc:∀j u,(itCells its)[j]?=some u→w.cell? ⟨g,j,none⟩=some u:=fun j u hj=>by
  have:=h.own.cells (g:=g) rfl j u hj;unfold Addr.add at this
  split at this<;>simp_all
 obtain⟨g0,g1,g2,g3⟩:=qc3 its i hi;refine⟨hc _ _ g0,hc _ _ g1,hc _ _ g2,hc _ _ g3,fun o=>?_⟩;rcases h.own.2 with⟨hv,_⟩|⟨g',cap',cur,hv,hb,hg,_⟩
 ·cases hv
 ·injection hv with h1;injection h1 with h1;injection h1 with h1;subst h1;simp[World.frozen?,hg]
theorem RowT.set {w:World} {base:Nat} {F:Nat→Prop} {g cap n:Nat} {its:List It} (h:RowT w base F (.slice (some ⟨g,0,none⟩) n cap) its) (hn:n=its.length) (i:Nat) (hi:i<n) (X:It)
  (hX:RepP w (fun b=>F b∧b<w.heap.size∧g≠b) X.1 X.2.1 X.2.2) :
  RowT ((((w.setCell ⟨g,i*4,none⟩ (.int .i64 X.1.kind)).setCell ⟨g,i*4+1,none⟩ (.string X.1.name)).setCell ⟨g,i*4+2,none⟩ (.int .i64 X.1.sort)).setCell ⟨g,i*4+3,none⟩ (.slice X.2.1 X.1.kids.length X.2.2))
   base F (.slice (some ⟨g,0,none⟩) n cap) (its.set i X):=by
 subst hn;have hown:=own_set (own_set (own_set (own_set h.own (i*4) (.int .i64 X.1.kind)) (i*4+1) (.string X.1.name)) (i*4+2) (.int .i64 X.1.sort)) (i*4+3) (.slice X.2.1 X.1.kids.length X.2.2);rw[itCells_set its i X hi]at hown;refine⟨by rw[List.length_set];exact hown,fun x hx=>?_⟩;have key:RepP w (fun b=>F b∧b<w.heap.size∧g≠b) x.1 x.2.1 x.2.2:=by
  rcases List.mem_or_eq_of_mem_set hx with hx|rfl
  ·exact RepP.mono (fun b ⟨h1,h2,h3⟩=>⟨h1,h2,fun e=>h3 (by rw[e];rfl)⟩) (fun _ _=>rfl) _ _ _ (h.reps x hx)
  ·exact hX
 refine RepP.mono ?_ ?_ _ _ _ key
 ·rintro b ⟨h1,h2,h3⟩;exact⟨h1,by simpa[World.setCell]using h2,fun e=>h3 (by injection e)⟩
 ·rintro p ⟨h1,h2,h3⟩;have hne:∀o,(⟨g,o,none⟩:Addr)≠p:=fun o e=>h3 (by rw[←e]);rw[World.cell?_setCell_other _ _ _ _ (hne _),World.cell?_setCell_other _ _ _ _ (hne _),World.cell?_setCell_other _ _ _ _ (hne _),World.cell?_setCell_other _ _ _ _ (hne _)]
def sgn (a b:Int):Int:=if a<b then -1 else if b<a then 1 else 0
def ord (c d:Int):Int:=if c=0 then d else c
mutual
def Tm.cmp:Tm→Tm→Int
 | .mk k n s l,.mk k' n' s' l'=>
  ord (sgn ((Tm.mk k n s l).size:Int) ((Tm.mk k' n' s' l').size:Int)) (ord (sgn k k') (ord (Lib.compareBytes n.data.toList n'.data.toList) (ord (sgn s s') (ord (sgn (l.length:Int) (l'.length:Int)) (Tm.cmps l l')))))
def Tm.cmps:List Tm→List Tm→Int
 | [],_=>0
 | _::_,[]=>0
 | t::r,u::v=>ord (Tm.cmp t u) (Tm.cmps r v)
end
def Tri (x y z:Int):Prop:=(x≤0→y≤0→z≤0)∧(x<0→y≤0→z<0)∧(x≤0→y<0→z<0)∧(x=0→z=y)∧(y=0→z=x)
theorem Tri.ord {x y z x' y' z':Int} (h:Tri x y z) (h':Tri x' y' z'):Tri (ord x x') (ord y y') (ord z z'):=by
 obtain⟨h1,h2,h3,h4,h5⟩:=h;obtain⟨g1,g2,g3,g4,g5⟩:=h';unfold Go.Proofs.YtjhjoiplpmjepaaGreat.ord;by_cases hx:x=0
 ·by_cases hy:y=0
  ·have hz:z=0:=by rw[h4 hx];exact hy
   rw[if_pos hx,if_pos hy,if_pos hz];exact⟨g1,g2,g3,g4,g5⟩
  ·have hz:=h4 hx;rw[if_pos hx,if_neg hy,if_neg (by omega)];subst hz;refine⟨?_,?_,?_,?_,?_⟩<;>omega
 ·by_cases hy:y=0
  ·have hz:=h5 hy;rw[if_neg hx,if_pos hy,if_neg (by omega)];subst hz;refine⟨?_,?_,?_,?_,?_⟩<;>omega
  ·rw[if_neg hx,if_neg hy];refine⟨?_,?_,?_,?_,?_⟩<;>split<;>omega
theorem qh7 (a b c:Int):Tri (sgn a b) (sgn b c) (sgn a c):=by
 unfold sgn;refine⟨?_,?_,?_,?_,?_⟩<;>(repeat' split)<;>omega
theorem qh8 (a b:Int):sgn b a = - sgn a b:=by unfold sgn;(repeat' split)<;>omega
theorem qcu {a b:Int}:sgn a b=0↔a=b:=by unfold sgn;(repeat' split)<;>omega
theorem qfa (a:Int):sgn a a=0:=qcu.2 rfl
theorem qg2 {c d c' d':Int} (h:c' = -c) (h':d' = -d):ord c' d' = - ord c d:=by unfold ord;(repeat' split)<;>omega
theorem qck {c d:Int}:ord c d=0↔c=0∧d=0:=by unfold ord;split<;>omega
def qn7 (c:Int):Prop:=c = -1∨c=0∨c=1
theorem qfk:∀a b:List UInt8,qn7 (Lib.compareBytes a b)
 | [],[]=>by simp[Lib.compareBytes,qn7]
 | [],_::_=>by simp[Lib.compareBytes,qn7]
 | _::_,[]=>by simp[Lib.compareBytes,qn7]
 | a::al,b::bs=>by
  unfold Lib.compareBytes
  split
  ·simp[qn7]
  ·split
   ·simp[qn7]
   ·exact qfk al bs
theorem qmx:∀a b:List UInt8,Lib.compareBytes b a = - Lib.compareBytes a b
 | [],[]=>by simp[Lib.compareBytes]
 | [],_::_=>by simp[Lib.compareBytes]
 | _::_,[]=>by simp[Lib.compareBytes]
 | a::al,b::bs=>by
  unfold Lib.compareBytes;by_cases h:a<b
  ·have h':¬b<a:=UInt8.not_lt.2 (UInt8.le_of_lt h);simp[h,h']
  ·by_cases h':b<a
   ·simp[h,h']
   ·simp only[h,h',if_false];exact qmx al bs
theorem qfj:∀{a b:List UInt8},Lib.compareBytes a b=0↔a=b
 | [],[]=>by simp[Lib.compareBytes]
 | [],_::_=>by simp[Lib.compareBytes]
 | _::_,[]=>by simp[Lib.compareBytes]
 | a::al,b::bs=>by
  unfold Lib.compareBytes;by_cases h:a<b
  ·have hne:a≠b:=fun e=>by subst e;exact UInt8.lt_irrefl _ h
   simp[h,hne]
  ·by_cases h':b<a
   ·have hne:a≠b:=fun e=>by subst e;exact UInt8.lt_irrefl _ h'
    simp[h,h',hne]
   ·have e:a=b:=UInt8.le_antisymm (UInt8.not_lt.1 h') (UInt8.not_lt.1 h);subst e;simp only[h,if_false];rw[qfj (a:=al) (b:=bs)];simp
theorem qmw:∀a b c:List UInt8,Tri (Lib.compareBytes a b) (Lib.compareBytes b c) (Lib.compareBytes a c)
 | [],[],[]=>by simp[Lib.compareBytes,Tri]
 | [],[],_::_=>by simp[Lib.compareBytes,Tri]
 | [],_::_,[]=>by simp[Lib.compareBytes,Tri]
 | [],b::bs,c::cs=>by
  have:=qfk (b::bs) (c::cs);generalize Lib.compareBytes (b::bs) (c::cs)=y at this ⊢;simp[Lib.compareBytes,Tri]
 | _::_,[],[]=>by simp[Lib.compareBytes,Tri]
 | _::_,[],_::_=>by simp[Lib.compareBytes,Tri]
 | a::al,b::bs,[]=>by
  have:=qfk (a::al) (b::bs);generalize Lib.compareBytes (a::al) (b::bs)=y at this ⊢;simp[Lib.compareBytes,Tri]
 | a::al,b::bs,c::cs=>by
  have key:∀(x y:UInt8) (u v:List UInt8),Lib.compareBytes (x::u) (y::v)=ord (sgn (x.toNat:Int) (y.toNat:Int)) (Lib.compareBytes u v):=by
   intro x y u v;rw[Lib.compareBytes];unfold ord sgn;simp only[UInt8.lt_iff_toNat_lt,Int.ofNat_lt];by_cases h:x.toNat<y.toNat
   ·simp[h]
   ·by_cases h':y.toNat<x.toNat
    ·simp[h,h']
    ·simp only[h,h',if_false,if_true]
  rw[key,key,key];exact(qh7 _ _ _).ord (qmw al bs cs)
mutual
theorem Tm.cmp_neg:∀a b:Tm,b.cmp a = - a.cmp b
 | .mk k n s l,.mk k' n' s' l'=>by
  rw[Tm.cmp,Tm.cmp];refine qg2 (qh8 _ _) (qg2 (qh8 _ _) (qg2 (qmx _ _) (qg2 (qh8 _ _) ?_)));by_cases h:l.length=l'.length
  ·exact qg2 (qh8 _ _) (Tm.cmps_neg l l' h)
  ·have h1:sgn (l.length:Int) l'.length≠0:=fun e=>h (by have:=qcu.1 e;omega);have h2:sgn (l'.length:Int) l.length≠0:=fun e=>h (by have:=qcu.1 e;omega);unfold ord;rw[if_neg h1,if_neg h2];exact qh8 _ _
theorem Tm.cmps_neg:∀a b:List Tm,a.length=b.length→Tm.cmps b a = - Tm.cmps a b
 | [],[],_=>by simp[Tm.cmps]
 | [],_::_,h=>by simp at h
 | _::_,[],h=>by simp at h
 | t::r,u::v,h=>by rw[Tm.cmps,Tm.cmps];exact qg2 (Tm.cmp_neg t u) (Tm.cmps_neg r v (by simpa using h))
end
mutual
theorem Tm.cmp_self:∀a:Tm,a.cmp a=0
 | .mk k n s l=>by
  rw[Tm.cmp];exact qck.2 ⟨qfa _,qck.2 ⟨qfa _,qck.2 ⟨qfj.2 rfl,qck.2 ⟨qfa _,qck.2 ⟨qfa _,Tm.cmps_self l⟩⟩⟩⟩⟩
theorem Tm.cmps_self:∀a:List Tm,Tm.cmps a a=0
 | []=>by simp[Tm.cmps]
 | t::r=>by rw[Tm.cmps];exact qck.2 ⟨Tm.cmp_self t,Tm.cmps_self r⟩
end
mutual
theorem Tm.eq_of_cmp:∀a b:Tm,a.cmp b=0→a=b
 | .mk k n s l,.mk k' n' s' l',h=>by
  rw[Tm.cmp]at h;obtain⟨_,g1⟩:=qck.1 h;obtain⟨h1,g2⟩:=qck.1 g1;obtain⟨h2,g3⟩:=qck.1 g2;obtain⟨h3,g4⟩:=qck.1 g3;obtain⟨h4,g5⟩:=qck.1 g4;obtain rfl:=qcu.1 h1;obtain rfl:=qcu.1 h3;have h2':=qfj.1 h2;have hn:n=n':=by obtain⟨⟨_⟩⟩:=n;obtain⟨⟨_⟩⟩:=n';simp only at h2';rw[h2']
  subst hn;rw[Tm.eq_of_cmps l l' (by have:=qcu.1 h4;omega) g5]
theorem Tm.eq_of_cmps:∀a b:List Tm,a.length=b.length→Tm.cmps a b=0→a=b
 | [],[],_,_=>rfl
 | [],_::_,h,_=>by simp at h
 | _::_,[],h,_=>by simp at h
 | t::r,u::v,hl,h=>by
  rw[Tm.cmps]at h;obtain⟨h1,h2⟩:=qck.1 h;rw[Tm.eq_of_cmp t u h1,Tm.eq_of_cmps r v (by simpa using hl) h2]
end
theorem Tm.cmp_zero {a b:Tm}:a.cmp b=0↔a=b:=⟨Tm.eq_of_cmp a b,fun h=>by subst h;exact Tm.cmp_self _⟩
theorem qcx (d:Int):ord 0 d=d:=if_pos rfl
theorem qdc {c:Int} (d:Int) (h:c≠0):ord c d=c:=if_neg h
theorem len_tri (a b c:Int) (x y z:Int) (h:a=b→b=c→Tri x y z):Tri (ord (sgn a b) x) (ord (sgn b c) y) (ord (sgn a c) z):=by
 have hs:=qh7 a b c;by_cases h1:a=b
 ·by_cases h2:b=c
  ·exact hs.ord (h h1 h2)
  ·have z2:sgn b c≠0:=fun q=>h2 (qcu.1 q);subst h1;rw[qfa,qcx,qdc _ z2,qdc _ z2];generalize sgn a c=q at *;unfold Tri;refine⟨?_,?_,?_,?_,?_⟩<;>omega
 ·have z1:sgn a b≠0:=fun q=>h1 (qcu.1 q);by_cases h2:b=c
  ·subst h2;rw[qfa,qcx,qdc _ z1,qdc _ z1];generalize sgn a b=q at *;unfold Tri;refine⟨?_,?_,?_,?_,?_⟩<;>omega
  ·have z2:sgn b c≠0:=fun q=>h2 (qcu.1 q);generalize sgn a b=u at *;generalize sgn b c=v at *;generalize sgn a c=q at *;unfold Tri at hs ⊢;simp only[ord,if_neg z1,if_neg z2];refine⟨?_,?_,?_,?_,?_⟩<;>split<;>omega
mutual
theorem Tm.cmp_tri:∀a b c:Tm,Tri (a.cmp b) (b.cmp c) (a.cmp c)
 | .mk k n s l,.mk k' n' s' l',.mk k2 n2 s2 l2=>by
  rw[Tm.cmp,Tm.cmp,Tm.cmp];exact(qh7 _ _ _).ord ((qh7 _ _ _).ord ((qmw _ _ _).ord ((qh7 _ _ _).ord (len_tri _ _ _ _ _ _ (fun h1 h2=>Tm.cmps_tri l l' l2 (by omega) (by omega))))))
theorem Tm.cmps_tri:∀a b c:List Tm,a.length=b.length→b.length=c.length→Tri (Tm.cmps a b) (Tm.cmps b c) (Tm.cmps a c)
 | [],[],[],_,_=>by simp[Tm.cmps,Tri]
 | _::_,[],_,h,_=>by simp at h
 | [],_::_,_,h,_=>by simp at h
 | _,[],_::_,_,h=>by simp at h
 | _,_::_,[],_,h=>by simp at h
 | a::al,b::bs,c::cs,h1,h2=>by
  rw[Tm.cmps,Tm.cmps,Tm.cmps];exact(Tm.cmp_tri a b c).ord (Tm.cmps_tri al bs cs (by simpa using h1) (by simpa using h2))
end
theorem RepLP.its {w:World} {P:Nat→Prop}:∀(l:List Tm) (b off:Nat),RepLP w P l b off→
  ∃its:List It,its.map (·.1)=l∧(∀j u,(itCells its)[j]?=some u→w.cell? ⟨b,off+j,none⟩=some u)∧∀x∈its,RepP w P x.1 x.2.1 x.2.2
 | [],_,_,_=>⟨[],rfl,by simp[itCells],by simp⟩
 | t::r,b,off,h=>by
  rw[RepLP]at h;obtain⟨⟨A,cap,h0,h1,h2,h3,h4⟩,h5⟩:=h;obtain⟨its,hm,hc,hr⟩:=RepLP.its r b (off+4) h5;refine⟨(t,A,cap)::its,by simp[hm],fun j u hj=>?_,fun x hx=>?_⟩
  ·simp only[itCells,Tm.cells,List.cons_append,List.nil_append]at hj
   match j,hj with
   | 0,hj=>simp at hj;subst hj;exact h0
   | 1,hj=>simp at hj;subst hj;exact h1
   | 2,hj=>simp at hj;subst hj;exact h2
   | 3,hj=>simp at hj;subst hj;exact h3
   | j+4,hj=>rw[Nat.add_comm j 4,qc0]at hj;rw[show off+(j+4)=off+4+j by omega];exact hc j u hj
  ·rcases List.mem_cons.1 hx with rfl|hx
   ·exact h4
   ·exact hr x hx
theorem RowT.cells {w:World} {base:Nat} {F:Nat→Prop} {g cap n:Nat} {its:List It} (h:RowT w base F (.slice (some ⟨g,0,none⟩) n cap) its):∀j u,(itCells its)[j]?=some u→w.cell? ⟨g,0+j,none⟩=some u:=fun j u hj=>by
 have:=h.own.cells (g:=g) rfl j u hj;unfold Addr.add at this
 split at this<;>simp_all
theorem RowT.more {w:World} {base:Nat} {F:Nat→Prop} {v:Value} {its:List It} (hrow:RowT w base F v its) (hF:∀b,F b→b<base) (hbase:base≤w.heap.size) (b off c m:Nat) (news:List It) (hm:m=news.length)
  (hc:∀j u,(itCells news)[j]?=some u→w.cell? ⟨b,off+j,none⟩=some u) (hN:∀x∈news,RepP w F x.1 x.2.1 x.2.2) (hlen:its.length+m≤100000000) :
  ∃A' c' w',(∀ty,(Builtin.append_ #[22,22] ty #[v,.slice (some ⟨b,off,none⟩) m c]).run Tryz.prog w=.ok (.slice A' (its.length+m) c') w')∧
   RowT w' base F (.slice A' (its.length+m) c') (its++news)∧w.grownBy w' v.ownBlock∧(its++news≠[]→∃g,A'=some ⟨g,0,none⟩):=by
 subst hm;obtain⟨i0,hi0,hz0,hz1,hz2⟩:=info_parts qcj;have hadd:∀j,(⟨b,off,none⟩:Addr).add j=⟨b,off+j,none⟩:=fun j=>by unfold Addr.add;split<;>simp_all
 obtain⟨v',w',hr,ho,hg,hnil⟩:=run_append_own (P:=Tryz.prog) w base 22 0 24 i0 _ 4 56 Tryz.underlying22 hi0 hz0 hz1 hz2 rfl (by omega) v its.length (itCells its) hrow.own ⟨b,off,none⟩ news.length c (itCells news)
  (qa8 news) (fun j u hj=>by rw[hadd];exact hc j u hj) (qbt news) (by unfold maxLen;omega) (by omega) hbase
 have hrow':RowT w' base F v' (its++news):=by
  refine⟨by rw[qc9,List.length_append];exact ho,fun x hx=>?_⟩;have key:RepP w (fun b=>F b∧b<w.heap.size) x.1 x.2.1 x.2.2:=by
   rcases List.mem_append.1 hx with hx|hx
   ·exact RepP.mono (fun b ⟨h1,h2,_⟩=>⟨h1,h2⟩) (fun _ _=>rfl) _ _ _ (hrow.reps x hx)
   ·exact RepP.mono (fun b h1=>⟨h1,by have:=hF b h1;omega⟩) (fun _ _=>rfl) _ _ _ (hN x hx)
  refine RepP.mono ?_ ?_ _ _ _ key
  ·rintro k ⟨h1,h2⟩;have hk:=hF k h1;refine⟨h1,Nat.lt_of_lt_of_le h2 hg.size,fun e=>?_⟩;have:=(ho.lt k e).1;omega
  ·rintro p ⟨h1,h2⟩;have hk:=hF p.block h1;exact World.cell?_of_block (hg.block p.block h2 (fun e=>by have:=(hrow.own.lt _ e.symm).1;omega))
 rcases ho.2 with⟨rfl,h0⟩|⟨g,c',cur,rfl,_⟩
 ·rw[h0];exact⟨none,0,w',fun ty=>hr,hrow',hg,fun h=>absurd (List.eq_nil_of_length_eq_zero (by rw[List.length_append];exact h0)) h⟩
 ·exact⟨_,c',w',fun ty=>hr,hrow',hg,fun _=>⟨g,rfl⟩⟩
theorem RowT.more1 {w:World} {base:Nat} {F:Nat→Prop} {v:Value} {its:List It} (hrow:RowT w base F v its) (hF:∀b,F b→b<base) (hbase:base≤w.heap.size) (X:It) (hX:RepP w F X.1 X.2.1 X.2.2) (hlen:its.length+1≤100000000) :
  ∃A' c' w',(∀ty,(Builtin.append_ #[22,22] ty #[v,.slice (some ⟨w.heap.size,0,none⟩) 1 1]).run Tryz.prog (w.alloc (.cells #[.int .i64 X.1.kind,.string X.1.name,.int .i64 X.1.sort,.slice X.2.1 X.1.kids.length X.2.2] 24))=.ok (.slice A' (its.length+1) c') w')∧
   RowT w' base F (.slice A' (its.length+1) c') (its++[X])∧(w.alloc (.cells #[.int .i64 X.1.kind,.string X.1.name,.int .i64 X.1.sort,.slice X.2.1 X.1.kids.length X.2.2] 24)).grownBy w' v.ownBlock:=by
 obtain⟨A',c',w',h1,h2,h3,_⟩:=(hrow.alloc (.cells #[.int .i64 X.1.kind,.string X.1.name,.int .i64 X.1.sort,.slice X.2.1 X.1.kids.length X.2.2] 24)).more hF (by simp;omega) w.heap.size 0 1 1 [X] rfl
  (fun j u hj=>by
   have hn:=heap_alloc_new w (.cells #[.int .i64 X.1.kind,.string X.1.name,.int .i64 X.1.sort,.slice X.2.1 X.1.kids.length X.2.2] 24);simp only[itCells,Tm.cells,List.append_nil]at hj;rw[Nat.zero_add];unfold World.cell?;rw[hn];simpa using hj)
  (fun x hx=>by
   rw[List.mem_singleton.1 hx];exact RepP.mono (fun _ h=>h) (fun p hp=>World.cell?_of_block (Below.heap_alloc _ _ _ (by have:=hF _ hp;omega))) _ _ _ hX) hlen
 exact⟨A',c',w',h1,h2,h3⟩
theorem qag {w w':World} {ops:Array Oper} {rest:List Oper} {o:Oper} {a:Act} {Q:Exit→Act→World→Prop} {v u v':Value} {t:TypeId} (hgd:o.guard=none) (s x:Operand)
  (ho:o.op=.call { callee:=.builtin .append,args:=#[s,x],argTypes:=#[t,t] }) (hs:a.eval s=v) (hx:a.eval x=u)
  (hrun:∀ty,(Builtin.append_ #[t,t] ty #[v,u]).run Tryz.prog w=.ok v' w') (h:wpList Tryz.prog ops Q rest (a.put o.dst v') w'):wpList Tryz.prog ops Q (o::rest) a w:=by
 refine wpList_plain hgd fun K hK=>?_;unfold Oper.wp;simp[execOp,ho,resolve,invoke,builtin,hs,hx,hrun,Result.andThen];exact hK _ _ h
section
variable {P:Program} {ops:Array Oper} {Q:Exit→Act→World→Prop} {md:Region.Mode} {S:World→Prop} {n:Nat}
def barB (md:Region.Mode) (ops:Array Oper) (n:Nat):Bool:=
 (List.range ops.size).all fun t=>decide (t<n) || (List.range n).all fun i=>Region.waitsFor md ops t i
theorem qm0 {i:Nat} {listed:Array Bool} (hb:barB md ops n=true) (hi:i<n) (hun:listed.getD i true=false):∀t∈Region.ready md ops listed,t<n:=by
 intro t ht;obtain⟨_,ot,hot,hall⟩:=mem_ready.1 ht;have htl:t<ops.size:=(Array.getElem?_eq_some_iff.1 hot).1;have h1:=List.all_eq_true.1 hb t (List.mem_range.2 htl);simp only[Bool.or_eq_true,decide_eq_true_eq]at h1;rcases h1 with h1|h1
 ·exact h1
 ·obtain⟨o',ho',e,he,hbi,hon⟩:=Region.waitsFor_spec (List.all_eq_true.1 h1 i (List.mem_range.2 hi));have:o'=ot:=Option.some.inj (ho'.symm.trans hot);subst this;have h2:=hall e he hbi;rw[hon,getD_both hun]at h2;cases h2
def qi6 (P:Program) (md:Region.Mode) (ops:Array Oper) (Q:Exit→Act→World→Prop) (S:World→Prop) (n:Nat):Nat→Array Bool→Act→World→Prop
 | 0,listed,a,w=>Region.ready md ops listed=[]∧Q .normal a w
 | fuel+1,listed,a,w=>
  (Region.ready md ops listed=[]→Q .normal a w)∧
  ∀i∈Region.ready md ops listed,wpOp P ops Q i (fun a' w'=>(i<n→S w')∧qi6 P md ops Q S n fuel (listed.setIfInBounds i true) a' w') a w
theorem qgw:∀(fuel:Nat) (listed:Array Bool) (a:Act) (w:World),qi6 P md ops Q S n fuel listed a w→wpAny P md ops Q fuel listed a w
 | 0,_,_,_,h=>h
 | fuel+1,_,_,_,h=>⟨h.1,fun i hi=>wpOp_mono (fun a' w' h'=>qgw fuel _ a' w' h'.2) (h.2 i hi)⟩
theorem qd5 {S':World→Prop} {i:Nat} {oi:Oper} {v:Value} (hi:ops[i]?=some oi) (hsel:∀(j:Nat) (o:Oper) cs b,ops[j]?=some o→o.op≠.select cs b)
  (hS':∀(listed:Array Bool) (j:Nat) (w:World),listed.getD i true=false→j∈Region.ready md ops listed→(j<n→S w)→S' w) (hSS:∀w,S' w→i<n→S w)
  (hQ:∀c a w,Q (.panic c) (a.put oi.dst v) w→Q (.panic c) a w) :
  ∀(fuel:Nat) (listed:Array Bool) (a:Act) (w:World),
   (∀j oj,ops[j]?=some oj→j≠i→listed.getD j true=false→(∀e∈oj.after,Region.binds md e=true→e.on≠i)→oi.apart ops oj=true)→
   i∈Region.ready md ops listed→YieldsIf P ops S' oi v a→S' w→
   qi6 P md ops Q S n fuel (listed.setIfInBounds i true) (a.put oi.dst v) w→qi6 P md ops Q S n (fuel+1) listed a w:=by
 intro fuel
 induction fuel with
 | zero=>
  intro listed a w _ hr hy hS H;refine⟨fun h=>(by rw[h]at hr;cases hr),fun j hj=>?_⟩;by_cases hji:j=i
  ·subst hji;exact hy.wpOp hi hS ⟨fun h=>hSS w hS h,H⟩
  ·have:=ready_mono hj hji;rw[H.1]at this;cases this
 | succ fuel ih=>
  intro listed a w hfree hr hy hS H;have hun:=(mem_ready.1 hr).1;refine⟨fun h=>(by rw[h]at hr;cases hr),fun j hj=>?_⟩;by_cases hji:j=i
  ·subst hji;exact hy.wpOp hi hS ⟨fun h=>hSS w hS h,H⟩
  ·have h1:=H.2 j (ready_mono hj hji);obtain⟨hjun,oj,hoj,hall⟩:=mem_ready.1 hj;have hnot:∀e∈oj.after,Region.binds md e=true→e.on≠i:=fun e he hb heq=>by
    have h1:=hall e he hb;rw[heq,getD_both hun]at h1;cases h1
   have h2:=wpOp_putIf hoj (hfree j oj hoj hji hjun hnot) (fun cs b=>hsel i oi cs b hi) (fun cs b=>hsel j oj cs b hoj) hQ hy h1;have hfree':∀k ok,ops[k]?=some ok→k≠i→(listed.setIfInBounds j true).getD k true=false→
     (∀e∈ok.after,Region.binds md e=true→e.on≠i)→oi.apart ops ok=true:=fun k ok hk hki hu hno=>by
    refine hfree k ok hk hki ?_ hno;by_cases hjk:j=k
    ·subst hjk;exact hjun
    ·rw[getD_set_ne true hjk]at hu;exact hu
   refine wpOp_mono (fun a' w' h3=>⟨h3.2.1,ih (listed.setIfInBounds j true) a' w' hfree' (ready_mono hr (Ne.symm hji)) h3.1 (hS' listed j w' hun hj h3.2.1) ?_⟩) h2;rw[Array.setIfInBounds_comm _ _ hji];exact h3.2.2
inductive Mx where
 | nil
 | held (i:Nat) (r:Mx)
 | pure (i:Nat) (r:Mx)
 | op (i:Nat) (r:Mx)
 | two (i j:Nat) (r r':Mx)
def Mx.len:Mx→Nat
 | .nil=>0
 | .held _ r|.pure _ r|.op _ r=>r.len+1
 | .two _ _ r _=>r.len+1
def qd9 (P:Program) (ops:Array Oper) (Q:Exit→Act→World→Prop) (S:World→Prop) (n:Nat):Mx→Act→World→Prop
 | .nil,a,w=>Q .normal a w
 | .held i r,a,w=>S w∧∃o v,ops[i]?=some o∧YieldsIf P ops S o v a∧(∀c a' w',Q (.panic c) (a'.put o.dst v) w'→Q (.panic c) a' w')∧qd9 P ops Q S n r (a.put o.dst v) w
 | .pure i r,a,w=>(i<n→S w)∧∃o v,ops[i]?=some o∧YieldsIf P ops (fun _=>True) o v a∧(∀c a' w',Q (.panic c) (a'.put o.dst v) w'→Q (.panic c) a' w')∧qd9 P ops Q S n r (a.put o.dst v) w
 | .op i r,a,w=>wpOp P ops Q i (fun a' w'=>(i<n→S w')∧qd9 P ops Q S n r a' w') a w
 | .two i j r r',a,w=>wpOp P ops Q i (fun a' w'=>(i<n→S w')∧qd9 P ops Q S n r a' w') a w∧wpOp P ops Q j (fun a' w'=>(j<n→S w')∧qd9 P ops Q S n r' a' w') a w
def mixB (md:Region.Mode) (ops:Array Oper) (n:Nat):Mx→Array Bool→Bool
 | .nil,listed=>(Region.ready md ops listed).isEmpty
 | .held i r,listed=>decide (i<n) && (Region.ready md ops listed).contains i && Region.free md ops listed i && mixB md ops n r (listed.setIfInBounds i true)
 | .pure i r,listed=>decide (n≤i) && (Region.ready md ops listed).contains i && Region.free md ops listed i && mixB md ops n r (listed.setIfInBounds i true)
 | .op i r,listed=>decide (Region.ready md ops listed=[i]) && mixB md ops n r (listed.setIfInBounds i true)
 | .two i j r r',listed=>decide (Region.ready md ops listed=[i,j]) && decide (r.len=r'.len) && mixB md ops n r (listed.setIfInBounds i true) && mixB md ops n r' (listed.setIfInBounds j true)
def mixOk (md:Region.Mode) (ops:Array Oper) (n:Nat) (order:Mx):Bool:=
 Region.noSelect ops && barB md ops n && decide (order.len=ops.size) && mixB md ops n order (Array.replicate ops.size false)
theorem qca (hsel:Region.noSelect ops=true) (hb:barB md ops n=true) :
  ∀(order:Mx) (listed:Array Bool) (a:Act) (w:World),mixB md ops n order listed=true→qd9 P ops Q S n order a w→qi6 P md ops Q S n order.len listed a w
 | .nil,listed,a,w,hB,h=>⟨by simpa[mixB]using hB,h⟩
 | .held i r,listed,a,w,hB,h=>by
  simp only[mixB,Bool.and_eq_true,decide_eq_true_eq]at hB;obtain⟨⟨⟨hin,hr⟩,hf⟩,hB2⟩:=hB;obtain⟨hS,o,v,ho,hy,hQ,hrest⟩:=h;exact qd5 ho (Region.noSelect_spec hsel) (fun l j w hun hj hSw=>hSw (qm0 hb hin hun j hj)) (fun _ h _=>h) hQ r.len listed a w (Region.free_spec ho hf) (by simpa using hr) hy hS
   (qca hsel hb r _ _ _ hB2 hrest)
 | .pure i r,listed,a,w,hB,h=>by
  simp only[mixB,Bool.and_eq_true,decide_eq_true_eq]at hB;obtain⟨⟨⟨hin,hr⟩,hf⟩,hB2⟩:=hB;obtain⟨_,o,v,ho,hy,hQ,hrest⟩:=h;exact qd5 (S':=fun _=>True) ho (Region.noSelect_spec hsel) (fun _ _ _ _ _ _=>trivial) (fun _ _ h=>absurd h (by omega)) hQ r.len listed a w (Region.free_spec ho hf) (by simpa using hr) hy trivial
   (qca hsel hb r _ _ _ hB2 hrest)
 | .op i r,listed,a,w,hB,h=>by
  simp only[mixB,Bool.and_eq_true,decide_eq_true_eq]at hB;refine⟨fun h0=>(by rw[hB.1]at h0;cases h0),fun j hj=>?_⟩;rw[hB.1]at hj;obtain rfl:j=i:=by simpa using hj
  exact wpOp_mono (fun a' w' h'=>⟨h'.1,qca hsel hb r _ a' w' hB.2 h'.2⟩) h
 | .two i k r r',listed,a,w,hB,h=>by
  simp only[mixB,Bool.and_eq_true,decide_eq_true_eq]at hB;obtain⟨⟨⟨hr,hlen⟩,hB1⟩,hB2⟩:=hB;refine⟨fun h0=>(by rw[hr]at h0;cases h0),fun j hj=>?_⟩;rw[hr]at hj;simp only[List.mem_cons,List.not_mem_nil,or_false]at hj;rcases hj with rfl|rfl
  ·exact wpOp_mono (fun a' w' h'=>⟨h'.1,qca hsel hb r _ a' w' hB1 h'.2⟩) h.1
  ·exact wpOp_mono (fun a' w' h'=>⟨h'.1,by rw[hlen];exact qca hsel hb r' _ a' w' hB2 h'.2⟩) h.2
theorem qbr {id:Nat} {Q:Exit→Act→World→Prop} {a:Act} {w:World} {l:List Oper} (S:World→Prop) (n:Nat) (order:Mx) (hm:P.follows .mixedOrders=true)
  (hB:mixOk .any l.toArray n order=true) (h:qd9 P l.toArray Q S n order a w.drew):(Code.region id l.toArray true).wp P Q a w:=by
 simp only[mixOk,Bool.and_eq_true,decide_eq_true_eq]at hB;obtain⟨⟨⟨hsel,hb⟩,hlen⟩,hB⟩:=hB;refine wp_region_any hm ?_;have:=qgw _ _ _ _ (qca (md:=.any) hsel hb order _ a w.drew hB h);rw[hlen]at this;exact this
theorem qel {a:Act} {w:World} (h:Q .normal a w):qd9 P ops Q S n .nil a w:=h
theorem qav {i:Nat} {r:Mx} {a:Act} {w:World} {o:Oper} {v:Value} (ho:ops[i]?=some o) (hg:o.guard=none) (hQ:∀c a' w',Q (.panic c) (a'.put o.dst v) w'→Q (.panic c) a' w')
  (hS:S w) (hv:∀w,S w→(execOp a.eval o).run P w=.ok (.value v) w) (h:qd9 P ops Q S n r (a.put o.dst v) w):qd9 P ops Q S n (.held i r) a w:=
 ⟨hS,o,v,ho,Or.inl ⟨by simp[Region.wanted,hg],hv⟩,hQ,h⟩
theorem mix_pure {i:Nat} {r:Mx} {a:Act} {w:World} {o:Oper} {v:Value} (ho:ops[i]?=some o) (hg:o.guard=none) (hQ:∀c a' w',Q (.panic c) (a'.put o.dst v) w'→Q (.panic c) a' w')
  (hn:n≤i) (hv:∀w,(execOp a.eval o).run P w=.ok (.value v) w) (h:qd9 P ops Q S n r (a.put o.dst v) w):qd9 P ops Q S n (.pure i r) a w:=
 ⟨fun h=>absurd h (by omega),o,v,ho,Or.inl ⟨by simp[Region.wanted,hg],fun w _=>hv w⟩,hQ,h⟩
theorem mix_op {i:Nat} {r:Mx} {a:Act} {w:World} {o:Oper} (ho:ops[i]?=some o) (hg:o.guard=none)
  (h:∀K:Act→World→Prop,(∀a' w',(i<n→S w')∧qd9 P ops Q S n r a' w'→K a' w')→o.wp P a w K Q):qd9 P ops Q S n (.op i r) a w:=by
 show wpOp P ops Q i _ a w;unfold wpOp;simp only[ho,Region.wanted,hg,if_true];exact .inl (h _ fun a' w' h=>h)
theorem mix_take_g {i:Nat} {r:Mx} {a:Act} {w:World} {o:Oper} {v:Value} (ho:ops[i]?=some o) (hw:Region.wanted o (yielded ops a.tmps)=true) (hQ:∀c a' w',Q (.panic c) (a'.put o.dst v) w'→Q (.panic c) a' w')
  (hS:S w) (hv:∀w,S w→(execOp a.eval o).run P w=.ok (.value v) w) (h:qd9 P ops Q S n r (a.put o.dst v) w):qd9 P ops Q S n (.held i r) a w:=
 ⟨hS,o,v,ho,Or.inl ⟨hw,hv⟩,hQ,h⟩
theorem mix_op_g {i:Nat} {r:Mx} {a:Act} {w:World} {o:Oper} (ho:ops[i]?=some o) (hw:Region.wanted o (yielded ops a.tmps)=true)
  (h:∀K:Act→World→Prop,(∀a' w',(i<n→S w')∧qd9 P ops Q S n r a' w'→K a' w')→o.wp P a w K Q):qd9 P ops Q S n (.op i r) a w:=by
 show wpOp P ops Q i _ a w;unfold wpOp;simp only[ho,hw,if_true];exact .inl (h _ fun a' w' h=>h)
theorem mix_two {i j:Nat} {r r':Mx} {a:Act} {w:World} (h:qd9 P ops Q S n (.op i r) a w) (h':qd9 P ops Q S n (.op j r') a w):qd9 P ops Q S n (.two i j r r') a w:=⟨h,h'⟩
end
theorem qej {k:IntKind} {a b:Int} (h:a=b):Ending.returned (.int k a)=.returned (.int k b):=by rw[h]
theorem qoh (n:Nat):∀(t:Tm) (A:Option Addr) (cap:Nat) (w:World),t.size≤n→n≤1000000→RepT w w.heap.size t A cap→
  Calls Tryz.prog 92 #[t.val A cap] w fun e w'=>e=.returned (.int .i64 t.size)∧Lay w.heap.size w w':=by
 induction n with
 | zero=>intro t _ _ _ h;have:=t.size_pos;omega
 | succ n ih=>
  intro t A cap w hn hb hrep;obtain⟨tk,tn,ts,l⟩:=t;rw[Tm.size]at hn;rw[qbe]at hrep;obtain⟨hr1,hr2,hr3,hr4⟩:=hrep;simp only[Tm.val,Tm.kind,Tm.name,Tm.sort,Tm.kids,Tm.size];unfold maxLen at hr1 hr3;go_enter Tryz.func92,Tryz.ntmps92
  go_wp2_with fail
  go_loopw [3,9] (fun v i wr=>∃k:Nat,k≤l.length∧i=.int .i64 k∧v=.int .i64 (1+Tm.sizes (l.take k):Nat)∧Lay w.heap.size w wr)
   (fun _ i _=>l.length - (intOf i).toNat)
  case atStart=>exact⟨0,Nat.zero_le _,rfl,rfl,(Lay.refl _ _).alloc (Nat.le_refl _) _⟩
  case round=>
   obtain⟨k,hk,rfl,rfl,hbel⟩:=hrel;by_cases hlt:k<l.length
   ·rcases hr4 with rfl|⟨b,off,rfl,hbB,hl⟩
    ·simp at hlt
    obtain⟨A',cap',h0,h1,h2,h3,h5⟩:=(hl.below hbel.below hbB).get k hlt;have hsz:=hbel.size;have HT:Hid (Tm.sizes (l.take (k+1))=Tm.sizes (l.take k)+l[k].size):=Tm.sizes_take_succ l k hlt;have htl:=Tm.sizes_take_le l (k+1);have htl2:=Tm.sizes_take_le l k;have hsg:=Tm.sizes_get l k hlt;go_wp2_with fail
    refine(ih l[k] A' cap' _ (by omega) (by omega) (h5.go (qab hsz _) (by simp;omega))).mono ?_;rintro e w1 ⟨rfl,hb1⟩;go_wp2_with fail
    go_roundw
    case rel=>exact⟨k+1,by omega,by go_num,by rw[HT.out];go_num,(hbel.alloc hsz _).trans (hb1.mono (by simp;omega))⟩
    case measure=>simp[intOf];omega
   ·obtain rfl:k=l.length:=by omega
    go_wp2_with fail
    go_ret
    exact⟨qej (by simp),hbel⟩
theorem qic (n:Nat):∀(t:Tm) (A:Option Addr) (cap:Nat) (w:World),t.size≤n→n≤1000000→RepT w w.heap.size t A cap→
  Calls Tryz.prog 15 #[t.val A cap] w fun e w'=>e=.returned (.int .i64 t.size)∧Lay w.heap.size w w':=by
 induction n with
 | zero=>intro t _ _ _ h;have:=t.size_pos;omega
 | succ n ih=>
  intro t A cap w hn hb hrep;obtain⟨tk,tn,ts,l⟩:=t;rw[Tm.size]at hn;rw[qbe]at hrep;obtain⟨hr1,hr2,hr3,hr4⟩:=hrep;simp only[Tm.val,Tm.kind,Tm.name,Tm.sort,Tm.kids,Tm.size];unfold maxLen at hr1 hr3;go_enter Tryz.func15,Tryz.ntmps15
  go_wp2_with fail
  go_loopw [3,4] (fun v i wr=>∃k:Nat,k≤l.length∧i=.int .i64 k∧v=.int .i64 (1+Tm.sizes (l.take k):Nat)∧Lay (w.heap.size+1) (w.alloc (.cells #[.int .i64 tk,.string tn,.int .i64 ts,.slice A l.length cap] 24)) wr)
   (fun _ i _=>l.length - (intOf i).toNat)
  case atStart=>exact⟨0,Nat.zero_le _,rfl,rfl,Lay.refl _ _⟩
  case round=>
   obtain⟨k,hk,rfl,rfl,hbel⟩:=hrel;have hbox:wr.cell? ⟨w.heap.size,3,none⟩=some (.slice A l.length cap):=by rw[hbel.below.cell (by simp)];simp
   have hsz:=hbel.size;simp only[World.size_alloc]at hsz;have hbel':Lay w.heap.size w wr:=((Lay.refl _ _).alloc (Nat.le_refl _) _).trans (hbel.mono (by omega));by_cases hlt:k<l.length
   ·rcases hr4 with rfl|⟨b,off,rfl,hbB,hl⟩
    ·simp at hlt
    obtain⟨A',cap',h0,h1,h2,h3,h5⟩:=(hl.below hbel'.below hbB).get k hlt;have HT:Hid (Tm.sizes (l.take (k+1))=Tm.sizes (l.take k)+l[k].size):=Tm.sizes_take_succ l k hlt;have htl:=Tm.sizes_take_le l (k+1);have htl2:=Tm.sizes_take_le l k;have hsg:=Tm.sizes_get l k hlt;go_wp2_with fail
    refine(ih l[k] A' cap' _ (by omega) (by omega) (h5.go (Below.refl _ _) (by omega))).mono ?_;rintro e w1 ⟨rfl,hb1⟩;go_wp2_with fail
    go_roundw
    case rel=>exact⟨k+1,by omega,by go_num,by rw[HT.out];go_num,hbel.trans (hb1.mono (by omega))⟩
    case measure=>simp[intOf];omega
   ·obtain rfl:k=l.length:=by omega
    go_wp2_with fail
    go_ret
    exact⟨qej (by simp),hbel'⟩
theorem Tm.depths_take_succ:∀(l:List Tm) (i:Nat) (h:i<l.length),Tm.depths (l.take (i+1))=max (Tm.depths (l.take i)) l[i].depth
 | [],_,h=>by simp at h
 | t::r,0,_=>by simp[Tm.depths]
 | t::r,i+1,h=>by have:=Tm.depths_take_succ r i (by simpa using h);simp[Tm.depths]at this ⊢;omega
mutual
theorem Tm.depth_le:∀t:Tm,t.depth≤t.size
 | .mk _ _ _ l=>by rw[Tm.depth,Tm.size];have:=Tm.depths_le l;omega
theorem Tm.depths_le:∀l:List Tm,Tm.depths l≤Tm.sizes l
 | []=>by simp[Tm.depths]
 | t::r=>by rw[Tm.depths,Tm.sizes];have:=Tm.depth_le t;have:=Tm.depths_le r;omega
end
theorem qp2 (n:Nat):∀(t:Tm) (A:Option Addr) (cap:Nat) (w:World),t.size≤n→n≤1000000→RepT w w.heap.size t A cap→
  Calls Tryz.prog 8 #[t.val A cap] w fun e w'=>e=.returned (.int .i64 t.depth)∧Lay w.heap.size w w':=by
 induction n with
 | zero=>intro t _ _ _ h;have:=t.size_pos;omega
 | succ n ih=>
  intro t A cap w hn hb hrep;obtain⟨tk,tn,ts,l⟩:=t;rw[Tm.size]at hn;rw[qbe]at hrep;obtain⟨hr1,hr2,hr3,hr4⟩:=hrep;simp only[Tm.val,Tm.kind,Tm.name,Tm.sort,Tm.kids,Tm.depth];unfold maxLen at hr1 hr3;have hdl:=Tm.depths_le l;go_enter Tryz.func8,Tryz.ntmps8
  go_wp2_with fail
  go_loopw [3,4] (fun v i wr=>∃k:Nat,k≤l.length∧i=.int .i64 k∧v=.int .i64 (Tm.depths (l.take k):Nat)∧Lay (w.heap.size+1) (w.alloc (.cells #[.int .i64 tk,.string tn,.int .i64 ts,.slice A l.length cap] 24)) wr)
   (fun _ i _=>l.length - (intOf i).toNat)
  case atStart=>exact⟨0,Nat.zero_le _,rfl,rfl,Lay.refl _ _⟩
  case round=>
   obtain⟨k,hk,rfl,rfl,hbel⟩:=hrel;have hbox:wr.cell? ⟨w.heap.size,3,none⟩=some (.slice A l.length cap):=by rw[hbel.below.cell (by simp)];simp
   have hsz:=hbel.size;simp only[World.size_alloc]at hsz;have hbel':Lay w.heap.size w wr:=((Lay.refl _ _).alloc (Nat.le_refl _) _).trans (hbel.mono (by omega));by_cases hlt:k<l.length
   ·rcases hr4 with rfl|⟨b,off,rfl,hbB,hl⟩
    ·simp at hlt
    obtain⟨A',cap',h0,h1,h2,h3,h5⟩:=(hl.below hbel'.below hbB).get k hlt;have HT:Hid (Tm.depths (l.take (k+1))=max (Tm.depths (l.take k)) l[k].depth):=Tm.depths_take_succ l k hlt;have hsg:=Tm.sizes_get l k hlt;go_wp2_with fail
    refine(ih l[k] A' cap' _ (by omega) (by omega) (h5.go (Below.refl _ _) (by omega))).mono ?_;rintro e w1 ⟨rfl,hb1⟩;go_wp2_with fail
    all_goals
     go_roundw
     case rel=>exact⟨k+1,by omega,by go_num,by rw[HT.out];go_num,hbel.trans (hb1.mono (by omega))⟩
     case measure=>simp[intOf];omega
   ·obtain rfl:k=l.length:=by omega
    simp only[List.take_length]at *;go_wp2_with fail
    go_ret
    exact⟨qej (by simp;try omega),hbel'⟩
mutual
def Tm.left:Tm→Int→Int
 | .mk _ n _ l,m=>if m≤0∨40<n.size then -1 else Tm.lefts l (m - 1)
def Tm.lefts:List Tm→Int→Int
 | [],m=>m
 | t::r,m=>if Tm.left t m<0 then -1 else Tm.lefts r (Tm.left t m)
end
mutual
theorem Tm.left_le:∀(t:Tm) (m:Int),-1≤t.left m∧(0≤m→t.left m≤m)
 | .mk _ n _ l,m=>by
  rw[Tm.left];split
  ·exact⟨by omega,by omega⟩
  ·have:=Tm.lefts_le l (m - 1) (by omega);exact⟨by omega,by omega⟩
theorem Tm.lefts_le:∀(l:List Tm) (m:Int),0≤m→-1≤Tm.lefts l m∧Tm.lefts l m≤m
 | [],m,h=>by rw[Tm.lefts];omega
 | t::r,m,h=>by
  rw[Tm.lefts];have h1:=Tm.left_le t m;split
  ·omega
  ·have:=Tm.lefts_le r (t.left m) (by omega);omega
end
theorem qql (n:Nat):∀(t:Tm) (A:Option Addr) (cap:Nat) (m:Int) (w:World),t.size≤n→0≤m→m≤1000000→RepT w w.heap.size t A cap→
  Calls Tryz.prog 36 #[t.val A cap,.int .i64 m] w fun e w'=>e=.returned (.int .i64 (t.left m))∧Lay w.heap.size w w':=by
 induction n with
 | zero=>intro t _ _ _ _ h;have:=t.size_pos;omega
 | succ n ih=>
  intro t A cap m w hn hm0 hm1 hrep;obtain⟨tk,tn,ts,l⟩:=t;rw[Tm.size]at hn;rw[qbe]at hrep;obtain⟨hr1,hr2,hr3,hr4⟩:=hrep;simp only[Tm.val,Tm.kind,Tm.name,Tm.sort,Tm.kids];unfold maxLen at hr1 hr3;rw[Tm.left];by_cases hg:m≤0
  ·rw[if_pos (Or.inl hg)];go_enter Tryz.func36,Tryz.ntmps36
   go_wp2_with fail
   go_ret
   exact⟨rfl,(Lay.refl _ _).alloc (Nat.le_refl _) _⟩
  ·by_cases hg2:40<tn.size
   ·rw[if_pos (Or.inr hg2)];go_enter Tryz.func36,Tryz.ntmps36
    go_wp2_with fail
    go_ret
    exact⟨rfl,(Lay.refl _ _).alloc (Nat.le_refl _) _⟩
   ·rw[if_neg (by omega)];go_enter Tryz.func36,Tryz.ntmps36
    go_wp2_with fail
    go_loopw [1,4,5] (fun v _ i wr=>∃(k:Nat) (j:Int),k≤l.length∧i=.int .i64 k∧v=.int .i64 j∧0≤j∧j≤m∧Hid (Tm.lefts (l.drop k) j=Tm.lefts l (m - 1))∧Lay (w.heap.size+1) (w.alloc (.cells #[.int .i64 tk,.string tn,.int .i64 ts,.slice A l.length cap] 24)) wr)
     (fun _ _ i _=>l.length - (intOf i).toNat)
    case atStart=>exact⟨0,m - 1,Nat.zero_le _,rfl,rfl,by omega,by omega,rfl,Lay.refl _ _⟩
    case round=>
     obtain⟨k,j,hk,rfl,rfl,hj0,hj1,HL,hbel⟩:=hrel;have hbox:wr.cell? ⟨w.heap.size,3,none⟩=some (.slice A l.length cap):=by rw[hbel.below.cell (by simp)];simp
     have hsz:=hbel.size;simp only[World.size_alloc]at hsz;have hbel':Lay w.heap.size w wr:=((Lay.refl _ _).alloc (Nat.le_refl _) _).trans (hbel.mono (by omega));by_cases hlt:k<l.length
     ·rcases hr4 with rfl|⟨b,off,rfl,hbB,hl⟩
      ·simp at hlt
      obtain⟨A',cap',h0,h1,h2,h3,h5⟩:=(hl.below hbel'.below hbB).get k hlt;have hsg:=Tm.sizes_get l k hlt;have HD:Hid (l.drop k=l[k]::l.drop (k+1)):=List.drop_eq_getElem_cons hlt;have hll:=Tm.left_le l[k] j;have HU:Hid (Tm.lefts l (m - 1)=if l[k].left j<0 then -1 else Tm.lefts (l.drop (k+1)) (l[k].left j)):=by
       rw[←HL.out,HD.out,Tm.lefts];exact rfl
      by_cases hneg:l[k].left j<0
      ·go_wp2_with fail
       refine(ih l[k] A' cap' j _ (by omega) hj0 (by omega) (h5.go (Below.refl _ _) (by omega))).mono ?_;rintro e w1 ⟨rfl,hb1⟩;go_wp2_with fail
       go_ret
       exact⟨qej (by rw[HU.out,if_pos (by omega)]),hbel'.trans (hb1.mono (by omega))⟩
      ·go_wp2_with fail
       refine(ih l[k] A' cap' j _ (by omega) hj0 (by omega) (h5.go (Below.refl _ _) (by omega))).mono ?_;rintro e w1 ⟨rfl,hb1⟩;go_wp2_with fail
       go_roundw
       case rel=>exact⟨k+1,_,by omega,by go_num,rfl,by omega,by omega,by rw[HU.out,if_neg (by omega)];exact rfl,hbel.trans (hb1.mono (by omega))⟩
       case measure=>simp[intOf];omega
     ·obtain rfl:k=l.length:=by omega
      go_wp2_with fail
      go_ret
      exact⟨qej (by rw[←HL.out];simp[Tm.lefts]),hbel'⟩
def qbc (c:Int):Bool:=decide (97≤c∧c≤122) || decide (65≤c∧c≤90) || decide (48≤c∧c≤57) || c==95 || c==35
def qa2 (c:UInt8):Bool:=qbc c.toNat
theorem part_0 (c:Int) (w:World) (h:c≤34):Calls Tryz.prog 163 #[.int .u8 c] w fun e w'=>e=.returned (.bool (qbc c))∧w'=w:=by
 have hp:qbc c=false:=by unfold qbc;simp;omega
 rw[hp];have a0:decide (97≤c)=false:=decide_eq_false (by omega);have a1:decide (c≤122)=true:=decide_eq_true (by omega);have a2:decide (65≤c)=false:=decide_eq_false (by omega);have a3:decide (c≤90)=true:=decide_eq_true (by omega);have a4:decide (48≤c)=false:=decide_eq_false (by omega);have a5:decide (c≤57)=true:=decide_eq_true (by omega);have e0:(c==95)=false:=by simp;omega
 have e1:(c==35)=false:=by simp;omega
 clear hp h;go_enter Tryz.func163,Tryz.ntmps163
 go_wp2_with fail
 go_ret
 exact⟨rfl,rfl⟩
theorem part_35 (c:Int) (w:World) (h:35≤c∧c≤35):Calls Tryz.prog 163 #[.int .u8 c] w fun e w'=>e=.returned (.bool (qbc c))∧w'=w:=by
 have hp:qbc c=true:=by unfold qbc;simp;omega
 rw[hp];have a0:decide (97≤c)=false:=decide_eq_false (by omega);have a1:decide (c≤122)=true:=decide_eq_true (by omega);have a2:decide (65≤c)=false:=decide_eq_false (by omega);have a3:decide (c≤90)=true:=decide_eq_true (by omega);have a4:decide (48≤c)=false:=decide_eq_false (by omega);have a5:decide (c≤57)=true:=decide_eq_true (by omega);have e0:(c==95)=false:=by simp;omega
 have e1:(c==35)=true:=by simp;omega
 clear hp h;go_enter Tryz.func163,Tryz.ntmps163
 go_wp2_with fail
 go_ret
 exact⟨rfl,rfl⟩
theorem part_36 (c:Int) (w:World) (h:36≤c∧c≤47):Calls Tryz.prog 163 #[.int .u8 c] w fun e w'=>e=.returned (.bool (qbc c))∧w'=w:=by
 have hp:qbc c=false:=by unfold qbc;simp;omega
 rw[hp];have a0:decide (97≤c)=false:=decide_eq_false (by omega);have a1:decide (c≤122)=true:=decide_eq_true (by omega);have a2:decide (65≤c)=false:=decide_eq_false (by omega);have a3:decide (c≤90)=true:=decide_eq_true (by omega);have a4:decide (48≤c)=false:=decide_eq_false (by omega);have a5:decide (c≤57)=true:=decide_eq_true (by omega);have e0:(c==95)=false:=by simp;omega
 have e1:(c==35)=false:=by simp;omega
 clear hp h;go_enter Tryz.func163,Tryz.ntmps163
 go_wp2_with fail
 go_ret
 exact⟨rfl,rfl⟩
theorem part_48 (c:Int) (w:World) (h:48≤c∧c≤57):Calls Tryz.prog 163 #[.int .u8 c] w fun e w'=>e=.returned (.bool (qbc c))∧w'=w:=by
 have hp:qbc c=true:=by unfold qbc;simp;omega
 rw[hp];have a0:decide (97≤c)=false:=decide_eq_false (by omega);have a1:decide (c≤122)=true:=decide_eq_true (by omega);have a2:decide (65≤c)=false:=decide_eq_false (by omega);have a3:decide (c≤90)=true:=decide_eq_true (by omega);have a4:decide (48≤c)=true:=decide_eq_true (by omega);have a5:decide (c≤57)=true:=decide_eq_true (by omega);have e0:(c==95)=false:=by simp;omega
 have e1:(c==35)=false:=by simp;omega
 clear hp h;go_enter Tryz.func163,Tryz.ntmps163
 go_wp2_with fail
 go_ret
 exact⟨rfl,rfl⟩
theorem part_58 (c:Int) (w:World) (h:58≤c∧c≤64):Calls Tryz.prog 163 #[.int .u8 c] w fun e w'=>e=.returned (.bool (qbc c))∧w'=w:=by
 have hp:qbc c=false:=by unfold qbc;simp;omega
 rw[hp];have a0:decide (97≤c)=false:=decide_eq_false (by omega);have a1:decide (c≤122)=true:=decide_eq_true (by omega);have a2:decide (65≤c)=false:=decide_eq_false (by omega);have a3:decide (c≤90)=true:=decide_eq_true (by omega);have a4:decide (48≤c)=true:=decide_eq_true (by omega);have a5:decide (c≤57)=false:=decide_eq_false (by omega);have e0:(c==95)=false:=by simp;omega
 have e1:(c==35)=false:=by simp;omega
 clear hp h;go_enter Tryz.func163,Tryz.ntmps163
 go_wp2_with fail
 go_ret
 exact⟨rfl,rfl⟩
theorem part_65 (c:Int) (w:World) (h:65≤c∧c≤90):Calls Tryz.prog 163 #[.int .u8 c] w fun e w'=>e=.returned (.bool (qbc c))∧w'=w:=by
 have hp:qbc c=true:=by unfold qbc;simp;omega
 rw[hp];have a0:decide (97≤c)=false:=decide_eq_false (by omega);have a1:decide (c≤122)=true:=decide_eq_true (by omega);have a2:decide (65≤c)=true:=decide_eq_true (by omega);have a3:decide (c≤90)=true:=decide_eq_true (by omega);have a4:decide (48≤c)=true:=decide_eq_true (by omega);have a5:decide (c≤57)=false:=decide_eq_false (by omega);have e0:(c==95)=false:=by simp;omega
 have e1:(c==35)=false:=by simp;omega
 clear hp h;go_enter Tryz.func163,Tryz.ntmps163
 go_wp2_with fail
 go_ret
 exact⟨rfl,rfl⟩
theorem part_91 (c:Int) (w:World) (h:91≤c∧c≤94):Calls Tryz.prog 163 #[.int .u8 c] w fun e w'=>e=.returned (.bool (qbc c))∧w'=w:=by
 have hp:qbc c=false:=by unfold qbc;simp;omega
 rw[hp];have a0:decide (97≤c)=false:=decide_eq_false (by omega);have a1:decide (c≤122)=true:=decide_eq_true (by omega);have a2:decide (65≤c)=true:=decide_eq_true (by omega);have a3:decide (c≤90)=false:=decide_eq_false (by omega);have a4:decide (48≤c)=true:=decide_eq_true (by omega);have a5:decide (c≤57)=false:=decide_eq_false (by omega);have e0:(c==95)=false:=by simp;omega
 have e1:(c==35)=false:=by simp;omega
 clear hp h;go_enter Tryz.func163,Tryz.ntmps163
 go_wp2_with fail
 go_ret
 exact⟨rfl,rfl⟩
theorem part_95 (c:Int) (w:World) (h:95≤c∧c≤95):Calls Tryz.prog 163 #[.int .u8 c] w fun e w'=>e=.returned (.bool (qbc c))∧w'=w:=by
 have hp:qbc c=true:=by unfold qbc;simp;omega
 rw[hp];have a0:decide (97≤c)=false:=decide_eq_false (by omega);have a1:decide (c≤122)=true:=decide_eq_true (by omega);have a2:decide (65≤c)=true:=decide_eq_true (by omega);have a3:decide (c≤90)=false:=decide_eq_false (by omega);have a4:decide (48≤c)=true:=decide_eq_true (by omega);have a5:decide (c≤57)=false:=decide_eq_false (by omega);have e0:(c==95)=true:=by simp;omega
 have e1:(c==35)=false:=by simp;omega
 clear hp h;go_enter Tryz.func163,Tryz.ntmps163
 go_wp2_with fail
 go_ret
 exact⟨rfl,rfl⟩
theorem part_96 (c:Int) (w:World) (h:96≤c∧c≤96):Calls Tryz.prog 163 #[.int .u8 c] w fun e w'=>e=.returned (.bool (qbc c))∧w'=w:=by
 have hp:qbc c=false:=by unfold qbc;simp;omega
 rw[hp];have a0:decide (97≤c)=false:=decide_eq_false (by omega);have a1:decide (c≤122)=true:=decide_eq_true (by omega);have a2:decide (65≤c)=true:=decide_eq_true (by omega);have a3:decide (c≤90)=false:=decide_eq_false (by omega);have a4:decide (48≤c)=true:=decide_eq_true (by omega);have a5:decide (c≤57)=false:=decide_eq_false (by omega);have e0:(c==95)=false:=by simp;omega
 have e1:(c==35)=false:=by simp;omega
 clear hp h;go_enter Tryz.func163,Tryz.ntmps163
 go_wp2_with fail
 go_ret
 exact⟨rfl,rfl⟩
theorem part_97 (c:Int) (w:World) (h:97≤c∧c≤122):Calls Tryz.prog 163 #[.int .u8 c] w fun e w'=>e=.returned (.bool (qbc c))∧w'=w:=by
 have hp:qbc c=true:=by unfold qbc;simp;omega
 rw[hp];have a0:decide (97≤c)=true:=decide_eq_true (by omega);have a1:decide (c≤122)=true:=decide_eq_true (by omega);have a2:decide (65≤c)=true:=decide_eq_true (by omega);have a3:decide (c≤90)=false:=decide_eq_false (by omega);have a4:decide (48≤c)=true:=decide_eq_true (by omega);have a5:decide (c≤57)=false:=decide_eq_false (by omega);have e0:(c==95)=false:=by simp;omega
 have e1:(c==35)=false:=by simp;omega
 clear hp h;go_enter Tryz.func163,Tryz.ntmps163
 go_wp2_with fail
 go_ret
 exact⟨rfl,rfl⟩
theorem part_123 (c:Int) (w:World) (h:123≤c):Calls Tryz.prog 163 #[.int .u8 c] w fun e w'=>e=.returned (.bool (qbc c))∧w'=w:=by
 have hp:qbc c=false:=by unfold qbc;simp;omega
 rw[hp];have a0:decide (97≤c)=true:=decide_eq_true (by omega);have a1:decide (c≤122)=false:=decide_eq_false (by omega);have a2:decide (65≤c)=true:=decide_eq_true (by omega);have a3:decide (c≤90)=false:=decide_eq_false (by omega);have a4:decide (48≤c)=true:=decide_eq_true (by omega);have a5:decide (c≤57)=false:=decide_eq_false (by omega);have e0:(c==95)=false:=by simp;omega
 have e1:(c==35)=false:=by simp;omega
 clear hp h;go_enter Tryz.func163,Tryz.ntmps163
 go_wp2_with fail
 go_ret
 exact⟨rfl,rfl⟩
theorem part_any (c:Int) (w:World):Calls Tryz.prog 163 #[.int .u8 c] w fun e w'=>e=.returned (.bool (qbc c))∧w'=w:=by
 by_cases h0:c≤34
 ·exact part_0 c w h0
 by_cases h35:c≤35
 ·exact part_35 c w (by omega)
 by_cases h36:c≤47
 ·exact part_36 c w (by omega)
 by_cases h48:c≤57
 ·exact part_48 c w (by omega)
 by_cases h58:c≤64
 ·exact part_58 c w (by omega)
 by_cases h65:c≤90
 ·exact part_65 c w (by omega)
 by_cases h91:c≤94
 ·exact part_91 c w (by omega)
 by_cases h95:c≤95
 ·exact part_95 c w (by omega)
 by_cases h96:c≤96
 ·exact part_96 c w (by omega)
 by_cases h97:c≤122
 ·exact part_97 c w (by omega)
 exact part_123 c w (by omega)
def qbl (c:Int):Bool:=decide (97≤c∧c≤122) || decide (65≤c∧c≤90)
def qlm (c:UInt8):Bool:=qbl c.toNat
def qbg (l:List UInt8):Bool:=decide (l.length≤24) && (match l with|[]=>false|b::_=>qlm b) && l.all qa2
theorem qak (s:ByteArray):s.size=s.data.toList.length:=(Array.length_toList (xs:=s.data)).symm
theorem qbj {l:List UInt8} (h:24<l.length∨l=[]∨(∃h:0<l.length,qlm l[0]=false)∨∃b∈l,qa2 b=false):qbg l=false:=by
 unfold qbg;rcases h with h|h|⟨h0,h⟩|⟨b,hb,h⟩
 ·rw[decide_eq_false (by omega)];rfl
 ·subst h;simp
 ·match l,h0,h with
  | b::r,_,h=>simp only[List.getElem_cons_zero]at h;simp[h]
 ·have:l.all qa2=false:=by
   rw[Bool.eq_false_iff];intro h2;have:=List.all_eq_true.1 h2 b hb;rw[h]at this;cases this
  rw[this,Bool.and_false]
theorem qjq {l:List UInt8} (h1:l.length≤24) (h0:0<l.length) (h:qlm l[0]=true) (h2:∀k,(h:k<l.length)→qa2 l[k]=true):qbg l=true:=by
 unfold qbg;have:l.all qa2=true:=by
  rw[List.all_eq_true];intro b hb;obtain⟨k,hk,rfl⟩:=List.getElem_of_mem hb;exact h2 k hk
 rw[this,decide_eq_true h1]
 match l,h0,h with
 | b::r,_,h=>simp only[List.getElem_cons_zero]at h;simp[h]
theorem start_of {c:Int} (h:qbc c=true) (h1:¬(48≤c∧c≤57)) (h2:c≠95) (h3:c≠35):qbl c=true:=by
 unfold qbc at h;unfold qbl;simp only[Bool.or_eq_true,decide_eq_true_eq,beq_iff_eq]at h ⊢;omega
theorem qgc {c:Int} (h:qbc c=false∨(48≤c∧c≤57)∨c=95∨c=35):qbl c=false:=by
 unfold qbc at h;unfold qbl;rw[Bool.eq_false_iff];intro hc;simp only[Bool.or_eq_true,decide_eq_true_eq]at hc;rcases h with h|h|h|h
 ·simp only[Bool.or_eq_false_iff,decide_eq_false_iff_not]at h;omega
 all_goals omega
theorem qjv (s:ByteArray) (w:World) (hs:s.size≤maxLen):Calls Tryz.prog 127 #[.string s] w fun e w'=>e=.returned (.bool (qbg s.data.toList))∧w'=w:=by
 obtain⟨l,hl⟩:∃l,l=s.data.toList:=⟨_,rfl⟩;have hsz:s.size=l.length:=by rw[hl];exact qak s
 have hat:∀k,(h:k<l.length)→∃h':k<s.size,s[k]=l[k]:=fun k h=>⟨by omega,by subst hl;rfl⟩;have hE:s.toList.isEmpty=l.isEmpty:=by rw[ByteArray.toList_eq,hl]
 rw[←hl];clear hl;have PA:=hdzz part_any;have HAT:=hdzz hat;clear hat;unfold maxLen at hs;obtain⟨r,hr⟩:∃r,r=qbg l:=⟨_,rfl⟩;rw[←hr];have HRR:=hdzz hr;clear hr;by_cases h0:l=[]
 ·have e:r=false:=by rw[HRR.out];exact qbj (.inr (.inl h0))
  subst e;have hE':s.toList.isEmpty=true:=by rw[hE,h0];rfl
  clear hE hsz h0 HAT HRR;go_enter Tryz.func127,Tryz.ntmps127
  go_wp2_with fail
  go_ret
  exact⟨rfl,rfl⟩
 ·have hpos:0<l.length:=List.length_pos_iff.2 h0;have hE':s.toList.isEmpty=false:=by rw[hE];simpa using h0
  obtain⟨hps,hb0⟩:=HAT.out 0 hpos;clear hE;by_cases h24:24<l.length
  ·have e:r=false:=by rw[HRR.out];exact qbj (.inl h24)
   subst e;clear HAT HRR;have hd:decide (24<(l.length:Int))=true:=decide_eq_true (by omega);go_enter Tryz.func127,Tryz.ntmps127
   go_wp2_with fail
   go_ret
   exact⟨rfl,rfl⟩
  ·have hd:decide (24<(l.length:Int))=false:=decide_eq_false (by omega);obtain⟨b0,hb⟩:∃b0,b0=l[0]:=⟨_,rfl⟩;rw[←hb]at hb0;have HB:=hdzz hb;clear hb;by_cases hp:qbc (b0.toNat:Int)=false
   ·have e:r=false:=by rw[HRR.out];exact qbj (.inr (.inr (.inl ⟨hpos,by rw[←HB.out];exact qgc (.inl hp)⟩)))
    subst e;clear HAT HRR;go_enter Tryz.func127,Tryz.ntmps127
    go_wp2_with (go_at_call 163;refine(PA.out _ _).mono ?_;rintro e w1 ⟨rfl,rfl⟩)
    go_ret
    exact⟨rfl,rfl⟩
   ·have hp':qbc (b0.toNat:Int)=true:=by simpa using hp
    clear hp;have hcase:(48≤(b0.toNat:Int)∧(b0.toNat:Int)≤57)∨(b0.toNat:Int)=95∨(b0.toNat:Int)=35∨(¬(48≤(b0.toNat:Int)∧(b0.toNat:Int)≤57)∧(b0.toNat:Int)≠95∧(b0.toNat:Int)≠35):=by omega
    rcases hcase with hc|hc|hc|⟨hc1,hc2,hc3⟩
    ·have e:r=false:=by rw[HRR.out];exact qbj (.inr (.inr (.inl ⟨hpos,by rw[←HB.out];exact qgc (.inr (.inl hc))⟩)))
     subst e;have d1:decide (48≤(b0.toNat:Int))=true:=decide_eq_true hc.1;have d2:decide ((b0.toNat:Int)≤57)=true:=decide_eq_true hc.2;clear HAT HRR;go_enter Tryz.func127,Tryz.ntmps127
     go_wp2_with (go_at_call 163;refine(PA.out _ _).mono ?_;rintro e w1 ⟨rfl,rfl⟩)
     go_ret
     exact⟨rfl,rfl⟩
    ·have e:r=false:=by rw[HRR.out];exact qbj (.inr (.inr (.inl ⟨hpos,by rw[←HB.out];exact qgc (.inr (.inr (.inl hc)))⟩)))
     subst e;have d1:decide (48≤(b0.toNat:Int))=true:=decide_eq_true (by omega);have d2:decide ((b0.toNat:Int)≤57)=false:=decide_eq_false (by omega);have d3:((b0.toNat:Int)==95)=true:=by simpa using hc
     clear HAT HRR;go_enter Tryz.func127,Tryz.ntmps127
     go_wp2_with (go_at_call 163;refine(PA.out _ _).mono ?_;rintro e w1 ⟨rfl,rfl⟩)
     go_ret
     exact⟨rfl,rfl⟩
    ·have e:r=false:=by rw[HRR.out];exact qbj (.inr (.inr (.inl ⟨hpos,by rw[←HB.out];exact qgc (.inr (.inr (.inr hc)))⟩)))
     subst e;have d1:decide (48≤(b0.toNat:Int))=false:=decide_eq_false (by omega);have d3:((b0.toNat:Int)==95)=false:=by simp;omega
     have d4:((b0.toNat:Int)==35)=true:=by simpa using hc
     clear HAT HRR;go_enter Tryz.func127,Tryz.ntmps127
     go_wp2_with (go_at_call 163;refine(PA.out _ _).mono ?_;rintro e w1 ⟨rfl,rfl⟩)
     go_ret
     exact⟨rfl,rfl⟩
    ·have d3:((b0.toNat:Int)==95)=false:=by simpa using hc2
     have d4:((b0.toNat:Int)==35)=false:=by simpa using hc3
     have HST:=hdzz (start_of hp' hc1 hc2 hc3);have hcc:(48≤(b0.toNat:Int)∧57<(b0.toNat:Int))∨(b0.toNat:Int)<48:=by omega
     clear hc1 hc2 hc3;have hdd:(decide (48≤(b0.toNat:Int))=true∧decide ((b0.toNat:Int)≤57)=false)∨decide (48≤(b0.toNat:Int))=false:=by
      rcases hcc with h|h
      ·exact .inl ⟨decide_eq_true h.1,decide_eq_false (by omega)⟩
      ·exact .inr (decide_eq_false (by omega))
     clear hcc;go_enter Tryz.func127,Tryz.ntmps127
     rcases hdd with⟨d1,d2⟩|d1
     all_goals
      go_wp2_with (go_at_call 163;refine(PA.out _ _).mono ?_;rintro e w1 ⟨rfl,rfl⟩)
      go_loopw [39] (fun i wr=>∃k:Nat,k≤l.length∧i=.int .i64 k∧Hid (∀j,(h:j<l.length)→j<k→qa2 l[j]=true)∧wr=w1) (fun i _=>l.length - (intOf i).toNat)
      case atStart=>exact⟨0,Nat.zero_le _,rfl,fun j _ h=>absurd h (Nat.not_lt_zero j),rfl⟩
      case round=>
       obtain⟨k,hk,rfl,HK,rfl⟩:=hrel;by_cases hlt:k<l.length
       ·obtain⟨hks,hbk⟩:=HAT.out k hlt;obtain⟨bk,hbk'⟩:∃bk,bk=l[k]:=⟨_,rfl⟩;rw[←hbk']at hbk;have HBK:=hdzz hbk';clear hbk';by_cases hpk:qbc (bk.toNat:Int)=true
        ·go_wp2_with (go_at_call 163;refine(PA.out _ _).mono ?_;rintro e w1 ⟨rfl,rfl⟩)
         go_roundw
         case rel=>
          refine⟨k+1,by omega,by go_num,fun j hj hjk=>?_,trivial⟩;by_cases e:j=k
          ·subst e;rw[←HBK.out];exact hpk
          ·exact HK.out j hj (by omega)
         case measure=>simp[intOf];omega
        ·have hpk':qbc (bk.toNat:Int)=false:=by simpa using hpk
         have hr0:=hdzz (HRR.out.trans (qbj (l:=l) (.inr (.inr (.inr ⟨l[k],List.getElem_mem _,by rw[←HBK.out];exact hpk'⟩)))));go_wp2_with (go_at_call 163;refine(PA.out _ _).mono ?_;rintro e w1 ⟨rfl,rfl⟩)
         go_ret
         exact⟨by rw[hr0.out];rfl,rfl⟩
       ·obtain rfl:k=l.length:=by omega
        have hr1:=hdzz (HRR.out.trans (qjq (l:=l) (by omega) hpos (by rw[←HB.out];exact HST.out) (fun j hj=>HK.out j hj hj)));go_wp2_with fail
        go_ret
        exact⟨by rw[hr1.out];rfl,rfl⟩
end Go.Proofs.YtjhjoiplpmjepaaGreat
