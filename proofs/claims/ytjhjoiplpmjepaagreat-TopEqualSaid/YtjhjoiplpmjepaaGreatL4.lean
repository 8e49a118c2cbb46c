/- Gd, Gh, Tsum, Tprod, Trow, Tins, Umix (joined by shake.py). -/
import Derived.Test.YtjhjoiplpmjepaaGreatL0
import Derived.Test.YtjhjoiplpmjepaaGreatShl
import Derived.Test.YtjhjoiplpmjepaaGreatSrt
import Derived.Test.YtjhjoiplpmjepaaGreatL1
import Derived.Test.YtjhjoiplpmjepaaGreatL2
import Derived.Test.YtjhjoiplpmjepaaGreatL3
import Derived.Lib.SlicesS
import Derived.Shelf.SlSortCmp.NoneTotal
import Derived.WalkSpells
import Derived.Lib.Hide
set_option linter.unusedVariables false
set_option linter.unusedSimpArgs false
namespace Go.Proofs.YtjhjoiplpmjepaaGreat
open Go.RowKit Go.Sort
open Go.RowKit Go.Sort
open Go.RowKit Go.Sort
open Go.RowKit Go.Sort
open Go.RowKit Go.Sort
open Go.RowKit Go.Sort
structure Moves (pb:Nat) (w w':World):Prop where
 size:w.heap.size≤w'.heap.size
 same:∀b,b<w.heap.size→b≠pb→w'.heap[b]?=w.heap[b]?
 os:w'.os=w.os
 tape:w'.tape=w.tape
 output:w'.output=w.output
theorem Moves.refl (pb:Nat) (w:World):Moves pb w w:=⟨Nat.le_refl _,fun _ _ _=>rfl,rfl,rfl,rfl⟩
theorem Moves.trans {pb:Nat} {a b c:World} (h:Moves pb a b) (k:Moves pb b c):Moves pb a c:=
 ⟨Nat.le_trans h.size k.size,fun x hx h1=>(k.same x (Nat.lt_of_lt_of_le hx h.size) h1).trans (h.same x hx h1),k.os.trans h.os,k.tape.trans h.tape,k.output.trans h.output⟩
theorem Moves.set {pb o:Nat} (w:World) (v:Value):Moves pb w (w.setCell ⟨pb,o,none⟩ v):=
 ⟨by simp[World.setCell],fun b _ hne=>Below.heap_setCell _ _ _ _ (by exact hne),rfl,rfl,rfl⟩
theorem qev (s:ByteArray) (i j:Nat):(s.extract i j).data.toList=(s.data.toList.drop i).take (j - i):=by
 rw[ByteArray.data_extract,Array.toList_extract]
theorem qba (s:ByteArray) (i:Nat):(s.extract i s.size).data.toList=s.data.toList.drop i:=by
 rw[qev,List.take_of_length_le];rw[List.length_drop,qaj];exact Nat.le_refl _
theorem qgx:∀(l:List UInt8) (m:Nat),m≤l.length→(∀j,(h:j<l.length)→j<m→qa1 l[j]=true)→(∀h:m<l.length,qa1 l[m]=false)→l.takeWhile qa1=l.take m∧l.dropWhile qa1=l.drop m
 | [],m,_,_,_=>by simp
 | b::l,0,_,_,h=>by
  have:=h (by simp);simp only[List.getElem_cons_zero]at this;simp[this]
 | b::l,m+1,hm,h1,h2=>by
  have hb:=h1 0 (by simp) (by omega);simp only[List.getElem_cons_zero]at hb;have ih:=qgx l m (by simpa using hm) (fun j hj hjm=>by have:=h1 (j+1) (by simpa using hj) (by omega);simpa using this) (fun h=>by have:=h2 (by simpa using h);simpa using this);rw[List.takeWhile_cons_of_pos hb,List.dropWhile_cons_of_pos hb,ih.1,ih.2];simp
def wlen (l:List UInt8):Nat:=(l.takeWhile qa1).length
def qfp:List ByteArray:=[⟨#[97,110,121]⟩,⟨#[97,103,101,110,116]⟩,⟨#[110,111,110,99,101]⟩,⟨#[107,101,121]⟩,⟨#[100,97,116,97]⟩,⟨#[116,97,103]⟩]
def qjv (B:Nat) (w:World):Prop:=∃wb wo c,0<B∧wb<B∧w.cell? ⟨0,0,none⟩=some (.slice (some ⟨wb,wo,none⟩) 6 c)∧∀j,j<6→w.cell? ⟨wb,wo+j,none⟩=some (.string (qfp.getD j ByteArray.empty))
theorem qjv.keep {B:Nat} {w w':World} (h:qjv B w) (hb:∀b,b<B→w'.heap[b]?=w.heap[b]?):qjv B w':=by
 obtain⟨wb,wo,c,h0,h1,h2,h3⟩:=h;exact⟨wb,wo,c,h0,h1,by rw[World.cell?_of_block (hb _ h0)];exact h2,fun j hj=>by rw[World.cell?_of_block (hb _ h1)];exact h3 j hj⟩
theorem qjv.up {B B':Nat} {w:World} (h:qjv B w) (hb:B≤B'):qjv B' w:=by
 obtain⟨wb,wo,c,h0,h1,h⟩:=h;exact⟨wb,wo,c,by omega,by omega,h⟩
def qdw (l:List UInt8):Int:=Lib.idxOfS qfp ⟨l.toArray⟩
def qea (least:Int):List UInt8→Int×Bool×Nat
 | 58::r=>(qdw (r.takeWhile qa1),decide (least≤qdw (r.takeWhile qa1)),1+wlen r)
 | _=>(0,false,0)
theorem qfi (least:Int) (r:List UInt8):qea least (58::r)=(qdw (r.takeWhile qa1),decide (least≤qdw (r.takeWhile qa1)),1+wlen r):=rfl
theorem ql7 (least:Int) (l:List UInt8) (h:Lib.hasPrefix l [58]=false):qea least l=(0,false,0):=by
 unfold qea
 split
 ·simp[Lib.hasPrefix]at h
 ·rfl
theorem qg2 {l:List UInt8} (h:Lib.hasPrefix l [58]=true):∃r,l=58::r:=by
 match l,h with
 | [],h=>simp[Lib.hasPrefix]at h
 | b::r,h=>simp[Lib.hasPrefix]at h;exact⟨r,by rw[h]⟩
theorem qdm (x:ByteArray):x=⟨x.data.toList.toArray⟩:=by cases x;simp
mutual
def pterm:Nat→List UInt8→Option (Tm×List UInt8)
 | 0,_=>none
 | n+1,l=>
  if qbf ((if Lib.hasPrefix l [63]then l.drop 1 else l).takeWhile qa1)=false then none
  else if Lib.hasPrefix l [63]=true then pvar ⟨((l.drop 1).takeWhile qa1).toArray⟩ ((l.drop 1).drop (wlen (l.drop 1)))
  else if Lib.hasPrefix (l.drop (wlen l)) [40]=false then qhu ⟨(l.takeWhile qa1).toArray⟩ (l.drop (wlen l))
  else pkids n ⟨(l.takeWhile qa1).toArray⟩ [] ((l.drop (wlen l)).drop 1)
def pvar (w:ByteArray) (l:List UInt8):Option (Tm×List UInt8):=
 if Lib.hasPrefix l [58]=true then (if (qea 1 l).2.1=true then some (.mk 1 w (qea 1 l).1 [],l.drop (qea 1 l).2.2)else none)else some (.mk 1 w 0 [],l)
def qhu (w:ByteArray) (l:List UInt8):Option (Tm×List UInt8):=
 if (qea 0 l).2.1=true then some (.mk 2 w (qea 0 l).1 [],l.drop (qea 0 l).2.2)else none
def pkids:Nat→ByteArray→List Tm→List UInt8→Option (Tm×List UInt8)
 | 0,_,_,_=>none
 | n+1,w,acc,l=>
  if Lib.hasPrefix l [41]=true then some (.mk 3 w 0 acc,l.drop 1)
  else if acc≠[]∧Lib.hasPrefix l [44,32]=false then none
  else match pterm n (if acc≠[]then l.drop 2 else l)with
   | none=>none
   | some (k,r)=>pkids n w (acc++[k]) r
end
theorem qe3 {w:World} {P:Nat→Prop} (k so:Int) (x:ByteArray) (hx:x.size≤maxLen):RepP w P (.mk k x so []) none 0:=by
 rw[RepP_mk];exact⟨hx,Nat.le_refl _,Nat.zero_le _,.inl rfl⟩
theorem qfr {l:List UInt8} (h:qbf (l.takeWhile qa1)=true):0<wlen l:=by
 unfold wlen
 cases e:l.takeWhile qa1 with
 | nil=>rw[e]at h;simp[qbf]at h
 | cons _ _=>simp
theorem RowT.grow1 {w:World} {base:Nat} {F:Nat→Prop} {v:Value} {its:List It} (hrow:RowT w base F v its) (hbase:base≤w.heap.size) (X:It) (B c:Nat) (fr:Nat×Nat) (hB:w.heap[B]?=some (.cells (X.1.cells X.2.1 X.2.2).toArray 24 fr))
  (hX:RepP w (fun b=>F b∧b<w.heap.size∧v.ownBlock≠some b) X.1 X.2.1 X.2.2) (hlen:its.length+1≤100000000) :
  ∃g cap w',(∀ty,(Builtin.append_ #[22,22] ty #[v,.slice (some ⟨B,0,none⟩) 1 c]).run Tryz.prog w=.ok (.slice (some ⟨g,0,none⟩) (its.length+1) cap) w')∧
   RowT w' base F (.slice (some ⟨g,0,none⟩) (its.length+1) cap) (its++[X])∧w.grownBy w' v.ownBlock∧base≤g:=by
 obtain⟨i0,hi0,hz0,hz1,hz2⟩:=info_parts qcv;obtain⟨g,cap,w',h1,h2,h3,h4,_⟩:=run_append_lies (P:=Tryz.prog) w 22 0 base 24 i0 _ 4 56 Tryz.underlying22 hi0 hz0 hz1 hz2 rfl (by omega) v its.length (itCells its) hrow.own ⟨B,0,none⟩ 1 c (X.1.cells X.2.1 X.2.2) rfl
  (fun j u hu=>World.news_of_block hB j u (by simpa using hu)) (fun u hu=>qb8 [X] u (by simpa[itCells]using hu)) (by omega) (by unfold maxLen;omega) (by omega) hbase w.heap.size rfl
 have hR:=qf1 hrow hX h2 h3 h4;exact⟨g,cap,w',fun ty=>h1,hR,h3,(hR.lt g rfl).1⟩
def nextKid (n:Nat) (w:ByteArray) (acc:List Tm):Option (Tm×List UInt8)→Option (Tm×List UInt8)
 | none=>none
 | some (k,r)=>pkids n w (acc++[k]) r
theorem qiu (n:Nat) (w:ByteArray) (acc:List Tm) (l:List UInt8) (h1:Lib.hasPrefix l [41]=false) (h2:acc=[]∨Lib.hasPrefix l [44,32]=true) :
  pkids (n+1) w acc l=nextKid n w acc (pterm n (if acc≠[]then l.drop 2 else l)):=by
 rw[pkids,if_neg (by rw[h1];simp),if_neg (by rcases h2 with h|h<;>simp[h])];unfold nextKid;rcases pterm n (if acc≠[]then l.drop 2 else l)with _|⟨k,r⟩<;>rfl
theorem qit (n:Nat) (w:ByteArray) (acc:List Tm) (l:List UInt8) (h1:Lib.hasPrefix l [41]=false) (h2:acc≠[]) (h3:Lib.hasPrefix l [44,32]=false):pkids (n+1) w acc l=none:=by
 rw[pkids,if_neg (by rw[h1];simp),if_pos ⟨h2,h3⟩]
theorem qeq:∀a b:List Tm,Tm.sizes (a++b)=Tm.sizes a+Tm.sizes b
 | [],b=>by simp[Tm.sizes]
 | t::a,b=>by simp only[List.cons_append,Tm.sizes,qeq a b];omega
theorem qdn (l:List UInt8):wlen l≤l.length:=(List.takeWhile_prefix _).length_le
theorem psize:∀n,(∀l t r,pterm n l=some (t,r)→t.size+r.length≤l.length)∧(∀w acc l t r,pkids n w acc l=some (t,r)→t.size+r.length≤1+Tm.sizes acc+l.length)
 | 0=>⟨fun l t r h=>by simp[pterm]at h,fun w acc l t r h=>by simp[pkids]at h⟩
 | n+1=>by
  obtain⟨ih1,ih2⟩:=psize n;have leaf:∀(k:Int) (x:ByteArray) (so:Int),(Tm.mk k x so []).size=1:=fun k x so=>by simp[Tm.size,Tm.sizes]
  constructor
  ·intro l t r h;rw[pterm]at h;by_cases hv:Lib.hasPrefix l [63]=true
   ·rw[if_pos hv]at h;by_cases hn:qbf ((l.drop 1).takeWhile qa1)=false
    ·rw[if_pos hn]at h;cases h
    ·rw[if_neg hn,if_pos hv]at h;have hw:=qfr (l:=l.drop 1) (by simpa using hn);have hle:=qdn (l.drop 1);rw[List.length_drop]at hle;unfold pvar at h
     split at h
     ·split at h
      ·injection h with h;injection h with h1 h2;subst h1 h2;rw[leaf];simp only[List.length_drop];omega
      ·cases h
     ·injection h with h;injection h with h1 h2;subst h1 h2;rw[leaf];simp only[List.length_drop];omega
   ·rw[if_neg hv]at h;by_cases hn:qbf (l.takeWhile qa1)=false
    ·rw[if_pos hn]at h;cases h
    ·rw[if_neg hn,if_neg hv]at h;have hw:=qfr (l:=l) (by simpa using hn);have hle:=qdn l;by_cases hp:Lib.hasPrefix (l.drop (wlen l)) [40]=false
     ·rw[if_pos hp]at h;unfold qhu at h
      split at h
      ·injection h with h;injection h with h1 h2;subst h1 h2;rw[leaf];simp only[List.length_drop];omega
      ·cases h
     ·rw[if_neg hp]at h;have hp':Lib.hasPrefix (l.drop (wlen l)) [40]=true:=by simpa using hp
      have hne:0<(l.drop (wlen l)).length:=by
       cases e:l.drop (wlen l)with
       | nil=>rw[e]at hp';simp[Lib.hasPrefix]at hp'
       | cons _ _=>simp
      have:=ih2 _ _ _ _ _ h;simp only[List.length_drop,Tm.sizes]at this hne;omega
  ·intro w acc l t r h;rw[pkids]at h
   split at h
   ·injection h with h;injection h with h1 h2;subst h1 h2;rw[Tm.size];simp only[List.length_drop];omega
   ·split at h
    ·cases h
    ·split at h
     ·cases h
     ·rename_i k r' hk
      have h1:=ih1 _ _ _ hk;have h2:=ih2 _ _ _ _ _ h;rw[qeq]at h2;have hle:(if acc≠[]then l.drop 2 else l).length≤l.length:=by split<;>simp
      simp only[Tm.sizes]at h2;omega
def qd4 (l:List UInt8):Tm×Int:=
 match pterm (2*l.length+1) l with
 | some (t,[])=>if t.valid=0 then (t,0)else (.mk 0 ⟨#[]⟩ 0 [],t.valid)
 | _=>(.mk 0 ⟨#[]⟩ 0 [],2)
def qh9 (l:List UInt8) (w:World) (e:Ending) (w':World):Prop:=
 ∃A cap,e=.returned (.tuple #[(qd4 l).1.val A cap,.int .i64 (qd4 l).2])∧RepP w' (fun b=>w.heap.size≤b∧b<w'.heap.size) (qd4 l).1 A cap∧Below w.heap.size w w'
end Go.Proofs.YtjhjoiplpmjepaaGreat
namespace Go.Proofs.YtjhjoiplpmjepaaGreat
open Go.RowKit Go.Sort
open Go.RowKit
open Go.RowKit
open Go.RowKit
open Go.RowKit Go.Sort
open Go.RowKit
open Go.RowKit
open Go.RowKit Go.Sort
open Go.RowKit Go.Sort
open Go.RowKit Go.Sort
open Go.RowKit Go.Sort
theorem Tm.lt_trans {a b c:Tm} (h:a.cmp b<0) (k:b.cmp c<0):a.cmp c<0:=(Tm.cmp_tri a b c).2.1 h (by omega)
theorem Tm.le_trans {a b c:Tm} (h:a.cmp b≤0) (k:b.cmp c≤0):a.cmp c≤0:=(Tm.cmp_tri a b c).1 h k
theorem Tm.lt_asymm {a b:Tm} (h:a.cmp b<0) (k:b.cmp a<0):False:=by have:=Tm.cmp_neg a b;omega
def Asc (l:List Tm):Prop:=l.Pairwise fun a b=>a.cmp b<0
theorem qd8:∀{a b:List Tm},Asc a→Asc b→(∀t,t∈a↔t∈b)→a=b
 | [],[],_,_,_=>rfl
 | [],y::b,_,_,h=>by have:=(h y).2 (by simp);simp at this
 | x::a,[],_,_,h=>by have:=(h x).1 (by simp);simp at this
 | x::a,y::b,ha,hb,h=>by
  have ha':=List.pairwise_cons.1 ha;have hb':=List.pairwise_cons.1 hb;have hxy:x=y:=by
   have h1:=(h x).1 (by simp);have h2:=(h y).2 (by simp);simp only[List.mem_cons]at h1 h2;rcases h1 with e|h1
   ·exact e
   ·rcases h2 with e|h2
    ·exact e.symm
    ·exact absurd (Tm.lt_asymm (ha'.1 y h2) (hb'.1 x h1)) (fun h=>h)
  subst hxy
  congr 1
  refine qd8 ha'.2 hb'.2 fun t=>⟨fun ht=>?_,fun ht=>?_⟩
  ·have:=(h t).1 (List.mem_cons_of_mem _ ht);rcases List.mem_cons.1 this with e|h'
   ·subst e;have:=ha'.1 t ht;rw[Tm.cmp_self]at this;omega
   ·exact h'
  ·have:=(h t).2 (List.mem_cons_of_mem _ ht);rcases List.mem_cons.1 this with e|h'
   ·subst e;have:=hb'.1 t ht;rw[Tm.cmp_self]at this;omega
   ·exact h'
def Tm.add (t:Tm):List Tm→List Tm
 | []=>[t]
 | x::r=>if t.cmp x<0 then t::x::r else if t.cmp x=0 then x::r else x::Tm.add t r
theorem Tm.mem_add (t:Tm):∀(l:List Tm) (u:Tm),u∈Tm.add t l↔u=t∨u∈l
 | [],u=>by simp[Tm.add]
 | x::r,u=>by
  rw[Tm.add]
  split
  ·simp
  ·split
   ·rename_i h;have:=Tm.cmp_zero.1 h;subst this;simp
   ·rw[List.mem_cons,Tm.mem_add t r u,List.mem_cons];constructor
    ·rintro(h|h|h)
     ·exact .inr (.inl h)
     ·exact .inl h
     ·exact .inr (.inr h)
    ·rintro(h|h|h)
     ·exact .inr (.inl h)
     ·exact .inl h
     ·exact .inr (.inr h)
theorem Tm.add_asc (t:Tm):∀(l:List Tm),Asc l→Asc (Tm.add t l)
 | [],_=>by simp[Tm.add,Asc]
 | x::r,h=>by
  have h':=List.pairwise_cons.1 h;rw[Tm.add]
  split
  ·rename_i hlt
   refine List.pairwise_cons.2 ⟨fun u hu=>?_,h⟩;rcases List.mem_cons.1 hu with rfl|hu
   ·exact hlt
   ·exact Tm.lt_trans hlt (h'.1 u hu)
  ·split
   ·exact h
   ·refine List.pairwise_cons.2 ⟨fun u hu=>?_,Tm.add_asc t r h'.2⟩;rcases (Tm.mem_add t r u).1 hu with rfl|hu
    ·have:=Tm.cmp_neg u x;omega
    ·exact h'.1 u hu
theorem Tm.add_length (t:Tm):∀l:List Tm,(Tm.add t l).length≤l.length+1
 | []=>by simp[Tm.add]
 | x::r=>by
  rw[Tm.add]
  split
  ·simp
  ·split
   ·simp
   ·have:=Tm.add_length t r;simp;omega
def Tm.set (l:List Tm):List Tm:=l.foldl (fun a t=>Tm.add t a) []
theorem Tm.set_take (l:List Tm) (k:Nat) (h:k<l.length):Tm.set (l.take (k+1))=Tm.add l[k] (Tm.set (l.take k)):=by
 rw[List.take_succ_eq_append_getElem h,Tm.set,List.foldl_append];rfl
def CloneRel (w:World) (tk:Int) (tn:ByteArray) (ts:Int) (l:List Tm) (k:Nat) (v:Value) (its:List It) (wr:World):Prop:=
 its.map (·.1)=l.take k∧wr.heap[w.heap.size]?=some (.cells #[.int .i64 tk,.string tn,.int .i64 ts,v] 24 (0,0))∧
 wr.heap[w.heap.size+1]?=some (.cells #[.int .i64 0,.string ⟨#[]⟩,.int .i64 0,.slice none 0 0] 24 (0,0))∧
 RowT wr (w.heap.size+2) (fun b=>w.heap.size+2≤b) v its∧Below w.heap.size w wr∧w.heap.size+2≤wr.heap.size
theorem qnk {wr X w1:World} {base:Nat} {v:Value} {its:List It} {t:Tm} {A:Option Addr} {cap:Nat} {o:Obj} (hrow:RowT wr base (fun b=>base≤b) v its)
  (h:RepP w1 (fun b=>X.heap.size≤b∧b<w1.heap.size) t A cap) (hX:wr.heap.size≤X.heap.size) (hb:base≤wr.heap.size) :
  RepP (w1.alloc o) (fun b=>base≤b∧b<(w1.alloc o).heap.size∧v.ownBlock≠some b) t A cap:=by
 refine RepP.mono ?_ ?_ _ _ _ h
 ·rintro b ⟨h1,h2⟩;refine⟨by omega,by simp;omega,fun e=>?_⟩;have:=(hrow.lt b e).2;omega
 ·rintro p ⟨h1,h2⟩;exact World.cell?_of_block (Below.heap_alloc _ _ _ h2)
structure Acc (B0 cb:Nat) (w0 w:World) (its:List It):Prop where
 box:∃v,w.heap[cb]?=some (.cells #[v] 22 (0,0))∧RowT w (cb+1) (fun b=>b<B0) v its
 le:B0≤cb
 lt:cb<w.heap.size
 below:Below B0 w0 w
theorem Acc.keep {B0 cb:Nat} {w0 w w':World} {its:List It} (h:Acc B0 cb w0 w its) (hb:Below w.heap.size w w'):Acc B0 cb w0 w' its:=by
 obtain⟨⟨v,h1,h2⟩,h3,h4,h5⟩:=h;have:=hb.size;exact⟨⟨v,(hb.block cb h4).trans h1,h2.below hb⟩,h3,by omega,h5.trans (hb.mono (by omega))⟩
def ownAt (w:World) (cb:Nat):Option Nat:=(w.cell? ⟨cb,0,none⟩).bind Value.ownBlock
structure Step (cb:Nat) (w w':World):Prop where
 size:w.heap.size≤w'.heap.size
 same:∀b,b<w.heap.size→b≠cb→ownAt w cb≠some b→w'.heap[b]?=w.heap[b]?
 own:ownAt w' cb=ownAt w cb∨∀b,ownAt w' cb=some b→w.heap.size≤b
theorem Step.refl (cb:Nat) (w:World):Step cb w w:=⟨Nat.le_refl _,fun _ _ _ _=>rfl,.inl rfl⟩
theorem Step.trans {cb:Nat} {a b c:World} (h:Step cb a b) (k:Step cb b c):Step cb a c:=by
 refine⟨Nat.le_trans h.size k.size,fun x hx hc ho=>?_,?_⟩
 ·have h1:=h.same x hx hc ho;rw[k.same x (Nat.lt_of_lt_of_le hx h.size) hc ?_,h1];rcases h.own with e|e
  ·rw[e];exact ho
  ·intro e2;have:=e x e2;omega
 ·rcases k.own with e|e
  ·rw[e];exact h.own
  ·exact .inr fun x hx=>Nat.le_trans h.size (e x hx)
mutual
def Tm.all:Tm→List Tm
 | .mk k n s l=>.mk k n s l::Tm.alls l
def Tm.alls:List Tm→List Tm
 | []=>[]
 | t::r=>Tm.all t++Tm.alls r
end
theorem qaw {B:Nat} {w w1 w2:World} {row:Option Nat} (h:Below B w w1) (hB:B≤w1.heap.size) (hg:w1.grownBy w2 row) (hr:∀k,row=some k→B≤k):Below B w w2:=
 ⟨hg.os.trans h.os,hg.tape.trans h.tape,hg.output.trans h.output,Nat.le_trans h.size hg.size,fun b hb=>(hg.block b (by omega) (fun e=>by have:=hr b e.symm;omega)).trans (h.block b hb)⟩
theorem RowT.loosen {w:World} {base base':Nat} {F F':Nat→Prop} {v:Value} {its:List It} (h:RowT w base F v its) (hb:base'≤base) (hF:∀b,F b→F' b):RowT w base' F' v its:=by
 refine⟨⟨h.own.1,?_⟩,fun x hx=>RepP.mono (fun b ⟨h1,h2⟩=>⟨hF b h1,h2⟩) (fun _ _=>rfl) _ _ _ (h.reps x hx)⟩;rcases h.own.2 with h|⟨g,cap,cur,h1,h2,h3⟩
 ·exact .inl h
 ·exact .inr ⟨g,cap,cur,h1,by omega,h3⟩
def qag (t:Tm) (A:Option Addr) (c:Nat):Obj:=.cells #[.int .i64 t.kind,.string t.name,.int .i64 t.sort,.slice A t.kids.length c] 24
def BoxT (V:World) (B:Nat) (t:Tm) (A:Option Addr) (c:Nat):Prop:=V.heap[B]?=some (qag t A c)∧RepT V V.heap.size t A c
theorem BoxT.lt {V:World} {B:Nat} {t:Tm} {A:Option Addr} {c:Nat} (h:BoxT V B t A c):B<V.heap.size:=(sltz h.1)
theorem BoxT.below {V V':World} {B:Nat} {t:Tm} {A:Option Addr} {c:Nat} (h:BoxT V B t A c) (hb:Below V.heap.size V V'):BoxT V' B t A c:=
 ⟨by rw[hb.block B h.lt];exact h.1,h.2.go hb hb.size⟩
theorem BoxT.new {V:World} {t:Tm} {A:Option Addr} {c:Nat} (h:RepT V V.heap.size t A c):BoxT (V.alloc (qag t A c)) V.heap.size t A c:=
 ⟨heap_alloc_new _ _,h.go (qad (Nat.le_refl _) _) (by simp)⟩
theorem BoxT.cells {V:World} {B:Nat} {t:Tm} {A:Option Addr} {c:Nat} (h:BoxT V B t A c) :
  V.cell? ⟨B,0,none⟩=some (.int .i64 t.kind)∧V.cell? ⟨B,1,none⟩=some (.string t.name)∧V.cell? ⟨B,2,none⟩=some (.int .i64 t.sort)∧V.cell? ⟨B,3,none⟩=some (.slice A t.kids.length c)∧∀o,V.frozen? ⟨B,o,none⟩=false:=qaa h.1
theorem qjv.below {w w':World} (h:qjv w.heap.size w) (hb:Below w.heap.size w w'):qjv w'.heap.size w':=(h.keep (fun b hb'=>hb.block b hb')).up hb.size
theorem qa7 {B:Nat} {a b c:World} (h:Below B a b) (k:Below b.heap.size b c) (hB:B≤b.heap.size):Below B a c:=h.trans (k.mono hB)
theorem qm6 {w:World} {P:Nat→Prop} {b:Nat} {T:TypeId} (its:List It) (hB:w.heap[b]?=some (.cells (itCells its).toArray T (0,0))) (hb:P b) (hr:∀x∈its,RepP w P x.1 x.2.1 x.2.2) (hlen:its.length≤1000) :
  RepS w P (its.map (·.1)) (some ⟨b,0,none⟩) its.length:=by
 refine⟨by simp,by simp[maxLen];omega,.inr ⟨b,0,rfl,hb,RepLP.of_its its b 0 (fun j u hj=>?_) hr⟩⟩;simp[World.cell?,hB,hj]
mutual
theorem Tm.left_size:∀(t:Tm) (m:Int),0≤t.left m→(t.size:Int)+t.left m≤m
 | .mk _ n _ l,m,h=>by
  rw[Tm.left]at h ⊢;rw[Tm.size]
  split at h
  ·omega
  ·rename_i hc
   rw[if_neg hc];have:=Tm.lefts_size l (m - 1) (by omega) h
   push_cast;omega
theorem Tm.lefts_size:∀(l:List Tm) (m:Int),0≤m→0≤Tm.lefts l m→(Tm.sizes l:Int)+Tm.lefts l m≤m
 | [],m,_,_=>by rw[Tm.lefts,Tm.sizes];omega
 | t::r,m,hm,h=>by
  rw[Tm.lefts]at h ⊢;rw[Tm.sizes]
  split at h
  ·omega
  ·rename_i hc
   rw[if_neg hc];have h1:=Tm.left_size t m (by omega);have h2:=Tm.lefts_size r (t.left m) (by omega) h
   push_cast;omega
end
theorem Tm.lefts_each {l:List Tm} {m:Int} (hm:0≤m) (h:0≤Tm.lefts l m):∀t∈l,(t.size:Int)≤m:=by
 have h1:=Tm.lefts_size l m hm h;intro t ht;obtain⟨i,hi,rfl⟩:=List.getElem_of_mem ht;have:=Tm.sizes_get l i hi;omega
def ListOf (w:World) (B:Nat) (l:List Tm) (e:Ending) (w':World):Prop:=
 ∃A cap n its,e=.returned (.slice A n cap)∧n=l.length∧RowT w' w.heap.size (fun b=>b<B) (.slice A n cap) its∧Below w.heap.size w w'∧its.map (·.1)=l
theorem RowT.lit1 {w:World} {base:Nat} {F:Nat→Prop} (X:It) (hb:base≤w.heap.size) (hF:∀b,F b→b<base) (hX:RepP w F X.1 X.2.1 X.2.2) :
  RowT (w.alloc (.cells #[.int .i64 X.1.kind,.string X.1.name,.int .i64 X.1.sort,.slice X.2.1 X.1.kids.length X.2.2] 24)) base F (.slice (some ⟨w.heap.size,0,none⟩) 1 1) [X]:=by
 refine⟨World.ownsRow_lit w #[.int .i64 X.1.kind,.string X.1.name,.int .i64 X.1.sort,.slice X.2.1 X.1.kids.length X.2.2] 1 hb (by simp[maxLen]) rfl,fun x hx=>?_⟩;rw[List.mem_singleton.1 hx];refine RepP.mono (fun b h=>⟨h,?_,fun e=>?_⟩) (fun p hp=>World.cell?_of_block (Below.heap_alloc _ _ _ (by have:=hF _ hp;omega))) _ _ _ hX
 ·have:=hF b h;simp;omega
 ·have h1:=hF b h;injection e with e;simp at e;omega
theorem RowT.some {w:World} {base:Nat} {F:Nat→Prop} {A:Option Addr} {n cap:Nat} {its:List It} (h:RowT w base F (.slice A n cap) its) (hp:0<n):∃g,A=some ⟨g,0,none⟩:=by
 rcases h.own.2 with⟨hv,_⟩|⟨g,cap',cur,hv,_⟩
 ·injection hv with _ h2;omega
 ·injection hv with h1;exact⟨g,h1⟩
theorem RowT.len {w:World} {base:Nat} {F:Nat→Prop} {A:Option Addr} {n cap:Nat} {its:List It} (h:RowT w base F (.slice A n cap) its):n=its.length:=by
 rcases h.own.2 with⟨hv,h0⟩|⟨g,cap',cur,hv,_⟩
 ·injection hv with _ h2;omega
 ·injection hv
theorem add_lt {t x:Tm} {r:List Tm} (h:t.cmp x = -1):Tm.add t (x::r)=t::x::r:=by rw[Tm.add,if_pos (by omega)]
theorem add_eq {t x:Tm} {r:List Tm} (h:t.cmp x=0):Tm.add t (x::r)=x::r:=by rw[Tm.add,if_neg (by omega),if_pos h]
theorem add_gt {t x:Tm} {r:List Tm} (h:t.cmp x=1):Tm.add t (x::r)=x::Tm.add t r:=by rw[Tm.add,if_neg (by omega),if_neg (by omega)]
def qey (t:Tm) (l:List Tm) (its:List It) (d:Bool) (k:Nat):Prop:=its.map (·.1)++(if d then l.drop k else Tm.add t (l.drop k))=Tm.add t l
theorem ListOf.loosen {w w0:World} {B:Nat} {l:List Tm} {e:Ending} {w':World} (h:ListOf w B l e w') (hb:Below w0.heap.size w0 w):ListOf w0 B l e w':=by
 obtain⟨A,c,n,its,he,hn,hr,hbl,hm⟩:=h;exact⟨A,c,n,its,he,hn,hr.loosen hb.size (fun _ h=>h),hb.trans (hbl.mono hb.size),hm⟩
theorem qc9 (x:ByteArray) (so:Int) (w:World) :
  Calls Tryz.prog 35 #[.string x,.int .i64 so] w fun e w'=>e=.returned ((Tm.mk 2 x so []).val none 0)∧Lay w.heap.size w w':=by
 simp only[Tm.val,Tm.kind,Tm.name,Tm.sort,Tm.kids];go_enter Tryz.func35,Tryz.ntmps35
 go_wp2_with fail
 refine bodyPost_ret (v:=.agg #[.int .i64 2,.string x,.int .i64 so,.slice none 0 0]) ?_ rfl ?_
 ·simp[results,Tryz.results35,go_sem]
 exact⟨rfl,(Lay.refl _ _).alloc (Nat.le_refl _) _⟩
end Go.Proofs.YtjhjoiplpmjepaaGreat
namespace Go.Proofs.YtjhjoiplpmjepaaGreat
instance tmDec:DecidableEq Tm:=fun a b=>if h:a.same b=true then isTrue (Tm.same_iff.1 h)else isFalse fun e=>h (Tm.same_iff.2 e)
def togT (t:Tm) (L:List Tm):List Tm:=if L.any (fun u=>u.same t)=true then L.filter (fun u=>!u.same t)else Tm.add t L
theorem qml (t:Tm) (L:List Tm):(L.any (fun u=>u.same t)=true)↔t∈L:=by
 simp only[List.any_eq_true,Tm.same_iff];exact⟨fun⟨u,h,e⟩=>e ▸ h,fun h=>⟨t,h,rfl⟩⟩
theorem mem_tog (t:Tm) (L:List Tm) (x:Tm):x∈togT t L↔(x=t∧t ∉ L)∨(x≠t∧x∈L):=by
 unfold togT;by_cases h:t∈L
 ·rw[if_pos ((qml t L).2 h),List.mem_filter];constructor
  ·rintro⟨h1,h2⟩;refine .inr ⟨fun e=>?_,h1⟩;rw[Tm.same_iff.2 e]at h2;exact absurd h2 (by decide)
  ·rintro(⟨-,h2⟩|⟨h1,h2⟩)
   ·exact absurd h h2
   ·exact⟨h2,by rw[Tm.same_false.2 h1];rfl⟩
 ·rw[if_neg (fun e=>h ((qml t L).1 e)),Tm.mem_add];constructor
  ·rintro(h1|h1)
   ·exact .inl ⟨h1,h⟩
   ·exact .inr ⟨fun e=>h (e ▸ h1),h1⟩
  ·rintro(⟨h1,-⟩|⟨-,h2⟩)
   ·exact .inl h1
   ·exact .inr h2
theorem tog_asc (t:Tm) {L:List Tm} (h:Asc L):Asc (togT t L):=by
 unfold togT
 split
 ·exact List.Pairwise.filter _ h
 ·exact Tm.add_asc t L h
def qc4 (a b:List Tm):List Tm:=b.foldl (fun a t=>togT t a) a
theorem qhc:∀(b a:List Tm),Asc a→Asc (qc4 a b)
 | [],_,h=>h
 | t::r,a,h=>qhc r (togT t a) (tog_asc t h)
theorem qdj:∀(b a:List Tm) (x:Tm),b.Nodup→(x∈qc4 a b↔((x∈a∧x ∉ b)∨(x ∉ a∧x∈b)))
 | [],a,x,_=>by simp[qc4]
 | t::r,a,x,h=>by
  obtain⟨h1,h2⟩:=List.nodup_cons.1 h;have ih:=qdj r (togT t a) x h2;show x∈qc4 (togT t a) r↔_;rw[ih,mem_tog,List.mem_cons];by_cases e:x=t
  ·subst e;by_cases ha:x∈a<;>simp[ha,h1]
  ·by_cases ha:x∈a<;>by_cases hr:x∈r<;>simp[ha,hr,e]
theorem qcb {l:List Tm} (h:Asc l):l.Nodup:=h.imp fun {a b} hab e=>by subst e;rw[Tm.cmp_self]at hab;omega
def nXor:ByteArray:=⟨#[120,111,114]⟩
def qch:ByteArray:=⟨#[122,101,114,111]⟩
mutual
def Tm.sumd:Tm→List Tm
 | .mk k n s l=>if k=3∧n=qch∧l=[]then []else if k=3∧n=nXor then Tm.sumds l []else [.mk k n s l]
def Tm.sumds:List Tm→List Tm→List Tm
 | [],a=>a
 | t::r,a=>Tm.sumds r (qc4 a (Tm.sumd t))
end
mutual
theorem qcw:∀t:Tm,Asc t.sumd
 | .mk k n s l=>by
  rw[Tm.sumd]
  split
  ·exact List.Pairwise.nil
  ·split
   ·exact qdb l [] List.Pairwise.nil
   ·exact List.pairwise_singleton _ _
theorem qdb:∀(l a:List Tm),Asc a→Asc (Tm.sumds l a)
 | [],_,h=>h
 | _::r,_,h=>qdb r _ (qhc _ _ h)
end
def parL (L:List Tm) (x:Tm):Bool:=L.foldr (fun k b=>(decide (x∈k.sumd)) ^^ b) false
theorem qd5 (x:Tm):∀(L a:List Tm),(x∈Tm.sumds L a↔(decide (x∈a) ^^ parL L x)=true)
 | [],a=>by simp[Tm.sumds,parL]
 | t::r,a=>by
  rw[Tm.sumds,qd5 x r,Bool.eq_iff_iff.1 rfl];have h:=qdj t.sumd a x (qcb (qcw t));have hp:parL (t::r) x=(decide (x∈t.sumd) ^^ parL r x):=rfl;rw[hp];by_cases h1:x∈a<;>by_cases h2:x∈t.sumd<;>simp[h1,h2,h]
theorem parL_perm {L M:List Tm} (h:L.Perm M) (x:Tm):parL L x=parL M x:=by
 induction h with
 | nil=>rfl
 | @cons a l l' _ ih=>show(decide (x∈a.sumd) ^^ parL l x)=(decide (x∈a.sumd) ^^ parL l' x);rw[ih]
 | swap a b l=>show(decide (x∈b.sumd) ^^ (decide (x∈a.sumd) ^^ parL l x))=(decide (x∈a.sumd) ^^ (decide (x∈b.sumd) ^^ parL l x));rw[←Bool.xor_assoc,←Bool.xor_assoc,Bool.xor_comm (decide (x∈b.sumd))]
 | trans _ _ h1 h2=>exact h1.trans h2
theorem sumds_ext {L M:List Tm} (h:∀x,parL L x=parL M x):Tm.sumds L []=Tm.sumds M []:=
 qd8 (qdb L [] List.Pairwise.nil) (qdb M [] List.Pairwise.nil) fun x=>by rw[qd5,qd5,h x]
mutual
theorem sumd_atom:∀t:Tm,∀p∈t.sumd,p.sumd=[p]
 | .mk k n s l,p,hp=>by
  rw[Tm.sumd]at hp
  split at hp
  ·cases hp
  ·split at hp
   ·exact qe0 l [] (by simp) p hp
   ·rename_i h1 h2
    rw[List.mem_singleton.1 hp,Tm.sumd,if_neg h1,if_neg h2]
theorem qe0:∀(l a:List Tm),(∀p∈a,p.sumd=[p])→∀p∈Tm.sumds l a,p.sumd=[p]
 | [],_,h,p,hp=>h p hp
 | t::r,a,h,p,hp=>by
  refine qe0 r _ (fun q hq=>?_) p hp;rcases (qdj t.sumd a q (qcb (qcw t))).1 hq with⟨h1,-⟩|⟨-,h2⟩
  ·exact h q h1
  ·exact sumd_atom t q h2
end
def xorT (L:List Tm):Tm:=match L with
 | []=>.mk 3 qch 0 []
 | [p]=>p
 | L=>.mk 3 nXor 0 L
theorem qnc {L:List Tm} (hn:L.Nodup) (ha:∀p∈L,p.sumd=[p]) (x:Tm):parL L x=decide (x∈L):=by
 induction L with
 | nil=>simp[parL]
 | cons a r ih=>
  obtain⟨h1,h2⟩:=List.nodup_cons.1 hn;show(decide (x∈a.sumd) ^^ parL r x)=_;rw[ih h2 (fun p hp=>ha p (List.mem_cons_of_mem _ hp)),ha a (List.mem_cons_self ..)];by_cases e:x=a
  ·subst e;simp[h1]
  ·by_cases h:x∈r<;>simp[e,h]
theorem qhm {L:List Tm} (h:Asc L) (ha:∀p∈L,p.sumd=[p]):Tm.sumds L []=L:=
 qd8 (qdb L [] List.Pairwise.nil) h fun x=>by rw[qd5,qnc (qcb h) ha];simp
theorem sumd_xorT {L:List Tm} (h:Asc L) (ha:∀p∈L,p.sumd=[p]):(xorT L).sumd=L:=by
 match L,h,ha with
 | [],_,_=>rw[xorT,Tm.sumd,if_pos ⟨rfl,rfl,rfl⟩]
 | [p],_,ha=>exact ha p (by simp)
 | a::b::r,h,ha=>
  rw[xorT,Tm.sumd,if_neg (by simp),if_pos ⟨rfl,rfl⟩]
  ·exact qhm h ha
  all_goals simp
theorem sumd_sum (K:List Tm):(xorT (Tm.sumds K [])).sumd=Tm.sumds K []:=
 sumd_xorT (qdb K [] List.Pairwise.nil) (qe0 K [] (by simp))
def nMul:ByteArray:=⟨#[109,117,108]⟩
def nInv:ByteArray:=⟨#[105,110,118]⟩
def nOne:ByteArray:=⟨#[111,110,101]⟩
def Tm.sym (t:Tm):Prop:=t.kind=3∧(t.name=nMul∨t.name=nInv∨t.name=nOne)
instance (t:Tm):Decidable t.sym:=by unfold Tm.sym;infer_instance
def insP (t:Tm) (n:Int):List (Tm×Int)→List (Tm×Int)
 | []=>[(t,n)]
 | (u,m)::r=>if t.cmp u<0 then (t,n)::(u,m)::r else if t.cmp u=0 then (if m+n=0 then r else (u,m+n)::r)else (u,m)::insP t n r
def qb0:List (Tm×Int)→Tm→Int
 | [],_=>0
 | (u,m)::r,x=>(if u=x then m else 0)+qb0 r x
def qbj (l:List (Tm×Int)):Prop:=l.Pairwise (fun a b=>a.1.cmp b.1<0)∧∀p∈l,p.2≠0
theorem qbj.nil:qbj []:=⟨List.Pairwise.nil,by simp⟩
theorem qbj.tail {p:Tm×Int} {r:List (Tm×Int)} (h:qbj (p::r)):qbj r:=⟨(List.pairwise_cons.1 h.1).2,fun q hq=>h.2 q (List.mem_cons_of_mem _ hq)⟩
theorem qkp {l:List (Tm×Int)} {x:Tm} (h:∀p∈l,p.1≠x):qb0 l x=0:=by
 induction l with
 | nil=>rfl
 | cons p r ih=>rw[qb0,if_neg (h p (List.mem_cons_self ..)),ih fun q hq=>h q (List.mem_cons_of_mem _ hq)];rfl
theorem qjl (t:Tm) (n:Int) (x:Tm):∀l:List (Tm×Int),qb0 (insP t n l) x=qb0 l x+if t=x then n else 0
 | []=>by simp only[insP,qb0];omega
 | (u,m)::r=>by
  rw[insP]
  split
  ·rw[qb0];omega
  ·split
   ·rename_i h1 h2
    have e:=Tm.cmp_zero.1 h2;subst e
    split
    ·rw[qb0];split<;>omega
    ·rw[qb0,qb0];split<;>omega
   ·rw[qb0,qb0,qjl t n x r];omega
theorem qhf (t:Tm) (n:Int):∀(l:List (Tm×Int)),∀p∈insP t n l,p.1=t∨∃q∈l,q.1=p.1
 | [],p,hp=>by rw[insP,List.mem_singleton]at hp;subst hp;exact .inl rfl
 | (u,m)::r,p,hp=>by
  rw[insP]at hp
  split at hp
  ·rcases List.mem_cons.1 hp with h|h
   ·subst h;exact .inl rfl
   ·exact .inr ⟨p,h,rfl⟩
  ·split at hp
   ·split at hp
    ·exact .inr ⟨p,List.mem_cons_of_mem _ hp,rfl⟩
    ·rcases List.mem_cons.1 hp with h|h
     ·subst h;exact .inr ⟨(u,m),List.mem_cons_self ..,rfl⟩
     ·exact .inr ⟨p,List.mem_cons_of_mem _ h,rfl⟩
   ·rcases List.mem_cons.1 hp with h|h
    ·subst h;exact .inr ⟨(u,m),List.mem_cons_self ..,rfl⟩
    ·rcases qhf t n r p h with h|⟨q,h,e⟩
     ·exact .inl h
     ·exact .inr ⟨q,List.mem_cons_of_mem _ h,e⟩
theorem cmp_pos {a b:Tm} (h:¬a.cmp b<0) (h0:a.cmp b≠0):b.cmp a<0:=by have:=Tm.cmp_neg a b;omega
theorem cmp_tr {a b c:Tm} (h:a.cmp b<0) (k:b.cmp c<0):a.cmp c<0:=by
 have:=Tm.cmp_tri a b c;unfold Tri at this;omega
theorem qjn (t:Tm) {n:Int} (hn:n≠0):∀{l:List (Tm×Int)},qbj l→qbj (insP t n l)
 | [],_=>by rw[insP];exact⟨List.pairwise_singleton _ _,fun p hp=>by rw[List.mem_singleton.1 hp];exact hn⟩
 | (u,m)::r,h=>by
  obtain⟨h1,h2⟩:=List.pairwise_cons.1 h.1;rw[insP]
  split
  ·rename_i hc
   refine⟨List.pairwise_cons.2 ⟨fun p hp=>?_,h.1⟩,fun p hp=>?_⟩
   ·rcases List.mem_cons.1 hp with e|e
    ·subst e;exact hc
    ·exact cmp_tr hc (h1 p e)
   ·rcases List.mem_cons.1 hp with e|e
    ·subst e;exact hn
    ·exact h.2 p e
  ·split
   ·split
    ·exact h.tail
    ·rename_i hm
     refine⟨List.pairwise_cons.2 ⟨fun p hp=>h1 p hp,h2⟩,fun p hp=>?_⟩;rcases List.mem_cons.1 hp with e|e
     ·subst e;exact hm
     ·exact h.2 p (List.mem_cons_of_mem _ e)
   ·rename_i hc hz
    have ih:=qjn t hn h.tail;refine⟨List.pairwise_cons.2 ⟨fun p hp=>?_,ih.1⟩,fun p hp=>?_⟩
    ·rcases qhf t n r p hp with e|⟨q,hq,e⟩
     ·rw[e];exact cmp_pos hc hz
     ·rw[←e];exact h1 q hq
    ·rcases List.mem_cons.1 hp with e|e
     ·subst e;exact h.2 (u,m) (List.mem_cons_self ..)
     ·exact ih.2 p e
theorem good_look {u:Tm} {m:Int} {r:List (Tm×Int)} (h:qbj ((u,m)::r)):qb0 ((u,m)::r) u=m:=by
 rw[qb0,if_pos rfl,qkp fun p hp e=>?_]
 ·omega
 ·have:=(List.pairwise_cons.1 h.1).1 p hp;dsimp only at this;rw[e,Tm.cmp_self]at this;omega
theorem look_less {x:Tm} {l:List (Tm×Int)} (h:∀p∈l,x.cmp p.1<0):qb0 l x=0:=
 qkp fun p hp e=>by have:=h p hp;rw[e,Tm.cmp_self]at this;omega
theorem qc6:∀{a b:List (Tm×Int)},qbj a→qbj b→(∀x,qb0 a x=qb0 b x)→a=b
 | [],[],_,_,_=>rfl
 | [],(v,k)::s,_,hb,h=>by have:=h v;rw[good_look hb]at this;exact absurd this.symm (hb.2 _ (List.mem_cons_self ..))
 | (u,m)::r,[],ha,_,h=>by have:=h u;rw[good_look ha]at this;exact absurd this (ha.2 _ (List.mem_cons_self ..))
 | (u,m)::r,(v,k)::s,ha,hb,h=>by
  have key:∀{u v:Tm} {m k:Int} {r s:List (Tm×Int)},qbj ((u,m)::r)→qbj ((v,k)::s)→qb0 ((u,m)::r) u=qb0 ((v,k)::s) u→¬u.cmp v<0:=by
   intro u v m k r s ha hb h hc;rw[good_look ha,look_less fun p hp=>?_]at h
   ·exact ha.2 _ (List.mem_cons_self ..) h
   ·rcases List.mem_cons.1 hp with e|e
    ·subst e;exact hc
    ·exact cmp_tr hc ((List.pairwise_cons.1 hb.1).1 p e)
  have h1:=key ha hb (h u);have h2:=key hb ha (h v).symm;have h3:=Tm.cmp_neg u v;have e:u=v:=Tm.cmp_zero.1 (by omega);subst e;have hm:=h u;rw[good_look ha,good_look hb]at hm;subst hm;rw[qc6 ha.tail hb.tail fun x=>by have:=h x;rw[qb0,qb0]at this;omega]
mutual
def qdr:Tm→Tm→Int
 | .mk k n s l,x=>if (Tm.mk k n s l).sym then (if n=nInv then - qb3 l x else qb3 l x)else if .mk k n s l=x then 1 else 0
def qb3:List Tm→Tm→Int
 | [],_=>0
 | t::r,x=>qdr t x+qb3 r x
end
mutual
def colP:Tm→Int→List (Tm×Int)→List (Tm×Int)
 | .mk k n s l,i,a=>if (Tm.mk k n s l).sym then qdt l (if n=nInv then -i else i) a else insP (.mk k n s l) i a
def qdt:List Tm→Int→List (Tm×Int)→List (Tm×Int)
 | [],_,a=>a
 | t::r,i,a=>qdt r i (colP t i a)
end
mutual
theorem qmc (x:Tm):∀(t:Tm) (i:Int) (a:List (Tm×Int)),qb0 (colP t i a) x=qb0 a x+i*qdr t x
 | .mk k n s l,i,a=>by
  rw[colP,qdr]
  split
  ·rw[qkq x l]
   split
   ·rw[Int.neg_mul,Int.mul_neg]
   ·rfl
  ·rw[qjl]
   split<;>simp
theorem qkq (x:Tm):∀(l:List Tm) (i:Int) (a:List (Tm×Int)),qb0 (qdt l i a) x=qb0 a x+i*qb3 l x
 | [],i,a=>by rw[qdt,qb3];simp
 | t::r,i,a=>by rw[qdt,qb3,qkq x r,qmc x t,Int.mul_add];omega
end
mutual
theorem qhg:∀(t:Tm) {i:Int} {a:List (Tm×Int)},i≠0→qbj a→qbj (colP t i a)
 | .mk k n s l,i,a,hi,ha=>by
  rw[colP]
  split
  ·exact qkx l (by split<;>omega) ha
  ·exact qjn _ hi ha
theorem qkx:∀(l:List Tm) {i:Int} {a:List (Tm×Int)},i≠0→qbj a→qbj (qdt l i a)
 | [],_,_,_,ha=>ha
 | t::r,_,_,hi,ha=>qkx r hi (qhg t hi ha)
end
mutual
def AllF (Q:Tm→Prop):Tm→Prop
 | .mk k n s l=>if (Tm.mk k n s l).sym then AllFs Q l else Q (.mk k n s l)
def AllFs (Q:Tm→Prop):List Tm→Prop
 | []=>True
 | t::r=>AllF Q t∧AllFs Q r
end
mutual
theorem qmh {Q:Tm→Prop}:∀(t:Tm) (i:Int) (a:List (Tm×Int)),AllF Q t→(∀p∈a,Q p.1)→∀p∈colP t i a,Q p.1
 | .mk k n s l,i,a,ht,ha,p,hp=>by
  rw[colP]at hp;rw[AllF]at ht
  split at hp
  ·rename_i hs
   rw[if_pos hs]at ht;exact qkw l _ a ht ha p hp
  ·rename_i hs
   rw[if_neg hs]at ht;rcases qhf _ _ _ p hp with e|⟨q,hq,e⟩
   ·rw[e];exact ht
   ·rw[←e];exact ha q hq
theorem qkw {Q:Tm→Prop}:∀(l:List Tm) (i:Int) (a:List (Tm×Int)),AllFs Q l→(∀p∈a,Q p.1)→∀p∈qdt l i a,Q p.1
 | [],_,_,_,ha,p,hp=>ha p hp
 | t::r,i,a,ht,ha,p,hp=>by
  rw[AllFs]at ht;exact qkw r i _ ht.2 (qmh t i a ht.1 ha) p hp
end
mutual
theorem AllF.imp {Q R:Tm→Prop}:∀(t:Tm),(∀x,¬x.sym→Q x→R x)→AllF Q t→AllF R t
 | .mk k n s l,hi,h=>by
  rw[AllF]at h ⊢
  split
  ·rename_i hs;rw[if_pos hs]at h;exact AllFs.imp l hi h
  ·rename_i hs;rw[if_neg hs]at h;exact hi _ hs h
theorem AllFs.imp {Q R:Tm→Prop}:∀(l:List Tm),(∀x,¬x.sym→Q x→R x)→AllFs Q l→AllFs R l
 | [],_,_=>by rw[AllFs];trivial
 | t::r,hi,h=>by rw[AllFs]at h ⊢;exact⟨AllF.imp t hi h.1,AllFs.imp r hi h.2⟩
end
mutual
theorem AllF.free:∀(t:Tm),AllF (fun x=>¬x.sym) t
 | .mk k n s l=>by
  rw[AllF]
  split
  ·exact AllFs.free l
  ·assumption
theorem AllFs.free:∀(l:List Tm),AllFs (fun x=>¬x.sym) l
 | []=>by rw[AllFs];trivial
 | t::r=>by rw[AllFs];exact⟨AllF.free t,AllFs.free r⟩
end
def ofT (t:Tm):List (Tm×Int):=colP t 1 []
theorem qe5 (t:Tm):qbj (ofT t):=qhg t (by omega) qbj.nil
theorem qf5 (t x:Tm):qb0 (ofT t) x=qdr t x:=by rw[ofT,qmc,qb0];omega
theorem qed {Q:Tm→Prop} {t:Tm} (h:AllF Q t):∀p∈ofT t,Q p.1:=qmh t 1 [] h (by simp)
theorem qmb (t:Tm):∀p∈ofT t,¬p.1.sym:=qed (AllF.free t)
theorem qjg {t u:Tm} (h:∀x,qdr t x=qdr u x):ofT t=ofT u:=qc6 (qe5 t) (qe5 u) fun x=>by rw[qf5,qf5,h x]
def posP (l:List (Tm×Int)):List Tm:=l.flatMap fun p=>List.replicate p.2.toNat p.1
def negP (l:List (Tm×Int)):List Tm:=l.flatMap fun p=>List.replicate (-p.2).toNat (.mk 3 nInv 0 [p.1])
def mulT:List Tm→Tm
 | []=>.mk 3 nOne 0 []
 | [t]=>t
 | l=>.mk 3 nMul 0 l
def prodT (l:List (Tm×Int)):Tm:=mulT (posP l++negP l)
theorem qde (a b:List Tm) (x:Tm):qb3 (a++b) x=qb3 a x+qb3 b x:=by
 induction a with
 | nil=>rw[List.nil_append,qb3];omega
 | cons t r ih=>rw[List.cons_append,qb3,qb3,ih];omega
theorem qh2 (t x:Tm):∀n:Nat,qb3 (List.replicate n t) x=n*qdr t x
 | 0=>by rw[List.replicate_zero,qb3];omega
 | n+1=>by rw[List.replicate_succ,qb3,qh2 t x n,Int.natCast_succ,Int.add_mul];omega
theorem coef_free {t:Tm} (h:¬t.sym) (x:Tm):qdr t x=if t=x then 1 else 0:=by
 obtain⟨k,n,s,l⟩:=t;rw[qdr,if_neg h]
theorem qjq (t x:Tm):qdr (.mk 3 nInv 0 [t]) x = - qdr t x:=by
 rw[qdr,if_pos ⟨rfl,.inr (.inl rfl)⟩,if_pos rfl,qb3,qb3];omega
theorem qkz (x:Tm):∀(l:List (Tm×Int)),(∀p∈l,¬p.1.sym)→qb3 (posP l++negP l) x=qb0 l x
 | [],_=>by rw[posP,negP,List.flatMap_nil,List.flatMap_nil,List.nil_append,qb3,qb0]
 | (u,m)::r,h=>by
  have ih:=qkz x r fun p hp=>h p (List.mem_cons_of_mem _ hp);have hu:=h (u,m) (List.mem_cons_self ..);rw[qde]at ih;rw[posP,negP,List.flatMap_cons,List.flatMap_cons,qde,qde,qde,qh2,qh2,qjq,coef_free hu,qb0,←ih];show _+qb3 (posP r) x+(_+qb3 (negP r) x)=_
  split
  ·rw[Int.mul_one,Int.mul_neg,Int.mul_one];simp only[Int.ofNat_toNat];omega
  ·rw[Int.mul_zero,Int.neg_zero,Int.mul_zero];omega
theorem coef_mulT (l:List Tm) (x:Tm):qdr (mulT l) x=qb3 l x:=by
 match l with
 | []=>rw[mulT,qdr,if_pos ⟨rfl,.inr (.inr rfl)⟩,if_neg (by decide)]
 | [t]=>rw[mulT,qb3,qb3];omega
 | a::b::r=>
  show qdr (.mk 3 nMul 0 (a::b::r)) x=_;rw[qdr,if_pos ⟨rfl,.inl rfl⟩,if_neg (by decide)]
theorem qnn {l:List (Tm×Int)} (h:∀p∈l,¬p.1.sym) (x:Tm):qdr (prodT l) x=qb0 l x:=by
 rw[prodT,coef_mulT,qkz x l h]
theorem qf2 {l:List (Tm×Int)} (hg:qbj l) (h:∀p∈l,¬p.1.sym):ofT (prodT l)=l:=
 qc6 (qe5 _) hg fun x=>by rw[qf5,qnn h]
theorem qlp:ofT (.mk 3 nOne 0 [])=[]:=qf2 (l:=[]) qbj.nil (by simp)
theorem ofT_leaf {t:Tm} (h:¬t.sym):ofT t=[(t,1)]:=by
 obtain⟨k,n,s,l⟩:=t;rw[ofT,colP,if_neg h,insP]
theorem ofT_inv {t:Tm} (h:¬t.sym):ofT (.mk 3 nInv 0 [t])=[(t,-1)]:=by
 rw[ofT,colP,if_pos ⟨rfl,.inr (.inl rfl)⟩,if_pos rfl,qdt,qdt];obtain⟨k,n,s,l⟩:=t;rw[colP,if_neg h,insP]
theorem qm9 (t:Tm):prodT [(t,1)]=t:=rfl
theorem qkl (t:Tm):prodT [(t,-1)]=.mk 3 nInv 0 [t]:=rfl
def mulP (a b:List (Tm×Int)):List (Tm×Int):=b.foldl (fun a p=>insP p.1 p.2 a) a
theorem qdy (x:Tm):∀(b a:List (Tm×Int)),qb0 (mulP a b) x=qb0 a x+qb0 b x
 | [],a=>by rw[mulP,List.foldl_nil,qb0];omega
 | (u,m)::r,a=>by
  show qb0 (mulP (insP u m a) r) x=_;rw[qdy x r,qjl,qb0];omega
theorem qhd:∀(b:List (Tm×Int)) {a:List (Tm×Int)},qbj a→(∀p∈b,p.2≠0)→qbj (mulP a b)
 | [],_,h,_=>h
 | p::r,_,h,hb=>qhd r (qjn p.1 (hb p (List.mem_cons_self ..)) h) fun q hq=>hb q (List.mem_cons_of_mem _ hq)
theorem qf3 {Q:Tm→Prop}:∀(b a:List (Tm×Int)),(∀p∈a,Q p.1)→(∀p∈b,Q p.1)→∀p∈mulP a b,Q p.1
 | [],_,h,_=>h
 | q::r,a,h,hb=>qf3 r (insP q.1 q.2 a) (fun p hp=>by
   rcases qhf _ _ _ p hp with e|⟨z,hz,e⟩
   ·rw[e];exact hb q (List.mem_cons_self ..)
   ·rw[←e];exact h z hz) fun p hp=>hb p (List.mem_cons_of_mem _ hp)
theorem qgn {b:List (Tm×Int)} (h:qbj b):mulP [] b=b:=qc6 (qhd b qbj.nil h.2) h fun x=>by rw[qdy,qb0];omega
end Go.Proofs.YtjhjoiplpmjepaaGreat
namespace Go.Proofs.YtjhjoiplpmjepaaGreat
open Go.RowKit Go.Sort
abbrev Pw:=Tm×Int
abbrev IW:=It×Int
def IW.pw (x:IW):Pw:=(x.1.1,x.2)
def wCells:List IW→List Value
 | []=>[]
 | x::r=>.int .i64 x.1.1.kind::.string x.1.1.name::.int .i64 x.1.1.sort::.slice x.1.2.1 x.1.1.kids.length x.1.2.2::.int .i64 x.2::wCells r
theorem qcu (a b:List IW):wCells (a++b)=wCells a++wCells b:=by
 induction a with
 | nil=>rfl
 | cons x r ih=>simp[wCells,ih]
theorem qfs (a:List IW):(wCells a).length=a.length*5:=by
 induction a with
 | nil=>rfl
 | cons x r ih=>simp[wCells,ih];omega
theorem qd1 (a:List IW):∀u∈wCells a,u.oneCell'=true:=by
 induction a with
 | nil=>simp[wCells]
 | cons x r ih=>
  intro u hu;simp only[wCells,List.mem_cons]at hu;rcases hu with rfl|rfl|rfl|rfl|rfl|hu
  ·rfl
  ·rfl
  ·rfl
  ·rfl
  ·rfl
  ·exact ih u hu
theorem qf9 {α:Type} (a b c d e:α) (r:List α) (j:Nat):(a::b::c::d::e::r)[5+j]?=r[j]?:=by
 rw[show 5+j=j+1+1+1+1+1 by omega];simp
theorem qgf:∀(a:List IW) (i:Nat) (h:i<a.length),
  (wCells a)[i*5]?=some (.int .i64 a[i].1.1.kind)∧(wCells a)[i*5+1]?=some (.string a[i].1.1.name)∧(wCells a)[i*5+2]?=some (.int .i64 a[i].1.1.sort)∧
  (wCells a)[i*5+3]?=some (.slice a[i].1.2.1 a[i].1.1.kids.length a[i].1.2.2)∧(wCells a)[i*5+4]?=some (.int .i64 a[i].2)
 | [],_,h=>by simp at h
 | x::r,0,_=>by simp[wCells]
 | x::r,i+1,h=>by
  have g:=qgf r i (by simpa using h);have e0:(i+1)*5=5+i*5:=by omega
  simp only[wCells,List.getElem_cons_succ];rw[e0,Nat.add_assoc 5 (i*5) 1,Nat.add_assoc 5 (i*5) 2,Nat.add_assoc 5 (i*5) 3,Nat.add_assoc 5 (i*5) 4,qf9,qf9,qf9,qf9,qf9];exact g
theorem qff:∀(a:List IW) (i:Nat),(wCells a).take (i*5)=wCells (a.take i)
 | [],i=>by simp[wCells]
 | x::r,0=>by simp[wCells]
 | x::r,i+1=>by
  rw[show(i+1)*5=i*5+1+1+1+1+1 by omega];simp only[wCells,List.take_succ_cons,qff r i]
theorem qfg:∀(a:List IW) (i:Nat),(wCells a).drop (i*5)=wCells (a.drop i)
 | [],i=>by simp[wCells]
 | x::r,0=>by simp[wCells]
 | x::r,i+1=>by
  rw[show(i+1)*5=i*5+1+1+1+1+1 by omega];simp only[wCells,List.drop_succ_cons,qfg r i]
theorem wCells_setN:∀(a:List IW) (i:Nat) (h:i<a.length) (m:Int),(wCells a).set (i*5+4) (.int .i64 m)=wCells (a.set i (a[i].1,m))
 | [],_,h,_=>by simp at h
 | x::r,0,_,m=>by simp[wCells]
 | x::r,i+1,h,m=>by
  have g:=wCells_setN r i (by simpa using h) m;rw[show(i+1)*5+4=(i*5+4)+1+1+1+1+1 by omega];simp only[wCells,List.set_cons_succ,List.getElem_cons_succ,g]
theorem powInfo:(Tryz.prog.info? 163).map (fun i=>(i.zero,i.size,i.bytes))=some (some (.agg #[.int .i64 0,.string ⟨#[]⟩,.int .i64 0,.slice none 0 0,.int .i64 0]),5,64):=by kernel_rfl
def RepW (w:World) (P:Nat→Prop) (l:List Pw) (A:Option Addr) (cap:Nat):Prop:=
 l.length≤cap∧cap≤maxLen∧(l=[]∨∃b off,A=some ⟨b,off,none⟩∧P b∧∃its:List IW,its.map IW.pw=l∧(∀j u,(wCells its)[j]?=some u→w.cell? ⟨b,off+j,none⟩=some u)∧∀x∈its,RepP w P x.1.1 x.1.2.1 x.1.2.2)
theorem RepW.mono {w w':World} {P P':Nat→Prop} (hP:∀b,P b→P' b) (hc:∀p:Addr,P p.block→w'.cell? p=w.cell? p) {l:List Pw} {A:Option Addr} {cap:Nat} (h:RepW w P l A cap):RepW w' P' l A cap:=by
 obtain⟨h1,h2,h3⟩:=h;refine⟨h1,h2,?_⟩;rcases h3 with h3|⟨b,off,hA,hb,its,he,hl,hr⟩
 ·exact .inl h3
 ·exact .inr ⟨b,off,hA,hP b hb,its,he,fun j u hj=>by rw[hc _ hb];exact hl j u hj,fun x hx=>RepP.mono hP hc _ _ _ (hr x hx)⟩
theorem RepW.go {w w':World} {B B':Nat} {l:List Pw} {A:Option Addr} {cap:Nat} (h:RepW w (fun b=>b<B) l A cap) (hb:Below B w w') (hB:B≤B'):RepW w' (fun b=>b<B') l A cap:=
 h.mono (fun _ h=>Nat.lt_of_lt_of_le h hB) (fun _ hp=>hb.cell hp)
theorem RepW.get {w:World} {P:Nat→Prop} {l:List Pw} {A:Option Addr} {cap:Nat} (h:RepW w P l A cap) (hne:l≠[]):∃b off,A=some ⟨b,off,none⟩∧P b∧∀i (hi:i<l.length),∃A' c',
  w.cell? ⟨b,off+i*5,none⟩=some (.int .i64 l[i].1.kind)∧w.cell? ⟨b,off+i*5+1,none⟩=some (.string l[i].1.name)∧w.cell? ⟨b,off+i*5+2,none⟩=some (.int .i64 l[i].1.sort)∧
  w.cell? ⟨b,off+i*5+3,none⟩=some (.slice A' l[i].1.kids.length c')∧w.cell? ⟨b,off+i*5+4,none⟩=some (.int .i64 l[i].2)∧RepP w P l[i].1 A' c':=by
 rcases h.2.2 with h|⟨b,off,hA,hb,its,rfl,hl,hr⟩
 ·exact absurd h hne
 ·refine⟨b,off,hA,hb,fun i hi=>?_⟩;have hi':i<its.length:=by simpa using hi
  obtain⟨g0,g1,g2,g3,g4⟩:=qgf its i hi';rw[List.getElem_map];refine⟨its[i].1.2.1,its[i].1.2.2,hl _ _ g0,?_,?_,?_,?_,hr _ (List.getElem_mem hi')⟩
  ·rw[Nat.add_assoc];exact hl _ _ g1
  ·rw[Nat.add_assoc];exact hl _ _ g2
  ·rw[Nat.add_assoc];exact hl _ _ g3
  ·rw[Nat.add_assoc];exact hl _ _ g4
theorem RepW.nil (w:World) (P:Nat→Prop):RepW w P [] none 0:=⟨by simp,by simp[maxLen],.inl rfl⟩
structure RowW (w:World) (base:Nat) (F:Nat→Prop) (v:Value) (its:List IW):Prop where
 own:w.ownsRow base 163 5 v its.length (wCells its)
 reps:∀x∈its,RepP w (fun b=>F b∧b<w.heap.size∧v.ownBlock≠some b) x.1.1 x.1.2.1 x.1.2.2
section
variable {w w':World} {base:Nat} {F:Nat→Prop} {v:Value} {its:List IW}
theorem RowW.nil (w:World) (base:Nat) (F:Nat→Prop):RowW w base F (.slice none 0 0) []:=⟨World.ownsRow_nil _ _ _ _,by simp⟩
theorem RowW.keep (h:RowW w base F v its) (hs:w.heap.size≤w'.heap.size) (hc:∀b,b<w.heap.size→(F b∨v.ownBlock=some b)→w'.heap[b]?=w.heap[b]?):RowW w' base F v its:=by
 refine⟨⟨h.own.1,?_⟩,fun x hx=>?_⟩
 ·rcases h.own.2 with hn|⟨g,cap,cur,rfl,hb,hg,r⟩
  ·exact .inl hn
  ·have hlt:g<w.heap.size:=(sltz hg);exact .inr ⟨g,cap,cur,rfl,hb,by rw[hc g hlt (Or.inr rfl)];exact hg,r⟩
 ·refine RepP.mono ?_ ?_ _ _ _ (h.reps x hx)
  ·rintro b ⟨h1,h2,h3⟩;exact⟨h1,by omega,h3⟩
  ·rintro p ⟨h1,h2,h3⟩;exact World.cell?_of_block (hc p.block h2 (Or.inl h1))
theorem RowW.below (h:RowW w base F v its) (hb:Below w.heap.size w w'):RowW w' base F v its:=h.keep hb.size (fun b hlt _=>hb.block b hlt)
theorem RowW.lt (h:RowW w base F v its):∀k,v.ownBlock=some k→base≤k∧k<w.heap.size:=h.own.lt
theorem RowW.loosen {base':Nat} {F':Nat→Prop} (h:RowW w base F v its) (hb:base'≤base) (hF:∀b,F b→b<w.heap.size→F' b):RowW w base' F' v its:=by
 refine⟨⟨h.own.1,?_⟩,fun x hx=>RepP.mono (fun b ⟨h1,h2,h3⟩=>⟨hF b h1 h2,h2,h3⟩) (fun _ _=>rfl) _ _ _ (h.reps x hx)⟩;rcases h.own.2 with h|⟨g,cap,cur,h1,h2,h3⟩
 ·exact .inl h
 ·exact .inr ⟨g,cap,cur,h1,by omega,h3⟩
theorem RowW.toW {P:Nat→Prop} (h:RowW w base F v its) (hF:∀b,F b→b<w.heap.size→P b) (hP:∀b,v.ownBlock=some b→P b) :
  ∃A cap,v=.slice A its.length cap∧RepW w P (its.map IW.pw) A cap:=by
 rcases h.own.2 with⟨rfl,h0⟩|⟨g,cap,cur,rfl,hb,hg,hnc,hcm,r⟩
 ·have:its=[]:=List.eq_nil_of_length_eq_zero h0;subst this;exact⟨none,0,rfl,RepW.nil _ _⟩
 ·refine⟨some ⟨g,0,none⟩,cap,rfl,by simpa using hnc,hcm,.inr ⟨g,0,rfl,hP g rfl,its,rfl,fun j u hj=>?_,fun x hx=>?_⟩⟩
  ·have:=h.own.cells (g:=g) rfl j u hj;simpa[Addr.add]using (by
    unfold Addr.add at this
    split at this<;>simp_all)
  ·exact RepP.mono (fun b ⟨h1,h2,_⟩=>hF b h1 h2) (fun _ _=>rfl) _ _ _ (h.reps x hx)
theorem RowW.push {v':Value} {news:List IW} (h:RowW w base F v its)
  (hn:∀x∈news,RepP w (fun b=>F b∧b<w.heap.size∧v.ownBlock≠some b) x.1.1 x.1.2.1 x.1.2.2)
  (ho:w'.ownsRow base 163 5 v' (its.length+news.length) (wCells its++wCells news)) (hg:w.grownBy w' v.ownBlock)
  (hat:v'.ownBlock=v.ownBlock∨v'.ownBlock=some w.heap.size):RowW w' base F v' (its++news):=by
 refine⟨by rw[qcu,List.length_append];exact ho,fun x hx=>?_⟩;have key:RepP w (fun b=>F b∧b<w.heap.size∧v.ownBlock≠some b) x.1.1 x.1.2.1 x.1.2.2:=by
  rcases List.mem_append.1 hx with hx|hx
  ·exact h.reps x hx
  ·exact hn x hx
 refine RepP.mono ?_ ?_ _ _ _ key
 ·rintro b ⟨h1,h2,h3⟩;refine⟨h1,Nat.lt_of_lt_of_le h2 hg.size,?_⟩;rcases hat with e|e<;>rw[e]
  ·exact h3
  ·intro e;injection e with e;omega
 ·rintro p ⟨h1,h2,h3⟩;exact World.cell?_of_block (hg.block p.block h2 (fun e=>h3 e.symm))
theorem RowW.more (hrow:RowW w base F v its) (hbase:base≤w.heap.size) (news:List IW) (hne:0<news.length) (B off c:Nat)
  (hcells:∀j u,(wCells news)[j]?=some u→w.cell? ⟨B,off+j,none⟩=some u)
  (hreps:∀x∈news,RepP w (fun b=>F b∧b<w.heap.size∧v.ownBlock≠some b) x.1.1 x.1.2.1 x.1.2.2) (hlen:its.length+news.length≤100000000) :
  ∃g cap w',(∀ty,(Builtin.append_ #[129,129] ty #[v,.slice (some ⟨B,off,none⟩) news.length c]).run Tryz.prog w=.ok (.slice (some ⟨g,0,none⟩) (its.length+news.length) cap) w')∧
   RowW w' base F (.slice (some ⟨g,0,none⟩) (its.length+news.length) cap) (its++news)∧w.grownBy w' v.ownBlock∧(v.ownBlock=some g∨g=w.heap.size):=by
 obtain⟨i0,hi0,hz0,hz1,hz2⟩:=info_parts powInfo;obtain⟨g,cap,w',h1,h2,h3,h4,h5⟩:=run_append_lies (P:=Tryz.prog) w 129 0 base 163 i0 _ 5 64 Tryz.underlying129 hi0 hz0 hz1 hz2 rfl (by omega) v its.length (wCells its) hrow.own ⟨B,off,none⟩ news.length c (wCells news) (qfs _)
  (fun j u hu=>by
   have h:=hcells j u hu;unfold Addr.add
   split
   ·rename_i hj;subst hj;simpa using h
   ·exact h) (qd1 news) hne (by unfold maxLen;omega) (by omega) hbase w.heap.size rfl
 refine⟨g,cap,w',fun ty=>h1,hrow.push hreps h2 h3 ?_,h3,h4⟩;rcases h4 with h|h
 ·exact .inl h.symm
 ·right;rw[h];rfl
theorem RowW.more1 (hrow:RowW w base F v its) (hbase:base≤w.heap.size) (X:IW)
  (h1:RepP w (fun b=>F b∧b<w.heap.size∧v.ownBlock≠some b) X.1.1 X.1.2.1 X.1.2.2) (hlen:its.length+1≤100000000) :
  ∃g c' w',(∀ty,(Builtin.append_ #[129,129] ty #[v,.slice (some ⟨w.heap.size,0,none⟩) 1 1]).run Tryz.prog (w.alloc (.cells #[.int .i64 X.1.1.kind,.string X.1.1.name,.int .i64 X.1.1.sort,.slice X.1.2.1 X.1.1.kids.length X.1.2.2,.int .i64 X.2] 163))=.ok (.slice (some ⟨g,0,none⟩) (its.length+1) c') w')∧
   RowW w' base F (.slice (some ⟨g,0,none⟩) (its.length+1) c') (its++[X])∧(∀W0 B0,Below B0 W0 w→B0≤base→Below B0 W0 w')∧(∀k,k<w.heap.size→v.ownBlock≠some k→w'.heap[k]?=w.heap[k]?)∧w.heap.size≤w'.heap.size∧(v.ownBlock=some g∨w.heap.size≤g):=by
 obtain⟨W6,hW6⟩:∃W6,W6=w.alloc (.cells (wCells [X]).toArray 163):=⟨_,rfl⟩;have hb6:Below w.heap.size w W6:=by rw[hW6];exact qad (Nat.le_refl _) _
 have hs6:W6.heap.size=w.heap.size+1:=by rw[hW6];simp
 have hx6:W6.heap[w.heap.size]?=some (.cells (wCells [X]).toArray 163 (0,0)):=by rw[hW6];exact heap_alloc_new _ _
 have key:RepP W6 (fun b=>F b∧b<W6.heap.size∧v.ownBlock≠some b) X.1.1 X.1.2.1 X.1.2.2:=
  RepP.mono (fun b hb=>⟨hb.1,by have:=hb.2.1;omega,hb.2.2⟩) (fun p hp=>hb6.cell hp.2.1) _ _ _ h1
 obtain⟨g,cap,w',e1,e2,e3,e4⟩:=(hrow.below hb6).more (by omega) [X] (by simp) w.heap.size 0 1 (fun j u hu=>by
  rw[Nat.zero_add,cell_of_row W6 w.heap.size j _ _ _ hx6];simpa using hu) (fun x hx=>by
   rw[List.mem_singleton]at hx;subst hx;exact key) hlen
 simp only[wCells]at hW6;rw[hW6]at e1;have hsz:=e3.size;refine⟨g,cap,w',e1,e2,fun W0 B0 hB hB0=>?_,fun k hk hne=>?_,by omega,e4.imp id (fun h=>by omega)⟩
 ·have hbs:=hB.size;exact(hB.trans (hb6.mono (by omega))).grown e3 (by omega) (fun j e=>by have:=(hrow.lt _ e).1;omega)
 ·rw[e3.block k (by omega) (fun e=>hne e.symm)];exact hb6.block k hk
theorem RowW.slot {g cap n:Nat} (h:RowW w base F (.slice (some ⟨g,0,none⟩) n cap) its) (i:Nat) (hi:i<its.length) :
  w.cell? ⟨g,i*5,none⟩=some (.int .i64 its[i].1.1.kind)∧w.cell? ⟨g,i*5+1,none⟩=some (.string its[i].1.1.name)∧w.cell? ⟨g,i*5+2,none⟩=some (.int .i64 its[i].1.1.sort)∧
   w.cell? ⟨g,i*5+3,none⟩=some (.slice its[i].1.2.1 its[i].1.1.kids.length its[i].1.2.2)∧w.cell? ⟨g,i*5+4,none⟩=some (.int .i64 its[i].2)∧∀o,w.frozen? ⟨g,o,none⟩=false:=by
 have hc:∀j u,(wCells its)[j]?=some u→w.cell? ⟨g,j,none⟩=some u:=fun j u hj=>by
  have:=h.own.cells (g:=g) rfl j u hj;unfold Addr.add at this
  split at this<;>simp_all
 obtain⟨g0,g1,g2,g3,g4⟩:=qgf its i hi;refine⟨hc _ _ g0,hc _ _ g1,hc _ _ g2,hc _ _ g3,hc _ _ g4,fun o=>?_⟩;rcases h.own.2 with⟨hv,_⟩|⟨g',cap',cur,hv,hb,hg,_⟩
 ·cases hv
 ·injection hv with h1;injection h1 with h1;injection h1 with h1;subst h1;simp[World.frozen?,hg]
theorem RowW.setN {g cap n:Nat} (h:RowW w base F (.slice (some ⟨g,0,none⟩) n cap) its) (hn:n=its.length) (i:Nat) (hi:i<its.length) (m:Int) :
  RowW (w.setCell ⟨g,i*5+4,none⟩ (.int .i64 m)) base F (.slice (some ⟨g,0,none⟩) n cap) (its.set i (its[i].1,m)):=by
 subst hn;have hown:=own_set h.own (i*5+4) (.int .i64 m);rw[wCells_setN its i hi m]at hown;refine⟨by rw[List.length_set];exact hown,fun x hx=>?_⟩;have key:∀(t:Tm) A c,RepP w (fun b=>F b∧b<w.heap.size∧(Value.slice (some ⟨g,0,none⟩) its.length cap).ownBlock≠some b) t A c→
   RepP (w.setCell ⟨g,i*5+4,none⟩ (.int .i64 m)) (fun b=>F b∧b<(w.setCell ⟨g,i*5+4,none⟩ (.int .i64 m)).heap.size∧(Value.slice (some ⟨g,0,none⟩) its.length cap).ownBlock≠some b) t A c:=fun t A c hr=>by
  refine RepP.mono ?_ ?_ _ _ _ hr
  ·rintro b ⟨h1,h2,h3⟩;exact⟨h1,by simpa[World.setCell]using h2,h3⟩
  ·rintro p ⟨h1,h2,h3⟩;have hq:∀o,(⟨g,o,none⟩:Addr)≠p:=fun o e=>h3 (by rw[←e];rfl);rw[World.cell?_setCell_other _ _ _ _ (hq _)]
 rcases List.mem_or_eq_of_mem_set hx with hx|rfl
 ·exact key _ _ _ (h.reps x hx)
 ·exact key _ _ _ (h.reps its[i] (List.getElem_mem hi))
theorem RowW.head (h:RowW w base F v its) (hn:0<its.length):∃g cap,v=.slice (some ⟨g,0,none⟩) its.length cap∧base≤g∧g<w.heap.size∧its.length≤cap∧cap≤maxLen∧∃cur,w.heap[g]?=some (.cells cur 163 (0,0))∧cur.size=cap*5∧cur.toList.take (its.length*5)=wCells its:=by
 rcases h.own.2 with⟨-,h0⟩|⟨g,cap,cur,rfl,hb,hg,hnc,hcm,hs,ht⟩
 ·omega
 ·exact⟨g,cap,rfl,hb,(sltz hg),hnc,hcm,cur,hg,hs,ht⟩
end
end Go.Proofs.YtjhjoiplpmjepaaGreat
namespace Go.Proofs.YtjhjoiplpmjepaaGreat
def qni (l:List (Tm×Int)) (t:Tm) (n:Int) (i:Nat):List (Tm×Int):=
 if h:i<l.length then (if (l[i]).1.cmp t=0 then (if l[i].2+n=0 then l.eraseIdx i else l.set i (l[i].1,l[i].2+n))else l.take i++(t,n)::l.drop i)else l.take i++(t,n)::l.drop i
theorem insP_at (t:Tm) (n:Int):∀(l:List (Tm×Int)) (i:Nat),i≤l.length→(∀j (h:j<l.length),j<i→l[j].1.cmp t<0)→(∀(h:i<l.length),¬l[i].1.cmp t<0)→insP t n l=qni l t n i
 | [],i,hi,_,_=>by
  obtain rfl:i=0:=by simpa using hi
  simp[insP,qni]
 | (u,m)::r,0,_,_,h=>by
  have h0:=h (by simp);simp only[List.getElem_cons_zero]at h0;have hn:=Tm.cmp_neg u t;rw[insP,qni,dif_pos (by simp)];simp only[List.getElem_cons_zero];by_cases hz:u.cmp t=0
  ·rw[if_pos hz,if_neg (by omega),if_pos (by omega)];have e:=Tm.cmp_zero.1 hz;subst e;by_cases hm:m+n=0
   ·rw[if_pos hm,if_pos hm];rfl
   ·rw[if_neg hm,if_neg hm];rfl
  ·rw[if_neg hz,if_pos (by omega)];rfl
 | (u,m)::r,i+1,hi,h1,h2=>by
  have h0:=h1 0 (by simp) (by omega);simp only[List.getElem_cons_zero]at h0;have hn:=Tm.cmp_neg u t;have ih:=insP_at t n r i (by simpa using hi) (fun j hj hji=>by have:=h1 (j+1) (by simpa using hj) (by omega);simpa using this) (fun hj=>by have:=h2 (by simpa using hj);simpa using this);rw[insP,if_neg (by omega),if_neg (by omega),ih];unfold qni;by_cases hl:i<r.length
  ·rw[dif_pos hl,dif_pos (by simpa using hl)];simp only[List.getElem_cons_succ]
   split
   ·split<;>simp
   ·simp
  ·rw[dif_neg hl,dif_neg (by simpa using hl)];simp
theorem good_lt {l:List (Tm×Int)} (h:qbj l) {i j:Nat} (hij:i<j) (hj:j<l.length):(l[i]'(by omega)).1.cmp l[j].1<0:=List.pairwise_iff_getElem.1 h.1 i j (by omega) hj hij
theorem good_low {l:List (Tm×Int)} (h:qbj l) (t:Tm) {k:Nat} (hk:k<l.length) (hc:l[k].1.cmp t<0):∀j (hj:j<l.length),j<k+1→l[j].1.cmp t<0:=by
 intro j hj hjk;by_cases e:j=k
 ·subst e;exact hc
 ·exact cmp_tr (good_lt h (by omega) hk) hc
theorem good_high {l:List (Tm×Int)} (h:qbj l) (t:Tm) {k:Nat} (hk:k<l.length) (hc:¬l[k].1.cmp t<0):∀j (hj:j<l.length),k≤j→¬l[j].1.cmp t<0:=by
 intro j hj hjk;by_cases e:j=k
 ·subst e;exact hc
 ·intro h2;exact hc (cmp_tr (good_lt h (by omega) hj) h2)
def addL (t:Tm) (n:Int):Bool→List (Tm×Int)→List (Tm×Int)
 | d,[]=>if d=true then []else [(t,n)]
 | d,(u,m)::r=>(if d=false∧t.cmp u<0 then [(t,n)]else [])++((if (if t.cmp u=0 then m+n else m)≠0 then [(u,if t.cmp u=0 then m+n else m)]else [])++addL t n (d || decide (t.cmp u<0) || decide (t.cmp u=0)) r)
theorem qh8 (t:Tm) (n:Int):∀l:List (Tm×Int),(∀p∈l,t.cmp p.1≠0∧p.2≠0)→addL t n true l=l
 | [],_=>rfl
 | (u,m)::r,h=>by
  have h0:=h (u,m) (List.mem_cons_self ..);rw[addL,if_neg (by simp)];simp only[Bool.true_or,List.nil_append,List.singleton_append,if_neg h0.1,if_pos h0.2];rw[qh8 t n r fun p hp=>h p (List.mem_cons_of_mem _ hp)]
theorem qh7 (t:Tm) (n:Int):∀l:List (Tm×Int),qbj l→addL t n false l=insP t n l
 | [],_=>rfl
 | (u,m)::r,h=>by
  have h1:=(List.pairwise_cons.1 h.1).1;have hm:=h.2 (u,m) (List.mem_cons_self ..);have hr:t.cmp u≤0→∀p∈r,t.cmp p.1≠0∧p.2≠0:=fun hc p hp=>by
   refine⟨?_,h.2 p (List.mem_cons_of_mem _ hp)⟩;have h2:=h1 p hp;by_cases hz:t.cmp u=0
   ·rw[Tm.cmp_zero.1 hz];dsimp only at h2;omega
   ·have:=cmp_tr (show t.cmp u<0 by omega) h2;omega
  rw[addL,insP];by_cases hc:t.cmp u<0
  ·have h0:¬t.cmp u=0:=by omega
   rw[if_pos ⟨rfl,hc⟩,if_pos hc,decide_eq_true hc];simp only[Bool.false_or,Bool.true_or,if_neg h0,if_pos hm];rw[qh8 t n r (hr (by omega))];rfl
  ·rw[if_neg (fun e=>hc e.2),if_neg hc];by_cases hz:t.cmp u=0
   ·rw[decide_eq_true hz];simp only[Bool.or_true,if_pos hz];rw[qh8 t n r (hr (by omega))];by_cases hk:m+n=0
    ·rw[if_neg (fun e=>e hk),if_pos hk];rfl
    ·rw[if_pos hk,if_neg hk];rfl
   ·rw[decide_eq_false hc,decide_eq_false hz];simp only[Bool.or_false,if_neg hz,if_pos hm];rw[qh7 t n r h.tail];rfl
theorem ins_len (t:Tm) (n:Int):∀l:List (Tm×Int),(insP t n l).length≤l.length+1
 | []=>by simp[insP]
 | (u,m)::r=>by
  have:=ins_len t n r;rw[insP]
  split
  ·simp
  ·split
   ·split<;>simp<;>omega
   ·simp;omega
theorem mul_len:∀(b a:List (Tm×Int)),(mulP a b).length≤a.length+b.length
 | [],a=>by simp[mulP]
 | p::r,a=>by
  have h1:=mul_len r (insP p.1 p.2 a);have h2:=ins_len p.1 p.2 a;show(mulP (insP p.1 p.2 a) r).length≤_;simp;omega
mutual
theorem col_len:∀(t:Tm) (i:Int) (a:List (Tm×Int)),(colP t i a).length≤a.length+t.size
 | .mk k n s l,i,a=>by
  rw[colP,Tm.size]
  split
  ·have:=qmg l (if n=nInv then -i else i) a;omega
  ·have:=ins_len (.mk k n s l) i a;omega
theorem qmg:∀(l:List Tm) (i:Int) (a:List (Tm×Int)),(qdt l i a).length≤a.length+Tm.sizes l
 | [],i,a=>by rw[qdt,Tm.sizes];omega
 | t::r,i,a=>by
  have h1:=col_len t i a;have h2:=qmg r i (colP t i a);rw[qdt,Tm.sizes];omega
end
def BdP (M L:Nat) (l:List (Tm×Int)):Prop:=l.length≤L∧∀p∈l,p.1.size≤1000000∧-(M:Int)≤p.2∧p.2≤M
theorem BdP.nil:BdP 0 0 []:=⟨Nat.le_refl _,by simp⟩
theorem BdP.more {M L M' L':Nat} {l:List (Tm×Int)} (h:BdP M L l) (hM:M≤M') (hL:L≤L'):BdP M' L' l:=⟨Nat.le_trans h.1 hL,fun p hp=>by have:=h.2 p hp;omega⟩
theorem BdP.ins {M L K:Nat} {t:Tm} {n:Int} (ht:t.size≤1000000) (hn:-(K:Int)≤n∧n≤K):∀{l:List (Tm×Int)},BdP M L l→BdP (M+K) (L+1) (insP t n l):=by
 intro l h;refine⟨Nat.le_trans (ins_len t n l) (by have:=h.1;omega),?_⟩;have key:∀(l:List (Tm×Int)),(∀p∈l,p.1.size≤1000000∧-(M:Int)≤p.2∧p.2≤M)→∀p∈insP t n l,p.1.size≤1000000∧-((M+K:Nat):Int)≤p.2∧p.2≤((M+K:Nat):Int):=by
  intro l
  induction l with
  | nil=>intro _ p hp;rw[insP,List.mem_singleton]at hp;subst hp;exact⟨ht,by dsimp only;omega⟩
  | cons q r ih=>
   intro hl p hp;obtain⟨u,m⟩:=q;have h0:=hl (u,m) (List.mem_cons_self ..);dsimp only at h0;have hr:∀p∈r,p.1.size≤1000000∧-((M+K:Nat):Int)≤p.2∧p.2≤((M+K:Nat):Int):=fun p hp=>by have:=hl p (List.mem_cons_of_mem _ hp);omega
   rw[insP]at hp
   split at hp
   ·rcases List.mem_cons.1 hp with e|hp
    ·subst e;exact⟨ht,by dsimp only;omega⟩
    ·rcases List.mem_cons.1 hp with e|hp
     ·subst e;exact⟨h0.1,by dsimp only;omega⟩
     ·exact hr p hp
   ·split at hp
    ·split at hp
     ·exact hr p hp
     ·rcases List.mem_cons.1 hp with e|hp
      ·subst e;exact⟨h0.1,by dsimp only;omega⟩
      ·exact hr p hp
    ·rcases List.mem_cons.1 hp with e|hp
     ·subst e;exact⟨h0.1,by dsimp only;omega⟩
     ·exact ih (fun p hp=>hl p (List.mem_cons_of_mem _ hp)) p hp
 exact key l h.2
mutual
theorem BdP.col:∀(t:Tm) {M L:Nat} {i:Int} {a:List (Tm×Int)},t.size≤1000000→(i=1∨i = -1)→BdP M L a→BdP (M+t.size) (L+t.size) (colP t i a)
 | .mk k n s l,M,L,i,a,ht,hi,h=>by
  have e:(Tm.mk k n s l).size=1+Tm.sizes l:=by rw[Tm.size]
  rw[colP]
  split
  ·have:=BdP.cols l (i:=if n=nInv then -i else i) (a:=a) (M:=M) (L:=L) (by omega) (by split<;>omega) h;exact this.more (by omega) (by omega)
  ·exact(BdP.ins (K:=1) ht (by omega) h).more (by omega) (by omega)
theorem BdP.cols:∀(l:List Tm) {M L:Nat} {i:Int} {a:List (Tm×Int)},Tm.sizes l≤1000000→(i=1∨i = -1)→BdP M L a→BdP (M+Tm.sizes l) (L+Tm.sizes l) (qdt l i a)
 | [],_,_,_,_,_,_,h=>by rw[qdt,Tm.sizes];exact h
 | t::r,M,L,i,a,hl,hi,h=>by
  rw[Tm.sizes]at hl ⊢;rw[qdt];have h1:=BdP.col t (by omega) hi h;have h2:=BdP.cols r (by omega) hi h1;exact h2.more (by omega) (by omega)
end
theorem qky (l:List Tm) (i:Int) (a:List (Tm×Int)) {k:Nat} (hk:k<l.length):qdt (l.drop k) i a=qdt (l.drop (k+1)) i (colP l[k] i a):=by rw[List.drop_eq_getElem_cons hk,qdt]
section
variable {P:Program} {ops:Array Oper} {Q:Exit→Act→World→Prop} {md:Region.Mode} {S:World→Prop} {n:Nat}
inductive Mx3 where
 | nil
 | held (i:Nat) (r:Mx3)
 | pure (i:Nat) (r:Mx3)
 | op (i:Nat) (r:Mx3)
 | two (i j:Nat) (r r':Mx3)
 | three (i j k:Nat) (r r' r'':Mx3)
def Mx3.len:Mx3→Nat
 | .nil=>0
 | .held _ r|.pure _ r|.op _ r=>r.len+1
 | .two _ _ r _=>r.len+1
 | .three _ _ _ r _ _=>r.len+1
def qbo (P:Program) (ops:Array Oper) (Q:Exit→Act→World→Prop) (S:World→Prop) (n:Nat):Mx3→Act→World→Prop
 | .nil,a,w=>Q .normal a w
 | .held i r,a,w=>S w∧∃o v,ops[i]?=some o∧YieldsIf P ops S o v a∧(∀c a' w',Q (.panic c) (a'.put o.dst v) w'→Q (.panic c) a' w')∧qbo P ops Q S n r (a.put o.dst v) w
 | .pure i r,a,w=>(i<n→S w)∧∃o v,ops[i]?=some o∧YieldsIf P ops (fun _=>True) o v a∧(∀c a' w',Q (.panic c) (a'.put o.dst v) w'→Q (.panic c) a' w')∧qbo P ops Q S n r (a.put o.dst v) w
 | .op i r,a,w=>wpOp P ops Q i (fun a' w'=>(i<n→S w')∧qbo P ops Q S n r a' w') a w
 | .two i j r r',a,w=>wpOp P ops Q i (fun a' w'=>(i<n→S w')∧qbo P ops Q S n r a' w') a w∧wpOp P ops Q j (fun a' w'=>(j<n→S w')∧qbo P ops Q S n r' a' w') a w
 | .three i j k r r' r'',a,w=>wpOp P ops Q i (fun a' w'=>(i<n→S w')∧qbo P ops Q S n r a' w') a w∧wpOp P ops Q j (fun a' w'=>(j<n→S w')∧qbo P ops Q S n r' a' w') a w∧wpOp P ops Q k (fun a' w'=>(k<n→S w')∧qbo P ops Q S n r'' a' w') a w
def qfb (md:Region.Mode) (ops:Array Oper) (n:Nat):Mx3→Array Bool→Bool
 | .nil,listed=>(Region.ready md ops listed).isEmpty
 | .held i r,listed=>decide (i<n) && (Region.ready md ops listed).contains i && Region.free md ops listed i && qfb md ops n r (listed.setIfInBounds i true)
 | .pure i r,listed=>decide (n≤i) && (Region.ready md ops listed).contains i && Region.free md ops listed i && qfb md ops n r (listed.setIfInBounds i true)
 | .op i r,listed=>decide (Region.ready md ops listed=[i]) && qfb md ops n r (listed.setIfInBounds i true)
 | .two i j r r',listed=>decide (Region.ready md ops listed=[i,j]) && decide (r.len=r'.len) && qfb md ops n r (listed.setIfInBounds i true) && qfb md ops n r' (listed.setIfInBounds j true)
 | .three i j k r r' r'',listed=>decide (Region.ready md ops listed=[i,j,k]) && decide (r.len=r'.len) && decide (r.len=r''.len) && qfb md ops n r (listed.setIfInBounds i true) && qfb md ops n r' (listed.setIfInBounds j true) && qfb md ops n r'' (listed.setIfInBounds k true)
def mixOk3 (md:Region.Mode) (ops:Array Oper) (n:Nat) (order:Mx3):Bool:=
 Region.noSelect ops && barB md ops n && decide (order.len=ops.size) && qfb md ops n order (Array.replicate ops.size false)
theorem qa8 (hsel:Region.noSelect ops=true) (hb:barB md ops n=true) :
  ∀(order:Mx3) (listed:Array Bool) (a:Act) (w:World),qfb md ops n order listed=true→qbo P ops Q S n order a w→qie P md ops Q S n order.len listed a w
 | .nil,listed,a,w,hB,h=>⟨by simpa[qfb]using hB,h⟩
 | .held i r,listed,a,w,hB,h=>by
  simp only[qfb,Bool.and_eq_true,decide_eq_true_eq]at hB;obtain⟨⟨⟨hin,hr⟩,hf⟩,hB2⟩:=hB;obtain⟨hS,o,v,ho,hy,hQ,hrest⟩:=h;exact qdv ho (Region.noSelect_spec hsel) (fun l j w hun hj hSw=>hSw (qk5 hb hin hun j hj)) (fun _ h _=>h) hQ r.len listed a w (Region.free_spec ho hf) (by simpa using hr) hy hS
   (qa8 hsel hb r _ _ _ hB2 hrest)
 | .pure i r,listed,a,w,hB,h=>by
  simp only[qfb,Bool.and_eq_true,decide_eq_true_eq]at hB;obtain⟨⟨⟨hin,hr⟩,hf⟩,hB2⟩:=hB;obtain⟨_,o,v,ho,hy,hQ,hrest⟩:=h;exact qdv (S':=fun _=>True) ho (Region.noSelect_spec hsel) (fun _ _ _ _ _ _=>trivial) (fun _ _ h=>absurd h (by omega)) hQ r.len listed a w (Region.free_spec ho hf) (by simpa using hr) hy trivial
   (qa8 hsel hb r _ _ _ hB2 hrest)
 | .op i r,listed,a,w,hB,h=>by
  simp only[qfb,Bool.and_eq_true,decide_eq_true_eq]at hB;refine⟨fun h0=>(by rw[hB.1]at h0;cases h0),fun j hj=>?_⟩;rw[hB.1]at hj;obtain rfl:j=i:=by simpa using hj
  exact wpOp_mono (fun a' w' h'=>⟨h'.1,qa8 hsel hb r _ a' w' hB.2 h'.2⟩) h
 | .two i k r r',listed,a,w,hB,h=>by
  simp only[qfb,Bool.and_eq_true,decide_eq_true_eq]at hB;obtain⟨⟨⟨hr,hlen⟩,hB1⟩,hB2⟩:=hB;refine⟨fun h0=>(by rw[hr]at h0;cases h0),fun j hj=>?_⟩;rw[hr]at hj;simp only[List.mem_cons,List.not_mem_nil,or_false]at hj;rcases hj with rfl|rfl
  ·exact wpOp_mono (fun a' w' h'=>⟨h'.1,qa8 hsel hb r _ a' w' hB1 h'.2⟩) h.1
  ·exact wpOp_mono (fun a' w' h'=>⟨h'.1,by rw[hlen];exact qa8 hsel hb r' _ a' w' hB2 h'.2⟩) h.2
 | .three i k m r r' r'',listed,a,w,hB,h=>by
  simp only[qfb,Bool.and_eq_true,decide_eq_true_eq]at hB;obtain⟨⟨⟨⟨⟨hr,hlen⟩,hlen2⟩,hB1⟩,hB2⟩,hB3⟩:=hB;refine⟨fun h0=>(by rw[hr]at h0;cases h0),fun j hj=>?_⟩;rw[hr]at hj;simp only[List.mem_cons,List.not_mem_nil,or_false]at hj;rcases hj with rfl|rfl|rfl
  ·exact wpOp_mono (fun a' w' h'=>⟨h'.1,qa8 hsel hb r _ a' w' hB1 h'.2⟩) h.1
  ·exact wpOp_mono (fun a' w' h'=>⟨h'.1,by rw[hlen];exact qa8 hsel hb r' _ a' w' hB2 h'.2⟩) h.2.1
  ·exact wpOp_mono (fun a' w' h'=>⟨h'.1,by rw[hlen2];exact qa8 hsel hb r'' _ a' w' hB3 h'.2⟩) h.2.2
theorem wp_region_mix3 {id:Nat} {Q:Exit→Act→World→Prop} {a:Act} {w:World} {l:List Oper} (S:World→Prop) (n:Nat) (order:Mx3) (hm:P.follows .mixedOrders=true)
  (hB:mixOk3 .any l.toArray n order=true) (h:qbo P l.toArray Q S n order a w.drew):(Code.region id l.toArray true).wp P Q a w:=by
 simp only[mixOk3,Bool.and_eq_true,decide_eq_true_eq]at hB;obtain⟨⟨⟨hsel,hb⟩,hlen⟩,hB⟩:=hB;refine wp_region_any hm ?_;have:=qge _ _ _ _ (qa8 (md:=.any) hsel hb order _ a w.drew hB h);rw[hlen]at this;exact this
theorem mix3_nil {a:Act} {w:World} (h:Q .normal a w):qbo P ops Q S n .nil a w:=h
theorem mix3_take {i:Nat} {r:Mx3} {a:Act} {w:World} {o:Oper} {v:Value} (ho:ops[i]?=some o) (hg:o.guard=none) (hQ:∀c a' w',Q (.panic c) (a'.put o.dst v) w'→Q (.panic c) a' w')
  (hS:S w) (hv:∀w,S w→(execOp a.eval o).run P w=.ok (.value v) w) (h:qbo P ops Q S n r (a.put o.dst v) w):qbo P ops Q S n (.held i r) a w:=
 ⟨hS,o,v,ho,Or.inl ⟨by simp[Region.wanted,hg],hv⟩,hQ,h⟩
theorem mix3_pure {i:Nat} {r:Mx3} {a:Act} {w:World} {o:Oper} {v:Value} (ho:ops[i]?=some o) (hg:o.guard=none) (hQ:∀c a' w',Q (.panic c) (a'.put o.dst v) w'→Q (.panic c) a' w')
  (hn:n≤i) (hv:∀w,(execOp a.eval o).run P w=.ok (.value v) w) (h:qbo P ops Q S n r (a.put o.dst v) w):qbo P ops Q S n (.pure i r) a w:=
 ⟨fun h=>absurd h (by omega),o,v,ho,Or.inl ⟨by simp[Region.wanted,hg],fun w _=>hv w⟩,hQ,h⟩
theorem mix3_op {i:Nat} {r:Mx3} {a:Act} {w:World} {o:Oper} (ho:ops[i]?=some o) (hg:o.guard=none)
  (h:∀K:Act→World→Prop,(∀a' w',(i<n→S w')∧qbo P ops Q S n r a' w'→K a' w')→o.wp P a w K Q):qbo P ops Q S n (.op i r) a w:=by
 show wpOp P ops Q i _ a w;unfold wpOp;simp only[ho,Region.wanted,hg,if_true];exact .inl (h _ fun a' w' h=>h)
theorem mix3_take_g {i:Nat} {r:Mx3} {a:Act} {w:World} {o:Oper} {v:Value} (ho:ops[i]?=some o) (hw:Region.wanted o (yielded ops a.tmps)=true) (hQ:∀c a' w',Q (.panic c) (a'.put o.dst v) w'→Q (.panic c) a' w')
  (hS:S w) (hv:∀w,S w→(execOp a.eval o).run P w=.ok (.value v) w) (h:qbo P ops Q S n r (a.put o.dst v) w):qbo P ops Q S n (.held i r) a w:=
 ⟨hS,o,v,ho,Or.inl ⟨hw,hv⟩,hQ,h⟩
theorem mix3_op_g {i:Nat} {r:Mx3} {a:Act} {w:World} {o:Oper} (ho:ops[i]?=some o) (hw:Region.wanted o (yielded ops a.tmps)=true)
  (h:∀K:Act→World→Prop,(∀a' w',(i<n→S w')∧qbo P ops Q S n r a' w'→K a' w')→o.wp P a w K Q):qbo P ops Q S n (.op i r) a w:=by
 show wpOp P ops Q i _ a w;unfold wpOp;simp only[ho,hw,if_true];exact .inl (h _ fun a' w' h=>h)
theorem mix3_two {i j:Nat} {r r':Mx3} {a:Act} {w:World} (h:qbo P ops Q S n (.op i r) a w) (h':qbo P ops Q S n (.op j r') a w):qbo P ops Q S n (.two i j r r') a w:=⟨h,h'⟩
theorem mix3_three {i j k:Nat} {r r' r'':Mx3} {a:Act} {w:World} (h:qbo P ops Q S n (.op i r) a w) (h':qbo P ops Q S n (.op j r') a w) (h'':qbo P ops Q S n (.op k r'') a w):qbo P ops Q S n (.three i j k r r' r'') a w:=⟨h,h',h''⟩
end
end Go.Proofs.YtjhjoiplpmjepaaGreat
