/- Gd (joined by shake.py). -/
import Derived.Test.YtjhjoiplpmjepaaGreatW0
import Derived.Test.YtjhjoiplpmjepaaGreatShl
import Derived.Test.YtjhjoiplpmjepaaGreatW1
import Derived.Test.YtjhjoiplpmjepaaGreatW2
import Derived.Test.YtjhjoiplpmjepaaGreatW3
import Derived.Lib.SlicesS
set_option linter.unusedVariables false
set_option linter.unusedSimpArgs false
namespace Go.Proofs.YtjhjoiplpmjepaaGreat
open Go.RowKit Go.Sort
open Go.RowKit Go.Sort
open Go.RowKit Go.Sort
open Go.RowKit Go.Sort
open Go.RowKit Go.Sort
open Go.RowKit Go.Sort
structure Moves (pb:Nat) (w w':World):Prop where
 size:w.heap.size≤w'.heap.size
 same:∀b,b<w.heap.size→b≠pb→w'.heap[b]?=w.heap[b]?
 os:w'.os=w.os
 tape:w'.tape=w.tape
 output:w'.output=w.output
theorem Moves.refl (pb:Nat) (w:World):Moves pb w w:=⟨Nat.le_refl _,fun _ _ _=>rfl,rfl,rfl,rfl⟩
theorem Moves.trans {pb:Nat} {a b c:World} (h:Moves pb a b) (k:Moves pb b c):Moves pb a c:=
 ⟨Nat.le_trans h.size k.size,fun x hx h1=>(k.same x (Nat.lt_of_lt_of_le hx h.size) h1).trans (h.same x hx h1),k.os.trans h.os,k.tape.trans h.tape,k.output.trans h.output⟩
theorem Moves.of_below {pb:Nat} {w w':World} (h:Below w.heap.size w w'):Moves pb w w':=⟨h.size,fun b hb _=>h.block b hb,h.os,h.tape,h.output⟩
theorem Moves.set {pb o:Nat} (w:World) (v:Value):Moves pb w (w.setCell ⟨pb,o,none⟩ v):=
 ⟨by simp[World.setCell],fun b _ hne=>Below.heap_setCell _ _ _ _ (by exact hne),rfl,rfl,rfl⟩
theorem qe4 (s:ByteArray) (i j:Nat):(s.extract i j).data.toList=(s.data.toList.drop i).take (j - i):=by
 rw[ByteArray.data_extract,Array.toList_extract]
theorem qbb (s:ByteArray) (i:Nat):(s.extract i s.size).data.toList=s.data.toList.drop i:=by
 rw[qe4,List.take_of_length_le];rw[List.length_drop,qak];exact Nat.le_refl _
theorem qhc:∀(l:List UInt8) (m:Nat),m≤l.length→(∀j,(h:j<l.length)→j<m→qa2 l[j]=true)→(∀h:m<l.length,qa2 l[m]=false)→l.takeWhile qa2=l.take m∧l.dropWhile qa2=l.drop m
 | [],m,_,_,_=>by simp
 | b::l,0,_,_,h=>by
  have:=h (by simp);simp only[List.getElem_cons_zero]at this;simp[this]
 | b::l,m+1,hm,h1,h2=>by
  have hb:=h1 0 (by simp) (by omega);simp only[List.getElem_cons_zero]at hb;have ih:=qhc l m (by simpa using hm) (fun j hj hjm=>by have:=h1 (j+1) (by simpa using hj) (by omega);simpa using this) (fun h=>by have:=h2 (by simpa using h);simpa using this);rw[List.takeWhile_cons_of_pos hb,List.dropWhile_cons_of_pos hb,ih.1,ih.2];simp
def wlen (l:List UInt8):Nat:=(l.takeWhile qa2).length
def qf4:List ByteArray:=[⟨#[97,110,121]⟩,⟨#[97,103,101,110,116]⟩,⟨#[110,111,110,99,101]⟩,⟨#[107,101,121]⟩,⟨#[100,97,116,97]⟩,⟨#[116,97,103]⟩]
def qlb (B:Nat) (w:World):Prop:=∃wb wo c,0<B∧wb<B∧w.cell? ⟨0,0,none⟩=some (.slice (some ⟨wb,wo,none⟩) 6 c)∧∀j,j<6→w.cell? ⟨wb,wo+j,none⟩=some (.string (qf4.getD j ByteArray.empty))
theorem qlb.keep {B:Nat} {w w':World} (h:qlb B w) (hb:∀b,b<B→w'.heap[b]?=w.heap[b]?):qlb B w':=by
 obtain⟨wb,wo,c,h0,h1,h2,h3⟩:=h;exact⟨wb,wo,c,h0,h1,by rw[World.cell?_of_block (hb _ h0)];exact h2,fun j hj=>by rw[World.cell?_of_block (hb _ h1)];exact h3 j hj⟩
theorem qlb.up {B B':Nat} {w:World} (h:qlb B w) (hb:B≤B'):qlb B' w:=by
 obtain⟨wb,wo,c,h0,h1,h⟩:=h;exact⟨wb,wo,c,by omega,by omega,h⟩
def qd6 (l:List UInt8):Int:=Lib.idxOfS qf4 ⟨l.toArray⟩
def qec (least:Int):List UInt8→Int×Bool×Nat
 | 58::r=>(qd6 (r.takeWhile qa2),decide (least≤qd6 (r.takeWhile qa2)),1+wlen r)
 | _=>(0,false,0)
theorem qfv (least:Int) (r:List UInt8):qec least (58::r)=(qd6 (r.takeWhile qa2),decide (least≤qd6 (r.takeWhile qa2)),1+wlen r):=rfl
theorem qof (least:Int) (l:List UInt8) (h:Lib.hasPrefix l [58]=false):qec least l=(0,false,0):=by
 unfold qec
 split
 ·simp[Lib.hasPrefix]at h
 ·rfl
theorem qhf {l:List UInt8} (h:Lib.hasPrefix l [58]=true):∃r,l=58::r:=by
 match l,h with
 | [],h=>simp[Lib.hasPrefix]at h
 | b::r,h=>simp[Lib.hasPrefix]at h;exact⟨r,by rw[h]⟩
theorem qdo (x:ByteArray):x=⟨x.data.toList.toArray⟩:=by cases x;simp
mutual
def pterm:Nat→List UInt8→Option (Tm×List UInt8)
 | 0,_=>none
 | n+1,l=>
  if qbg ((if Lib.hasPrefix l [63]then l.drop 1 else l).takeWhile qa2)=false then none
  else if Lib.hasPrefix l [63]=true then pvar ⟨((l.drop 1).takeWhile qa2).toArray⟩ ((l.drop 1).drop (wlen (l.drop 1)))
  else if Lib.hasPrefix (l.drop (wlen l)) [40]=false then qid ⟨(l.takeWhile qa2).toArray⟩ (l.drop (wlen l))
  else pkids n ⟨(l.takeWhile qa2).toArray⟩ [] ((l.drop (wlen l)).drop 1)
def pvar (w:ByteArray) (l:List UInt8):Option (Tm×List UInt8):=
 if Lib.hasPrefix l [58]=true then (if (qec 1 l).2.1=true then some (.mk 1 w (qec 1 l).1 [],l.drop (qec 1 l).2.2)else none)else some (.mk 1 w 0 [],l)
def qid (w:ByteArray) (l:List UInt8):Option (Tm×List UInt8):=
 if (qec 0 l).2.1=true then some (.mk 2 w (qec 0 l).1 [],l.drop (qec 0 l).2.2)else none
def pkids:Nat→ByteArray→List Tm→List UInt8→Option (Tm×List UInt8)
 | 0,_,_,_=>none
 | n+1,w,acc,l=>
  if Lib.hasPrefix l [41]=true then some (.mk 3 w 0 acc,l.drop 1)
  else if acc≠[]∧Lib.hasPrefix l [44,32]=false then none
  else match pterm n (if acc≠[]then l.drop 2 else l)with
   | none=>none
   | some (k,r)=>pkids n w (acc++[k]) r
end
theorem qfc {w:World} {P:Nat→Prop} (k so:Int) (x:ByteArray) (hx:x.size≤maxLen):RepP w P (.mk k x so []) none 0:=by
 rw[qa3];exact⟨hx,Nat.le_refl _,Nat.zero_le _,.inl rfl⟩
theorem qf6 {l:List UInt8} (h:qbg (l.takeWhile qa2)=true):0<wlen l:=by
 unfold wlen
 cases e:l.takeWhile qa2 with
 | nil=>rw[e]at h;simp[qbg]at h
 | cons _ _=>simp
theorem RowT.grow1 {w:World} {base:Nat} {F:Nat→Prop} {v:Value} {its:List It} (hrow:RowT w base F v its) (hbase:base≤w.heap.size) (X:It) (B c:Nat) (fr:Nat×Nat) (hB:w.heap[B]?=some (.cells (X.1.cells X.2.1 X.2.2).toArray 24 fr))
  (hX:RepP w (fun b=>F b∧b<w.heap.size∧v.ownBlock≠some b) X.1 X.2.1 X.2.2) (hlen:its.length+1≤100000000) :
  ∃g cap w',(∀ty,(Builtin.append_ #[22,22] ty #[v,.slice (some ⟨B,0,none⟩) 1 c]).run Tryz.prog w=.ok (.slice (some ⟨g,0,none⟩) (its.length+1) cap) w')∧
   RowT w' base F (.slice (some ⟨g,0,none⟩) (its.length+1) cap) (its++[X])∧w.grownBy w' v.ownBlock∧base≤g:=by
 obtain⟨i0,hi0,hz0,hz1,hz2⟩:=info_parts qcj;obtain⟨g,cap,w',h1,h2,h3,h4,_⟩:=run_append_lies (P:=Tryz.prog) w 22 0 base 24 i0 _ 4 56 Tryz.underlying22 hi0 hz0 hz1 hz2 rfl (by omega) v its.length (itCells its) hrow.own ⟨B,0,none⟩ 1 c (X.1.cells X.2.1 X.2.2) rfl
  (fun j u hu=>World.news_of_block hB j u (by simpa using hu)) (fun u hu=>qbt [X] u (by simpa[itCells]using hu)) (by omega) (by unfold maxLen;omega) (by omega) hbase w.heap.size rfl
 have hR:=qge hrow hX h2 h3 h4;exact⟨g,cap,w',fun ty=>h1,hR,h3,(hR.lt g rfl).1⟩
def nextKid (n:Nat) (w:ByteArray) (acc:List Tm):Option (Tm×List UInt8)→Option (Tm×List UInt8)
 | none=>none
 | some (k,r)=>pkids n w (acc++[k]) r
theorem qjn (n:Nat) (w:ByteArray) (acc:List Tm) (l:List UInt8) (h1:Lib.hasPrefix l [41]=false) (h2:acc=[]∨Lib.hasPrefix l [44,32]=true) :
  pkids (n+1) w acc l=nextKid n w acc (pterm n (if acc≠[]then l.drop 2 else l)):=by
 rw[pkids,if_neg (by rw[h1];simp),if_neg (by rcases h2 with h|h<;>simp[h])];unfold nextKid;rcases pterm n (if acc≠[]then l.drop 2 else l)with _|⟨k,r⟩<;>rfl
theorem qjm (n:Nat) (w:ByteArray) (acc:List Tm) (l:List UInt8) (h1:Lib.hasPrefix l [41]=false) (h2:acc≠[]) (h3:Lib.hasPrefix l [44,32]=false):pkids (n+1) w acc l=none:=by
 rw[pkids,if_neg (by rw[h1];simp),if_pos ⟨h2,h3⟩]
theorem qew:∀a b:List Tm,Tm.sizes (a++b)=Tm.sizes a+Tm.sizes b
 | [],b=>by simp[Tm.sizes]
 | t::a,b=>by simp only[List.cons_append,Tm.sizes,qew a b];omega
theorem qds (l:List UInt8):wlen l≤l.length:=(List.takeWhile_prefix _).length_le
theorem psize:∀n,(∀l t r,pterm n l=some (t,r)→t.size+r.length≤l.length)∧(∀w acc l t r,pkids n w acc l=some (t,r)→t.size+r.length≤1+Tm.sizes acc+l.length)
 | 0=>⟨fun l t r h=>by simp[pterm]at h,fun w acc l t r h=>by simp[pkids]at h⟩
 | n+1=>by
  obtain⟨ih1,ih2⟩:=psize n;have leaf:∀(k:Int) (x:ByteArray) (so:Int),(Tm.mk k x so []).size=1:=fun k x so=>by simp[Tm.size,Tm.sizes]
  constructor
  ·intro l t r h;rw[pterm]at h;by_cases hv:Lib.hasPrefix l [63]=true
   ·rw[if_pos hv]at h;by_cases hn:qbg ((l.drop 1).takeWhile qa2)=false
    ·rw[if_pos hn]at h;cases h
    ·rw[if_neg hn,if_pos hv]at h;have hw:=qf6 (l:=l.drop 1) (by simpa using hn);have hle:=qds (l.drop 1);rw[List.length_drop]at hle;unfold pvar at h
     split at h
     ·split at h
      ·injection h with h;injection h with h1 h2;subst h1 h2;rw[leaf];simp only[List.length_drop];omega
      ·cases h
     ·injection h with h;injection h with h1 h2;subst h1 h2;rw[leaf];simp only[List.length_drop];omega
   ·rw[if_neg hv]at h;by_cases hn:qbg (l.takeWhile qa2)=false
    ·rw[if_pos hn]at h;cases h
    ·rw[if_neg hn,if_neg hv]at h;have hw:=qf6 (l:=l) (by simpa using hn);have hle:=qds l;by_cases hp:Lib.hasPrefix (l.drop (wlen l)) [40]=false
     ·rw[if_pos hp]at h;unfold qid at h
      split at h
      ·injection h with h;injection h with h1 h2;subst h1 h2;rw[leaf];simp only[List.length_drop];omega
      ·cases h
     ·rw[if_neg hp]at h;have hp':Lib.hasPrefix (l.drop (wlen l)) [40]=true:=by simpa using hp
      have hne:0<(l.drop (wlen l)).length:=by
       cases e:l.drop (wlen l)with
       | nil=>rw[e]at hp';simp[Lib.hasPrefix]at hp'
       | cons _ _=>simp
      have:=ih2 _ _ _ _ _ h;simp only[List.length_drop,Tm.sizes]at this hne;omega
  ·intro w acc l t r h;rw[pkids]at h
   split at h
   ·injection h with h;injection h with h1 h2;subst h1 h2;rw[Tm.size];simp only[List.length_drop];omega
   ·split at h
    ·cases h
    ·split at h
     ·cases h
     ·rename_i k r' hk
      have h1:=ih1 _ _ _ hk;have h2:=ih2 _ _ _ _ _ h;rw[qew]at h2;have hle:(if acc≠[]then l.drop 2 else l).length≤l.length:=by split<;>simp
      simp only[Tm.sizes]at h2;omega
def qee (l:List UInt8):Tm×Int:=
 match pterm (2*l.length+1) l with
 | some (t,[])=>if t.valid=0 then (t,0)else (.mk 0 ⟨#[]⟩ 0 [],t.valid)
 | _=>(.mk 0 ⟨#[]⟩ 0 [],2)
def qiw (l:List UInt8) (w:World) (e:Ending) (w':World):Prop:=
 ∃A cap,e=.returned (.tuple #[(qee l).1.val A cap,.int .i64 (qee l).2])∧RepP w' (fun b=>w.heap.size≤b∧b<w'.heap.size) (qee l).1 A cap∧Below w.heap.size w w'
end Go.Proofs.YtjhjoiplpmjepaaGreat
