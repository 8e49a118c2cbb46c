/- Gh (joined by shake.py). -/
import Derived.Test.YtjhjoiplpmjepaaGreatW0
import Derived.Test.YtjhjoiplpmjepaaGreatSrt
import Derived.Test.YtjhjoiplpmjepaaGreatW1
import Derived.Test.YtjhjoiplpmjepaaGreatW2
import Derived.Test.YtjhjoiplpmjepaaGreatW4
import Derived.Shelf.SlSortCmp.NoneTotal
import Derived.WalkSpells
import Derived.Lib.Hide
set_option maxRecDepth 100000
set_option linter.unusedVariables false
set_option linter.unusedSimpArgs false
set_option maxHeartbeats 4000000
namespace Go.Proofs.YtjhjoiplpmjepaaGreat
open Go.RowKit Go.Sort
open Go.RowKit
open Go.RowKit
open Go.RowKit
open Go.RowKit Go.Sort
open Go.RowKit
open Go.RowKit
open Go.RowKit Go.Sort
open Go.RowKit Go.Sort
open Go.RowKit Go.Sort
open Go.RowKit Go.Sort
theorem Tm.lt_trans {a b c:Tm} (h:a.cmp b<0) (k:b.cmp c<0):a.cmp c<0:=(Tm.cmp_tri a b c).2.1 h (by omega)
theorem Tm.le_trans {a b c:Tm} (h:a.cmp b≤0) (k:b.cmp c≤0):a.cmp c≤0:=(Tm.cmp_tri a b c).1 h k
theorem Tm.lt_asymm {a b:Tm} (h:a.cmp b<0) (k:b.cmp a<0):False:=by have:=Tm.cmp_neg a b;omega
def Asc (l:List Tm):Prop:=l.Pairwise fun a b=>a.cmp b<0
theorem qdr:∀{a b:List Tm},Asc a→Asc b→(∀t,t∈a↔t∈b)→a=b
 | [],[],_,_,_=>rfl
 | [],y::b,_,_,h=>by have:=(h y).2 (by simp);simp at this
 | x::a,[],_,_,h=>by have:=(h x).1 (by simp);simp at this
 | x::a,y::b,ha,hb,h=>by
  have ha':=List.pairwise_cons.1 ha;have hb':=List.pairwise_cons.1 hb;have hxy:x=y:=by
   have h1:=(h x).1 (by simp);have h2:=(h y).2 (by simp);simp only[List.mem_cons]at h1 h2;rcases h1 with e|h1
   ·exact e
   ·rcases h2 with e|h2
    ·exact e.symm
    ·exact absurd (Tm.lt_asymm (ha'.1 y h2) (hb'.1 x h1)) (fun h=>h)
  subst hxy
  congr 1
  refine qdr ha'.2 hb'.2 fun t=>⟨fun ht=>?_,fun ht=>?_⟩
  ·have:=(h t).1 (List.mem_cons_of_mem _ ht);rcases List.mem_cons.1 this with e|h'
   ·subst e;have:=ha'.1 t ht;rw[Tm.cmp_self]at this;omega
   ·exact h'
  ·have:=(h t).2 (List.mem_cons_of_mem _ ht);rcases List.mem_cons.1 this with e|h'
   ·subst e;have:=hb'.1 t ht;rw[Tm.cmp_self]at this;omega
   ·exact h'
def Tm.add (t:Tm):List Tm→List Tm
 | []=>[t]
 | x::r=>if t.cmp x<0 then t::x::r else if t.cmp x=0 then x::r else x::Tm.add t r
theorem Tm.mem_add (t:Tm):∀(l:List Tm) (u:Tm),u∈Tm.add t l↔u=t∨u∈l
 | [],u=>by simp[Tm.add]
 | x::r,u=>by
  rw[Tm.add]
  split
  ·simp
  ·split
   ·rename_i h;have:=Tm.cmp_zero.1 h;subst this;simp
   ·rw[List.mem_cons,Tm.mem_add t r u,List.mem_cons];constructor
    ·rintro(h|h|h)
     ·exact .inr (.inl h)
     ·exact .inl h
     ·exact .inr (.inr h)
    ·rintro(h|h|h)
     ·exact .inr (.inl h)
     ·exact .inl h
     ·exact .inr (.inr h)
theorem Tm.add_asc (t:Tm):∀(l:List Tm),Asc l→Asc (Tm.add t l)
 | [],_=>by simp[Tm.add,Asc]
 | x::r,h=>by
  have h':=List.pairwise_cons.1 h;rw[Tm.add]
  split
  ·rename_i hlt
   refine List.pairwise_cons.2 ⟨fun u hu=>?_,h⟩;rcases List.mem_cons.1 hu with rfl|hu
   ·exact hlt
   ·exact Tm.lt_trans hlt (h'.1 u hu)
  ·split
   ·exact h
   ·refine List.pairwise_cons.2 ⟨fun u hu=>?_,Tm.add_asc t r h'.2⟩;rcases (Tm.mem_add t r u).1 hu with rfl|hu
    ·have:=Tm.cmp_neg u x;omega
    ·exact h'.1 u hu
theorem Tm.add_length (t:Tm):∀l:List Tm,(Tm.add t l).length≤l.length+1
 | []=>by simp[Tm.add]
 | x::r=>by
  rw[Tm.add]
  split
  ·simp
  ·split
   ·simp
   ·have:=Tm.add_length t r;simp;omega
def Tm.set (l:List Tm):List Tm:=l.foldl (fun a t=>Tm.add t a) []
theorem Tm.foldl_asc:∀(l a:List Tm),Asc a→Asc (l.foldl (fun a t=>Tm.add t a) a)
 | [],_,h=>h
 | t::l,a,h=>Tm.foldl_asc l _ (Tm.add_asc t a h)
theorem Tm.mem_foldl:∀(l a:List Tm) (u:Tm),u∈l.foldl (fun a t=>Tm.add t a) a↔u∈a∨u∈l
 | [],a,u=>by simp
 | t::l,a,u=>by
  rw[List.foldl_cons,Tm.mem_foldl l,Tm.mem_add,List.mem_cons];constructor
  ·rintro((h|h)|h)
   ·exact .inr (.inl h)
   ·exact .inl h
   ·exact .inr (.inr h)
  ·rintro(h|h|h)
   ·exact .inl (.inr h)
   ·exact .inl (.inl h)
   ·exact .inr h
theorem Tm.set_asc (l:List Tm):Asc (Tm.set l):=Tm.foldl_asc l [] List.Pairwise.nil
theorem Tm.mem_set (l:List Tm) (u:Tm):u∈Tm.set l↔u∈l:=by rw[Tm.set,Tm.mem_foldl];simp
theorem Tm.set_eq {l m:List Tm} (ha:Asc l) (h:∀t,t∈l↔t∈m):l=Tm.set m:=qdr ha (Tm.set_asc m) fun t=>by rw[h t,Tm.mem_set]
theorem Tm.foldl_length:∀(l a:List Tm),(l.foldl (fun a t=>Tm.add t a) a).length≤a.length+l.length
 | [],a=>by simp
 | t::l,a=>by
  have h1:=Tm.foldl_length l (Tm.add t a);have h2:=Tm.add_length t a;rw[List.foldl_cons,List.length_cons];omega
theorem Tm.set_length (l:List Tm):(Tm.set l).length≤l.length:=by have:=Tm.foldl_length l [];simpa[Tm.set]using this
theorem Tm.set_take (l:List Tm) (k:Nat) (h:k<l.length):Tm.set (l.take (k+1))=Tm.add l[k] (Tm.set (l.take k)):=by
 rw[List.take_succ_eq_append_getElem h,Tm.set,List.foldl_append];rfl
def GoodIt (w:World) (g:Nat) (x:It):Prop:=RepP w (fun b=>b<w.heap.size∧b≠g) x.1 x.2.1 x.2.2∧x.1.size≤1000000
abbrev GIt (w:World) (g:Nat):={ x:It // GoodIt w g x }
def qem (w:World) (g:Nat) (x:GIt w g):List Value:=x.1.1.cells x.1.2.1 x.1.2.2
def qn2 (w:World) (g:Nat) (x y:GIt w g):Int:=x.1.1.cmp y.1.1
theorem swo_cmpIt {w:World} {g:Nat}:SWO (ltOf (qn2 w g)) where
 irrefl x:=by simp[ltOf,qn2,Tm.cmp_self]
 trans x y z h1 h2:=by
  unfold ltOf qn2 at *;rw[decide_eq_true_eq]at *;exact(Tm.cmp_tri x.1.1 y.1.1 z.1.1).2.1 h1 (Int.le_of_lt h2)
 ntrans x y z h1 h2:=by
  unfold ltOf qn2 at *;rw[decide_eq_false_iff_not]at *;have n1:=Tm.cmp_neg x.1.1 y.1.1;have n2:=Tm.cmp_neg y.1.1 z.1.1;have n3:=Tm.cmp_neg x.1.1 z.1.1;have:=(Tm.cmp_tri z.1.1 y.1.1 x.1.1).1 (by omega) (by omega);omega
theorem qov {w:World} {g:Nat} [Inhabited (GIt w g)] (d:Array (GIt w g)):(flatK (qem w g) 4 d).toList=itCells (d.toList.map (·.1)):=by
 apply List.ext_getElem?;intro t;by_cases ht:t<d.size*4
 ·obtain⟨q,r,hm,rfl⟩:∃q r,r<4∧t=q*4+r:=⟨t / 4,t % 4,Nat.mod_lt _ (by omega),by omega⟩;have hq:(q*4+r) / 4=q:=by omega
  have hr:(q*4+r) % 4=r:=by omega
  have h4:q<d.size:=by omega
  have hl:q<(d.toList.map (·.1)).length:=by simpa using h4
  obtain⟨g0,g1,g2,g3⟩:=qc3 (d.toList.map (·.1)) q hl;have hx:(d.toList.map (·.1))[q]=(d[q]!).1:=by simp[h4]
  rw[hx]at g0 g1 g2 g3;have hf:(flatK (qem w g) 4 d).toList[q*4+r]?=some ((qem w g d[q]!)[r]!):=by
   have hs:q*4+r<(flatK (qem w g) 4 d).size:=by simpa using ht
   have h:=get_flatK (qem w g) 4 d (q*4+r) ht;rw[hq,hr]at h;rw[Array.getElem?_toList,Array.getElem?_eq_getElem hs,←h,getElem!_pos (flatK (qem w g) 4 d) (q*4+r) hs]
  rw[hf]
  match r,hm with
  | 0,_=>rw[Nat.add_zero,g0];rfl
  | 1,_=>rw[g1];rfl
  | 2,_=>rw[g2];rfl
  | 3,_=>rw[g3];rfl
 ·rw[List.getElem?_eq_none (by simpa using ht),List.getElem?_eq_none (by rw[qa8];simpa using ht)]
theorem qnv {w:World} {g n:Nat} {os:Array Obj} {cur:Array Value} {e:TypeId} {fr:Nat×Nat} (d:Array Value) (hb:w.heap[g]?=some (.cells cur e fr)) :
  (grow (putRow id (Sort.ahead w n) g 0 d) os).heap[g]?=some (.cells (putCells id 0 d cur) e fr):=by
 have hg:g<w.heap.size:=(sltz hb);rw[heap_grow_old _ _ (by simpa using hg)];simp[putRow,mapBlock,Sort.ahead,Array.getElem?_modify,hb,onCells]
theorem qfq {w:World} {g n:Nat} {os:Array Obj} (d:Array Value):w.grownBy (grow (putRow id (Sort.ahead w n) g 0 d) os) (some g):=by
 refine⟨rfl,rfl,rfl,by simp,fun k hk hne=>?_⟩;rw[heap_grow_old _ _ (by simpa using hk)];have:g≠k:=fun e=>hne (by rw[e]);simp[putRow,mapBlock,Sort.ahead,Array.getElem?_modify,this]
theorem qka (cur d:Array Value) (h:d.size≤cur.size):(putCells id 0 d cur).toList.take d.size=d.toList:=by
 apply List.ext_getElem?;intro j;by_cases hj:j<d.size
 ·rw[List.getElem?_take_of_lt hj,Array.getElem?_toList,Array.getElem?_toList];simp only[putCells,Array.getElem?_mapIdx];rw[Array.getElem?_eq_getElem (show j<cur.size by omega),Array.getElem?_eq_getElem hj];simp only[Option.map_some,Nat.zero_le,true_and,Nat.zero_add,hj,if_true,Nat.sub_zero,id_eq];rw[getElem!_pos d j hj]
 ·rw[List.getElem?_eq_none (by simp;omega),List.getElem?_eq_none (by simpa using hj)]
def Sorted (w:World) (base g n cap:Nat) (F:Nat→Prop) (its:List It) (e:Ending) (w':World):Prop:=
 e=.returned (.tuple #[])∧∃its',its'.Perm its∧(∀i j,(hi:i<j)→(hj:j<its'.length)→(its'[i].1.cmp its'[j].1)≤0)∧
  RowT w' base F (.slice (some ⟨g,0,none⟩) n cap) its'∧w.grownBy w' (some g)
theorem sort_any (w:World) (base g cap n:Nat) (F:Nat→Prop) (its:List It) (hn:n=its.length) (hpos:0<n) (hn2:n≤10000000) (hrow:RowT w base F (.slice (some ⟨g,0,none⟩) n cap) its) (hsz:∀x∈its,x.1.size≤1000000) :
  Calls Tryz.prog 83 #[.slice (some ⟨g,0,none⟩) n cap,.func (.func 53) #[] #[]] w (Sorted w base g n cap F its):=by
 subst hn;have hgood:∀x∈its,GoodIt w g x:=fun x hx=>⟨RepP.mono (fun b ⟨_,h2,h3⟩=>⟨h2,fun e=>h3 (by rw[e];rfl)⟩) (fun _ _=>rfl) _ _ _ (hrow.reps x hx),hsz x hx⟩;obtain⟨x0,hx0⟩:∃x,x∈its:=⟨its[0],List.getElem_mem hpos⟩
 letI:Inhabited (GIt w g):=⟨⟨x0,hgood x0 hx0⟩⟩
 obtain⟨d,hd⟩:∃d:Array (GIt w g),d.toList.map (·.1)=its:=⟨(its.attach.map fun x=>⟨x.1,hgood x.1 x.2⟩).toArray,by simp only[List.map_map,Function.comp_def];exact List.attach_map_subtype_val its⟩;have hds:d.size=its.length:=by rw[←hd];simp
 rcases hrow.own.2 with⟨hv,_⟩|⟨g',cap',cur,hv,hbase,hb,hnc,hcm,hcs,ht⟩
 ·cases hv
 injection hv with h1 h2 h3;injection h1 with h1;injection h1 with h1;subst h1 h3;have hgl:g<w.heap.size:=(sltz hb);have hflat:(flatK (qem w g) 4 d).toList=itCells its:=by rw[qov,hd]
 have hfs:(flatK (qem w g) 4 d).size=its.length*4:=by simp[hds]
 have hH:HoldsK (qem w g) 4 w g 0 d:=by
  intro j hj;rw[size_flatK]at hj;refine⟨?_,by simp[World.frozen?,hb]⟩;have h1:(cur.toList.take (its.length*4))[j]?=(itCells its)[j]?:=by rw[ht]
  rw[List.getElem?_take_of_lt (by omega),Array.getElem?_toList]at h1;simp only[World.cell?,hb,Nat.zero_add,Option.isSome_none,Bool.false_eq_true,if_false];rw[h1,←hflat,Array.getElem?_toList,Array.getElem?_eq_getElem (by simpa using hj),getElem!_pos _ j (by simpa using hj)];rfl
 have hcmp:CmpLays Tryz.prog 53 #[] (qem w g) 4 (qn2 w g) g 0 d.size w:=by
  intro m os dk hdk x y;have hW:∀p:Addr,p.block<w.heap.size→p.block≠g→(sortWorldK (qem w g) 4 w g 0 m dk os).cell? p=w.cell? p:=fun p hp hne=>by
   unfold sortWorldK;rw[cell?_grow _ _ _ (by rw[size_putRowK];exact hp),cell?_putRowK_other _ _ _ _ _ _ _ hne];rfl
  have hS:=size_sortWorldK_c (qem w g) 4 w g 0 m dk os;have hr:∀z:GIt w g,RepT (sortWorldK (qem w g) 4 w g 0 m dk os) (sortWorldK (qem w g) 4 w g 0 m dk os).heap.size z.1.1 z.1.2.1 z.1.2.2:=fun z=>
   RepP.mono (fun b ⟨h1,_⟩=>by omega) (fun p ⟨h1,h2⟩=>hW p h1 h2) _ _ _ z.2.1
  refine(qb7 1000000 x.1.1 y.1.1 x.1.2.1 y.1.2.1 x.1.2.2 y.1.2.2 _ x.2.2 (by omega) y.2.2 (hr x) (hr y)).mono ?_;rintro e w' ⟨he,hl⟩;exact⟨he,hl.grow⟩
 have eg:∀args w,(callFunc 53 args).run Tryz.prog w=.ok (.enter 53 args) w:=enters_of Tryz.func53 (by kernel_rfl) rfl;have hcon:=AnyQ.slices_SortFunc Tryz.sortTerm 4 Tryz.isAgg24 Tryz.sizeOf24 (qem w g) (fun _=>rfl) (fun x v hv=>qbt [x.1] v (by simpa[itCells,qem]using hv)) (qn2 w g) swo_cmpIt 53 #[] g 0 cap d w eg hcmp hH hgl (by omega);rw[hds]at hcon;refine Calls.mono hcon ?_;rintro e w' ⟨he,d',m,os,hperm,hsort,rfl⟩;have hs':d'.size=its.length:=hperm.1.trans hds;have hlen':(d'.toList.map (·.1)).length=its.length:=by simpa using hs'
 refine⟨he,d'.toList.map (·.1),?_,?_,⟨?_,?_⟩,qfq _⟩
 ·have h:=hperm.2.2;rw[←hds,show d'.extract 0 d.size=d' by rw[hds,←hs'];simp,show d.extract 0 d.size=d by simp]at h;rw[←hd];exact h.map _
 ·intro i j hij hj;have hj':j<its.length:=by rw[hlen']at hj;exact hj
  have h:=hsort i j (Nat.zero_le _) hij hj';unfold ltOf qn2 at h;rw[decide_eq_false_iff_not]at h;rw[getElem!_pos d' j (by omega),getElem!_pos d' i (by omega)]at h;have hneg:=Tm.cmp_neg d'[i].1.1 d'[j].1.1;simp only[List.getElem_map,Array.getElem_toList];omega
 ·have hf':(flatK (qem w g) 4 d').toList=itCells (d'.toList.map (·.1)):=qov d';have hfs':(flatK (qem w g) 4 d').size=its.length*4:=by simp[hs']
  refine⟨by rw[qa8],.inr ⟨g,cap,_,by rw[hlen'],hbase,qnv _ hb,by rw[hlen'];exact hnc,hcm,by simp[putCells,hcs],?_⟩⟩;rw[hlen',←hfs',qka _ _ (by rw[hfs',hcs];exact Nat.mul_le_mul_right _ hnc),hf']
 ·intro x hx;have hmem:x∈its:=by
   have h:=hperm.2.2;rw[←hds,show d'.extract 0 d.size=d' by rw[hds,←hs'];simp,show d.extract 0 d.size=d by simp]at h;rw[←hd];exact(h.map _).mem_iff.1 hx
  have hg:=qfq (w:=w) (g:=g) (n:=m) (os:=os) (flatK (qem w g) 4 d');refine RepP.mono ?_ ?_ _ _ _ (hrow.reps x hmem)
  ·rintro b ⟨h1,h2,h3⟩;exact⟨h1,Nat.lt_of_lt_of_le h2 hg.size,h3⟩
  ·rintro p ⟨h1,h2,h3⟩;exact World.cell?_of_block (hg.block p.block h2 (fun e=>h3 (by rw[show g=p.block from by injection e with e;exact e.symm];rfl)))
def Fresh (t:Tm) (w:World) (e:Ending) (w':World):Prop:=
 ∃A cap,e=.returned (.agg #[.int .i64 t.kind,.string t.name,.int .i64 t.sort,.slice A t.kids.length cap])∧RepP w' (fun b=>w.heap.size≤b∧b<w'.heap.size) t A cap∧Below w.heap.size w w'
def qo9 (w:World) (tk:Int) (tn:ByteArray) (ts:Int) (l:List Tm) (k:Nat) (v:Value) (its:List It) (wr:World):Prop:=
 its.map (·.1)=l.take k∧wr.heap[w.heap.size]?=some (.cells #[.int .i64 tk,.string tn,.int .i64 ts,v] 24 (0,0))∧
 wr.heap[w.heap.size+1]?=some (.cells #[.int .i64 0,.string ⟨#[]⟩,.int .i64 0,.slice none 0 0] 24 (0,0))∧
 RowT wr (w.heap.size+2) (fun b=>w.heap.size+2≤b) v its∧Below w.heap.size w wr∧w.heap.size+2≤wr.heap.size
theorem qjw {wr X w1:World} {base:Nat} {v:Value} {its:List It} {t:Tm} {A:Option Addr} {cap:Nat} {o:Obj} (hrow:RowT wr base (fun b=>base≤b) v its)
  (h:RepP w1 (fun b=>X.heap.size≤b∧b<w1.heap.size) t A cap) (hX:wr.heap.size≤X.heap.size) (hb:base≤wr.heap.size) :
  RepP (w1.alloc o) (fun b=>base≤b∧b<(w1.alloc o).heap.size∧v.ownBlock≠some b) t A cap:=by
 refine RepP.mono ?_ ?_ _ _ _ h
 ·rintro b ⟨h1,h2⟩;refine⟨by omega,by simp;omega,fun e=>?_⟩;have:=(hrow.lt b e).2;omega
 ·rintro p ⟨h1,h2⟩;exact World.cell?_of_block (Below.heap_alloc _ _ _ h2)
theorem fresh_end {w wr wE:World} {k s:Int} {n:ByteArray} {l:List Tm} {A:Option Addr} {c m B:Nat} (hn:n.size≤maxLen) (hm:m=l.length)
  (hS:RepS wr (fun b=>B≤b∧b<wr.heap.size) l A c) (hc:∀p:Addr,B≤p.block→wE.cell? p=wr.cell? p) (hs:wE.heap.size=wr.heap.size) (hB:w.heap.size≤B) (hb:Below w.heap.size w wE) :
  Fresh (.mk k n s l) w (.returned (.agg #[.int .i64 k,.string n,.int .i64 s,.slice A m c])) wE:=by
 subst hm;refine⟨A,c,rfl,?_,hb⟩;rw[qa3];have h:=RepS.mono (w':=wE) (P':=fun b=>w.heap.size≤b∧b<wE.heap.size) (fun b ⟨h,h'⟩=>⟨by omega,by omega⟩) (fun p ⟨h,_⟩=>hc p h) hS;exact⟨hn,h⟩
theorem qmt (n:Nat):∀(t:Tm) (A:Option Addr) (cap:Nat) (w:World),t.size≤n→n≤1000000→RepT w w.heap.size t A cap→
  Calls Tryz.prog 101 #[t.val A cap] w (Fresh t w):=by
 induction n with
 | zero=>intro t _ _ _ h;have:=t.size_pos;omega
 | succ n ih=>
  intro t A cap w hn hb hrep;obtain⟨tk,tn,ts,l⟩:=t;rw[Tm.size]at hn;rw[qbe]at hrep;obtain⟨hr1,hr2,hr3,hr4⟩:=hrep;obtain⟨i0,hi0,hz0,hz1,hz2⟩:=info_parts qcj;simp only[Tm.val,Tm.kind,Tm.name,Tm.sort,Tm.kids];unfold maxLen at hr1 hr3;go_enter Tryz.func101,Tryz.ntmps101
  go_wp2_with fail
  go_loopw [11] (fun i wr=>∃(k:Nat) (v:Value) (its:List It),k≤l.length∧i=.int .i64 k∧qo9 w tk tn ts l k v its wr)
   (fun i _=>l.length - (intOf i).toNat)
  case atStart=>
   refine⟨0,.slice none 0 0,[],Nat.zero_le _,rfl,rfl,?_,?_,RowT.nil _ _ _,((Below.refl _ _).alloc (Nat.le_refl _) _).alloc (by simp) _,by simp⟩
   ·rw[Below.heap_alloc _ _ _ (by simp)];exact heap_alloc_new _ _
   ·have h:=heap_alloc_new (w.alloc (.cells #[.int .i64 tk,.string tn,.int .i64 ts,.slice none 0 0] 24)) (.cells #[.int .i64 0,.string ⟨#[]⟩,.int .i64 0,.slice none 0 0] 24);rw[World.size_alloc]at h;exact h
  case round=>
   obtain⟨k,v,its,hk,rfl,hrel⟩:=hrel;obtain⟨hits,hB1,hB2,hrow,hbel,hsz⟩:=hrel;obtain⟨a0,a1,a2,a3,af⟩:=qaa hB1;obtain⟨b0,b1,b2,b3,bf⟩:=qaa hB2;have HB1:=hdzz hB1;clear hB1;have HB2:=hdzz hB2;clear hB2;have HITS:=hdzz hits;clear hits;by_cases hlt:k<l.length
   ·rcases hr4 with rfl|⟨b,off,rfl,hbB,hl⟩
    ·simp at hlt
    obtain⟨A',cap',h0,h1,h2,h3,h5⟩:=(hl.below hbel hbB).get k hlt;have hsg:=Tm.sizes_get l k hlt;have HC:Hid (∀X,Below wr.heap.size wr X→wr.heap.size<X.heap.size→Calls Tryz.prog 101 #[l[k].val A' cap'] X (Fresh l[k] X)):=fun X hX hX'=>ih l[k] A' cap' X (by omega) (by omega) (h5.go (hX.mono (by omega)) (by omega));clear h5 bf b0 b1 b2 b3;have hne1:v.ownBlock≠some w.heap.size:=fun e=>by have:=(hrow.lt _ e).1;omega
    have hne2:v.ownBlock≠some wr.heap.size:=fun e=>by have:=(hrow.lt _ e).2;omega
    have hva:∀o,(wr.alloc o).cell? ⟨w.heap.size,3,none⟩=some v:=fun o=>((qab (Nat.le_refl _) o).cell (by show w.heap.size<_;omega)).trans a3;have hlen:its.length+1≤100000000:=by
     have h:=congrArg List.length HITS.out;have:=Tm.length_le_sizes l;simp at h;omega
    go_wp2_with fail
    simp only[Tm.val]at HC;refine qbr (fun w'=>w'.cell? ⟨w.heap.size,3,none⟩=some v∧w'.cell? ⟨wr.heap.size,0,none⟩=some (.int .i64 l[k].kind)∧w'.cell? ⟨wr.heap.size,1,none⟩=some (.string l[k].name)∧w'.cell? ⟨wr.heap.size,2,none⟩=some (.int .i64 l[k].sort)∧w'.cell? ⟨wr.heap.size,3,none⟩=some (.slice A' l[k].kids.length cap'))
     6 (.held 0 (.held 1 (.held 2 (.op 3 (.op 4 (.op 5 (.op 6 (.op 7 .nil)))))))) (by kernel_rfl) (by kernel_rfl) ?_
    refine qav (v:=.pointer (some ⟨w.heap.size,3,none⟩)) rfl rfl (fun _ _ _ h=>h) (by simp[hva]) (fun w' hS=>by go_simp) ?_;refine qav (v:=v) rfl rfl (fun _ _ _ h=>h) (by simp[hva]) (fun w' hS=>by obtain⟨g0,g1,g2,g3,g4⟩:=hS;simp only[Act.put];go_simp) ?_;refine qav (v:=.agg #[.int .i64 l[k].kind,.string l[k].name,.int .i64 l[k].sort,.slice A' l[k].kids.length cap']) rfl rfl (fun _ _ _ h=>h) (by simp[hva]) (fun w' hS=>by obtain⟨g0,g1,g2,g3,g4⟩:=hS;simp only[Act.put];go_simp) ?_;simp only[Act.put,List.setIfInBounds_toArray];refine mix_op rfl rfl (fun K hK=>?_);go_wp2_with fail
    refine(HC.out _ ((Below.refl _ _).alloc (Nat.le_refl _) _).drew (by simp)).mono ?_;rintro e w1 ⟨A1,cap1,rfl,hre,hb1⟩;have hwb1:=((Below.refl _ _).alloc (Nat.le_refl _) _).drew.trans (hb1.mono (by simp));have hs1:wr.heap.size+1≤w1.heap.size:=by have:=hb1.size;simpa using this
    have hv1:w1.cell? ⟨w.heap.size,3,none⟩=some v:=(hwb1.cell (by show w.heap.size<_;omega)).trans a3;refine hK _ _ ⟨fun _=>?_,?_⟩
    ·refine⟨hv1,?_,?_,?_,?_⟩<;>(rw[hb1.cell (by simp)];simp)
    clear hK K;refine mix_op rfl rfl (fun K hK=>?_);go_wp2_with fail
    refine⟨fun _=>?_,?_⟩
    ·refine⟨?_,?_,?_,?_,?_⟩<;>rw[(qab (Nat.le_refl _) _).cell (by simp;omega)]
     ·exact hv1
     all_goals (rw[hb1.cell (by simp)];simp)
    refine mix_op rfl rfl (fun K hK=>?_);refine qm4 (by rfl) (.tmp 16) (.tmp 19) (by rfl) (w.heap.size+2) (fun b=>w.heap.size+2≤b) v its (by rfl) ((hrow.below hwb1).alloc _) (l[k],A1,cap1) _ _ (0,0) (by rfl) (by exact heap_alloc_new _ _) (by exact qjw hrow hre (by simp) (by omega)) hlen (by simp;omega) ?_;intro g cap2 w2 hrow2 hgr hat hbg;have hw2s:w1.heap.size+1≤w2.heap.size:=by have:=hgr.size;simpa using this
    have hw2:∀o,w2.cell? ⟨w.heap.size,o,none⟩=wr.cell? ⟨w.heap.size,o,none⟩:=fun o=>by
     rw[hgr.cell_far _ (by simp;omega) hne1.symm,(qab (Nat.le_refl _) _).cell (by show w.heap.size<_;omega),hwb1.cell (by show w.heap.size<_;omega)]
    have hw2f:w2.frozen? ⟨w.heap.size,3,none⟩=false:=by
     rw[hgr.frozen_far _ (by simp;omega) hne1.symm,(qab (Nat.le_refl _) _).frozen (by show w.heap.size<_;omega),hwb1.frozen (by show w.heap.size<_;omega)];exact af 3
    have hv2:w2.cell? ⟨w.heap.size,3,none⟩=some v:=(hw2 3).trans a3;refine hK _ _ ⟨fun _=>⟨hv2,?_,?_,?_,?_⟩,?_⟩
    iterate 4(rw[hgr.cell_far _ (by simp;omega) hne2.symm,(qab (Nat.le_refl _) _).cell (by show wr.heap.size<_;omega),hb1.cell (by simp)];simp)
    clear hK K;simp only[Act.put,List.setIfInBounds_toArray];refine mix_op rfl rfl (fun K hK=>?_);go_wp2_with fail
    refine⟨fun h=>absurd h (by decide),?_⟩;refine mix_op rfl rfl (fun K hK=>?_);go_wp2_with fail
    refine⟨fun h=>absurd h (by decide),?_⟩;refine qel ?_;have hblk:∀b,b<w.heap.size+2→w2.heap[b]?=wr.heap[b]?:=fun b hb=>by
     rw[hgr.block b (by simp;omega) (fun e=>by have:=(hrow.lt _ e.symm).1;omega),Below.heap_alloc _ _ _ (by omega),hwb1.block b (by omega)]
    have HBLK:=hdzz hblk;clear hblk;go_wp2_with fail
    go_roundw
    case rel=>
     refine⟨k+1,.slice (some ⟨g,0,none⟩) (its.length+1) cap2,its++[(l[k],A1,cap1)],by omega,by go_num,?_,?_,?_,?_,?_,?_⟩
     ·rw[List.map_append,HITS.out,List.take_succ_eq_append_getElem hlt];rfl
     ·exact qe3 ((HBLK.out _ (by omega)).trans HB1.out)
     ·rw[Below.heap_setCell _ _ _ _ (by simp)];exact(HBLK.out _ (by omega)).trans HB2.out
     ·exact hrow2.setCell (by simp) (by simp) _
     ·refine Below.setCell ?_ (by simp) _;exact((hbel.trans (hwb1.mono (by omega))).alloc (by omega) _).grown hgr (by simp;omega) (fun j e=>by have:=(hrow.lt _ e).1;omega)
     ·simp[World.setCell];omega
    case measure=>simp[intOf];omega
   ·obtain rfl:k=l.length:=by omega
    have hmap:=HITS.out;simp only[List.take_length]at hmap;obtain⟨Av,cv,rfl,hS⟩:=hrow.toS (P:=fun b=>w.heap.size+2≤b∧b<wr.heap.size) (fun b h h'=>⟨h,h'⟩) (fun b h h'=>⟨h,h'⟩);rw[hmap]at hS;have HS:=hdzz hS;clear hS;have HMAP:=hdzz hmap;clear hmap;have HROW:=hdzz hrow;clear hrow;go_wp2_with fail
    refine bodyPost_ret (v:=.agg #[.int .i64 tk,.string tn,.int .i64 ts,.slice Av its.length cv]) ?_ rfl ?_
    ·simp[results,Tryz.results101,go_sem,b0,b1,b2,b3]
    refine fresh_end (by unfold maxLen;omega) (by rw[←congrArg List.length HMAP.out];simp) HS.out (fun p hp=>?_) (by simp[World.setCell]) (by omega) ?_
    ·have hne:∀o,(⟨w.heap.size+1,o,none⟩:Addr)≠p:=fun o e=>by rw[←e]at hp;simp at hp
     rw[World.cell?_setCell_other _ _ _ _ (hne _),World.cell?_setCell_other _ _ _ _ (hne _),World.cell?_setCell_other _ _ _ _ (hne _),World.cell?_setCell_other _ _ _ _ (hne _)]
    ·iterate 4 refine Below.setCell ?_ (by simp) _
     exact hbel
structure Acc (B0 cb:Nat) (w0 w:World) (its:List It):Prop where
 box:∃v,w.heap[cb]?=some (.cells #[v] 22 (0,0))∧RowT w (cb+1) (fun b=>b<B0) v its
 le:B0≤cb
 lt:cb<w.heap.size
 below:Below B0 w0 w
theorem Acc.keep {B0 cb:Nat} {w0 w w':World} {its:List It} (h:Acc B0 cb w0 w its) (hb:Below w.heap.size w w'):Acc B0 cb w0 w' its:=by
 obtain⟨⟨v,h1,h2⟩,h3,h4,h5⟩:=h;have:=hb.size;exact⟨⟨v,(hb.block cb h4).trans h1,h2.below hb⟩,h3,by omega,h5.trans (hb.mono (by omega))⟩
theorem set_last {α:Type} (l:List α) (z x:α):(l++[z]).set l.length x=l++[x]:=by
 rw[List.set_append_right _ _ (Nat.le_refl _)];simp
theorem acc_end1 {B0 cb g cap:Nat} {w0 w2:World} {its:List It} {z:It} {u:Value} {t:Tm} {A:Option Addr} {c:Nat}
  (hrow:RowT w2 (cb+1) (fun b=>b<B0) (.slice (some ⟨g,0,none⟩) (its.length+1) cap) (its++[z])) (hbox:w2.heap[cb]?=some (.cells #[u] 22 (0,0))) (hg:g≠cb) (hle:B0≤cb) (hlt:cb<w2.heap.size)
  (hX:RepP w2 (fun b=>b<B0∧b<w2.heap.size∧g≠b) t A c) (hb:Below B0 w0 w2) :
  Acc B0 cb w0 (((((w2.setCell ⟨g, its.length * 4, none⟩ (.int .i64 t.kind)).setCell ⟨g, its.length * 4 + 1, none⟩ (.string t.name)).setCell ⟨g, its.length * 4 + 2, none⟩ (.int .i64 t.sort)).setCell ⟨g, its.length * 4 + 3, none⟩ (.slice A t.kids.length c)).setCell
   ⟨cb,0,none⟩ (.slice (some ⟨g,0,none⟩) (its.length+1) cap)) (its++[(t,A,c)]):=by
 have hr:=hrow.set (by simp) its.length (by omega) (t,A,c) hX;rw[set_last]at hr;have hgb:cb+1≤g:=(hrow.lt g rfl).1;refine⟨⟨.slice (some ⟨g,0,none⟩) (its.length+1) cap,?_,hr.setCell (by simp;omega) (by simp) _⟩,hle,by simpa[World.setCell]using hlt,?_⟩
 ·have:((((w2.setCell ⟨g,its.length*4,none⟩ (.int .i64 t.kind)).setCell ⟨g,its.length*4+1,none⟩ (.string t.name)).setCell ⟨g,its.length*4+2,none⟩ (.int .i64 t.sort)).setCell ⟨g,its.length*4+3,none⟩ (.slice A t.kids.length c)).heap[cb]?=some (.cells #[u] 22 (0,0)):=by
   iterate 4 rw[Below.heap_setCell _ _ _ _ (by exact Ne.symm hg)]
   exact hbox
  generalize ((((w2.setCell ⟨g,its.length*4,none⟩ (.int .i64 t.kind)).setCell ⟨g,its.length*4+1,none⟩ (.string t.name)).setCell ⟨g,its.length*4+2,none⟩ (.int .i64 t.sort)).setCell ⟨g,its.length*4+3,none⟩ (.slice A t.kids.length c))=W at this;simp[World.setCell,Array.getElem?_modify,this]
 ·refine Below.setCell ?_ (by exact hle) _
  iterate 4 refine Below.setCell ?_ (by show B0≤g;omega) _
  exact hb
theorem acc_end2 {B0 cb g cap:Nat} {w0 w2:World} {its:List It} {z:It} {u:Value} {t:Tm} {A:Option Addr} {c:Nat}
  (hrow:RowT w2 (cb+1) (fun b=>b<B0) (.slice (some ⟨g,0,none⟩) (its.length+1) cap) (its++[z])) (hbox:w2.heap[cb]?=some (.cells #[u] 22 (0,0))) (hg:g≠cb) (hle:B0≤cb) (hlt:cb<w2.heap.size)
  (hX:RepP w2 (fun b=>b<B0∧b<w2.heap.size∧g≠b) t A c) (hb:Below B0 w0 w2) :
  Acc B0 cb w0 (((((w2.setCell ⟨cb,0,none⟩ (.slice (some ⟨g,0,none⟩) (its.length+1) cap)).setCell ⟨g,its.length*4,none⟩ (.int .i64 t.kind)).setCell ⟨g,its.length*4+1,none⟩ (.string t.name)).setCell ⟨g,its.length*4+2,none⟩ (.int .i64 t.sort)).setCell ⟨g,its.length*4+3,none⟩ (.slice A t.kids.length c))
   (its++[(t,A,c)]):=by
 have hr0:=hrow.setCell (p:=⟨cb,0,none⟩) (by simp;omega) (by simp) (.slice (some ⟨g,0,none⟩) (its.length+1) cap);have hX0:RepP (w2.setCell ⟨cb,0,none⟩ (.slice (some ⟨g,0,none⟩) (its.length+1) cap)) (fun b=>b<B0∧b<(w2.setCell ⟨cb,0,none⟩ (.slice (some ⟨g,0,none⟩) (its.length+1) cap)).heap.size∧g≠b) t A c:=
  RepP.mono (fun b ⟨h1,h2,h3⟩=>⟨h1,by simpa[World.setCell]using h2,h3⟩) (fun p ⟨h1,_,_⟩=>World.cell?_setCell_other _ _ _ _ (fun e=>by rw[←e]at h1;simp at h1;omega)) t A c hX
 have hr:=hr0.set (by simp) its.length (by omega) (t,A,c) hX0;rw[set_last]at hr;have hgb:cb+1≤g:=(hrow.lt g rfl).1;refine⟨⟨.slice (some ⟨g,0,none⟩) (its.length+1) cap,?_,hr⟩,hle,by simpa[World.setCell]using hlt,?_⟩
 ·iterate 4 rw[Below.heap_setCell _ _ _ _ (by exact Ne.symm hg)]
  simp[World.setCell,Array.getElem?_modify,hbox]
 ·iterate 4 refine Below.setCell ?_ (by show B0≤g;omega) _
  exact Below.setCell hb (by exact hle) _
theorem acc_box1 {cb g:Nat} {w2:World} {u a b c d v:Value} {T:TypeId} {i:Nat} (hbox:w2.heap[cb]?=some (.cells #[u] T (0,0))) (hg:g≠cb) :
  (((((w2.setCell ⟨g,i,none⟩ a).setCell ⟨g,i+1,none⟩ b).setCell ⟨g,i+2,none⟩ c).setCell ⟨g,i+3,none⟩ d).setCell ⟨cb,0,none⟩ v).heap[cb]?=some (.cells #[v] T (0,0)):=by
 have:((((w2.setCell ⟨g,i,none⟩ a).setCell ⟨g,i+1,none⟩ b).setCell ⟨g,i+2,none⟩ c).setCell ⟨g,i+3,none⟩ d).heap[cb]?=some (.cells #[u] T (0,0)):=by
  iterate 4 rw[Below.heap_setCell _ _ _ _ (by exact Ne.symm hg)]
  exact hbox
 generalize ((((w2.setCell ⟨g,i,none⟩ a).setCell ⟨g,i+1,none⟩ b).setCell ⟨g,i+2,none⟩ c).setCell ⟨g,i+3,none⟩ d)=W at this;simp[World.setCell,Array.getElem?_modify,this]
theorem acc_box2 {cb g:Nat} {w2:World} {u a b c d v:Value} {T:TypeId} {i:Nat} (hbox:w2.heap[cb]?=some (.cells #[u] T (0,0))) (hg:g≠cb) :
  (((((w2.setCell ⟨cb,0,none⟩ v).setCell ⟨g,i,none⟩ a).setCell ⟨g,i+1,none⟩ b).setCell ⟨g,i+2,none⟩ c).setCell ⟨g,i+3,none⟩ d).heap[cb]?=some (.cells #[v] T (0,0)):=by
 iterate 4 rw[Below.heap_setCell _ _ _ _ (by exact Ne.symm hg)]
 simp[World.setCell,Array.getElem?_modify,hbox]
def qd3 (w:World) (cb:Nat):Option Nat:=(w.cell? ⟨cb,0,none⟩).bind Value.ownBlock
structure Step (cb:Nat) (w w':World):Prop where
 size:w.heap.size≤w'.heap.size
 same:∀b,b<w.heap.size→b≠cb→qd3 w cb≠some b→w'.heap[b]?=w.heap[b]?
 own:qd3 w' cb=qd3 w cb∨∀b,qd3 w' cb=some b→w.heap.size≤b
theorem Step.refl (cb:Nat) (w:World):Step cb w w:=⟨Nat.le_refl _,fun _ _ _ _=>rfl,.inl rfl⟩
theorem Step.trans {cb:Nat} {a b c:World} (h:Step cb a b) (k:Step cb b c):Step cb a c:=by
 refine⟨Nat.le_trans h.size k.size,fun x hx hc ho=>?_,?_⟩
 ·have h1:=h.same x hx hc ho;rw[k.same x (Nat.lt_of_lt_of_le hx h.size) hc ?_,h1];rcases h.own with e|e
  ·rw[e];exact ho
  ·intro e2;have:=e x e2;omega
 ·rcases k.own with e|e
  ·rw[e];exact h.own
  ·exact .inr fun x hx=>Nat.le_trans h.size (e x hx)
theorem Step.of_below {cb:Nat} {w w':World} (h:Below w.heap.size w w') (hc:cb<w.heap.size):Step cb w w':=
 ⟨h.size,fun b hb _ _=>h.block b hb,.inl (by unfold qd3;rw[h.cell (by exact hc)])⟩
theorem qke {cb g n cap:Nat} {w w2 wE:World} {v:Value} {T:TypeId} (hbox:w.cell? ⟨cb,0,none⟩=some v) (hs:w.heap.size≤w2.heap.size)
  (h2:∀b,b<w.heap.size→v.ownBlock≠some b→w2.heap[b]?=w.heap[b]?) (hg:v.ownBlock=some g∨w.heap.size≤g)
  (hE:∀b,b≠g→b≠cb→wE.heap[b]?=w2.heap[b]?) (hsE:wE.heap.size=w2.heap.size) (hbE:wE.heap[cb]?=some (.cells #[.slice (some ⟨g,0,none⟩) n cap] T (0,0))):Step cb w wE:=by
 have e1:qd3 w cb=v.ownBlock:=by unfold qd3;rw[hbox];rfl
 have e2:qd3 wE cb=some g:=by unfold qd3;simp[World.cell?,hbE,Value.ownBlock]
 refine⟨by omega,fun b hb hc ho=>?_,?_⟩
 ·rw[e1]at ho;rw[hE b ?_ hc,h2 b hb ho];rintro rfl;rcases hg with hg|hg
  ·exact ho hg
  ·omega
 ·rw[e1,e2];rcases hg with hg|hg
  ·exact .inl hg.symm
  ·exact .inr fun b hb=>by injection hb with hb;omega
theorem qi3 (t:Tm) (kd:Int) (kb:Nat) (A:Option Addr) (cap B0 cb:Nat) (w0 w:World) (its:List It) (hacc:Acc B0 cb w0 w its) (hrep:RepT w B0 t A cap) (hlen:its.length≤10000000) (hkb:w.cell? ⟨kb,0,none⟩=some (.int .i64 kd)) (hkl:kb<w.heap.size) (hk:t.kind=kd) :
  Calls Tryz.prog 161 #[t.val A cap,.pointer (some ⟨kb,0,none⟩),.pointer (some ⟨cb,0,none⟩)] w fun e w'=>e=.returned (.tuple #[])∧Acc B0 cb w0 w' (its++[(t,A,cap)])∧Step cb w w':=by
 obtain⟨⟨v,hbox,hrow⟩,hle,hlt,hbel⟩:=hacc;obtain⟨Av,cv,rfl,_⟩:=hrow.toS (P:=fun _=>True) (fun _ _ _=>trivial) (fun _ _ _=>trivial);simp only[Tm.val];have hcb:w.cell? ⟨cb,0,none⟩=some (.slice Av its.length cv):=by simp[World.cell?,hbox]
 have hcf:w.frozen? ⟨cb,0,none⟩=false:=by simp[World.frozen?,hbox]
 have hne1:(Value.slice Av its.length cv).ownBlock≠some cb:=fun e=>by have:=(hrow.lt _ e).1;omega
 have hne2:(Value.slice Av its.length cv).ownBlock≠some w.heap.size:=fun e=>by have:=(hrow.lt _ e).2;omega
 have HBOX:=hdzz hbox;clear hbox;have hva:∀o,(w.alloc o).cell? ⟨cb,0,none⟩=some (.slice Av its.length cv):=fun o=>((qab (Nat.le_refl _) o).cell hlt).trans hcb;have hka:∀o,(w.alloc o).cell? ⟨kb,0,none⟩=some (.int .i64 kd):=fun o=>((qab (Nat.le_refl _) o).cell hkl).trans hkb;have hk':(t.kind==kd)=true:=by simpa using hk
 clear hk hkb;go_enter Tryz.func161,Tryz.ntmps161
 go_wp2_with fail
 refine qbr (fun w'=>w'.cell? ⟨cb,0,none⟩=some (.slice Av its.length cv)∧w'.cell? ⟨w.heap.size,0,none⟩=some (.int .i64 t.kind)∧w'.cell? ⟨w.heap.size,1,none⟩=some (.string t.name)∧w'.cell? ⟨w.heap.size,2,none⟩=some (.int .i64 t.sort)∧w'.cell? ⟨w.heap.size,3,none⟩=some (.slice A t.kids.length cap))
  4 (.held 0 (.held 1 (.held 2 (.op 3 (.op 4 (.pure 5 (.two 6 7 (.op 7 .nil) (.op 6 .nil)))))))) (by kernel_rfl) (by kernel_rfl) ?_
 refine qav (v:=.slice Av its.length cv) rfl rfl (fun _ _ _ h=>h) (by simp[hva]) (fun w' hS=>by obtain⟨g0,g1,g2,g3,g4⟩:=hS;go_simp) ?_;refine qav (v:=.agg #[.int .i64 t.kind,.string t.name,.int .i64 t.sort,.slice A t.kids.length cap]) rfl rfl (fun _ _ _ h=>h) (by simp[hva]) (fun w' hS=>by obtain⟨g0,g1,g2,g3,g4⟩:=hS;simp only[Act.put];go_simp) ?_;refine qav (v:=.int .i64 its.length) rfl rfl (fun _ _ _ h=>h) (by simp[hva]) (fun w' hS=>by simp only[Act.put];go_simp) ?_;simp only[Act.put,List.setIfInBounds_toArray];refine mix_op rfl rfl (fun K hK=>?_);go_wp2_with fail
 obtain⟨W1,hW1⟩:∃W1,W1=(w.alloc (.cells #[.int .i64 t.kind,.string t.name,.int .i64 t.sort,.slice A t.kids.length cap] 24)).drew:=⟨_,rfl⟩;have hbW:Below w.heap.size w W1:=by rw[hW1];exact((Below.refl _ _).alloc (Nat.le_refl _) _).drew
 have hsW:W1.heap.size=w.heap.size+1:=by rw[hW1];simp
 refine⟨fun _=>⟨?_,?_,?_,?_,?_⟩,?_⟩
 ·exact((qab (w:=w.alloc _) (Nat.le_refl _) _).cell (by simp;omega)).trans (hva _)
 iterate 4(simp)
 refine mix_op rfl rfl (fun K hK=>?_);have hZ:RepP ((w.alloc (.cells #[.int .i64 t.kind,.string t.name,.int .i64 t.sort,.slice A t.kids.length cap] 24)).alloc (.cells #[.int .i64 0,.string ⟨#[]⟩,.int .i64 0,.slice none 0 0] 24)).drew
   (fun b=>b<B0∧b<((w.alloc (.cells #[.int .i64 t.kind,.string t.name,.int .i64 t.sort,.slice A t.kids.length cap] 24)).alloc (.cells #[.int .i64 0,.string ⟨#[]⟩,.int .i64 0,.slice none 0 0] 24)).drew.heap.size∧(Value.slice Av its.length cv).ownBlock≠some b) (Tm.mk 0 ⟨#[]⟩ 0 []) none 0:=by
  rw[qa3];exact⟨Nat.zero_le _,by simp,by simp[maxLen],Or.inl rfl⟩
 refine qm4 (by rfl) (.tmp 8) (.tmp 11) (by rfl) (cb+1) (fun b=>b<B0) (.slice Av its.length cv) its (by rfl) ((hrow.alloc _).alloc _).drew (Tm.mk 0 ⟨#[]⟩ 0 [],none,0) (w.heap.size+1) _ (0,0) (by rfl)
  (by have h:=heap_alloc_new (w.alloc (.cells #[.int .i64 t.kind,.string t.name,.int .i64 t.sort,.slice A t.kids.length cap] 24)) (.cells #[.int .i64 0,.string ⟨#[]⟩,.int .i64 0,.slice none 0 0] 24);rw[World.size_alloc]at h;exact h)
  hZ (by omega) (by simp;omega) ?_
 intro g cap2 w2 hrow2 hgr hat hbg;have hbel2:∀b,b<w.heap.size→(Value.slice Av its.length cv).ownBlock≠some b→w2.heap[b]?=w.heap[b]?:=fun b hb hne=>by
  rw[hgr.block b (by simp;omega) (fun e=>hne e.symm)];exact(((Below.refl w.heap.size w).alloc (Nat.le_refl _) _).alloc (by simp) _).block b hb
 have hs2:w.heap.size+2≤w2.heap.size:=by have:=hgr.size;simpa using this
 have hgcb:g≠cb:=by omega
 obtain⟨s0,s1,s2,s3,sf⟩:=hrow2.slot (by simp) its.length (by simp);simp only[List.getElem_concat_length,Tm.kind,Tm.name,Tm.sort,Tm.kids,List.length_nil]at s0 s1 s2 s3;have hbox2:w2.heap[cb]?=some (.cells #[.slice Av its.length cv] 22 (0,0)):=(hbel2 cb hlt hne1).trans HBOX.out;have c2:w2.cell? ⟨cb,0,none⟩=some (.slice Av its.length cv):=by simp[World.cell?,hbox2]
 have f2:w2.frozen? ⟨cb,0,none⟩=false:=by simp[World.frozen?,hbox2]
 have hB2:Below B0 w0 w2:=hbel.trans ⟨hgr.os,hgr.tape,hgr.output,by omega,fun b hb=>hbel2 b (by omega) (fun e=>by have:=(hrow.lt _ e).1;omega)⟩;have hX2:RepP w2 (fun b=>b<B0∧b<w2.heap.size∧g≠b) t A cap:=
  RepP.mono (fun b hb=>⟨hb,by omega,by omega⟩) (fun p hp=>World.cell?_of_block (hbel2 p.block (by omega) (fun e=>by have:=(hrow.lt _ e).1;omega))) t A cap hrep
 have HX2:=hdzz hX2;clear hX2;have HB2:=hdzz hB2;clear hB2;have HBOX2:=hdzz hbox2;clear hbox2;have HROW2:=hdzz hrow2;clear hrow2;have HBEL2:=hdzz hbel2;clear hbel2;have HCB:=hdzz hcb;have HG:Hid ((Value.slice Av its.length cv).ownBlock=some g∨w.heap.size≤g):=hat.elim Or.inl (fun h=>Or.inr (by rw[h];simp;omega));have i1:(0:Int)≤(its.length:Int):=Int.natCast_nonneg _;have i2:(its.length:Int)<((its.length+1:Nat):Int):=by omega
 refine hK _ _ ⟨fun h=>absurd h (by decide),?_⟩;clear hK K;simp only[Act.put,List.setIfInBounds_toArray];refine mix_pure (v:=.pointer (some ⟨g,its.length*4,none⟩)) rfl rfl (fun _ _ _ h=>h) (by omega) (fun w'=>by go_simp;intro h;omega) ?_;simp only[Act.put];refine mix_two (mix_op rfl rfl (fun K hK=>?_)) (mix_op rfl rfl (fun K hK=>?_))
 ·go_wp2_with fail
  refine⟨fun h=>absurd h (by decide),mix_op rfl rfl (fun K hK=>?_)⟩;go_wp2_with fail
  refine⟨fun h=>absurd h (by decide),qel ?_⟩;go_wp2_with fail
  go_end0
  refine⟨rfl,?_⟩;have ACC:=acc_end1 HROW2.out HBOX2.out hgcb hle (by omega) HX2.out HB2.out;refine⟨ACC,qke (n:=its.length+1) (cap:=cap2) (T:=22) HCB.out (by omega) HBEL2.out HG.out (fun b hb hc=>?_) (by simp[World.setCell]) ?_⟩
  ·iterate 5 rw[Below.heap_setCell _ _ _ _ (by first|exact hb|exact hc)]
  ·exact acc_box1 HBOX2.out hgcb
 ·go_wp2_with fail
  refine⟨fun h=>absurd h (by decide),mix_op rfl rfl (fun K hK=>?_)⟩;go_wp2_with fail
  refine⟨fun h=>absurd h (by decide),qel ?_⟩;go_wp2_with fail
  go_end0
  refine⟨rfl,?_⟩;have ACC:=acc_end2 HROW2.out HBOX2.out hgcb hle (by omega) HX2.out HB2.out;refine⟨ACC,qke (n:=its.length+1) (cap:=cap2) (T:=22) HCB.out (by omega) HBEL2.out HG.out (fun b hb hc=>?_) (by simp[World.setCell]) ?_⟩
  ·iterate 5 rw[Below.heap_setCell _ _ _ _ (by first|exact hb|exact hc)]
  ·exact acc_box2 HBOX2.out hgcb
theorem qkx (t:Tm) (kd:Int) (kb cb:Nat) (A:Option Addr) (cap:Nat) (w:World) (hkb:w.cell? ⟨kb,0,none⟩=some (.int .i64 kd)) (hkl:kb<w.heap.size) (hk:t.kind≠kd) :
  Calls Tryz.prog 161 #[t.val A cap,.pointer (some ⟨kb,0,none⟩),.pointer (some ⟨cb,0,none⟩)] w fun e w'=>e=.returned (.tuple #[])∧Below w.heap.size w w':=by
 simp only[Tm.val];have hka:∀o,(w.alloc o).cell? ⟨kb,0,none⟩=some (.int .i64 kd):=fun o=>((qab (Nat.le_refl _) o).cell hkl).trans hkb;have hk':(t.kind==kd)=false:=by simpa using hk
 clear hk hkb;go_enter Tryz.func161,Tryz.ntmps161
 go_wp2_with fail
 go_end0
 exact⟨rfl,qab (Nat.le_refl _) _⟩
mutual
def Tm.all:Tm→List Tm
 | .mk k n s l=>.mk k n s l::Tm.alls l
def Tm.alls:List Tm→List Tm
 | []=>[]
 | t::r=>Tm.all t++Tm.alls r
end
mutual
theorem Tm.all_length:∀t:Tm,t.all.length=t.size
 | .mk k n s l=>by rw[Tm.all,Tm.size,List.length_cons,Tm.alls_length l];omega
theorem Tm.alls_length:∀l:List Tm,(Tm.alls l).length=Tm.sizes l
 | []=>by simp[Tm.alls,Tm.sizes]
 | t::r=>by rw[Tm.alls,Tm.sizes,List.length_append,Tm.all_length t,Tm.alls_length r]
end
theorem Tm.alls_take_succ:∀(l:List Tm) (i:Nat) (h:i<l.length),Tm.alls (l.take (i+1))=Tm.alls (l.take i)++l[i].all
 | [],_,h=>by simp at h
 | t::r,0,_=>by simp[Tm.alls]
 | t::r,i+1,h=>by have:=Tm.alls_take_succ r i (by simpa using h);simp[Tm.alls]at this ⊢;rw[this]
def Visits (g:Nat) (caps:Array Value) (p:Tm→Bool) (B0 cb:Nat) (w0:World):Prop:=
 ∀(t:Tm) (A:Option Addr) (cap:Nat) (w:World) (its:List It),Acc B0 cb w0 w its→RepT w B0 t A cap→its.length≤10000000→
  Calls Tryz.prog g (#[t.val A cap]++caps) w fun e w'=>e=.returned (.tuple #[])∧Step cb w w'∧∃its',Acc B0 cb w0 w' its'∧its'.map (·.1)=its.map (·.1)++[t].filter p
def Walked (B0 cb:Nat) (w0 w:World) (l:List Tm) (e:Ending) (w':World):Prop:=
 e=.returned (.tuple #[])∧Step cb w w'∧∃its',Acc B0 cb w0 w' its'∧its'.map (·.1)=l
theorem qm5 (B0 cb kb:Nat) (kd:Int) (w0:World) (hkb:w0.cell? ⟨kb,0,none⟩=some (.int .i64 kd)) (hk:kb<B0) :
  Visits 161 #[.pointer (some ⟨kb,0,none⟩),.pointer (some ⟨cb,0,none⟩)] (fun t=>t.kind==kd) B0 cb w0:=fun t A cap w its hacc hrep hlen=>by
 have hc:w.cell? ⟨kb,0,none⟩=some (.int .i64 kd):=(hacc.below.cell hk).trans hkb;have hl:kb<w.heap.size:=by have:=hacc.lt;have:=hacc.le;omega
 by_cases h:t.kind=kd
 ·exact(qi3 t kd kb A cap B0 cb w0 w its hacc hrep hlen hc hl h).mono fun _ _ ⟨he,ha,hs⟩=>⟨he,hs,_,ha,by simp[h]⟩
 ·exact(qkx t kd kb cb A cap w hc hl h).mono fun _ _ ⟨he,hb⟩=>⟨he,Step.of_below hb hacc.lt,its,hacc.keep hb,by simp[h]⟩
theorem walk_any (g:Nat) (caps:Array Value) (p:Tm→Bool) (B0 cb:Nat) (w0:World) (hv:Visits g caps p B0 cb w0)
  (eg:∀args w,(callFunc g args).run Tryz.prog w=.ok (.enter g args) w) (n:Nat) :
  ∀(t:Tm) (A:Option Addr) (cap:Nat) (w:World) (its:List It),t.size≤n→its.length+t.size≤10000000→Acc B0 cb w0 w its→RepT w B0 t A cap→
  Calls Tryz.prog 160 #[t.val A cap,.func (.func g) #[] caps] w (Walked B0 cb w0 w (its.map (·.1)++t.all.filter p)):=by
 induction n with
 | zero=>intro t _ _ _ _ h;have:=t.size_pos;omega
 | succ n ih=>
  intro t A cap w its hn hlen hacc hrep;have hrep0:=hrep;obtain⟨tk,tn,ts,l⟩:=t;have hbl:Below B0 w (w.alloc (.cells #[.int .i64 tk,.string tn,.int .i64 ts,.slice A l.length cap] 24)):=by
   have:=hacc.le;have:=hacc.lt;exact qab (by omega) _
  have HV:=hdzz (hv (.mk tk tn ts l) A cap (w.alloc (.cells #[.int .i64 tk,.string tn,.int .i64 ts,.slice A l.length cap] 24)) its (hacc.keep (qab (Nat.le_refl _) _)) (hrep0.go hbl (Nat.le_refl _)) (by omega));rw[Tm.size]at hn hlen;rw[qbe]at hrep;obtain⟨hr1,hr2,hr3,hr4⟩:=hrep;have HVS:=hdzz hv;clear hv;have IH:=hdzz ih;clear ih;simp only[Tm.val,Tm.kind,Tm.name,Tm.sort,Tm.kids]at HV ⊢;go_enter Tryz.func160,Tryz.ntmps160
  go_wp2_with fail
  refine HV.out.mono ?_;rintro e w1 ⟨rfl,hst1,its1,hacc1,hmap1⟩;obtain⟨W,hW⟩:∃W,W=w.alloc (.cells #[.int .i64 tk,.string tn,.int .i64 ts,.slice A l.length cap] 24):=⟨_,rfl⟩;rw[←hW]at hst1;have hbW:W.heap[w.heap.size]?=some (.cells #[.int .i64 tk,.string tn,.int .i64 ts,.slice A l.length cap] 24 (0,0)):=by rw[hW];exact heap_alloc_new _ _
  have hsW:W.heap.size=w.heap.size+1:=by rw[hW];simp
  have hStep:Step cb w W:=by rw[hW];exact Step.of_below (qab (Nat.le_refl _) _) hacc.lt
  have hoW:qd3 W cb≠some w.heap.size:=by
   obtain⟨v,hb,hr⟩:=hacc.box;have e:qd3 w cb=v.ownBlock:=by unfold qd3;simp[World.cell?,hb]
   have hlt:=hacc.lt;rw[hW];unfold qd3;rw[(qab (Nat.le_refl _) _).cell (by exact hlt)];show qd3 w cb≠_;rw[e];intro h;have:=(hr.lt _ h).2;omega
  have hcbne:w.heap.size≠cb:=by have:=hacc.lt;omega
  have hbox1:w1.heap[w.heap.size]?=some (.cells #[.int .i64 tk,.string tn,.int .i64 ts,.slice A l.length cap] 24 (0,0)):=(hst1.same _ (by omega) hcbne hoW).trans hbW;have hst01:=hStep.trans hst1;have hc3:w1.cell? ⟨w.heap.size,3,none⟩=some (.slice A l.length cap):=by simp[World.cell?,hbox1]
  have hlen1:its1.length=its.length+([Tm.mk tk tn ts l].filter p).length:=by have:=congrArg List.length hmap1;simpa using this
  have hf1:([Tm.mk tk tn ts l].filter p).length≤1:=List.length_filter_le _ _;have HMAP1:=hdzz hmap1;clear hmap1;have HB1:=hdzz hbox1;clear hbox1;have HW:=hdzz hW;clear hW hbW hsW;have hls:=Tm.length_le_sizes l;go_wp2_with fail
  go_loopw [12] (fun i wr=>∃(k:Nat) (its':List It),k≤l.length∧i=.int .i64 k∧Acc B0 cb w0 wr its'∧Step cb w wr∧Hid (its'.map (·.1)=its.map (·.1)++[Tm.mk tk tn ts l].filter p++(Tm.alls (l.take k)).filter p))
   (fun i _=>l.length - (intOf i).toNat)
  case atStart=>exact⟨0,its1,Nat.zero_le _,rfl,hacc1,hst01,by rw[HMAP1.out];simp[Tm.alls,Hid]⟩
  case round=>
   obtain⟨k,its',hk,rfl,hacc',hst',HM⟩:=hrel;by_cases hlt:k<l.length
   ·rcases hr4 with rfl|⟨b,off,rfl,hbB,hl⟩
    ·simp at hlt
    have hcbl:=hacc'.lt;have hcble:=hacc'.le;have hwr:Below B0 w wr:=⟨(hacc'.below.os).trans hacc.below.os.symm,(hacc'.below.tape).trans hacc.below.tape.symm,(hacc'.below.output).trans hacc.below.output.symm,hst'.size,fun b hb=>(hacc'.below.block b hb).trans (hacc.below.block b hb).symm⟩;obtain⟨A',cap',h0,h1,h2,h3,h5⟩:=(hl.below hwr hbB).get k hlt;have hsg:=Tm.sizes_get l k hlt;have htk:=Tm.sizes_take_succ l k hlt;have htl:=Tm.sizes_take_le l (k+1);have hlen':its'.length≤its.length+1+Tm.sizes (l.take k):=by
     have h:=congrArg List.length HM.out;have h2:=List.length_filter_le p (Tm.alls (l.take k));rw[Tm.alls_length]at h2;simp only[List.length_map,List.length_append]at h;omega
    have HC:Hid (∀X,Below wr.heap.size wr X→Calls Tryz.prog 160 #[l[k].val A' cap',.func (.func g) #[] caps] X (Walked B0 cb w0 X (its'.map (·.1)++l[k].all.filter p))):=fun X hX=>
     IH.out l[k] A' cap' X its' (by omega) (by omega) (hacc'.keep hX) (h5.go (hX.mono (by omega)) (Nat.le_refl _))
    clear h5 htk htl hlen';simp only[Tm.val]at HC;go_wp2_with fail
    refine(HC.out _ (qab (Nat.le_refl _) _)).mono ?_;rintro e w2 ⟨rfl,hst2,its2,hacc2,hmap2⟩;have HM2:=hdzz hmap2;clear hmap2;go_wp2_with fail
    go_roundw
    case rel=>exact⟨k+1,its2,by omega,by go_num,hacc2,hst'.trans ((Step.of_below (qab (Nat.le_refl _) _) hcbl).trans hst2),by rw[HM2.out,HM.out,Tm.alls_take_succ l k hlt];simp[Hid]⟩
    case measure=>simp[intOf];omega
   ·obtain rfl:k=l.length:=by omega
    go_wp2_with fail
    go_end0
    exact⟨rfl,hst',its',hacc',by rw[HM.out,Tm.all];simp[List.filter_cons];split<;>simp⟩
theorem qe6:∀(r:List It) (p:Tm),(p::r.map (·.1)).Pairwise (fun a b=>a.cmp b≤0)→Asc (p::(qa4 p r).map (·.1))
 | [],p,_=>by simp[qa4,Asc]
 | y::r,p,h=>by
  have h':=List.pairwise_cons.1 h;rw[qa4]
  split
  ·rename_i hs
   have:=Tm.same_iff.1 hs;subst this;exact qe6 r _ (by simpa using h'.2)
  ·rename_i hs
   have hne:y.1≠p:=fun e=>hs (Tm.same_iff.2 e);have ih:=qe6 r y.1 (by simpa using h'.2);have ih':=List.pairwise_cons.1 ih;have hlt:p.cmp y.1<0:=by
    have h1:=h'.1 y.1 (by simp);rcases Int.lt_or_eq_of_le h1 with h2|h2
    ·exact h2
    ·exact absurd (Tm.cmp_zero.1 h2).symm hne
   rw[List.map_cons];refine List.pairwise_cons.2 ⟨fun u hu=>?_,ih⟩;rw[List.mem_cons]at hu;rcases hu with rfl|hu
   ·exact hlt
   ·exact Tm.lt_trans hlt (ih'.1 u hu)
theorem qe0:∀(r:List It) (p u:Tm),u∈p::(qa4 p r).map (·.1)↔u∈p::r.map (·.1)
 | [],p,u=>by simp[qa4]
 | y::r,p,u=>by
  rw[qa4]
  split
  ·rename_i hs
   have:=Tm.same_iff.1 hs;subst this;rw[qe0 r y.1 u];simp
  ·have:=qe0 r y.1 u;simp only[List.map_cons,List.mem_cons]at this ⊢;rw[this]
theorem comp_asc (l:List It) (h:∀i j,(hi:i<j)→(hj:j<l.length)→(l[i].1.cmp l[j].1)≤0):Asc ((comp l).map (·.1)):=by
 match l,h with
 | [],_=>exact List.Pairwise.nil
 | x::r,h=>
  refine qe6 r x.1 ?_;have:((x::r).map (·.1)).Pairwise (fun a b=>a.cmp b≤0):=by
   rw[List.pairwise_map,List.pairwise_iff_getElem];exact fun i j _ hj hij=>h i j hij hj
  exact this
theorem mem_comp (l:List It) (u:Tm):u∈(comp l).map (·.1)↔u∈l.map (·.1):=by
 match l with
 | []=>rfl
 | x::r=>exact qe0 r x.1 u
theorem qk0:∀(r:List It) (p:Tm),(qa4 p r).Sublist r
 | [],_=>by simp[qa4]
 | y::r,p=>by
  rw[qa4]
  split
  ·exact(qk0 r y.1).trans (List.sublist_cons_self _ _)
  ·exact(qk0 r y.1).cons_cons _
theorem qhk (l:List It):(comp l).Sublist l:=by
 match l with
 | []=>exact List.Sublist.refl _
 | x::r=>exact(qk0 r x.1).cons_cons _
theorem RepP.set4 {w:World} {P:Nat→Prop} {g a b c d:Nat} {x y z u:Value} (hP:∀k,P k→g≠k) {t:Tm} {A:Option Addr} {cap:Nat} (h:RepP w P t A cap) :
  RepP ((((w.setCell ⟨g,a,none⟩ x).setCell ⟨g,b,none⟩ y).setCell ⟨g,c,none⟩ z).setCell ⟨g,d,none⟩ u) P t A cap:=by
 refine RepP.mono (fun _ h=>h) (fun p hp=>?_) _ _ _ h;have hne:∀o,(⟨g,o,none⟩:Addr)≠p:=fun o e=>hP _ hp (by rw[←e]);rw[World.cell?_setCell_other _ _ _ _ (hne _),World.cell?_setCell_other _ _ _ _ (hne _),World.cell?_setCell_other _ _ _ _ (hne _),World.cell?_setCell_other _ _ _ _ (hne _)]
theorem qn0 (w:World) (f:Value) :
  Calls Tryz.prog 84 #[.slice none 0 0,f] w fun e w'=>e=.returned (.slice none 0 0)∧w'=w:=by
 go_enter Tryz.func84,Tryz.ntmps84
 go_wp2_with fail
 go_ret
 exact⟨rfl,rfl⟩
theorem qi2 {w w':World} (h:Below w.heap.size w w') (row:Option Nat):w.grownBy w' row:=⟨h.os,h.tape,h.output,h.size,fun b hb _=>h.block b hb⟩
def qg9 (w:World) (base:Nat) (v:Value) (ts:List Tm) (e:Ending) (w':World):Prop:=
 ∃v' its',e=.returned v'∧RowT w' base (fun b=>w.heap.size≤b) v' its'∧w.grownBy w' v.ownBlock∧v'.ownBlock=v.ownBlock∧its'.map (·.1)=Tm.set ts
theorem qnk (w:World) (base:Nat) :
  Calls Tryz.prog 162 #[.slice none 0 0] w (qg9 w base (.slice none 0 0) []):=by
 have hS:=(AnyF.slices_SortFunc_none (P:=Tryz.prog) Tryz.sortTerm none 0 (.func (.func 53) #[] #[]) w);have HS:=hdzz hS;clear hS;go_enter Tryz.func162,Tryz.ntmps162
 go_wp2_with fail
 refine HS.out.mono ?_;rintro e w' ⟨rfl,rfl⟩;go_wp2_with fail
 refine(qn0 _ _).mono ?_;rintro e w' ⟨rfl,rfl⟩;go_wp2_with fail
 refine wp_loop_rounds 1 ?_;rw[rounds_succ];go_wp2_with fail
 go_ret
 exact⟨_,[],rfl,RowT.nil _ _ _,qdx (Lay.refl _ _) _,rfl,rfl⟩
theorem qnl (w:World) (base g cap n:Nat) (F:Nat→Prop) (its:List It) (hn:n=its.length) (hpos:0<n) (hn2:n≤10000000) (hrow:RowT w base F (.slice (some ⟨g,0,none⟩) n cap) its) (hsz:∀x∈its,x.1.size≤1000000) :
  Calls Tryz.prog 162 #[.slice (some ⟨g,0,none⟩) n cap] w (qg9 w base (.slice (some ⟨g,0,none⟩) n cap) (its.map (·.1))):=by
 have hS:=sort_any w base g cap n F its hn hpos hn2 hrow hsz;subst hn;have HS:=hdzz hS;clear hS;go_enter Tryz.func162,Tryz.ntmps162
 go_wp2_with fail
 refine HS.out.mono ?_;rintro e w1 ⟨rfl,its1,hperm,hle,hrow1,hg1⟩;have hC:=qn1 w1 base g cap its.length F its1 hperm.length_eq.symm hn2 hrow1 (fun x hx=>hsz x (hperm.mem_iff.1 hx));have HC:=hdzz hC;clear hC;go_wp2_with fail
 refine HC.out.mono ?_;rintro e w2 ⟨v2,rfl,hrow2,hg2,hv2⟩;have hasc:=comp_asc its1 hle;have hmem:∀t,t∈(comp its1).map (·.1)↔t∈its.map (·.1):=fun t=>by rw[mem_comp,(hperm.map _).mem_iff]
 have hset:=Tm.set_eq hasc hmem;have hsz2:∀x∈comp its1,x.1.size≤1000000:=fun x hx=>hsz x (hperm.mem_iff.1 ((qhk its1).subset hx));have hlen2:(comp its1).length≤its.length:=by have:=(qhk its1).length_le;rw[hperm.length_eq]at this;exact this
 generalize comp its1=its2 at *;rcases hrow2.own.2 with⟨hv,_⟩|⟨g',cap2,cur,hv,_,_,_,_⟩
 ·subst hv;cases hv2
 subst hv;obtain rfl:g'=g:=by simpa[Value.ownBlock]using hv2
 have hgrow:w.grownBy w2 (some g'):=hg1.trans hg2;have hgl:g'<w.heap.size:=(hrow.lt g' rfl).2;have HSET:=hdzz hset;clear hset;have HG:=hdzz hgrow;have hrow2':RowT w2 base (fun b=>F b∨w.heap.size≤b) (.slice (some ⟨g',0,none⟩) its2.length cap2) its2:=⟨hrow2.own,fun x hx=>RepP.mono (fun b ⟨h1,h2⟩=>⟨.inl h1,h2⟩) (fun _ _=>rfl) _ _ _ (hrow2.reps x hx)⟩;have HR2:=hdzz hrow2';have HSZ:=hdzz hsz2;have hN:its2.length≤10000000:=by omega
 clear hrow2' hrow2 hsz2 HC HS hasc hmem hle hrow1 hg1 hg2 hv2 hgrow hperm;go_wp2_with fail
 go_loopw [10] (fun a wr=>∃(i:Nat) (cur:List It),a=.int .i64 i∧i≤its2.length∧cur.length=its2.length∧Hid (RowT wr base (fun b=>F b∨w.heap.size≤b) (.slice (some ⟨g',0,none⟩) its2.length cap2) cur)∧
   Hid (cur.map (·.1)=its2.map (·.1))∧Hid (∀j,(h:j<cur.length)→j<i→RepP wr (fun b=>w.heap.size≤b∧b<wr.heap.size∧g'≠b) cur[j].1 cur[j].2.1 cur[j].2.2)∧Hid (w.grownBy wr (some g')))
  (fun a _=>its2.length - (intOf a).toNat)
 case atStart=>exact⟨0,its2,rfl,Nat.zero_le _,rfl,HR2.out,rfl,fun j _ h=>absurd h (Nat.not_lt_zero j),HG.out⟩
 case round=>
  obtain⟨i,cur,rfl,hi,hcl,HR,HM,HF,HG⟩:=hrel;by_cases hlt:i<its2.length
  ·have hic:i<cur.length:=by omega
   obtain⟨k0,k1,k2,k3,_⟩:=HR.out.slot hcl.symm i hic;have hsi:cur[i].1.size≤1000000:=by
    have h1:=congrArg (·[i]?) HM.out;simp only[List.getElem?_map,List.getElem?_eq_getElem hic,List.getElem?_eq_getElem hlt,Option.map_some,Option.some.injEq]at h1;rw[h1];exact HSZ.out _ (List.getElem_mem _)
   have hcl':=qmt 1000000 cur[i].1 cur[i].2.1 cur[i].2.2 wr hsi (Nat.le_refl _) (RepP.mono (fun b h=>h.2.1) (fun _ _=>rfl) _ _ _ (HR.out.reps _ (List.getElem_mem _)));have HCL:=hdzz hcl';clear hcl';have i1:(i:Int)<(its2.length:Int):=by omega
   obtain⟨it,hit⟩:∃it,it=cur[i]:=⟨_,rfl⟩;rw[←hit]at HCL k0 k1 k2 k3;have HIT:=hdzz hit;clear hit;simp only[Tm.val]at HCL;go_wp2_with fail
   refine HCL.out.mono ?_;rintro e w3 ⟨A,c,rfl,hrep,hbel⟩;have hR3:=HR.out.below hbel;obtain⟨m0,m1,m2,m3,m4⟩:=hR3.slot hcl.symm i hic;have hs3:=hbel.size;have hgw:=(HR.out.lt g' rfl).2;have hww:=HG.out.size;have hX:RepP w3 (fun b=>(F b∨w.heap.size≤b)∧b<w3.heap.size∧g'≠b) it.1 A c:=RepP.mono (fun b ⟨h1,h2⟩=>⟨.inr (by omega),h2,by omega⟩) (fun _ _=>rfl) _ _ _ hrep;have hset:=hR3.set hcl.symm i hlt (it.1,A,c) hX;have hX2:RepP w3 (fun b=>w.heap.size≤b∧b<w3.heap.size∧g'≠b) it.1 A c:=RepP.mono (fun b ⟨h1,h2⟩=>⟨by omega,h2,by omega⟩) (fun _ _=>rfl) _ _ _ hrep;have hold:∀j,(h:j<cur.length)→j<i→RepP w3 (fun b=>w.heap.size≤b∧b<w3.heap.size∧g'≠b) cur[j].1 cur[j].2.1 cur[j].2.2:=fun j h h'=>
    RepP.mono (fun b ⟨h1,h2,h3⟩=>⟨h1,by omega,h3⟩) (fun p ⟨_,h2,_⟩=>hbel.cell h2) _ _ _ (HF.out j h h')
   have HSE:=hdzz hset;clear hset;have HX:=hdzz hX2;clear hX2 hX;have HO:=hdzz hold;clear hold;have hgr:w.grownBy w3 (some g'):=HG.out.trans (qi2 hbel _);have HGR:=hdzz hgr;clear hgr;clear hrep hR3 hbel hs3;generalize cur[i]=old at m0 m1 m2 m3;go_wp2_with fail
   go_roundw
   case rel=>
    refine⟨i+1,cur.set i (it.1,A,c),by go_num,by omega,by rw[List.length_set];exact hcl,HSE.out,?_,?_,HGR.out.trans (grown_set4 _ _ _ _ _ _ _ _ _ _)⟩
    ·show(cur.set i (it.1,A,c)).map (·.1)=_;rw[List.map_set,←HM.out,HIT.out];refine List.ext_getElem (by simp) fun j h1 h2=>?_;rw[List.getElem_set]
     split
     ·subst_vars;simp
     ·rfl
    ·intro j h h';have h2:j<cur.length:=by simpa using h
     have hsz3:((((w3.setCell ⟨g',i*4,none⟩ (.int .i64 it.1.kind)).setCell ⟨g',i*4+1,none⟩ (.string it.1.name)).setCell ⟨g',i*4+2,none⟩ (.int .i64 it.1.sort)).setCell ⟨g',i*4+3,none⟩ (.slice A it.1.kids.length c)).heap.size=w3.heap.size:=by simp[World.setCell]
     rw[hsz3];refine RepP.set4 (fun k h=>h.2.2) ?_;rw[List.getElem_set]
     split
     ·exact HX.out
     ·exact HO.out j h2 (by omega)
   case measure=>simp[intOf];omega
  ·obtain rfl:i=its2.length:=by omega
   go_wp2_with fail
   go_ret
   refine⟨_,cur,rfl,⟨by have:=HR.out.own;rw[←hcl]at this ⊢;exact this,fun x hx=>?_⟩,HG.out,rfl,by rw[HM.out,HSET.out]⟩;obtain⟨j,hj,rfl⟩:=List.getElem_of_mem hx;exact RepP.mono (fun b ⟨h1,h2,h3⟩=>⟨h1,h2,fun e=>h3 (by injection e)⟩) (fun _ _=>rfl) _ _ _ (HF.out j hj (by omega))
mutual
theorem Tm.mem_all_size:∀(t u:Tm),u∈t.all→u.size≤t.size
 | .mk k n s l,u,h=>by
  rw[Tm.all,List.mem_cons]at h;rcases h with rfl|h
  ·exact Nat.le_refl _
  ·have:=Tm.mem_alls_size l u h;rw[Tm.size];omega
theorem Tm.mem_alls_size:∀(l:List Tm) (u:Tm),u∈Tm.alls l→u.size≤Tm.sizes l
 | [],u,h=>by simp[Tm.alls]at h
 | t::r,u,h=>by
  rw[Tm.alls,List.mem_append]at h;rw[Tm.sizes];rcases h with h|h
  ·have:=Tm.mem_all_size t u h;omega
  ·have:=Tm.mem_alls_size r u h;omega
end
theorem qhg (w:World) (base:Nat) (F:Nat→Prop) (A:Option Addr) (cap:Nat) (hrow:RowT w base F (.slice A 0 cap) []) :
  Calls Tryz.prog 162 #[.slice A 0 cap] w (qg9 w base (.slice A 0 cap) []):=by
 rcases hrow.own.2 with⟨hv,_⟩|⟨g,cap',cur,hv,hr⟩
 ·rw[hv];exact qnk w base
 ·have hS:=(AnyF.slices_SortFunc_none (P:=Tryz.prog) Tryz.sortTerm (some ⟨g,0,none⟩) cap' (.func (.func 53) #[] #[]) w);have HS:=hdzz hS;clear hS;simp only[List.length_nil]at hv;rw[hv]at hrow ⊢;clear hr hv;go_enter Tryz.func162,Tryz.ntmps162
  go_wp2_with fail
  refine HS.out.mono ?_;rintro e w' ⟨rfl,rfl⟩;go_wp2_with fail
  have hC:Calls Tryz.prog 84 #[.slice (some ⟨g,0,none⟩) 0 cap',.func (.func 178) #[] #[]] w' fun e w''=>e=.returned (.slice (some ⟨g,0,none⟩) 0 cap')∧w''=w':=by
   go_enter Tryz.func84,Tryz.ntmps84
   go_wp2_with fail
   go_ret
   exact⟨rfl,rfl⟩
  refine hC.mono ?_;rintro e w'' ⟨rfl,rfl⟩;go_wp2_with fail
  refine wp_loop_rounds 1 ?_;rw[rounds_succ];go_wp2_with fail
  go_ret
  exact⟨_,[],rfl,⟨hrow.own,by simp⟩,qdx (Lay.refl _ _) _,rfl,rfl⟩
theorem qnj (w:World) (base:Nat) (F:Nat→Prop) (v:Value) (its:List It) (hn2:its.length≤10000000) (hrow:RowT w base F v its) (hsz:∀x∈its,x.1.size≤1000000) :
  Calls Tryz.prog 162 #[v] w (qg9 w base v (its.map (·.1))):=by
 by_cases h0:its=[]
 ·subst h0;rcases hrow.own.2 with⟨rfl,_⟩|⟨g,cap,cur,rfl,_⟩
  ·exact qhg w base F _ _ hrow
  ·exact qhg w base F _ _ hrow
 ·have hpos:0<its.length:=List.length_pos_iff.2 h0;rcases hrow.own.2 with⟨_,h⟩|⟨g,cap,cur,rfl,_⟩
  ·omega
  ·exact qnl w base g cap its.length F its rfl hpos hn2 hrow hsz
def qn9 (w:World) (ts:List Tm) (e:Ending) (w':World):Prop:=
 ∃v its,e=.returned v∧RowT w' w.heap.size (fun b=>w.heap.size≤b) v its∧Below w.heap.size w w'∧its.map (·.1)=Tm.set ts
theorem qbf {B:Nat} {w w1 w2:World} {row:Option Nat} (h:Below B w w1) (hB:B≤w1.heap.size) (hg:w1.grownBy w2 row) (hr:∀k,row=some k→B≤k):Below B w w2:=
 ⟨hg.os.trans h.os,hg.tape.trans h.tape,hg.output.trans h.output,Nat.le_trans h.size hg.size,fun b hb=>(hg.block b (by omega) (fun e=>by have:=hr b e.symm;omega)).trans (h.block b hb)⟩
theorem RowT.loosen {w:World} {base base':Nat} {F F':Nat→Prop} {v:Value} {its:List It} (h:RowT w base F v its) (hb:base'≤base) (hF:∀b,F b→F' b):RowT w base' F' v its:=by
 refine⟨⟨h.own.1,?_⟩,fun x hx=>RepP.mono (fun b ⟨h1,h2⟩=>⟨hF b h1,h2⟩) (fun _ _=>rfl) _ _ _ (h.reps x hx)⟩;rcases h.own.2 with h|⟨g,cap,cur,h1,h2,h3⟩
 ·exact .inl h
 ·exact .inr ⟨g,cap,cur,h1,by omega,h3⟩
theorem setOf_end {B0 cb:Nat} {w w1 w2:World} {v:Value} {its:List It} {l:List Tm} {e:Ending} (hv:RowT w1 (cb+1) (fun b=>b<B0) v its) (hb:Below w.heap.size w w1) (hs:w.heap.size≤w1.heap.size) (hcb:w.heap.size≤cb)
  (hl:its.map (·.1)=l) (h:qg9 w1 (cb+1) v (its.map (·.1)) e w2):qn9 w l e w2:=by
 obtain⟨v',its',rfl,hr,hg,ho,hm⟩:=h;exact⟨v',its',rfl,hr.loosen (by omega) (fun b hb=>Nat.le_trans hs hb),qbf hb hs hg (fun k hk=>by have:=(hv.lt k hk).1;omega),by rw[hm,hl]⟩
theorem kind_any (t:Tm) (A:Option Addr) (cap:Nat) (kd:Int) (w:World) (hn:t.size≤1000000) (hrep:RepT w w.heap.size t A cap) :
  Calls Tryz.prog 126 #[t.val A cap,.int .i64 kd] w (qn9 w (t.all.filter fun u=>u.kind==kd)):=by
 obtain⟨w0,hw0⟩:∃w0,w0=(w.alloc (.cells #[.int .i64 t.kind,.string t.name,.int .i64 t.sort,.slice A t.kids.length cap] 24)).alloc (.cells #[.int .i64 kd] 3):=⟨_,rfl⟩;obtain⟨w1,hw1⟩:∃w1,w1=w0.alloc (.cells #[.slice none 0 0] 22):=⟨_,rfl⟩;have hs0:w0.heap.size=w.heap.size+2:=by rw[hw0];simp
 have hb0:Below w.heap.size w w0:=by rw[hw0];exact(qab (Nat.le_refl _) _).alloc (by simp) _
 have hb1:Below w0.heap.size w0 w1:=by rw[hw1];exact qab (Nat.le_refl _) _
 have hkb:w0.cell? ⟨w.heap.size+1,0,none⟩=some (.int .i64 kd):=by
  have h:=heap_alloc_new (w.alloc (.cells #[.int .i64 t.kind,.string t.name,.int .i64 t.sort,.slice A t.kids.length cap] 24)) (.cells #[.int .i64 kd] 3);rw[←hw0,World.size_alloc]at h;simp[World.cell?,h]
 have hacc:Acc w0.heap.size w0.heap.size w0 w1 []:=⟨⟨.slice none 0 0,by rw[hw1];exact heap_alloc_new _ _,RowT.nil _ _ _⟩,Nat.le_refl _,by rw[hw1];simp,hb1⟩;have hW:=walk_any 161 _ _ w0.heap.size w0.heap.size w0 (qm5 w0.heap.size w0.heap.size (w.heap.size+1) kd w0 hkb (by omega)) (enters_of Tryz.func161 (by kernel_rfl) rfl) t.size t A cap w1 [] (Nat.le_refl _) (by simp;omega) hacc
  (hrep.go (hb0.trans (hb1.mono (by omega))) (by omega))
 have hsz:∀u∈t.all,u.size≤1000000:=fun u hu=>Nat.le_trans (Tm.mem_all_size t u hu) hn;have hal:(t.all.filter fun u=>u.kind==kd).length≤10000000:=by
  have h1:=List.length_filter_le (fun u:Tm=>u.kind==kd) t.all;rw[Tm.all_length]at h1;omega
 simp only[List.map_nil,List.nil_append,hs0]at hW;obtain⟨post,hpost⟩:∃p,p=Walked (w.heap.size+2) (w.heap.size+2) w0 w1 (t.all.filter fun u=>u.kind==kd):=⟨_,rfl⟩;rw[←hpost,hw1,hw0]at hW;have HW:=hdzz hW;clear hW;have HP:=hdzz hpost;clear hpost;have HB0:=hdzz hb0;clear hb0;have HSZ:=hdzz hsz;clear hsz;have HS0:=hdzz hs0;clear hs0;have HW0:=hdzz hw0;clear hw0;clear hw1 hb1 hkb hacc hrep;simp only[Tm.val]at HW ⊢;go_enter Tryz.func126,Tryz.ntmps126
 go_wp2_with fail
 refine HW.out.mono ?_;rw[HP.out];rintro e w2 ⟨rfl,hst,its,hacc,hmap⟩;obtain⟨⟨v,hbox,hrow⟩,hle,hlt,hbel⟩:=hacc;have hcell:w2.cell? ⟨w.heap.size+1+1,0,none⟩=some v:=by simp[World.cell?,hbox]
 have hO:=qnj w2 _ _ v its (by rw[←List.length_map (f:=fun x:It=>x.1),hmap];exact hal) hrow (fun x hx=>HSZ.out _ (List.mem_filter (p:=fun u:Tm=>u.kind==kd).1 (by rw[←hmap];exact List.mem_map_of_mem hx)).1);have HO:=hdzz hO;clear hO;have HM:=hdzz hmap;clear hmap;have hres:∀e w3,qg9 w2 (w.heap.size+2+1) v (its.map (·.1)) e w3→qn9 w (t.all.filter fun u=>u.kind==kd) e w3:=fun e w3 h=>
  setOf_end hrow (HB0.out.trans (hbel.mono (by have:=HS0.out;omega))) (by have:=hbel.size;have:=HS0.out;omega) (by omega) HM.out h
 have HRES:=hdzz hres;clear hres;obtain⟨Av,cv,rfl,_⟩:=hrow.toS (P:=fun _=>True) (fun _ _ _=>trivial) (fun _ _ _=>trivial);clear hrow hbel hbox;go_wp2_with fail
 refine HO.out.mono ?_;rintro e w3 hord;have hs:=HRES.out _ _ hord;obtain⟨v',its',rfl,hs⟩:=hs;have HS:=hdzz hs;clear hs hord;go_wp2_with fail
 go_ret
 exact⟨v',its',rfl,HS.out⟩
theorem qn9.of_alloc {w:World} {o:Obj} {l:List Tm} {e:Ending} {w':World} (h:qn9 (w.alloc o) l e w'):qn9 w l e w':=by
 obtain⟨v,its,he,hr,hb,hm⟩:=h;exact⟨v,its,he,hr.loosen (by simp) (fun b hb=>by simp at hb;omega),(qab (Nat.le_refl _) o).trans (hb.mono (by simp)),hm⟩
theorem qj9 (t:Tm) (A:Option Addr) (cap:Nat) (w:World) (hn:t.size≤1000000) (hrep:RepT w w.heap.size t A cap) :
  Calls Tryz.prog 96 #[t.val A cap] w (qn9 w (t.all.filter fun u=>u.kind==1)):=by
 have hK:=kind_any t A cap 1 (w.alloc (.cells #[.int .i64 t.kind,.string t.name,.int .i64 t.sort,.slice A t.kids.length cap] 24)) hn (hrep.go (qab (Nat.le_refl _) _) (by simp));have HK:=hdzz (hK.mono fun _ _ h=>h.of_alloc);clear hK hrep;simp only[Tm.val]at HK ⊢;go_enter Tryz.func96,Tryz.ntmps96
 go_wp2_with fail
 refine HK.out.mono ?_;rintro e w2 ⟨v',its',rfl,hs⟩;go_wp2_with fail
 go_ret
 exact⟨v',its',rfl,hs⟩
def qal (t:Tm) (A:Option Addr) (c:Nat):Obj:=.cells #[.int .i64 t.kind,.string t.name,.int .i64 t.sort,.slice A t.kids.length c] 24
def BoxT (V:World) (B:Nat) (t:Tm) (A:Option Addr) (c:Nat):Prop:=V.heap[B]?=some (qal t A c)∧RepT V V.heap.size t A c
theorem BoxT.lt {V:World} {B:Nat} {t:Tm} {A:Option Addr} {c:Nat} (h:BoxT V B t A c):B<V.heap.size:=(sltz h.1)
theorem BoxT.below {V V':World} {B:Nat} {t:Tm} {A:Option Addr} {c:Nat} (h:BoxT V B t A c) (hb:Below V.heap.size V V'):BoxT V' B t A c:=
 ⟨by rw[hb.block B h.lt];exact h.1,h.2.go hb hb.size⟩
theorem BoxT.new {V:World} {t:Tm} {A:Option Addr} {c:Nat} (h:RepT V V.heap.size t A c):BoxT (V.alloc (qal t A c)) V.heap.size t A c:=
 ⟨heap_alloc_new _ _,h.go (qab (Nat.le_refl _) _) (by simp)⟩
theorem BoxT.cells {V:World} {B:Nat} {t:Tm} {A:Option Addr} {c:Nat} (h:BoxT V B t A c) :
  V.cell? ⟨B,0,none⟩=some (.int .i64 t.kind)∧V.cell? ⟨B,1,none⟩=some (.string t.name)∧V.cell? ⟨B,2,none⟩=some (.int .i64 t.sort)∧V.cell? ⟨B,3,none⟩=some (.slice A t.kids.length c)∧∀o,V.frozen? ⟨B,o,none⟩=false:=qaa h.1
theorem qlb.below {w w':World} (h:qlb w.heap.size w) (hb:Below w.heap.size w w'):qlb w'.heap.size w':=(h.keep (fun b hb'=>hb.block b hb')).up hb.size
theorem qdq {B:Nat} {a b c:World} (h:Below B a b) (k:Below b.heap.size b c) (hB:B≤b.heap.size):Below B a c:=h.trans (k.mono hB)
theorem qp1 {w:World} {P:Nat→Prop} {b:Nat} {T:TypeId} (its:List It) (hB:w.heap[b]?=some (.cells (itCells its).toArray T (0,0))) (hb:P b) (hr:∀x∈its,RepP w P x.1 x.2.1 x.2.2) (hlen:its.length≤1000) :
  RepS w P (its.map (·.1)) (some ⟨b,0,none⟩) its.length:=by
 refine⟨by simp,by simp[maxLen];omega,.inr ⟨b,0,rfl,hb,RepLP.of_its its b 0 (fun j u hj=>?_) hr⟩⟩;simp[World.cell?,hB,hj]
mutual
theorem Tm.left_size:∀(t:Tm) (m:Int),0≤t.left m→(t.size:Int)+t.left m≤m
 | .mk _ n _ l,m,h=>by
  rw[Tm.left]at h ⊢;rw[Tm.size]
  split at h
  ·omega
  ·rename_i hc
   rw[if_neg hc];have:=Tm.lefts_size l (m - 1) (by omega) h
   push_cast;omega
theorem Tm.lefts_size:∀(l:List Tm) (m:Int),0≤m→0≤Tm.lefts l m→(Tm.sizes l:Int)+Tm.lefts l m≤m
 | [],m,_,_=>by rw[Tm.lefts,Tm.sizes];omega
 | t::r,m,hm,h=>by
  rw[Tm.lefts]at h ⊢;rw[Tm.sizes]
  split at h
  ·omega
  ·rename_i hc
   rw[if_neg hc];have h1:=Tm.left_size t m (by omega);have h2:=Tm.lefts_size r (t.left m) (by omega) h
   push_cast;omega
end
theorem Tm.lefts_each {l:List Tm} {m:Int} (hm:0≤m) (h:0≤Tm.lefts l m):∀t∈l,(t.size:Int)≤m:=by
 have h1:=Tm.lefts_size l m hm h;intro t ht;obtain⟨i,hi,rfl⟩:=List.getElem_of_mem ht;have:=Tm.sizes_get l i hi;omega
def qo8 (w:World) (B:Nat) (l:List Tm) (e:Ending) (w':World):Prop:=
 ∃A cap n its,e=.returned (.slice A n cap)∧n=l.length∧RowT w' w.heap.size (fun b=>b<B) (.slice A n cap) its∧Below w.heap.size w w'∧its.map (·.1)=l
theorem RowT.lit1 {w:World} {base:Nat} {F:Nat→Prop} (X:It) (hb:base≤w.heap.size) (hF:∀b,F b→b<base) (hX:RepP w F X.1 X.2.1 X.2.2) :
  RowT (w.alloc (.cells #[.int .i64 X.1.kind,.string X.1.name,.int .i64 X.1.sort,.slice X.2.1 X.1.kids.length X.2.2] 24)) base F (.slice (some ⟨w.heap.size,0,none⟩) 1 1) [X]:=by
 refine⟨World.ownsRow_lit w #[.int .i64 X.1.kind,.string X.1.name,.int .i64 X.1.sort,.slice X.2.1 X.1.kids.length X.2.2] 1 hb (by simp[maxLen]) rfl,fun x hx=>?_⟩;rw[List.mem_singleton.1 hx];refine RepP.mono (fun b h=>⟨h,?_,fun e=>?_⟩) (fun p hp=>World.cell?_of_block (Below.heap_alloc _ _ _ (by have:=hF _ hp;omega))) _ _ _ hX
 ·have:=hF b h;simp;omega
 ·have h1:=hF b h;injection e with e;simp at e;omega
theorem RowT.some {w:World} {base:Nat} {F:Nat→Prop} {A:Option Addr} {n cap:Nat} {its:List It} (h:RowT w base F (.slice A n cap) its) (hp:0<n):∃g,A=some ⟨g,0,none⟩:=by
 rcases h.own.2 with⟨hv,_⟩|⟨g,cap',cur,hv,_⟩
 ·injection hv with _ h2;omega
 ·injection hv with h1;exact⟨g,h1⟩
theorem RowT.len {w:World} {base:Nat} {F:Nat→Prop} {A:Option Addr} {n cap:Nat} {its:List It} (h:RowT w base F (.slice A n cap) its):n=its.length:=by
 rcases h.own.2 with⟨hv,h0⟩|⟨g,cap',cur,hv,_⟩
 ·injection hv with _ h2;omega
 ·injection hv
theorem rall_any (n:Nat):∀(t:Tm) (A:Option Addr) (cap:Nat) (w:World) (B:Nat),t.size≤n→n≤1000000→B≤w.heap.size→RepT w B t A cap→
  Calls Tryz.prog 26 #[t.val A cap] w (qo8 w B t.all):=by
 induction n with
 | zero=>intro t _ _ _ _ h;have:=t.size_pos;omega
 | succ n ih=>
  intro t A cap w B hn hb hB hrep;have hrep0:=hrep;obtain⟨tk,tn,ts,l⟩:=t;obtain⟨W0,hW0⟩:∃W0,W0=w.alloc (.cells #[.int .i64 tk,.string tn,.int .i64 ts,.slice A l.length cap] 24):=⟨_,rfl⟩;have hs0:W0.heap.size=w.heap.size+1:=by rw[hW0];simp
  have hb0:Below w.heap.size w W0:=by rw[hW0];exact qab (Nat.le_refl _) _
  have hlit:RowT (W0.alloc (.cells #[.int .i64 tk,.string tn,.int .i64 ts,.slice A l.length cap] 24)) (w.heap.size+1) (fun b=>b<B) (.slice (some ⟨W0.heap.size,0,none⟩) 1 1) [(.mk tk tn ts l,A,cap)]:=
   RowT.lit1 (.mk tk tn ts l,A,cap) (by omega) (fun b h=>by omega) (RepP.mono (fun _ h=>h) (fun p hp=>hb0.cell (by have:p.block<B:=hp;omega)) _ _ _ hrep0)
  have hb1:Below (w.heap.size+1) W0 (W0.alloc (.cells #[.int .i64 tk,.string tn,.int .i64 ts,.slice A l.length cap] 24)):=qab (by omega) _;rw[hs0]at hlit;have hbx:W0.cell? ⟨w.heap.size,3,none⟩=some (.slice A l.length cap):=by rw[hW0];simp
  rw[qbe]at hrep;obtain⟨hr1,hr2,hr3,hr4⟩:=hrep;rw[Tm.size]at hn;have hls:=Tm.length_le_sizes l;have HLIT:=hdzz hlit;clear hlit;have HB1:=hdzz hb1;clear hb1;have HB0:=hdzz hb0;clear hb0;have HBX:=hdzz hbx;clear hbx;have HS0:=hdzz hs0;clear hs0;have HW0:=hdzz hW0;rw[hW0]at HLIT HB1;clear hW0 hrep0;simp only[Tm.val,Tm.kind,Tm.name,Tm.sort,Tm.kids];go_enter Tryz.func26,Tryz.ntmps26
  go_wp2_with fail
  go_loopw [3,4] (fun v i wr=>∃(k m c:Nat) (A':Option Addr) (its:List It),k≤l.length∧i=.int .i64 k∧v=.slice A' m c∧Hid (RowT wr (w.heap.size+1) (fun b=>b<B) (.slice A' m c) its)∧
    Hid (its.map (·.1)=Tm.mk tk tn ts l::Tm.alls (l.take k))∧Hid (Below (w.heap.size+1) W0 wr))
   (fun _ i _=>l.length - (intOf i).toNat)
  case atStart=>exact⟨0,1,1,_,_,Nat.zero_le _,rfl,rfl,HLIT.out,by simp[Tm.alls,Hid],by rw[HW0.out];exact HB1.out⟩
  case round=>
   obtain⟨k,m,c,A',its,hk,rfl,rfl,HR,HM,HBW⟩:=hrel;have hbox:wr.cell? ⟨w.heap.size,3,none⟩=some (.slice A l.length cap):=by rw[HBW.out.cell (by simp)];exact HBX.out
   have hbww:Below w.heap.size w wr:=HB0.out.trans (HBW.out.mono (by omega));by_cases hlt:k<l.length
   ·rcases hr4 with rfl|⟨b,off,rfl,hbB,hl⟩
    ·simp at hlt
    have hlw:RepL wr B l b off:=RepL.below hl (hbww.mono hB) hbB;obtain⟨Ak,ck,h0,h1,h2,h3,h5⟩:=RepLP.get hlw k hlt;have hsg:=Tm.sizes_get l k hlt;have htk:=Tm.sizes_take_succ l k hlt;have htl:=Tm.sizes_take_le l (k+1);have hsw:=hbww.size;have hC:=ih l[k] Ak ck wr B (by omega) (by omega) (by omega) h5;have HC:=hdzz hC;clear hC h5 hlw;have hml:m=1+Tm.sizes (l.take k):=by
     have h1:=HR.out.len;have h2:=congrArg List.length HM.out;rw[List.length_map,List.length_cons,Tm.alls_length]at h2;omega
    have hB0:=HS0.out;have hBs:=HBW.out.size;have hml2:its.length=m:=HR.out.len.symm;clear hml2;have HML:=hdzz hml;clear hml;simp only[Tm.val]at HC;go_wp2_with fail
    have hml:=HML.out;have hml2:its.length=m:=HR.out.len.symm;refine HC.out.mono ?_;rintro e w1 ⟨A2,c2,m2,its2,rfl,hm2,hrow2,hbel2,hmap2⟩;rw[Tm.all_length]at hm2;have hsp:=l[k].size_pos;obtain⟨g2,rfl⟩:=hrow2.some (by omega);have hs1:=hbel2.size;obtain⟨A3,c3,w2,hap,hrow3,hgr3,_⟩:=(HR.out.below hbel2).more (fun b h=>by omega) (by omega) g2 0 c2 m2 its2 hrow2.len hrow2.cells
     (fun x hx=>RepP.mono (fun b h=>h.1) (fun _ _=>rfl) _ _ _ (hrow2.reps x hx)) (by omega)
    rw[hml2]at hap hrow3;clear hml;have hb3:Below (w.heap.size+1) W0 w2:=qbf (HBW.out.trans (hbel2.mono (by omega))) (by omega) hgr3 (fun q hq=>(HR.out.lt q hq).1);have hm3:(its++its2).map (·.1)=Tm.mk tk tn ts l::Tm.alls (l.take (k+1)):=by
     show(its++its2).map (·.1)=_;rw[List.map_append,HM.out,hmap2,Tm.alls_take_succ l k hlt];rfl
    have HR3:=hdzz hrow3;clear hrow3;have HB3:=hdzz hb3;clear hb3;have HM3:=hdzz hm3;clear hm3;clear hrow2 hbel2 hmap2 hgr3;have HM2:=hdzz hm2;clear hm2;have HML2:=hdzz hml2;clear hml2;go_wp2_with (at_builtin;refine qag rfl _ _ rfl rfl rfl hap ?_)
    go_roundw
    case rel=>exact⟨k+1,_,c3,A3,_,by omega,by go_num,rfl,HR3.out,HM3.out,HB3.out⟩
    case measure=>simp[intOf];omega
   ·obtain rfl:k=l.length:=by omega
    have hm:its.map (·.1)=(Tm.mk tk tn ts l).all:=by rw[HM.out,List.take_length,Tm.all]
    have hlen:m=(Tm.mk tk tn ts l).all.length:=by rw[←hm,List.length_map];exact HR.out.len
    have HM':=hdzz hm;clear hm;have HLEN:=hdzz hlen;clear hlen;have HBWW:=hdzz hbww;clear hbww;go_wp2_with fail
    go_ret
    exact⟨A',c,m,its,rfl,HLEN.out,HR.out.loosen (by omega) (fun _ h=>h),HBWW.out,HM'.out⟩
theorem qo8.loosen {w w0:World} {B:Nat} {l:List Tm} {e:Ending} {w':World} (h:qo8 w B l e w') (hb:Below w0.heap.size w0 w):qo8 w0 B l e w':=by
 obtain⟨A,c,n,its,he,hn,hr,hbl,hm⟩:=h;exact⟨A,c,n,its,he,hn,hr.loosen hb.size (fun _ h=>h),hb.trans (hbl.mono hb.size),hm⟩
theorem atom_any (x:ByteArray) (so:Int) (w:World) :
  Calls Tryz.prog 35 #[.string x,.int .i64 so] w fun e w'=>e=.returned ((Tm.mk 2 x so []).val none 0)∧Lay w.heap.size w w':=by
 simp only[Tm.val,Tm.kind,Tm.name,Tm.sort,Tm.kids];go_enter Tryz.func35,Tryz.ntmps35
 go_wp2_with fail
 refine bodyPost_ret (v:=.agg #[.int .i64 2,.string x,.int .i64 so,.slice none 0 0]) ?_ rfl ?_
 ·simp[results,Tryz.results35,go_sem]
 exact⟨rfl,(Lay.refl _ _).alloc (Nat.le_refl _) _⟩
end Go.Proofs.YtjhjoiplpmjepaaGreat
