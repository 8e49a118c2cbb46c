/- Vmat (joined by shake.py). -/
import Derived.Test.YtjhjoiplpmjepaaGreatW0
import Derived.Test.YtjhjoiplpmjepaaGreatWGi
import Derived.Test.YtjhjoiplpmjepaaGreatW5
import Derived.Test.YtjhjoiplpmjepaaGreatW7
import Derived.Test.YtjhjoiplpmjepaaGreatW8
import Derived.Test.YtjhjoiplpmjepaaGreatW9
import Derived.Shelf.SlSortCmp.QuietGrown
import Derived.Maps.OwnSet
import Derived.DeepKeys4
import Derived.Lib.ItoaNum
import Derived.Lib.ItoaLen
import Derived.OwnWalk
set_option maxRecDepth 100000
set_option linter.unusedVariables false
set_option linter.unusedSimpArgs false
set_option maxHeartbeats 4000000
namespace Go.Proofs.YtjhjoiplpmjepaaGreat
open Go.RowKit Go.Sort
open Go.RowKit Go.Sort
open Go.RowKit Go.Sort
open Go.RowKit Go.Sort
open Go.RowKit Go.Sort
open Go.RowKit Go.Sort
open Go.RowKit Go.Maps
open Go.RowKit Go.Maps
open Go.RowKit Go.Sort
open Go.RowKit Go.Sort
open Go.RowKit Go.Sort
open Go.RowKit Go.Sort
open Go.RowKit Go.Sort
open Go.RowKit Go.Sort
open Go.RowKit Go.Sort
open Go.RowKit Go.Sort Go.Maps
open Go.RowKit Go.Sort
open Go.RowKit Go.Sort
open Go.RowKit Go.Sort
open Go.RowKit Go.Sort
open Go.RowKit Go.Sort
open Go.RowKit Go.Sort Go.Maps
open Go.RowKit Go.Sort Go.Maps
open Go.RowKit Go.Sort Go.Maps
instance:DecidableEq Tm:=fun a b=>decidable_of_iff (a.cmp b=0) Tm.cmp_zero
abbrev Bd:=Tm×Tm
def flat:List Bd→List Tm
 | []=>[]
 | b::r=>b.1::b.2::flat r
theorem qin:∀l:List Bd,(flat l).length=2*l.length
 | []=>rfl
 | b::r=>by simp only[flat,List.length_cons,qin r];omega
theorem qow:∀(l:List Bd) (i:Nat) (h:i<l.length),(flat l)[2*i]?=some l[i].1∧(flat l)[2*i+1]?=some l[i].2
 | [],_,h=>by simp at h
 | b::r,0,_=>by simp[flat]
 | b::r,i+1,h=>by
  have:=qow r i (by simpa using h);simp only[flat,show 2*(i+1)=2*i+1+1 from by omega,List.getElem?_cons_succ,List.getElem_cons_succ];exact this
def fits (x t:Tm):Bool:=decide (x.valid=0) && decide (t.valid=0) && decide (x.kind=1) && (decide (x.sort=0) || (decide (t.kind≠3) && decide (t.sort=x.sort)))
def after (p:Option Tm) (x:Tm):Bool:=match p with
 | some q=>decide (0≤q.cmp x)
 | none=>false
def getS:List Bd→Tm→Tm
 | [],x=>x
 | b::r,x=>if b.1=x then b.2 else getS r x
def hasS:List Bd→Tm→Bool
 | [],_=>false
 | b::r,x=>if b.1=x then true else hasS r x
mutual
def Tm.put (s:List Bd):Tm→Tm
 | .mk k n so l=>if k=1 then getS s (.mk k n so l)else .mk k n so (Tm.puts s l)
def Tm.puts (s:List Bd):List Tm→List Tm
 | []=>[]
 | t::r=>t.put s::Tm.puts s r
end
def boxT (t:Tm) (A:Option Addr) (c:Nat):Obj:=.cells #[.int .i64 t.kind,.string t.name,.int .i64 t.sort,.slice A t.kids.length c] 24
structure TwoV (w:World) (x t:Tm) (A A':Option Addr) (c c':Nat) (V:World):Prop where
 lay:Lay w.heap.size w V
 one:V.heap[w.heap.size]?=some (.cells #[.int .i64 x.kind,.string x.name,.int .i64 x.sort,.slice A x.kids.length c] 24 (0,0))
 two:V.heap[w.heap.size+1]?=some (.cells #[.int .i64 t.kind,.string t.name,.int .i64 t.sort,.slice A' t.kids.length c'] 24 (0,0))
theorem TwoV.new (w:World) (x t:Tm) (A A':Option Addr) (c c':Nat):TwoV w x t A A' c c' ((w.alloc (boxT x A c)).alloc (boxT t A' c')):=by
 have l1:Lay w.heap.size w (w.alloc (boxT x A c)):=(Lay.refl _ _).alloc (Nat.le_refl _) _;have s1:(w.alloc (boxT x A c)).heap.size=w.heap.size+1:=by simp
 have l2:Lay (w.alloc (boxT x A c)).heap.size (w.alloc (boxT x A c)) ((w.alloc (boxT x A c)).alloc (boxT t A' c')):=(Lay.refl _ _).alloc (Nat.le_refl _) _;refine⟨l1.trans (l2.mono (by omega)),?_,?_⟩
 ·rw[l2.below.block _ (by omega)];exact heap_alloc_new _ _
 ·rw[←s1];exact heap_alloc_new _ _
theorem TwoV.lt {w V:World} {x t:Tm} {A A':Option Addr} {c c':Nat} (h:TwoV w x t A A' c c' V):w.heap.size+1<V.heap.size:=(sltz h.two)
theorem TwoV.go {w V W:World} {x t:Tm} {A A':Option Addr} {c c':Nat} (h:TwoV w x t A A' c c' V) (hl:Lay V.heap.size V W):TwoV w x t A A' c c' W:=
 ⟨h.lay.trans (hl.mono (by have:=h.lt;omega)),(hl.below.block _ (by have:=h.lt;omega)).trans h.one,(hl.below.block _ h.lt).trans h.two⟩
theorem eq_facts (a b:Int):(a=b∧(a==b)=true∧(a != b)=false)∨(a≠b∧(a==b)=false∧(a != b)=true):=by
 by_cases h:a=b
 ·left;subst h;exact⟨rfl,by simp,by simp⟩
 ·right;exact⟨h,by rw[beq_eq_false_iff_ne];exact h,by simp[h]⟩
theorem fits_any (x t:Tm) (A A':Option Addr) (c c':Nat) (w:World) (hx:x.size≤1000000) (ht:t.size≤1000000) (hrx:RepT w w.heap.size x A c) (hrt:RepT w w.heap.size t A' c') :
  Calls Tryz.prog 165 #[x.val A c,t.val A' c'] w fun e w'=>e=.returned (.bool (fits x t))∧Lay w.heap.size w w':=by
 obtain⟨V,hV⟩:∃V,V=(w.alloc (boxT x A c)).alloc (boxT t A' c'):=⟨_,rfl⟩;have h2:TwoV w x t A A' c c' V:=by rw[hV];exact TwoV.new _ _ _ _ _ _ _
 have VX:Hid (∀Z,Lay w.heap.size w Z→Calls Tryz.prog 63 #[x.val A c] Z fun e w'=>e=.returned (.int .i64 x.valid)∧Lay Z.heap.size Z w'):=hdzz fun Z h=>qax x A c Z hx (hrx.go h.below h.size);have VT:Hid (∀Z,Lay w.heap.size w Z→Calls Tryz.prog 63 #[t.val A' c'] Z fun e w'=>e=.returned (.int .i64 t.valid)∧Lay Z.heap.size Z w'):=hdzz fun Z h=>qax t A' c' Z ht (hrt.go h.below h.size);obtain⟨vx,hvx⟩:∃v,v=x.valid:=⟨_,rfl⟩;obtain⟨vt,hvt⟩:∃v,v=t.valid:=⟨_,rfl⟩;rw[←hvx]at VX;rw[←hvt]at VT;obtain⟨r,hr⟩:∃r,r=fits x t:=⟨_,rfl⟩;rw[←hr];unfold fits at hr;rw[←hvx,←hvt]at hr;clear hvx hvt;have HR:=hdzz hr;clear hr;simp only[boxT]at hV;have HV:=hdzz hV;clear hV;have H2:=hdzz h2;clear h2;have CON:=hdzz (VX.out V H2.out.lay);clear VX;simp only[Tm.val]at CON VT ⊢
 go_enter Tryz.func165,Tryz.ntmps165
 go_wp2_with fail
 rw[←HV.out];refine CON.out.mono ?_;clear CON HV;rintro e w1 ⟨rfl,hl1⟩;have H21:=hdzz (H2.out.go hl1);clear H2 hl1;obtain⟨a0,a1,a2,a3,-⟩:=qaa H21.out.one;obtain⟨b0,b1,b2,b3,-⟩:=qaa H21.out.two;rcases eq_facts vx 0 with⟨h0,e0,n0⟩|⟨h0,e0,n0⟩
 ·subst h0;have CON:=hdzz (VT.out w1 H21.out.lay);go_wp2_with fail
  refine CON.out.mono ?_;clear CON a0 a1 a2 a3 b0 b1 b2 b3 VT;rintro e w2 ⟨rfl,hl2⟩;have H22:=hdzz (H21.out.go hl2);clear H21 hl2;obtain⟨a0,a1,a2,a3,-⟩:=qaa H22.out.one;obtain⟨b0,b1,b2,b3,-⟩:=qaa H22.out.two;rcases eq_facts vt 0 with⟨h1,e1,n1⟩|⟨h1,e1,n1⟩
  ·subst h1;rcases eq_facts x.kind 1 with⟨h2,e2,n2⟩|⟨h2,e2,n2⟩
   ·rcases eq_facts x.sort 0 with⟨h3,e3,n3⟩|⟨h3,e3,n3⟩
    ·have hr:r=true:=by rw[HR.out];simp[h2,h3]
     subst hr;clear HR;rw[h2]at a0;rw[h3]at a2;clear h2 h3 e2 n2 e3 n3;go_wp2_with fail
     go_ret
     exact⟨rfl,H22.out.lay⟩
    ·rcases eq_facts t.kind 3 with⟨h4,e4,n4⟩|⟨h4,e4,n4⟩
     ·have hr:r=false:=by rw[HR.out];simp[h3,h4]
      subst hr;clear HR;rw[h2]at a0;clear h2 h3 e2 n2 h4;go_wp2_with fail
      go_ret
      exact⟨rfl,H22.out.lay⟩
     ·rcases eq_facts t.sort x.sort with⟨h5,e5,n5⟩|⟨h5,e5,n5⟩
      ·have hr:r=true:=by rw[HR.out];simp[h2,h4,h5]
       subst hr;clear HR;rw[h2]at a0;clear h2 h3 e2 n2 h4 h5;go_wp2_with fail
       go_ret
       exact⟨rfl,H22.out.lay⟩
      ·have hr:r=false:=by rw[HR.out];simp[h3,h5]
       subst hr;clear HR;rw[h2]at a0;clear h2 h3 e2 n2 h4 h5;go_wp2_with fail
       go_ret
       exact⟨rfl,H22.out.lay⟩
   ·have hr:r=false:=by rw[HR.out];simp[h2]
    subst hr;clear HR h2;go_wp2_with fail
    go_ret
    exact⟨rfl,H22.out.lay⟩
  ·have hr:r=false:=by rw[HR.out];simp[h1]
   subst hr;clear HR h1;go_wp2_with fail
   go_ret
   exact⟨rfl,H22.out.lay⟩
 ·have hr:r=false:=by rw[HR.out];simp[h0]
  subst hr;clear HR h0;go_wp2_with fail
  go_ret
  exact⟨rfl,H21.out.lay⟩
structure Bx (w:World) (b:Bd) (A:Option Addr) (c:Nat) (A':Option Addr) (c':Nat) (V:World):Prop where
 lay:Lay w.heap.size w V
 box:V.heap[w.heap.size]?=some (.cells #[.int .i64 b.1.kind,.string b.1.name,.int .i64 b.1.sort,.slice A b.1.kids.length c,.int .i64 b.2.kind,.string b.2.name,.int .i64 b.2.sort,.slice A' b.2.kids.length c'] 157 (0,0))
theorem Bx.new (w:World) (b:Bd) (A:Option Addr) (c:Nat) (A':Option Addr) (c':Nat) :
  Bx w b A c A' c' (w.alloc (.cells #[.int .i64 b.1.kind,.string b.1.name,.int .i64 b.1.sort,.slice A b.1.kids.length c,.int .i64 b.2.kind,.string b.2.name,.int .i64 b.2.sort,.slice A' b.2.kids.length c'] 157)):=
 ⟨(Lay.refl _ _).alloc (Nat.le_refl _) _,heap_alloc_new _ _⟩
theorem Bx.lt {w V:World} {b:Bd} {A A':Option Addr} {c c':Nat} (h:Bx w b A c A' c' V):w.heap.size<V.heap.size:=(sltz h.box)
theorem Bx.go {w V W:World} {b:Bd} {A A':Option Addr} {c c':Nat} (h:Bx w b A c A' c' V) (hl:Lay V.heap.size V W):Bx w b A c A' c' W:=
 ⟨h.lay.trans (hl.mono (by have:=h.lt;omega)),(hl.below.block _ h.lt).trans h.box⟩
def RepB (w:World) (P:Nat→Prop) (l:List Bd) (A:Option Addr) (cap:Nat):Prop:=
 l.length≤cap∧cap≤maxLen∧(l=[]∨∃b off,A=some ⟨b,off,none⟩∧P b∧RepLP w P (flat l) b off)
theorem RepB.mono {w w':World} {P P':Nat→Prop} (hP:∀b,P b→P' b) (hc:∀p:Addr,P p.block→w'.cell? p=w.cell? p) {l:List Bd} {A:Option Addr} {cap:Nat} (h:RepB w P l A cap):RepB w' P' l A cap:=by
 obtain⟨h1,h2,h3⟩:=h;refine⟨h1,h2,?_⟩;rcases h3 with h3|⟨b,off,hA,hb,hl⟩
 ·exact Or.inl h3
 ·exact Or.inr ⟨b,off,hA,hP b hb,RepLP.mono hP hc _ b off hb hl⟩
theorem RepB.go {w w':World} {B B':Nat} {l:List Bd} {A:Option Addr} {cap:Nat} (h:RepB w (fun b=>b<B) l A cap) (hb:Below B w w') (hB:B≤B'):RepB w' (fun b=>b<B') l A cap:=
 h.mono (fun _ h=>Nat.lt_of_lt_of_le h hB) (fun _ hp=>hb.cell hp)
structure At8 (w:World) (P:Nat→Prop) (b o:Nat) (x:Bd) (A:Option Addr) (c:Nat) (A':Option Addr) (c':Nat):Prop where
 c0:w.cell? ⟨b,o,none⟩=some (.int .i64 x.1.kind)
 c1:w.cell? ⟨b,o+1,none⟩=some (.string x.1.name)
 c2:w.cell? ⟨b,o+2,none⟩=some (.int .i64 x.1.sort)
 c3:w.cell? ⟨b,o+3,none⟩=some (.slice A x.1.kids.length c)
 c4:w.cell? ⟨b,o+4,none⟩=some (.int .i64 x.2.kind)
 c5:w.cell? ⟨b,o+5,none⟩=some (.string x.2.name)
 c6:w.cell? ⟨b,o+6,none⟩=some (.int .i64 x.2.sort)
 c7:w.cell? ⟨b,o+7,none⟩=some (.slice A' x.2.kids.length c')
 r1:RepP w P x.1 A c
 r2:RepP w P x.2 A' c'
theorem RepLP.get8 {w:World} {P:Nat→Prop} {l:List Bd} {b off:Nat} (h:RepLP w P (flat l) b off) (i:Nat) (hi:i<l.length):∃A c A' c',At8 w P b (off+i*8) l[i] A c A' c':=by
 obtain⟨f1,f2⟩:=qow l i hi;have hl:=qin l;obtain⟨A,c,a0,a1,a2,a3,a4⟩:=h.get (2*i) (by omega);obtain⟨A',c',b0,b1,b2,b3,b4⟩:=h.get (2*i+1) (by omega);have e1:(flat l)[2*i]'(by omega)=l[i].1:=by rw[List.getElem?_eq_getElem (by omega)]at f1;exact Option.some.inj f1
 have e2:(flat l)[2*i+1]'(by omega)=l[i].2:=by rw[List.getElem?_eq_getElem (by omega)]at f2;exact Option.some.inj f2
 rw[e1]at a0 a1 a2 a3 a4;rw[e2]at b0 b1 b2 b3 b4;have o1:off+2*i*4=off+i*8:=by omega
 have o2:off+(2*i+1)*4=off+i*8+4:=by omega
 rw[o1]at a0 a1 a2 a3;rw[o2]at b0 b1 b2 b3;exact⟨A,c,A',c',a0,a1,a2,a3,b0,b1,b2,b3,a4,b4⟩
def SizeB (l:List Bd):Prop:=∀b∈l,b.1.size≤1000000∧b.2.size≤1000000
theorem Tm.put_var (s:List Bd) (t:Tm) (h:t.kind=1):t.put s=getS s t:=by
 obtain⟨k,n,so,l⟩:=t;rw[Tm.put];exact if_pos h
theorem qcl {t:Tm} (h:t.valid=0):t.size≤400:=by
 unfold Tm.valid at h
 split at h
 ·rename_i h1;exact absurd h h1
 ·split at h
  ·omega
  ·omega
abbrev IB:=It×It
def IB.bd (x:IB):Bd:=(x.1.1,x.2.1)
def bits:List IB→List It
 | []=>[]
 | x::r=>x.1::x.2::bits r
def bCells (l:List IB):List Value:=itCells (bits l)
theorem qn6 (a b:List IB):bits (a++b)=bits a++bits b:=by
 induction a with
 | nil=>rfl
 | cons x r ih=>simp[bits,ih]
theorem qeo (a:List IB):(bits a).length=a.length*2:=by
 induction a with
 | nil=>rfl
 | cons x r ih=>simp[bits,ih];omega
theorem qk8 (a b:List IB):bCells (a++b)=bCells a++bCells b:=by unfold bCells;rw[qn6,qc9]
theorem qk7 (a:List IB):(bCells a).length=a.length*8:=by unfold bCells;rw[qa8,qeo];omega
theorem qqn (a:List IB):∀u∈bCells a,u.oneCell'=true:=qbt _
theorem qmy (a:List IB):(bits a).map (·.1)=flat (a.map IB.bd):=by
 induction a with
 | nil=>rfl
 | cons x r ih=>simp[bits,flat,IB.bd,ih]
theorem qoq {a:List IB} {y:It} (h:y∈bits a):∃x∈a,y=x.1∨y=x.2:=by
 induction a with
 | nil=>simp[bits]at h
 | cons x r ih=>
  simp only[bits,List.mem_cons]at h;rcases h with h|h|h
  ·exact⟨x,List.mem_cons_self ..,.inl h⟩
  ·exact⟨x,List.mem_cons_self ..,.inr h⟩
  ·obtain⟨z,hz,e⟩:=ih h;exact⟨z,List.mem_cons_of_mem _ hz,e⟩
structure RowB (w:World) (base:Nat) (F:Nat→Prop) (v:Value) (its:List IB):Prop where
 own:w.ownsRow base 157 8 v its.length (bCells its)
 reps:∀x∈its,RepP w (fun b=>F b∧b<w.heap.size∧v.ownBlock≠some b) x.1.1 x.1.2.1 x.1.2.2∧RepP w (fun b=>F b∧b<w.heap.size∧v.ownBlock≠some b) x.2.1 x.2.2.1 x.2.2.2
theorem RowB.nil (w:World) (base:Nat) (F:Nat→Prop):RowB w base F (.slice none 0 0) []:=⟨World.ownsRow_nil _ _ _ _,by simp⟩
theorem RowB.keep {w w':World} {base:Nat} {F:Nat→Prop} {v:Value} {its:List IB} (h:RowB w base F v its) (hs:w.heap.size≤w'.heap.size)
  (hc:∀b,b<w.heap.size→(F b∨v.ownBlock=some b)→w'.heap[b]?=w.heap[b]?):RowB w' base F v its:=by
 refine⟨⟨h.own.1,?_⟩,fun x hx=>?_⟩
 ·rcases h.own.2 with hn|⟨g,cap,cur,rfl,hb,hg,r⟩
  ·exact .inl hn
  ·have hlt:g<w.heap.size:=(sltz hg);exact .inr ⟨g,cap,cur,rfl,hb,by rw[hc g hlt (Or.inr rfl)];exact hg,r⟩
 ·have key:∀(t:Tm) A c,RepP w (fun b=>F b∧b<w.heap.size∧v.ownBlock≠some b) t A c→RepP w' (fun b=>F b∧b<w'.heap.size∧v.ownBlock≠some b) t A c:=fun t A c hr=>by
   refine RepP.mono ?_ ?_ _ _ _ hr
   ·rintro b ⟨h1,h2,h3⟩;exact⟨h1,by omega,h3⟩
   ·rintro p ⟨h1,h2,h3⟩;exact World.cell?_of_block (hc p.block h2 (Or.inl h1))
  exact⟨key _ _ _ (h.reps x hx).1,key _ _ _ (h.reps x hx).2⟩
theorem RowB.below {w w':World} {base:Nat} {F:Nat→Prop} {v:Value} {its:List IB} (h:RowB w base F v its) (hb:Below w.heap.size w w'):RowB w' base F v its:=
 h.keep hb.size (fun b hlt _=>hb.block b hlt)
theorem RowB.lt {w:World} {base:Nat} {F:Nat→Prop} {v:Value} {its:List IB} (h:RowB w base F v its):∀k,v.ownBlock=some k→base≤k∧k<w.heap.size:=h.own.lt
theorem RowB.toB {w:World} {base:Nat} {F P:Nat→Prop} {v:Value} {its:List IB} (h:RowB w base F v its) (hF:∀b,F b→b<w.heap.size→P b) (hP:∀b,base≤b→b<w.heap.size→P b) :
  ∃A cap,v=.slice A its.length cap∧RepB w P (its.map IB.bd) A cap:=by
 rcases h.own.2 with⟨rfl,h0⟩|⟨g,cap,cur,rfl,hb,hg,hnc,hcm,r⟩
 ·have:its=[]:=List.eq_nil_of_length_eq_zero h0;subst this;exact⟨none,0,rfl,by simp,by simp[maxLen],.inl rfl⟩
 ·refine⟨some ⟨g,0,none⟩,cap,rfl,by simpa using hnc,hcm,.inr ⟨g,0,rfl,hP g hb (sltz hg),?_⟩⟩;rw[←qmy];refine RepLP.of_its (bits its) g 0 (fun j u hj=>?_) (fun y hy=>?_)
  ·have:=h.own.cells (g:=g) rfl j u hj;simpa[Addr.add]using (by
    unfold Addr.add at this
    split at this<;>simp_all)
  ·obtain⟨x,hx,e⟩:=qoq hy;rcases e with rfl|rfl
   ·exact RepP.mono (fun b ⟨h1,h2,_⟩=>hF b h1 h2) (fun _ _=>rfl) _ _ _ (h.reps x hx).1
   ·exact RepP.mono (fun b ⟨h1,h2,_⟩=>hF b h1 h2) (fun _ _=>rfl) _ _ _ (h.reps x hx).2
def VarsApart (l:List Bd):Prop:=l.Pairwise (fun a b=>a.1≠b.1)
def occT (x t:Tm):Bool:=decide (x∈t.all)
def qd2 (a b:Tm):Bool:=decide (a.kind=3) && decide (b.kind=3) && decide (a.name=b.name) && decide (a.kids.length=b.kids.length)
def oneU (x t:Tm):Tm×Tm×Int:=if fits x t=false then (x,t,11)else if occT x t=true then (x,t,12)else (x,t,0)
def qb8 (a b:Tm):Tm×Tm×Int:=
 if a.kind=1 then
  (if b.kind=1 then (if a.sort=b.sort then (if a.cmp b<0 then (b,a,0)else (a,b,0))else if b.sort=0 then (b,a,0)else if a.sort=0 then (a,b,0)else (a,b,11))else oneU a b)
 else if b.kind=1 then oneU b a else (a,b,11)
def putP (x t:Tm) (p:Bd):Bd:=(p.1.put [(x,t)],p.2.put [(x,t)])
def putB (x t:Tm) (b:Bd):Bd:=(b.1,b.2.put [(x,t)])
def okP (l:List Bd):Bool:=l.all fun p=>decide (p.1.valid=0) && decide (p.2.valid=0)
def qlv (x t:Tm) (ps bs:List Bd):Bool:=okP (ps.map (putP x t)) && (bs.map (putB x t)).all (fun b=>decide (b.2.valid=0))
def qgb (a b:Tm) (ps bs:List Bd):Int×List Bd×List Bd:=
 if a=b then (0,ps,bs)else if qd2 a b=true then (0,a.kids.zip b.kids++ps,bs)
 else if (qb8 a b).2.2≠0 then ((qb8 a b).2.2,ps,bs)
 else (if qlv (qb8 a b).1 (qb8 a b).2.1 ps bs=true then 0 else 3,ps.map (putP (qb8 a b).1 (qb8 a b).2.1),bs.map (putB (qb8 a b).1 (qb8 a b).2.1)++[((qb8 a b).1,(qb8 a b).2.1)])
theorem okP_iff {l:List Bd}:okP l=true↔∀p∈l,p.1.valid=0∧p.2.valid=0:=by
 unfold okP;rw[List.all_eq_true];simp
theorem qda {t:Tm}:t.valid=0↔t.check=0∧t.size≤400∧t.depth≤40:=by
 unfold Tm.valid;constructor
 ·intro h
  split at h
  ·rename_i g;exact absurd h g
  ·rename_i g
   split at h
   ·omega
   ·rename_i g2;exact⟨by omega,by omega,by omega⟩
 ·rintro⟨h1,h2,h3⟩;rw[if_neg (by simpa using h1),if_neg (by omega)]
theorem qcs:∀{l:List Tm},Tm.checks l=0↔∀t∈l,t.check=0
 | []=>by simp[Tm.checks]
 | t::r=>by
  rw[Tm.checks]
  split
  ·rename_i h
   simp only[List.mem_cons,forall_eq_or_imp];exact⟨fun h2=>absurd h2 h,fun h2=>absurd h2.1 h⟩
  ·rename_i h
   rw[qcs];simp only[List.mem_cons,forall_eq_or_imp];exact⟨fun h2=>⟨by omega,h2⟩,fun h2=>h2.2⟩
theorem qit {k s:Int} {n:ByteArray} {l:List Tm} (h:(Tm.mk k n s l).check=0):((k=1∨k=2)∧l=[])∨(k=3∧s=0∧Tm.checks l=0):=by
 rw[Tm.check]at h;by_cases hk:k=1∨k=2
 ·rw[if_pos hk]at h
  split at h
  ·omega
  ·rename_i g
   exact .inl ⟨hk,Classical.byContradiction fun e=>g (.inr (.inr e))⟩
 ·rw[if_neg hk]at h
  split at h
  ·rename_i h3
   split at h
   ·omega
   ·rename_i g
    split at h
    ·omega
    ·split at h
     ·omega
     ·exact .inr ⟨h3,by omega,h⟩
  ·omega
theorem qog:∀{l:List Tm} {t:Tm},t∈l→t.size≤Tm.sizes l
 | x::r,t,h=>by
  rw[Tm.sizes];rcases List.mem_cons.1 h with rfl|h
  ·omega
  ·have:=qog h;omega
theorem qiq:∀{l:List Tm} {t:Tm},t∈l→t.depth≤Tm.depths l
 | x::r,t,h=>by
  rw[Tm.depths];rcases List.mem_cons.1 h with rfl|h
  ·omega
  ·have:=qiq h;omega
theorem qb1 {t k:Tm} (h:t.valid=0) (hk:k∈t.kids):k.valid=0:=by
 obtain⟨kd,n,s,l⟩:=t;obtain⟨h1,h2,h3⟩:=qda.1 h;have hk:k∈l:=hk;rw[Tm.size]at h2;rw[Tm.depth]at h3;have a:=qog hk;have b:=qiq hk;refine qda.2 ⟨?_,by omega,by omega⟩;rcases qit h1 with⟨-,rfl⟩|⟨-,-,hc⟩
 ·simp at hk
 ·exact qcs.1 hc k hk
theorem var_all {x:Tm} (h:x.valid=0) (hk:x.kind=1):x.all=[x]:=by
 obtain⟨kd,n,s,l⟩:=x;obtain⟨h1,-,-⟩:=qda.1 h;have hk:kd=1:=hk;rcases qit h1 with⟨-,rfl⟩|⟨h3,-,-⟩
 ·rfl
 ·omega
theorem mem_self (t:Tm):t∈t.all:=by cases t;rw[Tm.all];exact List.mem_cons_self ..
theorem qih {x:Tm}:∀{l:List Tm},x∈Tm.alls l↔∃t∈l,x∈t.all
 | []=>by simp[Tm.alls]
 | t::r=>by rw[Tm.alls,List.mem_append,qih];simp
theorem qig {t k x:Tm} (hk:k∈t.kids) (hx:x∈k.all):x∈t.all:=by
 cases t;rw[Tm.all];exact List.mem_cons_of_mem _ (qih.2 ⟨k,hk,hx⟩)
theorem put_one {x t:Tm} {k s:Int} {n:ByteArray} {l:List Tm}:(Tm.mk k n s l).put [(x,t)]=if k=1 then (if x=.mk k n s l then t else .mk k n s l)else .mk k n s (Tm.puts [(x,t)] l):=by
 rw[Tm.put];simp only[getS]
theorem put_var {s:List Bd} {x:Tm} (hk:x.kind=1):x.put s=getS s x:=by
 obtain⟨kd,n,so,l⟩:=x;have hk:kd=1:=hk;rw[Tm.put,if_pos hk]
mutual
theorem qns {x u y:Tm} (hy:y.kind=1):∀t:Tm,t.check=0→y∈(t.put [(x,u)]).all→(y∈t.all∧y≠x)∨y∈u.all
 | .mk k n s l,hc,hm=>by
  rw[put_one]at hm
  split at hm
  ·rename_i hk
   split at hm
   ·exact .inr hm
   ·rename_i hne
    rcases qit hc with⟨-,rfl⟩|⟨h3,-,-⟩
    ·rw[Tm.all,Tm.alls,List.mem_singleton]at hm;subst hm;exact .inl ⟨mem_self _,fun e=>hne e.symm⟩
    ·omega
  ·rename_i hk
   rw[Tm.all,List.mem_cons]at hm;rcases hm with rfl|hm
   ·exact absurd hy hk
   ·rcases qit hc with⟨-,rfl⟩|⟨-,-,h4⟩
    ·simp[Tm.puts,Tm.alls]at hm
    ·rcases qop hy l h4 hm with⟨h5,h6⟩|h5
     ·exact .inl ⟨by rw[Tm.all];exact List.mem_cons_of_mem _ h5,h6⟩
     ·exact .inr h5
theorem qop {x u y:Tm} (hy:y.kind=1):∀l:List Tm,Tm.checks l=0→y∈Tm.alls (Tm.puts [(x,u)] l)→(y∈Tm.alls l∧y≠x)∨y∈u.all
 | [],_,hm=>by simp[Tm.puts,Tm.alls]at hm
 | t::r,hc,hm=>by
  have h1:t.check=0:=qcs.1 hc t (List.mem_cons_self ..);have h2:Tm.checks r=0:=qcs.2 fun z hz=>qcs.1 hc z (List.mem_cons_of_mem _ hz);rw[Tm.puts,Tm.alls,List.mem_append]at hm;rw[Tm.alls];rcases hm with hm|hm
  ·rcases qns hy t h1 hm with⟨h5,h6⟩|h5
   ·exact .inl ⟨List.mem_append_left _ h5,h6⟩
   ·exact .inr h5
  ·rcases qop hy r h2 hm with⟨h5,h6⟩|h5
   ·exact .inl ⟨List.mem_append_right _ h5,h6⟩
   ·exact .inr h5
end
structure Chosen (a b x t:Tm):Prop where
 pair:(x=a∧t=b)∨(x=b∧t=a)
 var:x.kind=1
 vx:x.valid=0
 vt:t.valid=0
 fit:x.sort=0∨(t.kind≠3∧t.sort=x.sort)
 out:x ∉ t.all
theorem oneU_ok {x t:Tm} (hx:x.valid=0) (ht:t.valid=0) (hk:x.kind=1) (h:(oneU x t).2.2=0):oneU x t=(x,t,0)∧(x.sort=0∨(t.kind≠3∧t.sort=x.sort))∧x ∉ t.all:=by
 unfold oneU at h ⊢
 split at h
 ·simp at h
 ·rename_i h1
  split at h
  ·simp at h
  ·rename_i h2
   rw[if_neg h1,if_neg h2];refine⟨rfl,?_,by simpa[occT]using h2⟩;have h1:fits x t=true:=by simpa using h1
   unfold fits at h1;simp[hx,ht,hk]at h1;exact h1
theorem chosen_of {a b:Tm} (ha:a.valid=0) (hb:b.valid=0) (hne:a≠b) (h:(qb8 a b).2.2=0):Chosen a b (qb8 a b).1 (qb8 a b).2.1:=by
 have out:∀x t:Tm,x≠t→t.valid=0→t.kind=1→x ∉ t.all:=fun x t hn hv hk hm=>by rw[var_all hv hk,List.mem_singleton]at hm;exact hn hm
 unfold qb8 at h ⊢;by_cases ka:a.kind=1
 ·rw[if_pos ka]at h ⊢;by_cases kb:b.kind=1
  ·rw[if_pos kb]at h ⊢;have ka3:a.kind≠3:=by omega
   have kb3:b.kind≠3:=by omega
   by_cases hs:a.sort=b.sort
   ·rw[if_pos hs]at h ⊢
    split
    ·exact⟨.inr ⟨rfl,rfl⟩,kb,hb,ha,.inr ⟨ka3,hs⟩,out b a (Ne.symm hne) ha ka⟩
    ·exact⟨.inl ⟨rfl,rfl⟩,ka,ha,hb,.inr ⟨kb3,hs.symm⟩,out a b hne hb kb⟩
   ·rw[if_neg hs]at h ⊢;by_cases h0:b.sort=0
    ·rw[if_pos h0];exact⟨.inr ⟨rfl,rfl⟩,kb,hb,ha,.inl h0,out b a (Ne.symm hne) ha ka⟩
    ·rw[if_neg h0]at h ⊢;by_cases h1:a.sort=0
     ·rw[if_pos h1];exact⟨.inl ⟨rfl,rfl⟩,ka,ha,hb,.inl h1,out a b hne hb kb⟩
     ·rw[if_neg h1]at h;simp at h
  ·rw[if_neg kb]at h ⊢;obtain⟨e,h1,h2⟩:=oneU_ok ha hb ka h;rw[e];exact⟨.inl ⟨rfl,rfl⟩,ka,ha,hb,h1,h2⟩
 ·rw[if_neg ka]at h ⊢;by_cases kb:b.kind=1
  ·rw[if_pos kb]at h ⊢;obtain⟨e,h1,h2⟩:=oneU_ok hb ha kb h;rw[e];exact⟨.inr ⟨rfl,rfl⟩,kb,hb,ha,h1,h2⟩
  ·rw[if_neg kb]at h;simp at h
theorem qgu {a b:Tm}:qd2 a b=true↔a.kind=3∧b.kind=3∧a.name=b.name∧a.kids.length=b.kids.length:=by
 unfold qd2;simp[and_assoc]
theorem qjb {a b:Tm} {ps bs:List Bd} (ha:a.valid=0) (hb:b.valid=0) (h:(qgb a b ps bs).1=0) :
  (a=b∧qgb a b ps bs=(0,ps,bs))∨(a≠b∧qd2 a b=true∧qgb a b ps bs=(0,a.kids.zip b.kids++ps,bs))∨
  (∃x t,Chosen a b x t∧qlv x t ps bs=true∧qgb a b ps bs=(0,ps.map (putP x t),bs.map (putB x t)++[(x,t)])):=by
 unfold qgb at h ⊢;by_cases he:a=b
 ·exact .inl ⟨he,if_pos he⟩
 rw[if_neg he]at h ⊢;by_cases hal:qd2 a b=true
 ·exact .inr (.inl ⟨he,hal,if_pos hal⟩)
 rw[if_neg hal]at h ⊢;by_cases hc:(qb8 a b).2.2≠0
 ·rw[if_pos hc]at h;exact absurd h hc
 rw[if_neg hc]at h ⊢;by_cases hr:qlv (qb8 a b).1 (qb8 a b).2.1 ps bs=true
 ·exact .inr (.inr ⟨_,_,chosen_of ha hb he (by simpa using hc),hr,by rw[if_pos hr]⟩)
 ·rw[if_neg hr]at h;simp at h
theorem qo3 {t:Tm} (h:t.valid=0) (hk:t.kind=3):t.sort=0:=by
 obtain⟨kd,n,s,l⟩:=t;have hk:kd=3:=hk;rcases qit (qda.1 h).1 with⟨h1,-⟩|⟨-,h2,-⟩
 ·omega
 ·exact h2
theorem okP_kids {a b:Tm} (ha:a.valid=0) (hb:b.valid=0):∀p∈a.kids.zip b.kids,p.1.valid=0∧p.2.valid=0:=fun p hp=>by
 obtain⟨h1,h2⟩:=List.of_mem_zip hp;exact⟨qb1 ha h1,qb1 hb h2⟩
theorem right_iff {x t:Tm} {ps bs:List Bd}:qlv x t ps bs=true↔(∀p∈ps.map (putP x t),p.1.valid=0∧p.2.valid=0)∧∀b∈bs.map (putB x t),b.2.valid=0:=by
 unfold qlv;rw[Bool.and_eq_true,okP_iff,List.all_eq_true];simp only[decide_eq_true_eq]
theorem step_good {a b:Tm} {ps bs:List Bd} (ha:a.valid=0) (hb:b.valid=0) (h:(qgb a b ps bs).1=0) (hp:∀p∈ps,p.1.valid=0∧p.2.valid=0) (hbs:∀p∈bs,p.1.valid=0∧p.1.kind=1∧p.2.valid=0) :
  (∀p∈(qgb a b ps bs).2.1,p.1.valid=0∧p.2.valid=0)∧(∀p∈(qgb a b ps bs).2.2,p.1.valid=0∧p.1.kind=1∧p.2.valid=0):=by
 rcases qjb ha hb h with⟨rfl,e⟩|⟨-,hal,e⟩|⟨x,t,hc,hr,e⟩<;>rw[e]
 ·exact⟨hp,hbs⟩
 ·refine⟨fun p hp'=>?_,hbs⟩;rcases List.mem_append.1 hp' with h1|h1
  ·exact okP_kids ha hb p h1
  ·exact hp p h1
 ·obtain⟨r1,r2⟩:=right_iff.1 hr;refine⟨r1,fun p hp'=>?_⟩;rcases List.mem_append.1 hp' with h1|h1
  ·have h2:=r2 p h1;obtain⟨q,hq,rfl⟩:=List.mem_map.1 h1;exact⟨(hbs q hq).1,(hbs q hq).2.1,h2⟩
  ·rw[List.mem_singleton]at h1;subst h1;exact⟨hc.vx,hc.var,hc.vt⟩
def occP (x:Tm) (ps:List Bd):Bool:=ps.any fun p=>occT x p.1 || occT x p.2
def cntU (L:List Tm) (ps:List Bd):Nat:=(L.filter fun x=>occP x ps).length
theorem qdl {x:Tm} {ps:List Bd}:occP x ps=true↔∃p∈ps,x∈p.1.all∨x∈p.2.all:=by
 unfold occP occT;simp
theorem qgn {p q:Tm→Bool}:∀{L:List Tm},(∀x∈L,q x=true→p x=true)→(L.filter q).length≤(L.filter p).length
 | [],_=>Nat.le_refl _
 | x::r,h=>by
  have ih:=qgn (L:=r) fun y hy=>h y (List.mem_cons_of_mem _ hy);have hx:=h x (List.mem_cons_self ..);rw[List.filter_cons,List.filter_cons]
  cases hq:q x with
  | true=>rw[hx hq];simpa using ih
  | false=>cases p x<;>simp<;>omega
theorem qmk {p q:Tm→Bool}:∀{L:List Tm},(∀x∈L,q x=true→p x=true)→(∃x∈L,p x=true∧q x=false)→(L.filter q).length<(L.filter p).length
 | [],_,h=>by obtain⟨x,hx,-⟩:=h;cases hx
 | x::r,h,⟨y,hy,hp,hq⟩=>by
  have ih:=qgn (L:=r) fun y hy=>h y (List.mem_cons_of_mem _ hy);have hx:=h x (List.mem_cons_self ..);rw[List.filter_cons,List.filter_cons];rcases List.mem_cons.1 hy with rfl|hy
  ·rw[hp,hq];simp;omega
  ·have ih2:=qmk (L:=r) (fun y hy=>h y (List.mem_cons_of_mem _ hy)) ⟨y,hy,hp,hq⟩
   cases hq:q x with
   | true=>rw[hx hq];simpa using ih2
   | false=>cases p x<;>simp<;>omega
theorem qdj:∀l m:List Tm,Tm.sizes (l++m)=Tm.sizes l+Tm.sizes m
 | [],m=>by simp[Tm.sizes]
 | x::l,m=>by rw[List.cons_append,Tm.sizes,Tm.sizes,qdj l m];omega
theorem qlr (t:Tm):1≤t.size:=by cases t;rw[Tm.size];omega
theorem qhh:∀l:List Tm,l.length≤Tm.sizes l
 | []=>Nat.zero_le _
 | x::l=>by rw[Tm.sizes,List.length_cons];have:=qhh l;have:=qlr x;omega
theorem qld:∀{l m:List Tm},l.length=m.length→Tm.sizes ((l.zip m).map (·.1))=Tm.sizes l
 | [],[],_=>rfl
 | a::l,b::m,h=>by
  rw[List.zip_cons_cons,List.map_cons,Tm.sizes,Tm.sizes,qld (by simpa using h)]
structure InvU (L:List Tm) (M:Nat) (ps bs:List Bd):Prop where
 okp:∀p∈ps,p.1.valid=0∧p.2.valid=0
 okb:∀p∈bs,p.1.valid=0∧p.1.kind=1∧p.2.valid=0
 vars:∀p∈ps,∀y:Tm,y.kind=1→(y∈p.1.all∨y∈p.2.all)→y∈L
 len:∃A B,ps=A++B∧Tm.sizes (A.map (·.1))≤400∧B.length+400*cntU L ps≤M
 blen:bs.length+cntU L ps≤L.length
theorem InvU.step {L:List Tm} {M:Nat} {a b:Tm} {ps bs:List Bd} (hL:∀x∈L,x.kind=1) (h:InvU L M ((a,b)::ps) bs) (he:(qgb a b ps bs).1=0) :
  InvU L M (qgb a b ps bs).2.1 (qgb a b ps bs).2.2∧(cntU L (qgb a b ps bs).2.1<cntU L ((a,b)::ps)∨
   (cntU L (qgb a b ps bs).2.1≤cntU L ((a,b)::ps)∧Tm.sizes ((qgb a b ps bs).2.1.map (·.1))<Tm.sizes (((a,b)::ps).map (·.1)))):=by
 obtain⟨va,vb⟩:a.valid=0∧b.valid=0:=h.okp (a,b) (List.mem_cons_self ..);have hps:∀p∈ps,p.1.valid=0∧p.2.valid=0:=fun p hp=>h.okp p (List.mem_cons_of_mem _ hp);obtain⟨g1,g2⟩:=step_good va vb he hps h.okb;have hb:=h.blen;obtain⟨A,B,eAB,hA,hB⟩:=h.len;have hsz:Tm.sizes (((a,b)::ps).map (·.1))=a.size+Tm.sizes (ps.map (·.1)):=by rw[List.map_cons,Tm.sizes]
 have ha1:=qlr a;rcases qjb va vb he with⟨-,e⟩|⟨-,hal,e⟩|⟨x,t,hc,-,e⟩<;>rw[e]at g1 g2 ⊢<;>dsimp only at g1 g2 ⊢
 ·have hcnt:cntU L ps≤cntU L ((a,b)::ps):=qgn fun y _ hy=>by
   obtain⟨p,hp,h2⟩:=qdl.1 hy;exact qdl.2 ⟨p,List.mem_cons_of_mem _ hp,h2⟩
  refine⟨⟨g1,g2,fun p hp=>h.vars p (List.mem_cons_of_mem _ hp),?_,by omega⟩,.inr ⟨hcnt,by omega⟩⟩
  cases A with
  | nil=>
   have e2:(a,b)::ps=B:=eAB;refine⟨[],ps,rfl,by simp[Tm.sizes],?_⟩;rw[←e2,List.length_cons]at hB;have:=Nat.mul_le_mul_left 400 hcnt;omega
  | cons p A=>
   injection eAB with e1 e2;refine⟨A,B,e2,?_,?_⟩
   ·rw[List.map_cons,Tm.sizes]at hA;omega
   ·have:=Nat.mul_le_mul_left 400 hcnt;omega
 ·obtain⟨k1,k2,hn,hl⟩:=qgu.1 hal;have hcnt:cntU L (a.kids.zip b.kids++ps)≤cntU L ((a,b)::ps):=qgn fun y _ hy=>by
   obtain⟨p,hp,h2⟩:=qdl.1 hy;rcases List.mem_append.1 hp with hp|hp
   ·obtain⟨m1,m2⟩:=List.of_mem_zip hp;exact qdl.2 ⟨(a,b),List.mem_cons_self ..,h2.imp (qig m1) (qig m2)⟩
   ·exact qdl.2 ⟨p,List.mem_cons_of_mem _ hp,h2⟩
  have hka:a.size=1+Tm.sizes a.kids:=by cases a;rw[Tm.size];rfl
  have hz:=qld hl;have ha4:=(qda.1 va).2.1;refine⟨⟨g1,g2,fun p hp y hy hm=>?_,?_,by omega⟩,.inr ⟨hcnt,by rw[List.map_append,qdj,hz];omega⟩⟩
  ·rcases List.mem_append.1 hp with hp|hp
   ·obtain⟨m1,m2⟩:=List.of_mem_zip hp;exact h.vars (a,b) (List.mem_cons_self ..) y hy (hm.imp (qig m1) (qig m2))
   ·exact h.vars p (List.mem_cons_of_mem _ hp) y hy hm
  ·have:=Nat.mul_le_mul_left 400 hcnt
   cases A with
   | nil=>
    have e2:(a,b)::ps=B:=eAB;refine⟨a.kids.zip b.kids,ps,rfl,Nat.le_trans (Nat.le_of_eq hz) (by omega),?_⟩;rw[←e2,List.length_cons]at hB;omega
   | cons p A=>
    injection eAB with e1 e2;subst e1;have e2:ps=A++B:=e2;refine⟨a.kids.zip b.kids++A,B,by rw[e2,List.append_assoc],?_,by omega⟩;rw[List.map_cons,Tm.sizes]at hA;rw[List.map_append,qdj,hz];dsimp only at hA;omega
 ·have hxL:x∈L:=h.vars (a,b) (List.mem_cons_self ..) x hc.var (by rcases hc.pair with⟨rfl,-⟩|⟨rfl,-⟩;exact .inl (mem_self _);exact .inr (mem_self _));have hback:∀p∈ps.map (putP x t),∀y:Tm,y.kind=1→(y∈p.1.all∨y∈p.2.all)→(∃q∈(a,b)::ps,y∈q.1.all∨y∈q.2.all)∧y≠x:=fun p hp y hy hm=>by
   obtain⟨q,hq,rfl⟩:=List.mem_map.1 hp;have ht:y∈t.all→(∃q∈(a,b)::ps,y∈q.1.all∨y∈q.2.all)∧y≠x:=fun hyt=>by
    refine⟨⟨(a,b),List.mem_cons_self ..,?_⟩,fun e=>hc.out (e ▸ hyt)⟩;rcases hc.pair with⟨-,rfl⟩|⟨-,rfl⟩
    ·exact .inr hyt
    ·exact .inl hyt
   obtain⟨c1,c2⟩:=hps q hq;rcases hm with hm|hm
   ·rcases qns hy q.1 (qda.1 c1).1 hm with⟨m1,m2⟩|m1
    ·exact⟨⟨q,List.mem_cons_of_mem _ hq,.inl m1⟩,m2⟩
    ·exact ht m1
   ·rcases qns hy q.2 (qda.1 c2).1 hm with⟨m1,m2⟩|m1
    ·exact⟨⟨q,List.mem_cons_of_mem _ hq,.inr m1⟩,m2⟩
    ·exact ht m1
  have hcnt:cntU L (ps.map (putP x t))<cntU L ((a,b)::ps):=qmk (fun y hyL hy=>by
    obtain⟨p,hp,h2⟩:=qdl.1 hy;exact qdl.2 (hback p hp y (hL y hyL) h2).1) ⟨x,hxL,qdl.2 ⟨(a,b),List.mem_cons_self ..,by rcases hc.pair with⟨rfl,-⟩|⟨rfl,-⟩;exact .inl (mem_self _);exact .inr (mem_self _)⟩,by
     rw[Bool.eq_false_iff];intro hx;obtain⟨p,hp,h2⟩:=qdl.1 hx;exact(hback p hp x hc.var h2).2 rfl⟩
  refine⟨⟨g1,g2,fun p hp y hy hm=>?_,?_,by rw[List.length_append,List.length_map,List.length_singleton];omega⟩,.inl hcnt⟩
  ·obtain⟨q,hq,h2⟩:=(hback p hp y hy hm).1;exact h.vars q hq y hy h2
  ·refine⟨[],ps.map (putP x t),rfl,by simp[Tm.sizes],?_⟩;rw[List.length_map];have h3:=qhh (A.map (·.1));rw[List.length_map]at h3;have h4:=congrArg List.length eAB;rw[List.length_cons,List.length_append]at h4;omega
def RV:Value→Option (DataW Value×List MemPlace):=fun v=>some (.held v,[])
def keyV (x:Tm):Value:=.agg #[.string x.name,.int .i64 x.sort]
def qaw (x:Tm):Prop:=x.name.size≤maxLen∧0≤x.sort∧x.sort≤5
theorem qme:Keyed Tryz.prog 154:=Keyed.of_law (deep_law_laid qnu (m:=5) (by decide) (of_decide_eq_true (by kernel_rfl)) (by kernel_rfl) (by kernel_rfl))
def keyL (x:Tm):Lit:=.string (keyBytes [.string x.name.data.toList,.int .i64 x.sort])
theorem fieldsI : ∃ f0 f1 : Field, Tryz.prog.underlying 154 = some (.struct #[f0, f1]) ∧ (f0.type = 9 ∧ f0.offset = 0 ∧ (f0.name != "_") = true) ∧ (f1.type = 3 ∧ f1.offset = 1 ∧ (f1.name != "_") = true) :=
 ⟨_,_,Tryz.underlying154,⟨rfl,rfl,by decide⟩,⟨rfl,rfl,by decide⟩⟩
theorem qos {d:Nat} {x:Tm} (h:qaw x):Tryz.prog.keyLits (d+1) 9 [.string x.name]=some [.string x.name.data.toList]∧Tryz.prog.keyLits (d+1) 3 [.int .i64 x.sort]=some [.int .i64 x.sort]:=by
 constructor
 ·unfold Program.keyLits;rw[Tryz.underlying9];exact if_pos h.1
 ·unfold Program.keyLits;rw[Tryz.underlying3];refine if_pos ⟨rfl,?_⟩;have:=h.2;have e:(Lit.int IntKind.i64 x.sort).wf=(decide (IntKind.i64.min≤x.sort) && decide (x.sort≤IntKind.i64.max)):=rfl;rw[e,Bool.and_eq_true,decide_eq_true_eq,decide_eq_true_eq];exact⟨Int.le_trans (by decide) this.1,Int.le_trans this.2 (by decide)⟩
theorem qfg {x:Tm} (h:qaw x):keyOf Tryz.prog 154 (keyV x)=some (keyL x):=by
 obtain⟨f0,f1,hu,⟨t0,o0,n0⟩,⟨t1,o1,n1⟩⟩:=fieldsI;have hc:Tryz.prog.cellsOf 154=2:=by kernel_rfl
 have hc0:Tryz.prog.cellsOf 9=1:=by kernel_rfl
 have hc1:Tryz.prog.cellsOf 3=1:=by kernel_rfl
 have hk:Tryz.prog.keyType 154=true:=by kernel_rfl
 obtain⟨d,hd⟩:∃d,Tryz.prog.types.size=d+1:=⟨Tryz.prog.types.size - 1,by have:0 < Tryz.prog.types.size:=of_decide_eq_true (by kernel_rfl);omega⟩;have hf:(keyV x).formed Tryz.prog 154=true:=by
  unfold keyV Value.formed;rw[hu,hc];rfl
 have hl:Tryz.prog.keyLits (Tryz.prog.types.size+1) 154 (keyV x).cells.toList=some [.string x.name.data.toList,.int .i64 x.sort]:=by
  unfold Program.keyLits;rw[hu];obtain⟨a,b⟩:=qos (d:=d) h;have e:(keyV x).cells.toList=[.string x.name,.int .i64 x.sort]:=rfl;rw[e,hc,hd];simp[n0,n1,t0,t1,o0,o1,hc0,hc1,a,b]
 unfold keyOf;rw[hu];dsimp only;rw[hk,hf,hl];rfl
theorem key_inj {x y:Tm} (hx:qaw x) (hy:qaw y) (h:keyL x=keyL y):x.name=y.name∧x.sort=y.sort:=by
 have:=qme.inj (qfg hx) (by rw[h];exact qfg hy);unfold keyV at this;simpa using this
def qcd (w:World) (b n:Nat) (F:Tm→Option Value):Prop:=
 ∃D,w.ownsMap Tryz.prog 154 RV b n D∧∀x,qaw x→Maps.has D (keyL x)=(F x).isSome∧∀v zd,F x=some v→D.atKey (keyL x) zd=.held v
theorem qcd.below {w w':World} {b n:Nat} {F:Tm→Option Value} (h:qcd w b n F) (hb:∀k,k<w.heap.size→w'.heap[k]?=w.heap[k]?):qcd w' b n F:=by
 obtain⟨D,⟨es,clock,h1,h2⟩,h3⟩:=h;exact⟨D,⟨es,clock,by rw[hb b (sltz h1)];exact h1,h2⟩,h3⟩
theorem qcd.keep {w w':World} {b n:Nat} {F:Tm→Option Value} (h:qcd w b n F) (hb:w'.heap[b]?=w.heap[b]?):qcd w' b n F:=by
 obtain⟨D,⟨es,clock,h1,h2⟩,h3⟩:=h;exact⟨D,⟨es,clock,by rw[hb];exact h1,h2⟩,h3⟩
theorem qcd.lt {w:World} {b n:Nat} {F:Tm→Option Value} (h:qcd w b n F):b<w.heap.size:=by
 obtain⟨D,⟨es,clock,h1,h2⟩,h3⟩:=h;exact(sltz h1)
theorem qcd.congr {w:World} {b n:Nat} {F G:Tm→Option Value} (h:qcd w b n F) (he:∀x,qaw x→F x=G x):qcd w b n G:=by
 obtain⟨D,h1,h2⟩:=h;exact⟨D,h1,fun x hx=>by rw[←he x hx];exact h2 x hx⟩
theorem qcd.made (w:World):qcd (w.alloc (.map #[] 0)) w.heap.size 0 (fun _=>none):=
 ⟨.map [],World.ownsMap_made w _ _ _,fun x _=>⟨rfl,fun v zd h=>by cases h⟩⟩
def qi0:Value:=.agg #[.int .i64 0,.string ⟨#[]⟩,.int .i64 0,.slice none 0 0]
theorem qj4 (w:World):(zeroValue 24).run Tryz.prog w=.ok qi0 w:=by
 kernel_rfl
theorem qcd.look {w:World} {b n:Nat} {F:Tm→Option Value} (h:qcd w b n F) {x:Tm} (hx:qaw x) :
  (Instr.lookup 151 (.map (some b)) (keyV x) true).run Tryz.prog w=.ok (.tuple #[(F x).getD qi0,.bool (F x).isSome]) w:=by
 obtain⟨D,h1,h2⟩:=h;obtain⟨v,ps,hr,hv⟩:=h1.look_ok qme Tryz.underlying151 (qj4 w) (zd:=.held qi0) (zp:=[]) rfl (qfg hx);obtain⟨h3,h4⟩:=h2 x hx;rw[hr,h3];simp only[RV,Option.some.injEq,Prod.mk.injEq]at hv
 cases hF:F x with
 | none=>
  rw[hF]at h3;rw[atKey_of_not_has h3]at hv;have e:=DataW.held.inj hv.1;subst e;rfl
 | some u=>
  rw[h4 u _ hF]at hv;have e:=DataW.held.inj hv.1;subst e;rfl
theorem qcd.store {w:World} {b n:Nat} {F:Tm→Option Value} (h:qcd w b n F) (hn:n<maxLen) {x:Tm} (hx:qaw x) (v:Value) :
  ∃w',(Instr.mapUpdate 151 (.map (some b)) (keyV x) v).run Tryz.prog w=.ok () w'∧qcd w' b (n+1) (fun y=>if y.name=x.name∧y.sort=x.sort then some v else F y)∧w.mapTurned w' b:=by
 obtain⟨D,h1,h2⟩:=h;obtain⟨w',hr,ho,ht⟩:=h1.store qme Tryz.underlying151 hn (qfg hx) (val:=v) (d:=.held v) (ps:=[]) rfl;refine⟨w',hr,⟨_,ho,fun y hy=>?_⟩,ht⟩;dsimp only;by_cases e:y.name=x.name∧y.sort=x.sort
 ·have ek:keyL y=keyL x:=by unfold keyL;rw[e.1,e.2]
  have hk:=qme.key (qfg hx);rw[if_pos e,ek];exact⟨has_put_same h1.isMap hk _,fun u zd hu=>by have e:=Option.some.inj hu;subst e;exact atKey_put_same h1.isMap hk _ _⟩
 ·rw[if_neg e];have hne:keyL y≠keyL x:=fun h=>e (key_inj hy hx h);rw[has_put_other hne];exact⟨(h2 y hy).1,fun u zd hu=>by rw[atKey_put_other hne];exact(h2 y hy).2 u zd hu⟩
def keyS (s:ByteArray):Lit:=.string s.data.toList
def qi4 (w:World) (b n:Nat) (N:List ByteArray):Prop:=
 ∃D,w.ownsMap Tryz.prog 9 RV b n D∧∀s:ByteArray,s.size≤maxLen→(s∈N∧∀zd,D.atKey (keyS s) zd=.held (.bool true))∨(s ∉ N∧∀zd,D.atKey (keyS s) zd=zd)
theorem qi4.keep {w w':World} {b n:Nat} {N:List ByteArray} (h:qi4 w b n N) (hb:w'.heap[b]?=w.heap[b]?):qi4 w' b n N:=by
 obtain⟨D,⟨es,clock,h1,h2⟩,h3⟩:=h;exact⟨D,⟨es,clock,by rw[hb];exact h1,h2⟩,h3⟩
theorem qi4.lt {w:World} {b n:Nat} {N:List ByteArray} (h:qi4 w b n N):b<w.heap.size:=by
 obtain⟨D,⟨es,clock,h1,h2⟩,h3⟩:=h;exact(sltz h1)
theorem qi4.congr {w:World} {b n:Nat} {N M:List ByteArray} (h:qi4 w b n N) (he:∀s,s∈N↔s∈M):qi4 w b n M:=by
 obtain⟨D,h1,h2⟩:=h;exact⟨D,h1,fun s hs=>(h2 s hs).imp (fun h=>⟨(he s).1 h.1,h.2⟩) (fun h=>⟨fun e=>h.1 ((he s).2 e),h.2⟩)⟩
theorem qi4.made (w:World):qi4 (w.alloc (.map #[] 0)) w.heap.size 0 []:=
 ⟨.map [],World.ownsMap_made w _ _ _,fun s _=>.inr ⟨by simp,fun zd=>rfl⟩⟩
theorem qdy (x:Tm):∀s:List Bd,(∃b∈s,b.1=x∧getS s x=b.2)∨(getS s x=x∧∀b∈s,b.1≠x)
 | []=>.inr ⟨rfl,by simp⟩
 | b::r=>by
  rw[getS];by_cases h:b.1=x
  ·rw[if_pos h];exact .inl ⟨b,by simp,h,rfl⟩
  ·rw[if_neg h];rcases qdy x r with⟨c,hc,h1,h2⟩|⟨h1,h2⟩
   ·exact .inl ⟨c,List.mem_cons_of_mem _ hc,h1,h2⟩
   ·refine .inr ⟨h1,fun c hc=>?_⟩;rcases List.mem_cons.1 hc with rfl|hc
    ·exact h
    ·exact h2 c hc
theorem qmu {t:Tm} {r:List Tm} (h:Tm.checks (t::r)=0):t.check=0∧Tm.checks r=0:=
 ⟨qcs.1 h t (List.mem_cons_self ..),qcs.2 fun z hz=>qcs.1 h z (List.mem_cons_of_mem _ hz)⟩
theorem check_valid {t:Tm} (h:t.valid=0):t.check=0:=(qda.1 h).1
def FitS (τ:List Bd):Prop:=∀b∈τ,b.2.check=0∧(b.1.sort=0∨(b.2.kind≠3∧b.2.sort=b.1.sort))
theorem FitS.check {τ:List Bd} (h:FitS τ):∀b∈τ,b.2.check=0:=fun b hb=>(h b hb).1
theorem FitS.sort {τ:List Bd} (h:FitS τ) {x:Tm} (hk:x.kind=1) (hs:x.sort≠0):(x.put τ).sort=x.sort∧(x.put τ).kind≠3:=by
 rw[put_var hk];rcases qdy x τ with⟨b,hb,e1,e2⟩|⟨e,-⟩
 ·rw[e2];rcases (h b hb).2 with h0|⟨h1,h2⟩
  ·rw[e1]at h0;exact absurd h0 hs
  ·rw[e1]at h2;exact⟨h2,h1⟩
 ·rw[e];exact⟨rfl,by omega⟩
def gname (n:Nat):ByteArray:=(⟨#[103]⟩:ByteArray)++⟨(Lib.decDigits n).toArray⟩
instance decMemN (x:ByteArray) (N:List ByteArray):Decidable (x∈N):=decidable_of_iff (N.any (fun y=>decide (x=y))=true) (by simp)
structure Gs where
 next:Nat
 pairs:List Bd
 vars:List Tm
structure GsOk (N:List ByteArray) (g:Gs):Prop where
 len:g.vars.length=g.pairs.length
 next:g.next≤(N.length+1)*g.pairs.length
 var:∀v∈g.vars,∃m s,m<g.next∧gname m ∉ N∧v=.mk 1 (gname m) s []
 apart:g.vars.Pairwise (fun a b=>a.name≠b.name)
 qec:∀q∈g.pairs.zip g.vars,q.2.sort=if q.1.1.sort=q.1.2.sort then q.1.1.sort else 0
mutual
def Tm.mat:Tm→Tm→List Bd→List Bd×Bool
 | .mk k n s l,t,m=>if k=1 then (if hasS m (.mk k n s l)=true then (m,decide (getS m (.mk k n s l)=t))else (m++[(.mk k n s l,t)],fits (.mk k n s l) t))
  else if qd2 (.mk k n s l) t=true then Tm.mats l t.kids m else (m,decide (Tm.mk k n s l=t))
def Tm.mats:List Tm→List Tm→List Bd→List Bd×Bool
 | p::l,t::r,m=>if (Tm.mat p t m).2=true then Tm.mats l r (Tm.mat p t m).1 else ((Tm.mat p t m).1,false)
 | _,_,m=>(m,true)
end
theorem ql9 (p t:Tm) (m:List Bd):p.mat t m=if p.kind=1 then (if hasS m p=true then (m,decide (getS m p=t))else (m++[(p,t)],fits p t))else if qd2 p t=true then Tm.mats p.kids t.kids m else (m,decide (p=t)):=by
 obtain⟨k,n,s,l⟩:=p;rw[Tm.mat];rfl
def fits3 (x t:Tm):Bool:=decide (x.sort=0) || (decide (t.kind≠3) && decide (t.sort=x.sort))
theorem qqg {x t:Tm} (hx:x.valid=0) (hk:x.kind=1) (ht:t.valid=0):fits x t=fits3 x t:=by
 unfold fits fits3;simp[hx,hk,ht]
def consU (l:List Bd):Prop:=∀a∈l,∀b∈l,a.1=b.1→a.2=b.2
instance (l:List Bd):Decidable (consU l):=by unfold consU;infer_instance
theorem qdd {s:List Bd} {x:Tm}:hasS s x=true↔∃b∈s,b.1=x:=by
 induction s with
 | nil=>simp[hasS]
 | cons b r ih=>
  rw[hasS];by_cases h:b.1=x
  ·simp[h]
  ·simp only[h,if_false,ih,List.mem_cons,exists_eq_or_imp,false_or]
theorem qmh {m r:List Bd} {x:Tm} (h:hasS m x=true):getS (m++r) x=getS m x:=by
 induction m with
 | nil=>simp[hasS]at h
 | cons b m ih=>
  rw[hasS]at h;rw[List.cons_append,getS,getS];by_cases e:b.1=x
  ·rw[if_pos e,if_pos e]
  ·rw[if_neg e]at h;rw[if_neg e,if_neg e,ih h]
theorem qeg {m:List Bd} {x t:Tm} (h:¬hasS m x=true):getS (m++[(x,t)]) x=t:=by
 induction m with
 | nil=>simp[getS]
 | cons b m ih=>
  rw[hasS]at h;by_cases e:b.1=x
  ·rw[if_pos e]at h;exact absurd rfl h
  ·rw[if_neg e]at h;rw[List.cons_append,getS,if_neg e,ih h]
def Ext (m m':List Bd):Prop:=∃r,m'=m++r
theorem Ext.refl (m:List Bd):Ext m m:=⟨[],by simp⟩
theorem Ext.trans {a b c:List Bd} (h:Ext a b) (k:Ext b c):Ext a c:=by
 obtain⟨r,rfl⟩:=h;obtain⟨q,rfl⟩:=k;exact⟨r++q,by simp⟩
theorem Ext.has {m m':List Bd} (h:Ext m m') {x:Tm} (hx:hasS m x=true):hasS m' x=true:=by
 obtain⟨r,rfl⟩:=h;obtain⟨b,hb,e⟩:=qdd.1 hx;exact qdd.2 ⟨b,List.mem_append_left _ hb,e⟩
theorem Ext.get {m m':List Bd} (h:Ext m m') {x:Tm} (hx:hasS m x=true):getS m' x=getS m x:=by
 obtain⟨r,rfl⟩:=h;exact qmh hx
def qiz (m:List Bd) (t:Tm):Prop:=∀x∈t.all,x.kind=1→hasS m x=true
mutual
theorem put_ext {m m':List Bd} (h:Ext m m'):∀t:Tm,qiz m t→t.put m'=t.put m
 | .mk k n s l,hb=>by
  rw[Tm.put,Tm.put]
  split
  ·rename_i hk;exact h.get (hb _ (mem_self _) hk)
  ·rw[qom h l fun k hk x hx=>hb x (qig hk hx)]
theorem qom {m m':List Bd} (h:Ext m m'):∀l:List Tm,(∀t∈l,qiz m t)→Tm.puts m' l=Tm.puts m l
 | [],_=>rfl
 | t::r,hb=>by rw[Tm.puts,Tm.puts,put_ext h t (hb t (List.mem_cons_self ..)),qom h r fun k hk=>hb k (List.mem_cons_of_mem _ hk)]
end
theorem qiz.ext {m m':List Bd} {t:Tm} (h:qiz m t) (he:Ext m m'):qiz m' t:=fun x hx hk=>he.has (h x hx hk)
structure MatOk (m:List Bd):Prop where
 vars:∀b∈m,b.1.kind=1∧b.1.valid=0∧b.2.valid=0∧fits3 b.1 b.2=true
 apart:VarsApart m
theorem MatOk.fit {m:List Bd} (h:MatOk m):FitS m:=fun b hb=>by
 obtain⟨-,-,h2,h3⟩:=h.vars b hb;refine⟨check_valid h2,?_⟩;unfold fits3 at h3;simpa using h3
mutual
theorem mat_ext:∀(p t:Tm) (m:List Bd),Ext m (p.mat t m).1
 | .mk k n s l,t,m=>by
  rw[Tm.mat]
  split
  ·split
   ·exact Ext.refl _
   ·exact⟨_,rfl⟩
  ·split
   ·exact qkn l t.kids m
   ·exact Ext.refl _
theorem qkn:∀(l r:List Tm) (m:List Bd),Ext m (Tm.mats l r m).1
 | [],r,m=>by rw[Tm.mats];exact Ext.refl _;simp
 | p::l,[],m=>by rw[Tm.mats];exact Ext.refl _;simp
 | p::l,t::r,m=>by
  rw[Tm.mats]
  split
  ·exact(mat_ext p t m).trans (qkn l r _)
  ·exact mat_ext p t m
end
mutual
theorem ql8:∀(p t:Tm) (m:List Bd),p.valid=0→t.valid=0→MatOk m→(p.mat t m).2=true→MatOk (p.mat t m).1∧qiz (p.mat t m).1 p∧p.put (p.mat t m).1=t
 | .mk k n s l,t,m,hp,ht,hm,h=>by
  rw[Tm.mat]at h ⊢;by_cases hk:k=1
  ·rw[if_pos hk]at h ⊢;have hall:=var_all hp hk;by_cases hh:hasS m (.mk k n s l)=true
   ·rw[if_pos hh]at h ⊢;refine⟨hm,fun x hx _=>?_,?_⟩
    ·rw[hall,List.mem_singleton]at hx;rw[hx];exact hh
    ·rw[put_var (x:=.mk k n s l) hk];simpa using h
   ·rw[if_neg hh]at h ⊢;refine⟨⟨fun b hb=>?_,?_⟩,fun x hx _=>?_,?_⟩
    ·rcases List.mem_append.1 hb with hb|hb
     ·exact hm.vars b hb
     ·rw[List.mem_singleton]at hb;subst hb;exact⟨hk,hp,ht,by rw[←qqg hp hk ht];exact h⟩
    ·refine List.pairwise_append.2 ⟨hm.apart,List.pairwise_singleton ..,fun b hb c hc=>?_⟩;rw[List.mem_singleton]at hc;subst hc;exact fun e=>hh (qdd.2 ⟨b,hb,e⟩)
    ·rw[hall,List.mem_singleton]at hx;rw[hx];exact qdd.2 ⟨_,List.mem_append_right _ (List.mem_singleton.2 rfl),rfl⟩
    ·rw[put_var (x:=.mk k n s l) hk];exact qeg hh
  ·rw[if_neg hk]at h ⊢;by_cases ha:qd2 (.mk k n s l) t=true
   ·rw[if_pos ha]at h ⊢;obtain⟨k1,k2,hn,hl⟩:=qgu.1 ha;have k1:k=3:=k1;have hl:l.length=t.kids.length:=hl;obtain⟨h1,h2,h3⟩:=qjs l t.kids m hl (fun x hx=>qb1 hp hx) (fun x hx=>qb1 ht hx) hm h;refine⟨h1,fun x hx hxk=>?_,?_⟩
    ·rw[Tm.all]at hx;rcases List.mem_cons.1 hx with e|hx
     ·rw[e]at hxk;exact absurd hxk hk
     ·obtain⟨u,hu,hxu⟩:=qih.1 hx;exact h2 u hu x hxu hxk
    ·rw[Tm.put,if_neg hk,h3];have e1:=qo3 ht k2;have e2:s=0:=qo3 hp (by exact k1);have hn':n=t.name:=hn;have k2':t.kind=3:=k2;rw[hn',k1,e2,←k2']
     conv=>lhs;rw[←e1]
     cases t;rfl
   ·rw[if_neg ha]at h ⊢;have e:Tm.mk k n s l=t:=by simpa using h
    subst e;refine⟨hm,?_⟩;have hl0:l=[]:=by
     rcases qit (check_valid hp)with⟨-,h0⟩|⟨h3,-,-⟩
     ·exact h0
     ·exact absurd (qgu.2 ⟨by exact h3,by exact h3,rfl,rfl⟩) ha
    subst hl0;refine⟨fun x hx hxk=>?_,by rw[Tm.put,if_neg hk];rfl⟩;rw[Tm.all,Tm.alls,List.mem_singleton]at hx;rw[hx]at hxk;exact absurd hxk hk
theorem qjs:∀(l r:List Tm) (m:List Bd),l.length=r.length→(∀x∈l,x.valid=0)→(∀x∈r,x.valid=0)→MatOk m→(Tm.mats l r m).2=true→MatOk (Tm.mats l r m).1∧(∀p∈l,qiz (Tm.mats l r m).1 p)∧Tm.puts (Tm.mats l r m).1 l=r
 | [],[],m,_,_,_,hm,_=>by rw[Tm.mats];exact⟨hm,by simp,rfl⟩;simp
 | p::l,t::r,m,hl,hp,ht,hm,h=>by
  rw[Tm.mats]at h ⊢
  split at h
  ·rename_i h1
   rw[if_pos h1];obtain⟨a1,a2,a3⟩:=ql8 p t m (hp p (List.mem_cons_self ..)) (ht t (List.mem_cons_self ..)) hm h1;obtain⟨b1,b2,b3⟩:=qjs l r _ (by simpa using hl) (fun x hx=>hp x (List.mem_cons_of_mem _ hx)) (fun x hx=>ht x (List.mem_cons_of_mem _ hx)) a1 h;have he:=qkn l r (Tm.mat p t m).1;refine⟨b1,fun q hq=>?_,?_⟩
   ·rcases List.mem_cons.1 hq with rfl|hq
    ·exact a2.ext he
    ·exact b2 q hq
   ·rw[Tm.puts,b3,put_ext he p a2,a3]
  ·cases h
end
def Agrees (m τ:List Bd):Prop:=∀b∈m,b.2=b.1.put τ
theorem Agrees.get {m τ:List Bd} (h:Agrees m τ) {x:Tm} (hx:hasS m x=true):getS m x=x.put τ:=by
 rcases qdy x m with⟨b,hb,e1,e2⟩|⟨-,h2⟩
 ·rw[e2,h b hb,e1]
 ·obtain⟨b,hb,e⟩:=qdd.1 hx;exact absurd e (h2 b hb)
structure GrowG (g g':Gs):Prop where
 ex:∃qs ws,g'.pairs=g.pairs++qs∧g'.vars=g.vars++ws∧qs.length=ws.length
theorem GrowG.refl (g:Gs):GrowG g g:=⟨[],[],by simp,by simp,rfl⟩
theorem GrowG.trans {a b c:Gs} (h:GrowG a b) (k:GrowG b c):GrowG a c:=by
 obtain⟨q1,w1,h1,h2,h3⟩:=h.ex;obtain⟨q2,w2,k1,k2,k3⟩:=k.ex;exact⟨q1++q2,w1++w2,by rw[k1,h1,List.append_assoc],by rw[k2,h2,List.append_assoc],by simp[h3,k3]⟩
mutual
theorem qiv:∀t:Tm,t.all.length=t.size
 | .mk k n s l=>by rw[Tm.all,Tm.size,List.length_cons,qho l];omega
theorem qho:∀l:List Tm,(Tm.alls l).length=Tm.sizes l
 | []=>rfl
 | t::r=>by rw[Tm.alls,Tm.sizes,List.length_append,qiv t,qho r]
end
theorem qmf (t:Tm) (A:Option Addr) (c:Nat) (w:World):Calls Tryz.prog 164 #[t.val A c] w fun e w'=>e=.returned (.bool (t.kind==1))∧Lay w.heap.size w w':=by
 simp only[Tm.val];go_enter Tryz.func164,Tryz.ntmps164
 go_wp2_with fail
 go_ret
 exact⟨rfl,(Lay.refl _ _).alloc (Nat.le_refl _) _⟩
theorem key_any (t:Tm) (A:Option Addr) (c:Nat) (w:World):Calls Tryz.prog 130 #[t.val A c] w fun e w'=>e=.returned (keyV t)∧Lay w.heap.size w w':=by
 simp only[Tm.val,keyV];go_enter Tryz.func130,Tryz.ntmps130
 go_wp2_with fail
 refine bodyPost_ret (v:=.agg #[.string t.name,.int .i64 t.sort]) ?_ rfl ?_
 ·simp[results,Tryz.results130,go_sem]
 exact⟨rfl,((Lay.refl _ _).alloc (Nat.le_refl _) _).alloc (by simp) _⟩
theorem qh0 (t u:Tm) (A A':Option Addr) (c c':Nat) (w:World) (ht:t.size≤1000000) (hu:u.size≤1000000) (hrt:RepT w w.heap.size t A c) (hru:RepT w w.heap.size u A' c') :
  Calls Tryz.prog 131 #[t.val A c,u.val A' c'] w fun e w'=>e=.returned (.bool (decide (t=u)))∧Lay w.heap.size w w':=by
 obtain⟨V,hV⟩:∃V,V=(w.alloc (boxT t A c)).alloc (boxT u A' c'):=⟨_,rfl⟩;have h2:TwoV w t u A A' c c' V:=by rw[hV];exact TwoV.new _ _ _ _ _ _ _
 have CM:=qb7 1000000 t u A A' c c' V ht (Nat.le_refl _) hu (hrt.go h2.lay.below h2.lay.size) (hru.go h2.lay.below h2.lay.size);obtain⟨d,hd⟩:∃d,d=t.cmp u:=⟨_,rfl⟩;have hz:decide (t=u)=(d==0):=by
  rw[hd,Bool.eq_iff_iff,decide_eq_true_iff,beq_iff_eq];exact Tm.cmp_zero.symm
 rw[hz];rw[←hd]at CM;clear hz hd;have CM:=hdzz CM;have H2:=hdzz h2.lay;obtain⟨a0,a1,a2,a3,-⟩:=qaa h2.one;obtain⟨b0,b1,b2,b3,-⟩:=qaa h2.two;clear h2;simp only[boxT]at hV;have HV:=hdzz hV;clear hV;simp only[Tm.val]at CM ⊢;go_enter Tryz.func131,Tryz.ntmps131
 go_wp2_with fail
 rw[←HV.out];go_wp2_with fail
 refine CM.out.mono ?_;clear CM;rintro e w1 ⟨rfl,hl⟩;go_wp2_with fail
 go_ret
 exact⟨rfl,H2.out.trans (hl.mono H2.out.size)⟩
theorem alike_any (t u:Tm) (A A':Option Addr) (c c':Nat) (w:World) (ht:t.kids.length≤1000000) (hu:u.kids.length≤1000000) :
  Calls Tryz.prog 166 #[t.val A c,u.val A' c'] w fun e w'=>e=.returned (.bool (qd2 t u))∧Lay w.heap.size w w':=by
 have h2:Lay w.heap.size w ((w.alloc (boxT t A c)).alloc (boxT u A' c')):=(TwoV.new w t u A A' c c').lay;simp only[boxT]at h2;have H2:=hdzz h2;clear h2;have e1:qd2 t u=(if (t.kind==3)=true then (if (u.kind==3)=true then (if (t.name.toList==u.name.toList)=true then ((t.kids.length:Int)==(u.kids.length:Int))else false)else false)else false):=by
  unfold qd2;have hn:decide (t.name=u.name)=(t.name.toList==u.name.toList):=by
   rw[Bool.eq_iff_iff,decide_eq_true_iff,beq_iff_eq];exact⟨fun h=>by rw[h],fun h=>by rw[ByteArray.toList_eq,ByteArray.toList_eq]at h;exact ByteArray.ext (Array.toList_inj.1 h)⟩
  have hl:decide (t.kids.length=u.kids.length)=((t.kids.length:Int)==(u.kids.length:Int)):=by
   rw[Bool.eq_iff_iff,decide_eq_true_iff,beq_iff_eq];omega
  have hk:∀x:Tm,decide (x.kind=3)=(x.kind==3):=fun x=>by rw[Bool.eq_iff_iff,decide_eq_true_iff,beq_iff_eq]
  rw[hn,hl,hk,hk];cases t.kind==3<;>cases u.kind==3<;>cases t.name.toList==u.name.toList<;>rfl
 rw[e1];clear e1;have k1:(t.kids.length:Int)≤9223372036854775807:=by omega
 have k2:(u.kids.length:Int)≤9223372036854775807:=by omega
 simp only[Tm.val];generalize hq1:(t.kind==3)=q1;generalize hq2:(u.kind==3)=q2;generalize hq3:(t.name.toList==u.name.toList)=q3
 cases q1 with
 | false=>
  go_enter Tryz.func166,Tryz.ntmps166
  go_wp2_with fail
  go_ret
  exact⟨rfl,H2.out⟩
 | true=>
  cases q2 with
  | false=>
   go_enter Tryz.func166,Tryz.ntmps166
   go_wp2_with fail
   go_ret
   exact⟨rfl,H2.out⟩
  | true=>
   cases q3 with
   | false=>
    go_enter Tryz.func166,Tryz.ntmps166
    go_wp2_with fail
    go_ret
    exact⟨rfl,H2.out⟩
   | true=>
    go_enter Tryz.func166,Tryz.ntmps166
    go_wp2_with fail
    go_ret
    exact⟨by simp,H2.out⟩
def MapT (w:World) (b n:Nat) (G:Nat→Prop) (s:List Bd):Prop:=
 ∃F,qcd w b n F∧∀x:Tm,x.kind=1→x.kids=[]→qaw x→(hasS s x=false∧F x=none)∨(hasS s x=true∧∃A c,F x=some ((getS s x).val A c)∧RepP w G (getS s x) A c)
theorem MapT.keep {w w':World} {b n:Nat} {G:Nat→Prop} {s:List Bd} (h:MapT w b n G s) (hm:w'.heap[b]?=w.heap[b]?) (hG:∀p:Addr,G p.block→w'.cell? p=w.cell? p):MapT w' b n G s:=by
 obtain⟨F,h1,h2⟩:=h;exact⟨F,h1.keep hm,fun x k1 k2 k3=>(h2 x k1 k2 k3).imp id fun⟨a,A,c,e,r⟩=>⟨a,A,c,e,RepP.mono (fun _ h=>h) (fun _ hp=>hG _ hp) _ _ _ r⟩⟩
theorem MapT.lt {w:World} {b n:Nat} {G:Nat→Prop} {s:List Bd} (h:MapT w b n G s):b<w.heap.size:=h.choose_spec.1.lt
theorem MapT.below {w w':World} {b n B:Nat} {G:Nat→Prop} {s:List Bd} (h:MapT w b n G s) (hb:Below B w w') (hB:b<B) (hG:∀k,G k→k<B):MapT w' b n G s:=
 h.keep (hb.block _ hB) (fun _ hp=>hb.cell (hG _ hp))
theorem MapT.look {w:World} {b n:Nat} {G:Nat→Prop} {s:List Bd} (h:MapT w b n G s) {x:Tm} (k1:x.kind=1) (k2:x.kids=[]) (k3:qaw x) :
  (hasS s x=false∧(Instr.lookup 151 (.map (some b)) (keyV x) true).run Tryz.prog w=.ok (.tuple #[qi0,.bool false]) w)∨
  (∃A c,hasS s x=true∧RepP w G (getS s x) A c∧(Instr.lookup 151 (.map (some b)) (keyV x) true).run Tryz.prog w=.ok (.tuple #[(getS s x).val A c,.bool true]) w):=by
 obtain⟨F,h1,h2⟩:=h;have hl:=h1.look k3;rcases h2 x k1 k2 k3 with⟨e1,e2⟩|⟨e1,A,c,e2,r⟩
 ·left;rw[e2]at hl;exact⟨e1,hl⟩
 ·right;rw[e2]at hl;exact⟨A,c,e1,r,hl⟩
theorem qb9 {w:World} {ops:Array Oper} {rest:List Oper} {o:Oper} {a:Act} {Q:Exit→Act→World→Prop} {m k r:Value} {t:TypeId} (hgd:o.guard=none) (om ok:Operand)
  (ho:o.op=.lookup t om ok true) (hm:a.eval om=m) (hk:a.eval ok=k) (hrun:(Instr.lookup t m k true).run Tryz.prog w=.ok r w) (h:wpList Tryz.prog ops Q rest (a.put o.dst r) w):wpList Tryz.prog ops Q (o::rest) a w:=by
 refine wpList_plain hgd fun K hK=>?_;unfold Oper.wp;simp[execOp,ho,hm,hk,hrun,Result.andThen];exact hK _ _ h
theorem check_keyable {t:Tm} (h:t.check=0) (hk:t.kind=1):t.kids=[]∧qaw t:=by
 obtain⟨k,n,s,l⟩:=t;have hk:k=1:=hk;subst hk;obtain⟨h1,h2,h3,h4⟩:=qfi (.inl rfl) h;refine⟨h3,?_,h1,h2⟩;show n.size≤maxLen;rw[qak];have:n.data.toList.length≤24:=by
  unfold qbg at h4;simp only[Bool.and_eq_true,decide_eq_true_eq]at h4;exact h4.1.1
 unfold maxLen;omega
structure Elem8 (S T:TypeId):Prop where
 und:Tryz.prog.underlying S=Option.some (.slice T)
 info:(Tryz.prog.info? T).map (fun i=>(i.zero,i.size,i.bytes))=Option.some (Option.some (.agg #[.int .i64 0,.string ⟨#[]⟩,.int .i64 0,.slice none 0 0,.int .i64 0,.string ⟨#[]⟩,.int .i64 0,.slice none 0 0]),8,112)
theorem elemBind:Elem8 126 157:=⟨Tryz.underlying126,by kernel_rfl⟩
structure RowG (T:TypeId) (w:World) (base:Nat) (F:Nat→Prop) (v:Value) (its:List IB):Prop where
 own:w.ownsRow base T 8 v its.length (bCells its)
 reps:∀x∈its,RepP w (fun b=>F b∧b<w.heap.size∧v.ownBlock≠Option.some b) x.1.1 x.1.2.1 x.1.2.2∧RepP w (fun b=>F b∧b<w.heap.size∧v.ownBlock≠Option.some b) x.2.1 x.2.2.1 x.2.2.2
section
variable {T:TypeId} {w w':World} {base:Nat} {F:Nat→Prop} {v:Value} {its:List IB}
theorem RowG.nil (T:TypeId) (w:World) (base:Nat) (F:Nat→Prop):RowG T w base F (.slice none 0 0) []:=⟨World.ownsRow_nil _ _ _ _,by simp⟩
theorem RowG.keep (h:RowG T w base F v its) (hs:w.heap.size≤w'.heap.size)
  (hc:∀b,b<w.heap.size→(F b∨v.ownBlock=Option.some b)→w'.heap[b]?=w.heap[b]?):RowG T w' base F v its:=by
 refine⟨⟨h.own.1,?_⟩,fun x hx=>?_⟩
 ·rcases h.own.2 with hn|⟨g,cap,cur,rfl,hb,hg,r⟩
  ·exact .inl hn
  ·have hlt:g<w.heap.size:=(sltz hg);exact .inr ⟨g,cap,cur,rfl,hb,by rw[hc g hlt (Or.inr rfl)];exact hg,r⟩
 ·have key:∀(t:Tm) A c,RepP w (fun b=>F b∧b<w.heap.size∧v.ownBlock≠Option.some b) t A c→RepP w' (fun b=>F b∧b<w'.heap.size∧v.ownBlock≠Option.some b) t A c:=fun t A c hr=>by
   refine RepP.mono ?_ ?_ _ _ _ hr
   ·rintro b ⟨h1,h2,h3⟩;exact⟨h1,by omega,h3⟩
   ·rintro p ⟨h1,h2,h3⟩;exact World.cell?_of_block (hc p.block h2 (Or.inl h1))
  exact⟨key _ _ _ (h.reps x hx).1,key _ _ _ (h.reps x hx).2⟩
theorem RowG.below (h:RowG T w base F v its) (hb:Below w.heap.size w w'):RowG T w' base F v its:=
 h.keep hb.size (fun b hlt _=>hb.block b hlt)
theorem RowG.lt (h:RowG T w base F v its):∀k,v.ownBlock=Option.some k→base≤k∧k<w.heap.size:=h.own.lt
theorem RowG.toB {P:Nat→Prop} (h:RowG T w base F v its) (hF:∀b,F b→b<w.heap.size→v.ownBlock≠Option.some b→P b) (hP:∀b,v.ownBlock=Option.some b→P b) :
  ∃A cap,v=.slice A its.length cap∧RepB w P (its.map IB.bd) A cap:=by
 rcases h.own.2 with⟨rfl,h0⟩|⟨g,cap,cur,rfl,hb,hg,hnc,hcm,r⟩
 ·have:its=[]:=List.eq_nil_of_length_eq_zero h0;subst this;exact⟨none,0,rfl,by simp,by simp[maxLen],.inl rfl⟩
 ·refine⟨Option.some ⟨g,0,none⟩,cap,rfl,by simpa using hnc,hcm,.inr ⟨g,0,rfl,hP g rfl,?_⟩⟩;rw[←qmy];refine RepLP.of_its (bits its) g 0 (fun j u hj=>?_) (fun y hy=>?_)
  ·have:=h.own.cells (g:=g) rfl j u hj;simpa[Addr.add]using (by
    unfold Addr.add at this
    split at this<;>simp_all)
  ·obtain⟨x,hx,e⟩:=qoq hy;rcases e with rfl|rfl
   ·exact RepP.mono (fun b ⟨h1,h2,h3⟩=>hF b h1 h2 h3) (fun _ _=>rfl) _ _ _ (h.reps x hx).1
   ·exact RepP.mono (fun b ⟨h1,h2,h3⟩=>hF b h1 h2 h3) (fun _ _=>rfl) _ _ _ (h.reps x hx).2
theorem RowG.more {S:TypeId} (E:Elem8 S T) (hrow:RowG T w base F v its) (hbase:base≤w.heap.size) (news:List IB) (hne:0<news.length) (B off c:Nat)
  (hcells:∀j u,(bCells news)[j]?=Option.some u→w.cell? ⟨B,off+j,none⟩=Option.some u)
  (hreps:∀x∈news,RepP w (fun b=>F b∧b<w.heap.size∧v.ownBlock≠Option.some b) x.1.1 x.1.2.1 x.1.2.2∧RepP w (fun b=>F b∧b<w.heap.size∧v.ownBlock≠Option.some b) x.2.1 x.2.2.1 x.2.2.2) (hlen:its.length+news.length≤100000000) :
  ∃g cap w',(∀ty,(Builtin.append_ #[S,S] ty #[v,.slice (Option.some ⟨B,off,none⟩) news.length c]).run Tryz.prog w=.ok (.slice (Option.some ⟨g,0,none⟩) (its.length+news.length) cap) w')∧
   RowG T w' base F (.slice (Option.some ⟨g,0,none⟩) (its.length+news.length) cap) (its++news)∧w.grownBy w' v.ownBlock∧(v.ownBlock=Option.some g∨g=w.heap.size):=by
 obtain⟨i0,hi0,hz0,hz1,hz2⟩:=info_parts E.info;obtain⟨g,cap,w',h1,h2,h3,h4,h5⟩:=run_append_lies (P:=Tryz.prog) w S 0 base T i0 _ 8 112 E.und hi0 hz0 hz1 hz2 rfl (by omega) v its.length (bCells its) hrow.own ⟨B,off,none⟩ news.length c (bCells news) (qk7 _)
  (fun j u hu=>by
   have h:=hcells j u hu;unfold Addr.add
   split
   ·rename_i hj;subst hj;simpa using h
   ·exact h) (qqn news) hne (by unfold maxLen;omega) (by omega) hbase w.heap.size rfl
 have hg:g=w.heap.size∨v.ownBlock=Option.some g:=by rcases h4 with h|h;exact .inr h;exact .inl h
 refine⟨g,cap,w',fun ty=>h1,⟨by rw[qk8,List.length_append];exact h2,fun x hx=>?_⟩,h3,h4⟩;have key:∀(t:Tm) A c,RepP w (fun b=>F b∧b<w.heap.size∧v.ownBlock≠Option.some b) t A c→RepP w' (fun b=>F b∧b<w'.heap.size∧(Value.slice (Option.some ⟨g,0,none⟩) (its.length+news.length) cap).ownBlock≠Option.some b) t A c:=fun t A c hr=>by
  refine RepP.mono ?_ ?_ _ _ _ hr
  ·rintro b ⟨k1,k2,k3⟩;refine⟨k1,Nat.lt_of_lt_of_le k2 h3.size,fun e=>?_⟩;have e':g=b:=by injection e
   rcases hg with h|h
   ·omega
   ·rw[e']at h;exact k3 h
  ·rintro p ⟨k1,k2,k3⟩;exact World.cell?_of_block (h3.block p.block k2 (fun e=>k3 e.symm))
 rcases List.mem_append.1 hx with hx|hx
 ·exact⟨key _ _ _ (hrow.reps x hx).1,key _ _ _ (hrow.reps x hx).2⟩
 ·exact⟨key _ _ _ (hreps x hx).1,key _ _ _ (hreps x hx).2⟩
theorem RowG.more1 {S:TypeId} (E:Elem8 S T) (hrow:RowG T w base F v its) (hbase:base≤w.heap.size) (X:IB)
  (h1:RepP w (fun b=>F b∧b<w.heap.size∧v.ownBlock≠Option.some b) X.1.1 X.1.2.1 X.1.2.2) (h2:RepP w (fun b=>F b∧b<w.heap.size∧v.ownBlock≠Option.some b) X.2.1 X.2.2.1 X.2.2.2) (hlen:its.length+1≤100000000) :
  ∃g c' w',(∀ty,(Builtin.append_ #[S,S] ty #[v,.slice (Option.some ⟨w.heap.size,0,none⟩) 1 1]).run Tryz.prog (w.alloc (.cells #[.int .i64 X.1.1.kind,.string X.1.1.name,.int .i64 X.1.1.sort,.slice X.1.2.1 X.1.1.kids.length X.1.2.2,.int .i64 X.2.1.kind,.string X.2.1.name,.int .i64 X.2.1.sort,.slice X.2.2.1 X.2.1.kids.length X.2.2.2] T))=.ok (.slice (Option.some ⟨g,0,none⟩) (its.length+1) c') w')∧
   RowG T w' base F (.slice (Option.some ⟨g,0,none⟩) (its.length+1) c') (its++[X])∧(∀W0 B0,Below B0 W0 w→B0≤base→Below B0 W0 w')∧(∀k,k<w.heap.size→v.ownBlock≠Option.some k→w'.heap[k]?=w.heap[k]?)∧w.heap.size≤w'.heap.size∧(v.ownBlock=Option.some g∨w.heap.size≤g):=by
 obtain⟨W6,hW6⟩:∃W6,W6=w.alloc (.cells (bCells [X]).toArray T):=⟨_,rfl⟩;have hb6:Below w.heap.size w W6:=by rw[hW6];exact qab (Nat.le_refl _) _
 have hs6:W6.heap.size=w.heap.size+1:=by rw[hW6];simp
 have hx6:W6.heap[w.heap.size]?=Option.some (.cells (bCells [X]).toArray T (0,0)):=by rw[hW6];exact heap_alloc_new _ _
 have key:∀(t:Tm) A c,RepP w (fun b=>F b∧b<w.heap.size∧v.ownBlock≠Option.some b) t A c→RepP W6 (fun b=>F b∧b<W6.heap.size∧v.ownBlock≠Option.some b) t A c:=fun t A c h=>
  RepP.mono (fun b hb=>⟨hb.1,by have:=hb.2.1;omega,hb.2.2⟩) (fun p hp=>hb6.cell hp.2.1) _ _ _ h
 obtain⟨g,cap,w',e1,e2,e3,e4⟩:=(hrow.below hb6).more E (by omega) [X] (by simp) w.heap.size 0 1 (fun j u hu=>by
  rw[Nat.zero_add,cell_of_row W6 w.heap.size j _ _ _ hx6];simpa using hu) (fun x hx=>by
   rw[List.mem_singleton]at hx;subst hx;exact⟨key _ _ _ h1,key _ _ _ h2⟩) hlen
 simp only[bCells,bits,itCells,Tm.cells,List.cons_append,List.nil_append]at hW6;rw[hW6]at e1;have hsz:=e3.size;refine⟨g,cap,w',e1,e2,fun W0 B0 hB hB0=>?_,fun k hk hne=>?_,by omega,e4.imp id (fun h=>by omega)⟩
 ·have hbs:=hB.size;exact(hB.trans (hb6.mono (by omega))).grown e3 (by omega) (fun j e=>by have:=(hrow.lt _ e).1;omega)
 ·rw[e3.block k (by omega) (fun e=>hne e.symm)];exact hb6.block k hk
theorem qo2:∀(its:List IB) (i:Nat) (h:i<its.length),(bits its)[2*i]?=Option.some its[i].1∧(bits its)[2*i+1]?=Option.some its[i].2
 | [],_,h=>by simp at h
 | x::r,0,_=>by simp[bits]
 | x::r,i+1,h=>by
  have g:=qo2 r i (by simpa using h);simp only[bits,show 2*(i+1)=2*i+1+1 by omega,List.getElem?_cons_succ,List.getElem_cons_succ];exact g
theorem qk5:∀(its:List IB) (i:Nat) (h:i<its.length) (X:It),(bits its).set (2*i) X=bits (its.set i (X,its[i].2))∧(bits its).set (2*i+1) X=bits (its.set i (its[i].1,X))
 | [],_,h,_=>by simp at h
 | x::r,0,_,X=>by simp[bits]
 | x::r,i+1,h,X=>by
  have g:=qk5 r i (by simpa using h) X;simp only[bits,show 2*(i+1)=2*i+1+1 by omega,List.set_cons_succ,List.getElem_cons_succ];exact⟨by rw[g.1],by rw[g.2]⟩
theorem RowG.slot {g cap n:Nat} (h:RowG T w base F (.slice (Option.some ⟨g,0,none⟩) n cap) its) (i:Nat) (hi:i<its.length) :
  (w.cell? ⟨g,i*8,none⟩=Option.some (.int .i64 its[i].1.1.kind)∧w.cell? ⟨g,i*8+1,none⟩=Option.some (.string its[i].1.1.name)∧w.cell? ⟨g,i*8+2,none⟩=Option.some (.int .i64 its[i].1.1.sort)∧
   w.cell? ⟨g,i*8+3,none⟩=Option.some (.slice its[i].1.2.1 its[i].1.1.kids.length its[i].1.2.2))∧
  (w.cell? ⟨g,i*8+4,none⟩=Option.some (.int .i64 its[i].2.1.kind)∧w.cell? ⟨g,i*8+4+1,none⟩=Option.some (.string its[i].2.1.name)∧w.cell? ⟨g,i*8+4+2,none⟩=Option.some (.int .i64 its[i].2.1.sort)∧
   w.cell? ⟨g,i*8+4+3,none⟩=Option.some (.slice its[i].2.2.1 its[i].2.1.kids.length its[i].2.2.2))∧∀o,w.frozen? ⟨g,o,none⟩=false:=by
 have hc:∀j u,(bCells its)[j]?=Option.some u→w.cell? ⟨g,j,none⟩=Option.some u:=fun j u hj=>by
  have:=h.own.cells (g:=g) rfl j u hj;unfold Addr.add at this
  split at this<;>simp_all
 obtain⟨b0,b1⟩:=qo2 its i hi;have hl:=qeo its;have l0:2*i<(bits its).length:=by omega
 have l1:2*i+1<(bits its).length:=by omega
 rw[List.getElem?_eq_getElem l0]at b0;rw[List.getElem?_eq_getElem l1]at b1;injection b0 with b0;injection b1 with b1;have g0:=qc3 (bits its) (2*i) l0;have g1:=qc3 (bits its) (2*i+1) l1;rw[b0,show 2*i*4=i*8 by omega]at g0;rw[b1,show(2*i+1)*4=i*8+4 by omega]at g1;refine⟨⟨hc _ _ g0.1,hc _ _ g0.2.1,hc _ _ g0.2.2.1,hc _ _ g0.2.2.2⟩,⟨hc _ _ g1.1,hc _ _ g1.2.1,hc _ _ g1.2.2.1,hc _ _ g1.2.2.2⟩,fun o=>?_⟩;rcases h.own.2 with⟨hv,_⟩|⟨g',cap',cur,hv,hb,hg,_⟩
 ·cases hv
 ·injection hv with h1;injection h1 with h1;injection h1 with h1;subst h1;simp[World.frozen?,hg]
theorem RowG.set0 {g cap n:Nat} (h:RowG T w base F (.slice (Option.some ⟨g,0,none⟩) n cap) its) (hn:n=its.length) (i:Nat) (hi:i<its.length) (X:It) (hX:RepP w (fun b=>F b∧b<w.heap.size∧g≠b) X.1 X.2.1 X.2.2) :
  RowG T ((((w.setCell ⟨g,i*8,none⟩ (.int .i64 X.1.kind)).setCell ⟨g,i*8+1,none⟩ (.string X.1.name)).setCell ⟨g,i*8+2,none⟩ (.int .i64 X.1.sort)).setCell ⟨g,i*8+3,none⟩ (.slice X.2.1 X.1.kids.length X.2.2))
   base F (.slice (Option.some ⟨g,0,none⟩) n cap) (its.set i (X,its[i].2)):=by
 subst hn;have hown:=own_set (own_set (own_set (own_set h.own (i*8) (.int .i64 X.1.kind)) (i*8+1) (.string X.1.name)) (i*8+2) (.int .i64 X.1.sort)) (i*8+3) (.slice X.2.1 X.1.kids.length X.2.2);have hl:=qeo its;have e:=itCells_set (bits its) (2*i) X (by omega);rw[show 2*i*4=i*8 by omega,(qk5 its i hi X).1]at e;unfold bCells at hown;rw[e]at hown;refine⟨by rw[List.length_set];exact hown,fun x hx=>?_⟩;have key:∀(t:Tm) A c,RepP w (fun b=>F b∧b<w.heap.size∧g≠b) t A c→RepP ((((w.setCell ⟨g,i*8,none⟩ (.int .i64 X.1.kind)).setCell ⟨g,i*8+1,none⟩ (.string X.1.name)).setCell ⟨g,i*8+2,none⟩ (.int .i64 X.1.sort)).setCell ⟨g,i*8+3,none⟩ (.slice X.2.1 X.1.kids.length X.2.2))
   (fun b=>F b∧b<((((w.setCell ⟨g,i*8,none⟩ (.int .i64 X.1.kind)).setCell ⟨g,i*8+1,none⟩ (.string X.1.name)).setCell ⟨g,i*8+2,none⟩ (.int .i64 X.1.sort)).setCell ⟨g,i*8+3,none⟩ (.slice X.2.1 X.1.kids.length X.2.2)).heap.size∧(Value.slice (Option.some ⟨g,0,none⟩) its.length cap).ownBlock≠Option.some b) t A c:=fun t A c hr=>by
  refine RepP.mono ?_ ?_ _ _ _ hr
  ·rintro b ⟨h1,h2,h3⟩;exact⟨h1,by simpa[World.setCell]using h2,fun e=>h3 (by injection e)⟩
  ·rintro p ⟨h1,h2,h3⟩;have hq:∀o,(⟨g,o,none⟩:Addr)≠p:=fun o e=>h3 (by rw[←e]);rw[World.cell?_setCell_other _ _ _ _ (hq _),World.cell?_setCell_other _ _ _ _ (hq _),World.cell?_setCell_other _ _ _ _ (hq _),World.cell?_setCell_other _ _ _ _ (hq _)]
 have old:∀(t:Tm) A c,RepP w (fun b=>F b∧b<w.heap.size∧(Value.slice (Option.some ⟨g,0,none⟩) its.length cap).ownBlock≠Option.some b) t A c→RepP w (fun b=>F b∧b<w.heap.size∧g≠b) t A c:=fun t A c hr=>
  RepP.mono (fun b ⟨h1,h2,h3⟩=>⟨h1,h2,fun e=>h3 (by rw[e];rfl)⟩) (fun _ _=>rfl) _ _ _ hr
 rcases List.mem_or_eq_of_mem_set hx with hx|rfl
 ·exact⟨key _ _ _ (old _ _ _ (h.reps x hx).1),key _ _ _ (old _ _ _ (h.reps x hx).2)⟩
 ·exact⟨key _ _ _ (hX),key _ _ _ (old _ _ _ (h.reps its[i] (List.getElem_mem hi)).2)⟩
theorem RowG.set1 {g cap n:Nat} (h:RowG T w base F (.slice (Option.some ⟨g,0,none⟩) n cap) its) (hn:n=its.length) (i:Nat) (hi:i<its.length) (X:It) (hX:RepP w (fun b=>F b∧b<w.heap.size∧g≠b) X.1 X.2.1 X.2.2) :
  RowG T ((((w.setCell ⟨g,i*8+4,none⟩ (.int .i64 X.1.kind)).setCell ⟨g,i*8+4+1,none⟩ (.string X.1.name)).setCell ⟨g,i*8+4+2,none⟩ (.int .i64 X.1.sort)).setCell ⟨g,i*8+4+3,none⟩ (.slice X.2.1 X.1.kids.length X.2.2))
   base F (.slice (Option.some ⟨g,0,none⟩) n cap) (its.set i (its[i].1,X)):=by
 subst hn;have hown:=own_set (own_set (own_set (own_set h.own (i*8+4) (.int .i64 X.1.kind)) (i*8+4+1) (.string X.1.name)) (i*8+4+2) (.int .i64 X.1.sort)) (i*8+4+3) (.slice X.2.1 X.1.kids.length X.2.2);have hl:=qeo its;have e:=itCells_set (bits its) (2*i+1) X (by omega);rw[show(2*i+1)*4=i*8+4 by omega,(qk5 its i hi X).2]at e;unfold bCells at hown;rw[e]at hown;refine⟨by rw[List.length_set];exact hown,fun x hx=>?_⟩;have key:∀(t:Tm) A c,RepP w (fun b=>F b∧b<w.heap.size∧g≠b) t A c→RepP ((((w.setCell ⟨g,i*8+4,none⟩ (.int .i64 X.1.kind)).setCell ⟨g,i*8+4+1,none⟩ (.string X.1.name)).setCell ⟨g,i*8+4+2,none⟩ (.int .i64 X.1.sort)).setCell ⟨g,i*8+4+3,none⟩ (.slice X.2.1 X.1.kids.length X.2.2))
   (fun b=>F b∧b<((((w.setCell ⟨g,i*8+4,none⟩ (.int .i64 X.1.kind)).setCell ⟨g,i*8+4+1,none⟩ (.string X.1.name)).setCell ⟨g,i*8+4+2,none⟩ (.int .i64 X.1.sort)).setCell ⟨g,i*8+4+3,none⟩ (.slice X.2.1 X.1.kids.length X.2.2)).heap.size∧(Value.slice (Option.some ⟨g,0,none⟩) its.length cap).ownBlock≠Option.some b) t A c:=fun t A c hr=>by
  refine RepP.mono ?_ ?_ _ _ _ hr
  ·rintro b ⟨h1,h2,h3⟩;exact⟨h1,by simpa[World.setCell]using h2,fun e=>h3 (by injection e)⟩
  ·rintro p ⟨h1,h2,h3⟩;have hq:∀o,(⟨g,o,none⟩:Addr)≠p:=fun o e=>h3 (by rw[←e]);rw[World.cell?_setCell_other _ _ _ _ (hq _),World.cell?_setCell_other _ _ _ _ (hq _),World.cell?_setCell_other _ _ _ _ (hq _),World.cell?_setCell_other _ _ _ _ (hq _)]
 have old:∀(t:Tm) A c,RepP w (fun b=>F b∧b<w.heap.size∧(Value.slice (Option.some ⟨g,0,none⟩) its.length cap).ownBlock≠Option.some b) t A c→RepP w (fun b=>F b∧b<w.heap.size∧g≠b) t A c:=fun t A c hr=>
  RepP.mono (fun b ⟨h1,h2,h3⟩=>⟨h1,h2,fun e=>h3 (by rw[e];rfl)⟩) (fun _ _=>rfl) _ _ _ hr
 rcases List.mem_or_eq_of_mem_set hx with hx|rfl
 ·exact⟨key _ _ _ (old _ _ _ (h.reps x hx).1),key _ _ _ (old _ _ _ (h.reps x hx).2)⟩
 ·exact⟨key _ _ _ (old _ _ _ (h.reps its[i] (List.getElem_mem hi)).1),key _ _ _ (hX)⟩
theorem RepLP.items {P:Nat→Prop}:∀{ps:List Bd} {b off:Nat},RepLP w P (flat ps) b off→∃its:List IB,its.map IB.bd=ps∧(∀j u,(bCells its)[j]?=Option.some u→w.cell? ⟨b,off+j,none⟩=Option.some u)∧
  ∀x∈its,RepP w P x.1.1 x.1.2.1 x.1.2.2∧RepP w P x.2.1 x.2.2.1 x.2.2.2
 | [],_,_,_=>⟨[],rfl,fun j u h=>by simp[bCells,bits,itCells]at h,by simp⟩
 | p::r,b,off,h=>by
  rw[flat,RepLP,RepLP]at h;obtain⟨⟨A,c,k0,k1,k2,k3,hr1⟩,⟨A',c',l0,l1,l2,l3,hr2⟩,h⟩:=h;obtain⟨its,e,hc,hr⟩:=RepLP.items h;refine⟨((p.1,A,c),(p.2,A',c'))::its,by rw[List.map_cons,e];rfl,fun j u hj=>?_,fun x hx=>?_⟩
  ·simp only[bCells,bits,itCells,Tm.cells,List.cons_append,List.nil_append]at hj
   match j with
   | 0=>simp at hj;subst hj;exact k0
   | 1=>simp at hj;subst hj;exact k1
   | 2=>simp at hj;subst hj;exact k2
   | 3=>simp at hj;subst hj;exact k3
   | 4=>simp at hj;subst hj;exact l0
   | 5=>simp at hj;subst hj;exact l1
   | 6=>simp at hj;subst hj;exact l2
   | 7=>simp at hj;subst hj;exact l3
   | j+8=>
    have:=hc j u (by simpa[bCells]using hj);rw[show off+(j+8)=off+4+4+j by omega];exact this
  ·rcases List.mem_cons.1 hx with rfl|hx
   ·exact⟨hr1,hr2⟩
   ·exact hr x hx
end
def qoc (G:Nat→Prop) (u:Tm) (g o rb:Nat) (q:Bool) (w:World) (e:Ending) (w':World):Prop:=
 e=.returned (.tuple #[])∧∃A c Y Z,Below w.heap.size w Y∧RepP Y (fun k=>G k∨(w.heap.size≤k∧k<Y.heap.size)) u A c∧
  Below Y.heap.size ((((Y.setCell ⟨g,o,none⟩ (.int .i64 u.kind)).setCell ⟨g,o+1,none⟩ (.string u.name)).setCell ⟨g,o+2,none⟩ (.int .i64 u.sort)).setCell ⟨g,o+3,none⟩ (.slice A u.kids.length c)) Z∧
  w'=Z.setCell ⟨rb,0,none⟩ (.bool (q && decide (u.valid=0)))
structure Kept (S:Nat→Prop) (w w':World):Prop where
 size:w.heap.size≤w'.heap.size
 same:∀b,b<w.heap.size→¬S b→w'.heap[b]?=w.heap[b]?
 os:w'.os=w.os
 tape:w'.tape=w.tape
 output:w'.output=w.output
theorem Kept.trans {S:Nat→Prop} {a b c:World} (h:Kept S a b) (k:Kept S b c):Kept S a c:=
 ⟨Nat.le_trans h.size k.size,fun x hx hs=>(k.same x (Nat.lt_of_lt_of_le hx h.size) hs).trans (h.same x hx hs),k.os.trans h.os,k.tape.trans h.tape,k.output.trans h.output⟩
theorem Kept.refl (S:Nat→Prop) (w:World):Kept S w w:=⟨Nat.le_refl _,fun _ _ _=>rfl,rfl,rfl,rfl⟩
theorem Kept.mono {S S':Nat→Prop} {w w':World} (h:Kept S w w') (hS:∀b,S b→S' b):Kept S' w w':=⟨h.size,fun b hb hs=>h.same b hb fun h=>hs (hS b h),h.os,h.tape,h.output⟩
theorem Kept.below {S:Nat→Prop} {w w':World} {B:Nat} (h:Kept S w w') (hB:B≤w.heap.size) (hS:∀b,b<B→¬S b):Below B w w':=
 ⟨h.os,h.tape,h.output,h.size,fun b hb=>h.same b (Nat.lt_of_lt_of_le hb hB) (hS b hb)⟩
theorem Kept.cell {S:Nat→Prop} {w w':World} (h:Kept S w w') {p:Addr} (hb:p.block<w.heap.size) (hS:¬S p.block):w'.cell? p=w.cell? p:=World.cell?_of_block (h.same _ hb hS)
theorem set4_size {W:World} {g o:Nat} {x y z v:Value}:((((W.setCell ⟨g,o,none⟩ x).setCell ⟨g,o+1,none⟩ y).setCell ⟨g,o+2,none⟩ z).setCell ⟨g,o+3,none⟩ v).heap.size=W.heap.size:=by simp[World.setCell]
theorem qoc.row {T:TypeId} {base:Nat} {F G:Nat→Prop} {u:Tm} {g n cap i rb:Nat} {its:List IB} {q:Bool} {w w':World} {e:Ending} (hrow:RowG T w base F (.slice (some ⟨g,0,none⟩) n cap) its) (hn:n=its.length) (hi:i<its.length)
  (hGF:∀k,G k→F k∧k<w.heap.size∧k≠g) (hF:∀k,w.heap.size≤k→F k) (hrF:¬F rb) (hrg:rb≠g) :
  (qoc G u g (i*8) rb q w e w'→∃A c,RowG T w' base F (.slice (some ⟨g,0,none⟩) n cap) (its.set i ((u,A,c),its[i].2)))∧
  (qoc G u g (i*8+4) rb q w e w'→∃A c,RowG T w' base F (.slice (some ⟨g,0,none⟩) n cap) (its.set i (its[i].1,(u,A,c)))):=by
 have hgl:=(hrow.lt g rfl).2;have key:∀(its':List IB) (Y Y4 Z:World),Below w.heap.size w Y→Y4.heap.size=Y.heap.size→RowG T Y4 base F (.slice (some ⟨g,0,none⟩) n cap) its'→Below Y.heap.size Y4 Z→RowG T (Z.setCell ⟨rb,0,none⟩ (.bool (q && decide (u.valid=0)))) base F (.slice (some ⟨g,0,none⟩) n cap) its':=fun its' Y Y4 Z h1 h2 h3 h4=>by
  have h5:RowG T Z base F (.slice (some ⟨g,0,none⟩) n cap) its':=h3.below (by rw[h2];exact h4);refine h5.keep (by simp[World.setCell]) (fun b hb hor=>Below.heap_setCell _ _ _ _ ?_);rintro rfl;rcases hor with h|h
  ·exact hrF h
  ·injection h with h;exact hrg h.symm
 have rep:∀(Y:World) (A:Option Addr) (c:Nat),Below w.heap.size w Y→RepP Y (fun k=>G k∨(w.heap.size≤k∧k<Y.heap.size)) u A c→RepP Y (fun b=>F b∧b<Y.heap.size∧g≠b) u A c:=fun Y A c h1 h2=>
  RepP.mono (fun k h=>by
   have s:=h1.size;rcases h with h|⟨h3,h4⟩
   ·obtain⟨a,b,d⟩:=hGF k h;exact⟨a,by omega,fun e=>d e.symm⟩
   ·exact⟨hF k h3,h4,by omega⟩) (fun _ _=>rfl) _ _ _ h2
 constructor
 ·rintro⟨-,A,c,Y,Z,h1,h2,h3,rfl⟩;exact⟨A,c,key _ Y _ Z h1 set4_size ((hrow.below h1).set0 hn i hi (u,A,c) (rep Y A c h1 h2)) h3⟩
 ·rintro⟨-,A,c,Y,Z,h1,h2,h3,rfl⟩;exact⟨A,c,key _ Y _ Z h1 set4_size ((hrow.below h1).set1 hn i hi (u,A,c) (rep Y A c h1 h2)) h3⟩
def FreeU (xb:Nat) (v:Value) (w:World) (b:Nat):Prop:=b≠xb∧b<w.heap.size∧v.ownBlock≠some b
theorem FreeU.rep {xb:Nat} {v:Value} {w w':World} {t:Tm} {A:Option Addr} {c:Nat} (h:RepP w (FreeU xb v w) t A c) (hb:Below w.heap.size w w'):RepP w' (FreeU xb v w') t A c:=
 RepP.mono (fun _ ⟨h1,h2,h3⟩=>⟨h1,Nat.lt_of_lt_of_le h2 hb.size,h3⟩) (fun _ hp=>hb.cell hp.2.1) _ _ _ h
def qfo (t u:Tm):Int:=if t.valid≠0 then t.valid else u.valid
theorem qpi (t u:Tm) (A A':Option Addr) (c c':Nat) (w:World) (ht:t.size≤1000000) (hu:u.size≤1000000) (hrt:RepT w w.heap.size t A c) (hru:RepT w w.heap.size u A' c') :
  Calls Tryz.prog 128 #[t.val A c,u.val A' c'] w fun e w'=>e=.returned (.int .i64 (qfo t u))∧Lay w.heap.size w w':=by
 obtain⟨V,hV⟩:∃V,V=(w.alloc (boxT t A c)).alloc (boxT u A' c'):=⟨_,rfl⟩;have h2:TwoV w t u A A' c c' V:=by rw[hV];exact TwoV.new _ _ _ _ _ _ _
 have V1:=qax t A c V ht (hrt.go h2.lay.below h2.lay.size);have V2:Hid (∀Z,Lay V.heap.size V Z→Calls Tryz.prog 63 #[u.val A' c'] Z fun e w'=>e=.returned (.int .i64 u.valid)∧Lay Z.heap.size Z w'):=hdzz fun Z h=>qax u A' c' Z hu (hru.go (qdq h2.lay.below h.below h2.lay.size) (Nat.le_trans h2.lay.size h.size));obtain⟨r,hr⟩:∃r,r=qfo t u:=⟨_,rfl⟩;rw[←hr];unfold qfo at hr;obtain⟨vt,hvt⟩:∃x,x=t.valid:=⟨_,rfl⟩;obtain⟨vu,hvu⟩:∃x,x=u.valid:=⟨_,rfl⟩;rw[←hvt,←hvu]at hr;rw[←hvt]at V1;rw[←hvu]at V2;clear hvt hvu;have HR:=hdzz hr;clear hr;have H2:=hdzz h2;obtain⟨a0,a1,a2,a3,-⟩:=qaa h2.one;clear h2;simp only[boxT]at hV;have HV:=hdzz hV;clear hV;have V1:=hdzz V1;simp only[Tm.val]at V1 V2 ⊢;go_enter Tryz.func128,Tryz.ntmps128
 go_wp2_with fail
 rw[←HV.out];go_wp2_with fail
 refine V1.out.mono ?_;clear V1 a0 a1 a2 a3;rintro e w1 ⟨rfl,hl1⟩;rcases eq_facts vt 0 with⟨h0,e0,n0⟩|⟨h0,e0,n0⟩
 ·have hr:=HR.out.trans (if_neg (by simpa using h0));subst h0;subst hr;obtain⟨b0,b1,b2,b3,-⟩:=qaa (H2.out.go hl1).two;have V2:=hdzz (V2.out w1 hl1);have HL:=hdzz (H2.out.go hl1).lay;clear hl1 HR;go_wp2_with fail
  refine V2.out.mono ?_;clear V2;rintro e w2 ⟨rfl,hl2⟩;go_wp2_with fail
  go_ret
  exact⟨rfl,HL.out.trans (hl2.mono HL.out.size)⟩
 ·have hr:=HR.out.trans (if_pos h0);subst hr;have HL:=hdzz (H2.out.go hl1).lay;clear hl1 HR h0;go_wp2_with fail
  go_ret
  exact⟨rfl,HL.out⟩
theorem qks (t:Tm):t.kids.length≤t.size:=by
 obtain⟨k,n,s,l⟩:=t;have:=Tm.length_le_sizes l;rw[Tm.size];show l.length≤_;omega
structure AtU (xb n bx by':Nat) (ob o1 o2:Obj) (w Z:World):Prop where
 bel:Below xb w Z
 old:∀k,k<n→k≠xb→Z.heap[k]?=w.heap[k]?
 st:Z.heap[xb]?=some ob
 one:Z.heap[bx]?=some o1
 two:Z.heap[by']?=some o2
 size:n≤Z.heap.size
theorem AtU.go {xb n bx by':Nat} {ob o1 o2:Obj} {w Z Z':World} (h:AtU xb n bx by' ob o1 o2 w Z) (hb:Below Z.heap.size Z Z'):AtU xb n bx by' ob o1 o2 w Z':=by
 have hx:=(sltz h.st);exact⟨h.bel.trans (hb.mono (Nat.le_of_lt hx)),fun k hk hx=>(hb.block k (Nat.lt_of_lt_of_le hk h.size)).trans (h.old k hk hx),(hb.block _ hx).trans h.st,(hb.block _ (sltz h.one)).trans h.one,(hb.block _ (sltz h.two)).trans h.two,Nat.le_trans h.size hb.size⟩
theorem qf3 {w:World} {ops:Array Oper} {rest:List Oper} {o:Oper} {a:Act} {Q:Exit→Act→World→Prop} {m k r:Value} {t:TypeId} (hgd:o.guard=none) (om ok:Operand)
  (ho:o.op=.lookup t om ok false) (hm:a.eval om=m) (hk:a.eval ok=k) (hrun:(Instr.lookup t m k false).run Tryz.prog w=.ok r w) (h:wpList Tryz.prog ops Q rest (a.put o.dst r) w):wpList Tryz.prog ops Q (o::rest) a w:=by
 refine wpList_plain hgd fun K hK=>?_;unfold Oper.wp;simp[execOp,ho,hm,hk,hrun,Result.andThen];exact hK _ _ h
structure One (w:World) (x:Tm) (A:Option Addr) (c:Nat) (V:World):Prop where
 lay:Lay w.heap.size w V
 one:V.heap[w.heap.size]?=some (boxT x A c)
theorem One.new (w:World) (x:Tm) (A:Option Addr) (c:Nat):One w x A c (w.alloc (boxT x A c)):=⟨(Lay.refl _ _).alloc (Nat.le_refl _) _,heap_alloc_new _ _⟩
theorem One.lt {w V:World} {x:Tm} {A:Option Addr} {c:Nat} (h:One w x A c V):w.heap.size<V.heap.size:=(sltz h.one)
theorem One.go {w V W:World} {x:Tm} {A:Option Addr} {c:Nat} (h:One w x A c V) (hl:Lay V.heap.size V W):One w x A c W:=
 ⟨h.lay.trans (hl.mono h.lay.size),(hl.below.block _ h.lt).trans h.one⟩
structure KeepS (wr:World) (v:Value) (Y:World):Prop where
 cell:∀p:Addr,p.block<wr.heap.size→v.ownBlock≠some p.block→Y.cell? p=wr.cell? p
theorem kids3 {w:World} {P:Nat→Prop} {t:Tm} {A:Option Addr} {c:Nat} (h:RepP w P t A c):t.name.size≤maxLen∧t.kids.length≤c∧c≤maxLen∧(t.kids=[]∨∃b off,A=some ⟨b,off,none⟩∧P b∧RepLP w P t.kids b off):=by
 obtain⟨k,n,s,l⟩:=t;rw[qa3]at h;exact h
theorem size3 (t:Tm):t.size=1+Tm.sizes t.kids:=by obtain⟨k,n,s,l⟩:=t;rw[Tm.size];rfl
structure Four (w:World) (o1 o2 o3 o4:Obj) (Z:World):Prop where
 one:Z.heap[w.heap.size]?=some o1
 two:Z.heap[w.heap.size+1]?=some o2
 three:Z.heap[w.heap.size+1+1]?=some o3
 four:Z.heap[w.heap.size+1+1+1]?=some o4
 bel:Below w.heap.size w Z
theorem Four.lt {w Z:World} {o1 o2 o3 o4:Obj} (h:Four w o1 o2 o3 o4 Z):w.heap.size+4≤Z.heap.size:=(sltz h.four)
theorem Four.new (w:World) (o1 o2 o3 o4:Array Value) (T:TypeId):Four w (.cells o1 T (0,0)) (.cells o2 T (0,0)) (.cells o3 T (0,0)) (.cells o4 T (0,0)) ((((w.alloc (.cells o1 T)).alloc (.cells o2 T)).alloc (.cells o3 T)).alloc (.cells o4 T)):=by
 have s1:(w.alloc (.cells o1 T)).heap.size=w.heap.size+1:=by simp
 have s2:((w.alloc (.cells o1 T)).alloc (.cells o2 T)).heap.size=w.heap.size+1+1:=by simp
 have s3:(((w.alloc (.cells o1 T)).alloc (.cells o2 T)).alloc (.cells o3 T)).heap.size=w.heap.size+1+1+1:=by simp
 refine⟨?_,?_,?_,?_,?_⟩
 ·rw[Below.heap_alloc _ _ _ (by omega),Below.heap_alloc _ _ _ (by omega),Below.heap_alloc _ _ _ (by omega)];exact heap_alloc_new _ _
 ·rw[Below.heap_alloc _ _ _ (by omega),Below.heap_alloc _ _ _ (by omega)];have h:=heap_alloc_new (w.alloc (.cells o1 T)) (.cells o2 T);rw[s1]at h;exact h
 ·rw[Below.heap_alloc _ _ _ (by omega)];have h:=heap_alloc_new ((w.alloc (.cells o1 T)).alloc (.cells o2 T)) (.cells o3 T);rw[s2]at h;exact h
 ·have h:=heap_alloc_new (((w.alloc (.cells o1 T)).alloc (.cells o2 T)).alloc (.cells o3 T)) (.cells o4 T);rw[s3]at h;exact h
 ·exact((((Below.refl _ _).alloc (Nat.le_refl _) _).alloc (by omega) _).alloc (by omega) _).alloc (by omega) _
theorem Four.keep {w Z Z':World} {o1 o2 o3 o4:Obj} (h:Four w o1 o2 o3 o4 Z) (hb:∀k,w.heap.size≤k→k<w.heap.size+4→Z'.heap[k]?=Z.heap[k]?) (hbel:Below w.heap.size w Z'):Four w o1 o2 o3 o4 Z':=
 ⟨(hb _ (by omega) (by omega)).trans h.one,(hb _ (by omega) (by omega)).trans h.two,(hb _ (by omega) (by omega)).trans h.three,(hb _ (by omega) (by omega)).trans h.four,hbel⟩
structure TwoA (w:World) (o1 o2:Obj) (Z:World):Prop where
 one:Z.heap[w.heap.size]?=some o1
 two:Z.heap[w.heap.size+1]?=some o2
 bel:Below w.heap.size w Z
theorem TwoA.lt {w Z:World} {o1 o2:Obj} (h:TwoA w o1 o2 Z):w.heap.size+2≤Z.heap.size:=(sltz h.two)
theorem TwoA.keep {w Z Z':World} {o1 o2:Obj} (h:TwoA w o1 o2 Z) (hb:∀k,w.heap.size≤k→k<w.heap.size+2→Z'.heap[k]?=Z.heap[k]?) (hbel:Below w.heap.size w Z'):TwoA w o1 o2 Z':=
 ⟨(hb _ (by omega) (by omega)).trans h.one,(hb _ (by omega) (by omega)).trans h.two,hbel⟩
theorem TwoA.go {w Z Z':World} {o1 o2:Obj} (h:TwoA w o1 o2 Z) (hb:Below Z.heap.size Z Z'):TwoA w o1 o2 Z':=
 h.keep (fun k _ hk=>hb.block k (by have:=h.lt;omega)) (h.bel.trans (hb.mono (by have:=h.lt;omega)))
theorem rowT_keep {w w':World} {base:Nat} {F F':Nat→Prop} {v:Value} {its:List It} (h:RowT w base F v its) (hs:w.heap.size≤w'.heap.size) (hv:∀k,v.ownBlock=some k→w'.heap[k]?=w.heap[k]?)
  (hF:∀b,F b→b<w.heap.size→v.ownBlock≠some b→F' b∧w'.heap[b]?=w.heap[b]?):RowT w' base F' v its:=by
 refine⟨⟨h.own.1,?_⟩,fun x hx=>?_⟩
 ·rcases h.own.2 with hn|⟨g,cap,cur,hv',hb,hg,r⟩
  ·exact .inl hn
  ·exact .inr ⟨g,cap,cur,hv',hb,by rw[hv g (by rw[hv'];rfl)];exact hg,r⟩
 ·refine RepP.mono ?_ ?_ _ _ _ (h.reps x hx)
  ·rintro b ⟨h1,h2,h3⟩;exact⟨(hF b h1 h2 h3).1,by omega,h3⟩
  ·rintro p ⟨h1,h2,h3⟩;exact World.cell?_of_block (hF p.block h1 h2 h3).2
theorem qje:∀(l:List Tm) (i:Nat) (h:i<l.length),Tm.sizes (l.take i)+l[i].size≤Tm.sizes l
 | t::l,0,_=>by simp[Tm.sizes]
 | t::l,i+1,h=>by
  rw[List.take_succ_cons,Tm.sizes,Tm.sizes];have:=qje l i (by simpa using h);simp only[List.getElem_cons_succ];omega
theorem take_set {α:Type} (l:List α) (i:Nat) (h:i<l.length) (x:α):(l.set i x).take (i+1)=l.take i++[x]:=by
 rw[List.take_succ_eq_append_getElem (by simpa using h),List.getElem_set_self,List.take_set_of_le (Nat.le_refl _)]
theorem qoe {y z:Tm} (hy:y.kind=1∧y.kids=[]) (hz:z.kind=1∧z.kids=[]) (hn:y.name=z.name) (hs:y.sort=z.sort):y=z:=by
 obtain⟨a1,a2,a3,a4⟩:=y;obtain⟨b1,b2,b3,b4⟩:=z;obtain⟨e1,e2⟩:=hy;obtain⟨e3,e4⟩:=hz;simp only[Tm.kind,Tm.name,Tm.sort,Tm.kids]at e1 e2 e3 e4 hn hs;rw[e1,e2,e3,e4,hn,hs]
theorem qj6 {w w':World} {o:Oper} {a:Act} {K:Act→World→Prop} {Q:Exit→Act→World→Prop} {m k x:Value} (_hgd:o.guard=none) (t:TypeId) (om ok ox:Operand)
  (ho:o.op=.mapUpdate t om ok ox) (hm:a.eval om=m) (hk:a.eval ok=k) (hx:a.eval ox=x) (hrun:(Instr.mapUpdate t m k x).run Tryz.prog w=.ok () w') (h:K (a.put o.dst undef) w'):Oper.wp Tryz.prog o a w K Q:=by
 unfold Oper.wp;simp[execOp,ho,hm,hk,hx,hrun,Result.andThen];exact h
theorem qmg (s:List Bd) (x t y:Tm):hasS (s++[(x,t)]) y=(hasS s y || decide (x=y)):=by
 rw[Bool.eq_iff_iff,Bool.or_eq_true,qdd,qdd,decide_eq_true_iff];simp only[List.mem_append,List.mem_singleton];constructor
 ·rintro⟨b,hb|rfl,e⟩
  ·exact .inl ⟨b,hb,e⟩
  ·exact .inr e
 ·rintro(⟨b,hb,e⟩|e)
  ·exact⟨b,.inl hb,e⟩
  ·exact⟨(x,t),.inr rfl,e⟩
theorem qhi {s:List Bd} {x t y:Tm} (h:x≠y):getS (s++[(x,t)]) y=getS s y:=by
 induction s with
 | nil=>simp[getS,h]
 | cons b r ih=>
  rw[List.cons_append,getS,getS]
  split
  ·rfl
  ·exact ih
theorem MapT.store {w:World} {b n:Nat} {G:Nat→Prop} {s:List Bd} (h:MapT w b n G s) (hn:n<maxLen) {x:Tm} (k1:x.kind=1) (k2:x.kids=[]) (k3:qaw x) (hno:hasS s x=false) {t:Tm} {A:Option Addr} {c:Nat} (hr:RepP w G t A c) (hG:∀k,G k→k<w.heap.size∧k≠b) :
  ∃w',(Instr.mapUpdate 151 (.map (some b)) (keyV x) (t.val A c)).run Tryz.prog w=.ok () w'∧MapT w' b (n+1) G (s++[(x,t)])∧w.mapTurned w' b:=by
 obtain⟨F,h1,h2⟩:=h;obtain⟨w',hrun,hI,ht⟩:=h1.store hn k3 (t.val A c);have keep:∀(u:Tm) (U:Option Addr) (cu:Nat),RepP w G u U cu→RepP w' G u U cu:=fun u U cu hu=>RepP.mono (fun _ h=>h) (fun p hp=>World.cell?_of_block (ht.grown.block p.block (hG _ hp).1 (fun e=>by injection e with e;exact(hG _ hp).2 e))) _ _ _ hu;refine⟨w',hrun,⟨_,hI,fun y q1 q2 q3=>?_⟩,ht⟩;have he:(x=y)↔(y.name=x.name∧y.sort=x.sort):=⟨fun e=>by rw[e];exact⟨rfl,rfl⟩,fun e=>qoe ⟨k1,k2⟩ ⟨q1,q2⟩ e.1.symm e.2.symm⟩;rw[qmg];by_cases e:x=y
 ·right;rw[if_pos (he.1 e)];refine⟨by simp[e],A,c,?_,?_⟩
  ·rw[←e,qeg (by rw[hno];simp)]
  ·rw[←e,qeg (by rw[hno];simp)];exact keep _ _ _ hr
 ·rw[if_neg (fun g=>e (he.2 g)),qhi e];rcases h2 y q1 q2 q3 with⟨g1,g2⟩|⟨g1,A',c',g2,g3⟩
  ·exact .inl ⟨by rw[g1];simp[e],g2⟩
  ·exact .inr ⟨by rw[g1];rfl,A',c',g2,keep _ _ _ g3⟩
def qob (mb B:Nat) (r:List Bd×Bool) (N:Nat) (w:World) (e:Ending) (w':World):Prop:=
 e=.returned (.bool r.2)∧∃nn,nn≤N∧MapT w' mb nn (fun b=>b<B) r.1∧Below mb w w'∧∀k,k<w.heap.size→k≠mb→w'.heap[k]?=w.heap[k]?
structure MAt (mb B nn:Nat) (m:List Bd) (w:World) (o1 o2:Obj) (Z:World):Prop where
 map:MapT Z mb nn (fun b=>b<B) m
 b1:Z.heap[w.heap.size]?=some o1
 b2:Z.heap[w.heap.size+1]?=some o2
 bel:Below mb w Z
 old:∀k,k<w.heap.size→k≠mb→Z.heap[k]?=w.heap[k]?
section
variable {mb B nn nn':Nat} {m m':List Bd} {w Z Z':World} {o1 o2:Obj}
theorem MAt.lt (h:MAt mb B nn m w o1 o2 Z):w.heap.size+2≤Z.heap.size:=(sltz h.b2)
theorem MAt.go (h:MAt mb B nn m w o1 o2 Z) (hB:B≤mb) (hb:Below Z.heap.size Z Z'):MAt mb B nn m w o1 o2 Z':=by
 have hl:=h.lt;have hm:=h.map.lt;exact⟨h.map.keep (hb.block _ hm) (fun p (hp:p.block<B)=>hb.cell (by omega)),(hb.block _ (by omega)).trans h.b1,(hb.block _ (by omega)).trans h.b2,h.bel.trans (hb.mono (by omega)),fun k hk hne=>(hb.block k (by omega)).trans (h.old k hk hne)⟩
theorem MAt.turn (h:MAt mb B nn m w o1 o2 Z) (hmw:mb<w.heap.size) (hm:MapT Z' mb nn' (fun b=>b<B) m') (ht:Z.mapTurned Z' mb):MAt mb B nn' m' w o1 o2 Z':=by
 have hl:=h.lt;have hk:∀j,j<Z.heap.size→j≠mb→Z'.heap[j]?=Z.heap[j]?:=fun j hj hne=>ht.grown.block j hj (fun e=>by injection e with e;exact hne e);exact⟨hm,(hk _ (by omega) (by omega)).trans h.b1,(hk _ (by omega) (by omega)).trans h.b2,h.bel.grown ht.grown (by omega) (fun j e=>by injection e with e;omega),fun k h1 h2=>(hk k (by omega) h2).trans (h.old k h1 h2)⟩
theorem MAt.call (h:MAt mb B nn m w o1 o2 Z) (hmw:mb<w.heap.size) (hm:MapT Z' mb nn' (fun b=>b<B) m') (hb:Below mb Z Z') (ho:∀k,k<Z.heap.size→k≠mb→Z'.heap[k]?=Z.heap[k]?):MAt mb B nn' m' w o1 o2 Z':=by
 have hl:=h.lt;exact⟨hm,(ho _ (by omega) (by omega)).trans h.b1,(ho _ (by omega) (by omega)).trans h.b2,h.bel.trans hb,fun k h1 h2=>(ho k (by omega) h2).trans (h.old k h1 h2)⟩
theorem MAt.done (h:MAt mb B nn m w o1 o2 Z) {r:List Bd×Bool} {N:Nat} (hr:r.1=m) (hN:nn≤N):qob mb B r N w (.returned (.bool r.2)) Z:=⟨rfl,nn,hN,by rw[hr];exact h.map,h.bel,h.old⟩
end
mutual
theorem qko:∀(p t:Tm) (m:List Bd),t.valid=0→(∀b∈m,b.2.valid=0)→∀b∈(p.mat t m).1,b.2.valid=0
 | .mk k n s l,t,m,ht,hm,b,hb=>by
  rw[Tm.mat]at hb
  split at hb
  ·split at hb
   ·exact hm b hb
   ·rcases List.mem_append.1 hb with h|h
    ·exact hm b h
    ·rw[List.mem_singleton]at h;rw[h];exact ht
  ·split at hb
   ·exact ql6 l t.kids m (fun x hx=>qb1 ht hx) hm b hb
   ·exact hm b hb
theorem ql6:∀(l r:List Tm) (m:List Bd),(∀x∈r,x.valid=0)→(∀b∈m,b.2.valid=0)→∀b∈(Tm.mats l r m).1,b.2.valid=0
 | [],r,m,hr,hm,b,hb=>by
  cases r<;>(rw[Tm.mats]at hb;exact hm b hb;try simp)
 | p::l,[],m,hr,hm,b,hb=>by rw[Tm.mats]at hb;exact hm b hb;simp
 | p::l,t::r,m,hr,hm,b,hb=>by
  rw[Tm.mats]at hb;have h1:=qko p t m (hr t (List.mem_cons_self ..)) hm
  split at hb
  ·exact ql6 l r _ (fun x hx=>hr x (List.mem_cons_of_mem _ hx)) h1 b hb
  ·exact h1 b hb
end
theorem qpj (mb B:Nat) (hB:B≤mb) (p t:Tm) (P T:Option Addr) (cp ct:Nat) (m:List Bd) (nn:Nat) (w:World) (hk:p.kind=1) (hvp:p.valid=0) (hvt:t.valid=0) (hnn:nn≤1000000) (hms:∀b∈m,b.2.valid=0) (hm:MapT w mb nn (fun b=>b<B) m)
  (hrp:RepP w (fun b=>b<B) p P cp) (hrt:RepP w (fun b=>b<B) t T ct) :
  Calls Tryz.prog 129 #[p.val P cp,t.val T ct,.map (some mb)] w (qob mb B (p.mat t m) (nn+1) w):=by
 have mixed:=mixz;obtain⟨hkids,hkey⟩:=check_keyable (check_valid hvp) hk;have hmw:=hm.lt;have sp:=qcl hvp;have stt:=qcl hvt;obtain⟨V,hV⟩:∃V,V=(w.alloc (boxT p P cp)).alloc (boxT t T ct):=⟨_,rfl⟩;have h2:TwoV w p t P T cp ct V:=by rw[hV];exact TwoV.new w p t P T cp ct
 have hM:MAt mb B nn m w (boxT p P cp) (boxT t T ct) V:=⟨hm.below h2.lay.below hmw (fun k hk=>by omega),h2.one,h2.two,h2.lay.below.mono (by omega),fun k hk _=>h2.lay.below.block k hk⟩;have IV:=qmf p P cp V;rw[show(p.kind==1)=true by rw[beq_iff_eq];exact hk]at IV;have IV:=hdzz IV;have KE:Hid (∀Z,Calls Tryz.prog 130 #[p.val P cp] Z fun e w'=>e=.returned (keyV p)∧Lay Z.heap.size Z w'):=hdzz fun Z=>key_any p P cp Z;have up:Hid (∀(Z:World) (y:Tm) (Y:Option Addr) (cy:Nat),Below mb w Z→w.heap.size≤Z.heap.size→RepP w (fun b=>b<B) y Y cy→RepT Z Z.heap.size y Y cy):=hdzz fun Z y Y cy hZ hs h=>RepP.mono (fun b (hb:b<B)=>by show b<_;omega) (fun p (hp:p.block<B)=>hZ.cell (by omega)) _ _ _ h;obtain⟨r,hr⟩:∃r,r=p.mat t m:=⟨_,rfl⟩;rw[←hr];rw[ql9,if_pos hk]at hr
 have HR:=hdzz hr;clear hr;have HKI:Hid (p.kind=1∧p.kids=[]∧qaw p):=⟨hk,hkids,hkey⟩;obtain⟨a0,a1,a2,a3,-⟩:=qaa h2.one;obtain⟨b0,b1,b2,b3,-⟩:=qaa h2.two;have HM:=hdzz hM;have HMS:=hdzz hms;have HRP:=hdzz hrp;have HRT:=hdzz hrt;simp only[boxT]at hV;have HV:=hdzz hV;clear hV h2 hM hm hms hrp hrt hk hkids hkey;simp only[Tm.val]at IV KE ⊢;go_enter Tryz.func129,Tryz.ntmps129
 go_wp2_with fail
 rw[←HV.out];go_wp2_with fail
 refine IV.out.mono ?_;clear IV a0 a1 a2 a3 b0 b1 b2 b3;rintro e w1 ⟨rfl,hl1⟩;have HM1:=hdzz (HM.out.go hB hl1.below);clear HM hl1;obtain⟨a0,a1,a2,a3,-⟩:=qhq p (HM1.out.b1);go_wp2_with fail
 refine(KE.out w1).mono ?_;clear a0 a1 a2 a3;rintro e w2 ⟨rfl,hl2⟩;have HM2:=hdzz (HM1.out.go hB hl2.below);clear HM1 hl2;have hlt2:=HM2.out.lt;rcases HM2.out.map.look HKI.out.1 HKI.out.2.1 HKI.out.2.2 with⟨hh,hrun⟩|⟨A1,c1,hh,hr1,hrun⟩
 ·simp only[qi0]at hrun;have hr:=HR.out.trans (if_neg (by rw[hh];simp));have HR2:=hdzz hr;clear HR hr;obtain⟨X,hX⟩:∃X,X=w2.alloc (.cells #[.int .i64 0,.string ⟨#[]⟩,.int .i64 0,.slice none 0 0] 24):=⟨_,rfl⟩;have hbX:Below w2.heap.size w2 X:=by rw[hX];exact qab (Nat.le_refl _) _
  have HMX:=hdzz ((HM2.out.go hB hbX).go (Z':=X.drew) hB (Below.refl _ _).drew);have hsX:X.drew.heap.size=w2.heap.size+1:=by rw[hX];exact World.size_alloc ..
  have HX:=hdzz hX;clear hX hbX HM2;have HH:=hdzz hh;clear hh;go_wp2_with (at_lookup;refine qb9 rfl _ _ rfl rfl rfl hrun ?_)
  rw[←HX.out];clear HX hrun;refine qae (fun Y=>∀p:Addr,p.block<X.drew.heap.size→p.block≠mb→Y.cell? p=X.drew.cell? p) (fun _=>True) [4] (.held 0 (.held 1 (.held 3 (.op 2 (.op 4 .nil))))) mixed (by kernel_rfl) ?_;generalize X.drew=D at *;have hltD:=HMX.out.lt;obtain⟨a0,a1,a2,a3,-⟩:=qhq p (HMX.out.b1);obtain⟨b0,b1,b2,b3,-⟩:=qhq t (HMX.out.b2);refine qaq (v:=.map (some mb)) rfl rfl rfl (fun _ _ _ h=>h) (fun _ _ _=>rfl) trivial (fun Y hY _=>by(try simp only[Act.put]);go_simp) ?_;refine qaq (v:=.agg #[.int .i64 p.kind,.string p.name,.int .i64 p.sort,.slice P p.kids.length cp]) rfl rfl rfl (fun _ _ _ h=>h) (fun _ _ _=>rfl) trivial (fun Y hY _=>by
   have z0:=(hY ⟨w.heap.size,0,none⟩ (by show w.heap.size<_;omega) (by show w.heap.size≠_;omega)).trans a0;have z1:=(hY ⟨w.heap.size,1,none⟩ (by show w.heap.size<_;omega) (by show w.heap.size≠_;omega)).trans a1;have z2:=(hY ⟨w.heap.size,2,none⟩ (by show w.heap.size<_;omega) (by show w.heap.size≠_;omega)).trans a2;have z3:=(hY ⟨w.heap.size,3,none⟩ (by show w.heap.size<_;omega) (by show w.heap.size≠_;omega)).trans a3
   (try simp only[Act.put]);go_simp) ?_
  refine qaq (v:=.agg #[.int .i64 t.kind,.string t.name,.int .i64 t.sort,.slice T t.kids.length ct]) rfl rfl rfl (fun _ _ _ h=>h) (fun _ _ _=>rfl) trivial (fun Y hY _=>by
   have z0:=(hY ⟨w.heap.size+1,0,none⟩ (by show w.heap.size+1<_;omega) (by show w.heap.size+1≠_;omega)).trans b0;have z1:=(hY ⟨w.heap.size+1,1,none⟩ (by show w.heap.size+1<_;omega) (by show w.heap.size+1≠_;omega)).trans b1;have z2:=(hY ⟨w.heap.size+1,2,none⟩ (by show w.heap.size+1<_;omega) (by show w.heap.size+1≠_;omega)).trans b2;have z3:=(hY ⟨w.heap.size+1,3,none⟩ (by show w.heap.size+1<_;omega) (by show w.heap.size+1≠_;omega)).trans b3
   (try simp only[Act.put]);go_simp) ?_
  simp only[Act.put,List.setIfInBounds_toArray];clear a0 a1 a2 a3 b0 b1 b2 b3;refine qar rfl rfl (fun K hK=>?_);go_wp2_with fail
  refine(KE.out D).mono ?_;clear KE;rintro e w3 ⟨rfl,hl3⟩;refine hK _ _ ⟨⟨fun _ p hp _=>hl3.below.cell hp,trivial⟩,?_⟩;clear hK K;have HM3:=hdzz (HMX.out.go hB hl3.below);clear HMX hl3;have hlt3:=HM3.out.lt;obtain⟨N4,hrun4,hm4,ht4⟩:=HM3.out.map.store (by unfold maxLen;omega) HKI.out.1 HKI.out.2.1 HKI.out.2.2 HH.out (RepP.mono (fun _ h=>h) (fun p (hp:p.block<B)=>HM3.out.bel.cell (by omega)) _ _ _ HRT.out) (fun k hk=>⟨by omega,by omega⟩);have HM4:=hdzz (HM3.out.turn hmw hm4 ht4);clear HM3 hm4 ht4;simp only[Tm.val]at hrun4;refine qar rfl rfl (fun K hK=>?_);refine qj6 (by rfl) 151 (.tmp 23) (.tmp 25) (.tmp 26) (by rfl) (by rfl) (by rfl) (by rfl) hrun4 ?_;refine hK _ _ ⟨⟨fun h=>absurd h (by decide),trivial⟩,qat ?_⟩;clear hK K hrun4;have hlt4:=HM4.out.lt;obtain⟨a0,a1,a2,a3,-⟩:=qhq p (HM4.out.b1)
  obtain⟨b0,b1,b2,b3,-⟩:=qhq t (HM4.out.b2);have FI:=fits_any p t P T cp ct N4 (by omega) (by omega) (up.out N4 _ _ _ HM4.out.bel (by omega) HRP.out) (up.out N4 _ _ _ HM4.out.bel (by omega) HRT.out);obtain⟨q,hq⟩:∃q,q=fits p t:=⟨_,rfl⟩;rw[←hq]at FI HR2;clear hq;simp only[Tm.val]at FI;have FI:=hdzz FI;go_wp2_with fail
  refine FI.out.mono ?_;clear FI;rintro e w5 ⟨rfl,hl5⟩;go_wp2_with fail
  go_ret
  rw[HR2.out];exact(HM4.out.go hB hl5.below).done (r:=(m++[(p,t)],q)) rfl (Nat.le_refl _)
 ·have hr:=HR.out.trans (if_pos hh);have HR2:=hdzz hr;clear HR hr;have hus:(getS m p).size≤1000000:=by
   obtain⟨b,hb,e⟩:=qdd.1 hh;rcases qdy p m with⟨b',hb',e1,e2⟩|⟨e1,e2⟩
   ·rw[e2];have:=qcl (HMS.out b' hb');omega
   ·exact absurd e (e2 b hb)
  obtain⟨u,hu⟩:∃u,u=getS m p:=⟨_,rfl⟩;rw[←hu]at hr1 hrun HR2 hus;simp only[Tm.val]at hrun;obtain⟨X,hX⟩:∃X,X=w2.alloc (.cells #[.int .i64 u.kind,.string u.name,.int .i64 u.sort,.slice A1 u.kids.length c1] 24):=⟨_,rfl⟩;have hbX:Below w2.heap.size w2 X:=by rw[hX];exact qab (Nat.le_refl _) _
  have hux:X.heap[w2.heap.size]?=some (.cells #[.int .i64 u.kind,.string u.name,.int .i64 u.sort,.slice A1 u.kids.length c1] 24 (0,0)):=by rw[hX];exact heap_alloc_new _ _
  have HMX:=hdzz (HM2.out.go hB hbX);have hsX:X.heap.size=w2.heap.size+1:=by rw[hX];simp
  obtain⟨d0,d1,d2,d3,-⟩:=qaa hux;obtain⟨b0,b1,b2,b3,-⟩:=qhq t (HMX.out.b2);have SM:=qh0 u t A1 T c1 ct X hus (by omega) (RepP.mono (fun b (h:b<B)=>by show b<_;omega) (fun p (hp:p.block<B)=>hbX.cell (by omega)) _ _ _ hr1) (up.out X _ _ _ HMX.out.bel (by omega) HRT.out);obtain⟨q,hq⟩:∃q,q=decide (u=t):=⟨_,rfl⟩;rw[←hq]at SM HR2;simp only[Tm.val]at SM;have SM:=hdzz SM;rw[hX]at d0 d1 d2 d3 b0 b1 b2 b3;have HX:=hdzz hX;clear hX hbX HM2 hq hu hh hr1 hus hux;go_wp2_with (at_lookup;refine qb9 rfl _ _ rfl rfl rfl hrun ?_)
  rw[←HX.out];refine SM.out.mono ?_;clear SM d0 d1 d2 d3 b0 b1 b2 b3;rintro e w5 ⟨rfl,hl5⟩;go_wp2_with fail
  go_ret
  rw[HR2.out];exact(HMX.out.go hB hl5.below).done (r:=(m,q)) rfl (Nat.le_succ _)
theorem qpk (mb B:Nat) (hB:B≤mb) (n:Nat):∀(p t:Tm) (P T:Option Addr) (cp ct:Nat) (m:List Bd) (nn:Nat) (w:World),p.size≤n→p.valid=0→t.valid=0→nn+p.size≤1000000→(∀b∈m,b.2.valid=0)→MapT w mb nn (fun b=>b<B) m→
   RepP w (fun b=>b<B) p P cp→RepP w (fun b=>b<B) t T ct→
  Calls Tryz.prog 129 #[p.val P cp,t.val T ct,.map (some mb)] w (qob mb B (p.mat t m) (nn+p.size) w):=by
 have mixed:=mixz
 induction n with
 | zero=>intro p _ _ _ _ _ _ _ _ h;have:=p.size_pos;omega
 | succ n ih=>
  intro p t P T cp ct m nn w hn hvp hvt hnn hms hm hrp hrt;by_cases hk:p.kind=1
  ·have hs1:=p.size_pos;exact(qpj mb B hB p t P T cp ct m nn w hk hvp hvt (by omega) hms hm hrp hrt).mono fun e w' ⟨h1,nn',h2,h3⟩=>⟨h1,nn',by omega,h3⟩
  have hmw:=hm.lt;have sp:=qcl hvp;have stt:=qcl hvt;have hs3:=size3 p;obtain⟨V,hV⟩:∃V,V=(w.alloc (boxT p P cp)).alloc (boxT t T ct):=⟨_,rfl⟩;have h2:TwoV w p t P T cp ct V:=by rw[hV];exact TwoV.new w p t P T cp ct
  have hM:MAt mb B nn m w (boxT p P cp) (boxT t T ct) V:=⟨hm.below h2.lay.below hmw (fun k hk=>by omega),h2.one,h2.two,h2.lay.below.mono (by omega),fun k hk _=>h2.lay.below.block k hk⟩;have IV:=qmf p P cp V;rw[show(p.kind==1)=false by rw[beq_eq_false_iff_ne];exact hk]at IV;have IV:=hdzz IV;have up:Hid (∀(Z:World) (y:Tm) (Y:Option Addr) (cy:Nat),Below mb w Z→w.heap.size≤Z.heap.size→RepP w (fun b=>b<B) y Y cy→RepT Z Z.heap.size y Y cy):=hdzz fun Z y Y cy hZ hs h=>RepP.mono (fun b (hb:b<B)=>by show b<_;omega) (fun p (hp:p.block<B)=>hZ.cell (by omega)) _ _ _ h
  have AL:Hid (∀Z,Calls Tryz.prog 166 #[p.val P cp,t.val T ct] Z fun e w'=>e=.returned (.bool (qd2 p t))∧Lay Z.heap.size Z w'):=hdzz fun Z=>alike_any p t P T cp ct Z (by have:=qks p;omega) (by have:=qks t;omega);have SM:Hid (∀Z,Below mb w Z→w.heap.size≤Z.heap.size→Calls Tryz.prog 131 #[p.val P cp,t.val T ct] Z fun e w'=>e=.returned (.bool (decide (p=t)))∧Lay Z.heap.size Z w'):=hdzz fun Z hZ hs=>qh0 p t P T cp ct Z (by omega) (by omega) (up.out Z _ _ _ hZ hs hrp) (up.out Z _ _ _ hZ hs hrt);obtain⟨qk,hqk⟩:∃q,q=qd2 p t:=⟨_,rfl⟩;rw[←hqk]at AL;obtain⟨r,hr⟩:∃r,r=p.mat t m:=⟨_,rfl⟩;rw[←hr];rw[ql9,if_neg hk]at hr;have HR:=hdzz hr;clear hr;have HQK:=hdzz hqk;clear hqk;obtain⟨a0,a1,a2,a3,-⟩:=qaa h2.one
  obtain⟨b0,b1,b2,b3,-⟩:=qaa h2.two;have HM:=hdzz hM;have HMS:=hdzz hms;have HRP:=hdzz hrp;have HRT:=hdzz hrt;have HVP:=hdzz hvp;have HVT:=hdzz hvt;have IH:=hdzz ih;simp only[boxT]at hV;have HV:=hdzz hV;clear hV h2 hM hm hms hrp hrt hk hvp hvt ih;simp only[Tm.val]at IV AL SM ⊢;go_enter Tryz.func129,Tryz.ntmps129
  go_wp2_with fail
  rw[←HV.out];go_wp2_with fail
  refine IV.out.mono ?_;clear IV a0 a1 a2 a3 b0 b1 b2 b3;rintro e w1 ⟨rfl,hl1⟩;have HM1:=hdzz (HM.out.go hB hl1.below);clear HM hl1;obtain⟨a0,a1,a2,a3,-⟩:=qhq p (HM1.out.b1);obtain⟨b0,b1,b2,b3,-⟩:=qhq t (HM1.out.b2);go_wp2_with fail
  refine(AL.out w1).mono ?_;clear AL a0 a1 a2 a3 b0 b1 b2 b3;rintro e w2 ⟨rfl,hl2⟩;have HM2:=hdzz (HM1.out.go hB hl2.below);clear HM1 hl2;have hlt2:=HM2.out.lt;obtain⟨a0,a1,a2,a3,-⟩:=qhq p (HM2.out.b1);obtain⟨b0,b1,b2,b3,-⟩:=qhq t (HM2.out.b2)
  cases qk with
  | false=>
   have HR2:=hdzz (HR.out.trans (if_neg (by rw[←HQK.out];simp)));clear HR HQK IH;have SM2:=SM.out w2 HM2.out.bel (by omega);obtain⟨q,hq⟩:∃q,q=decide (p=t):=⟨_,rfl⟩;rw[←hq]at SM2 HR2;have SM2:=hdzz SM2;clear hq SM;go_wp2_with fail
   refine SM2.out.mono ?_;clear SM2;rintro e w5 ⟨rfl,hl5⟩;go_wp2_with fail
   go_ret
   rw[HR2.out];exact(HM2.out.go hB hl5.below).done (r:=(m,q)) rfl (by omega)
  | true=>
  have HR2:=hdzz (HR.out.trans (if_pos HQK.out.symm));clear HR SM;have hkl:=(qgu.1 HQK.out.symm).2.2.2;have HKL:=hdzz hkl;clear hkl HQK;have hkt:=qks p;go_wp2_with fail
  clear a0 a1 a2 a3 b0 b1 b2 b3;go_loopw [40] (fun a wr=>∃(i:Nat) (mi:List Bd) (ni:Nat),a=.int .i64 i∧i≤p.kids.length∧ni≤nn+Tm.sizes (p.kids.take i)∧Hid (Tm.mats p.kids t.kids m=Tm.mats (p.kids.drop i) (t.kids.drop i) mi)∧Hid (∀b∈mi,b.2.valid=0)∧Hid (MAt mb B ni mi w (boxT p P cp) (boxT t T ct) wr)) (fun a _=>p.kids.length - (intOf a).toNat)
  case atStart=>exact⟨0,m,nn,rfl,Nat.zero_le _,by simp[Tm.sizes],rfl,HMS.out,HM2.out⟩
  case round=>
   clear HM2 HMS hlt2;obtain⟨i,mi,ni,rfl,hi,hni,HE,HMS,HM⟩:=hrel;by_cases hlt:i<p.kids.length
   ·have hiu:i<t.kids.length:=by have:=HKL.out;omega
    rcases (kids3 HRP.out).2.2.2 with h|⟨pb,poff,hP,hpB,hpl⟩
    ·rw[h]at hlt;simp at hlt
    rcases (kids3 HRT.out).2.2.2 with h|⟨tb,toff,hT,htB,htl⟩
    ·rw[h]at hiu;simp at hiu
    subst hP hT;have HMD:Hid (MAt mb B ni mi w (boxT p (some ⟨pb,poff,none⟩) cp) (boxT t (some ⟨tb,toff,none⟩) ct) wr.drew):=HM.out.go hB (Below.refl _ _).drew;have hlD:w.heap.size+2≤wr.drew.heap.size:=HMD.out.lt;have i1:(0:Int)≤(i:Int):=Int.natCast_nonneg _;have i2:(i:Int)<(p.kids.length:Int):=by omega
    have i3:(i:Int)<(t.kids.length:Int):=by omega
    clear HM;go_wp2_with fail
    refine qae (fun _=>True) (fun Y=>∀p:Addr,p.block<wr.drew.heap.size→p.block≠mb→Y.cell? p=wr.drew.cell? p) [] (.held 0 (.held 1 (.held 2 (.held 3 (.held 4 (.held 5 (.held 6 (.held 7 (.held 8 (.held 9 (.held 10 (.op 11 (.held 12 .nil))))))))))))) mixed (by kernel_rfl) ?_;generalize wr.drew=D at *;have hpr:RepLP D (fun b=>b<B) p.kids pb poff:=RepLP.mono (fun _ h=>h) (fun q (hq:q.block<B)=>HMD.out.bel.cell (by omega)) _ _ _ hpB hpl;have htr:RepLP D (fun b=>b<B) t.kids tb toff:=RepLP.mono (fun _ h=>h) (fun q (hq:q.block<B)=>HMD.out.bel.cell (by omega)) _ _ _ htB htl;obtain⟨Ai,ci,k0,k1,k2,k3,hri⟩:=hpr.get i hlt;obtain⟨Aj,cj,l0,l1,l2,l3,hrj⟩:=htr.get i hiu;have hst:=qje p.kids i hlt;have hvy:=qb1 HVP.out (List.getElem_mem hlt);have hvz:=qb1 HVT.out (List.getElem_mem hiu)
    have hre:=HE.out;rw[List.drop_eq_getElem_cons hlt,List.drop_eq_getElem_cons hiu,Tm.mats]at hre;have hsk:Tm.sizes (p.kids.take (i+1))=Tm.sizes (p.kids.take i)+p.kids[i].size:=by
     rw[List.take_succ_eq_append_getElem hlt,qdj,Tm.sizes,Tm.sizes];rfl
    obtain⟨y,hy⟩:∃y,y=p.kids[i]:=⟨_,rfl⟩;obtain⟨z,hz⟩:∃z,z=t.kids[i]:=⟨_,rfl⟩;rw[←hy]at k0 k1 k2 k3 hri hst hvy hre hsk;rw[←hz]at l0 l1 l2 l3 hrj hvz hre;clear hy hz hpr htr hpl htl HE;have CL:=IH.out y z Ai Aj ci cj mi ni D (by omega) hvy hvz (by omega) HMS.out HMD.out.map hri hrj;have hmv:=qko y z mi hvz HMS.out;obtain⟨q,hq⟩:∃q,q=y.mat z mi:=⟨_,rfl⟩;rw[←hq]at CL hre hmv;obtain⟨q1,q2⟩:=q;simp only[Tm.val]at CL;have CL:=hdzz CL;have HRE:=hdzz hre;have HMS5:=hdzz hmv;clear hq hre hmv hvy hvz hri hrj HMS;obtain⟨-,-,-,a3,-⟩:=qhq p (HMD.out.b1);obtain⟨-,-,-,b3,-⟩:=qhq t (HMD.out.b2);have nb:∀k,k<B→k<D.heap.size∧k≠mb:=fun k hk=>⟨by omega,by omega⟩;have nw:∀k,w.heap.size≤k→k<w.heap.size+2→k<D.heap.size∧k≠mb:=fun k hk hk2=>⟨by omega,by omega⟩
    refine qaq (v:=.pointer (some ⟨w.heap.size,3,none⟩)) rfl rfl rfl (fun _ _ _ h=>h) trivial (fun _ _ _=>rfl) (fun Y _ hY=>by
     (try simp only[Act.put]);go_simp) ?_
    refine qaq (v:=.slice (some ⟨pb,poff,none⟩) p.kids.length cp) rfl rfl rfl (fun _ _ _ h=>h) trivial (fun _ _ _=>rfl) (fun Y _ hY=>by
     have z3:=(hY ⟨w.heap.size,3,none⟩ (nw w.heap.size (Nat.le_refl _) (by omega)).1 (nw w.heap.size (Nat.le_refl _) (by omega)).2).trans a3
     (try simp only[Act.put]);go_simp) ?_
    refine qaq (v:=.int .i64 i) rfl rfl rfl (fun _ _ _ h=>h) trivial (fun _ _ _=>rfl) (fun Y _ hY=>by
     (try simp only[Act.put]);go_simp) ?_
    refine qaq (v:=.pointer (some ⟨pb,poff+i*4,none⟩)) rfl rfl rfl (fun _ _ _ h=>h) trivial (fun _ _ _=>rfl) (fun Y _ hY=>by
     (try simp only[Act.put]);go_simp) ?_
    refine qaq (v:=.agg #[.int .i64 y.kind,.string y.name,.int .i64 y.sort,.slice Ai y.kids.length ci]) rfl rfl rfl (fun _ _ _ h=>h) trivial (fun _ _ _=>rfl) (fun Y _ hY=>by
     have z0:=(hY ⟨pb,poff+i*4,none⟩ (nb pb hpB).1 (nb pb hpB).2).trans k0;have z1:=(hY ⟨pb,poff+i*4+1,none⟩ (nb pb hpB).1 (nb pb hpB).2).trans k1;have z2:=(hY ⟨pb,poff+i*4+2,none⟩ (nb pb hpB).1 (nb pb hpB).2).trans k2;have z3:=(hY ⟨pb,poff+i*4+3,none⟩ (nb pb hpB).1 (nb pb hpB).2).trans k3
     (try simp only[Act.put]);go_simp) ?_
    refine qaq (v:=.pointer (some ⟨w.heap.size+1,3,none⟩)) rfl rfl rfl (fun _ _ _ h=>h) trivial (fun _ _ _=>rfl) (fun Y _ hY=>by
     (try simp only[Act.put]);go_simp) ?_
    refine qaq (v:=.slice (some ⟨tb,toff,none⟩) t.kids.length ct) rfl rfl rfl (fun _ _ _ h=>h) trivial (fun _ _ _=>rfl) (fun Y _ hY=>by
     have z3:=(hY ⟨w.heap.size+1,3,none⟩ (nw (w.heap.size+1) (by omega) (by omega)).1 (nw (w.heap.size+1) (by omega) (by omega)).2).trans b3
     (try simp only[Act.put]);go_simp) ?_
    refine qaq (v:=.int .i64 i) rfl rfl rfl (fun _ _ _ h=>h) trivial (fun _ _ _=>rfl) (fun Y _ hY=>by
     (try simp only[Act.put]);go_simp) ?_
    refine qaq (v:=.pointer (some ⟨tb,toff+i*4,none⟩)) rfl rfl rfl (fun _ _ _ h=>h) trivial (fun _ _ _=>rfl) (fun Y _ hY=>by
     (try simp only[Act.put]);go_simp) ?_
    refine qaq (v:=.agg #[.int .i64 z.kind,.string z.name,.int .i64 z.sort,.slice Aj z.kids.length cj]) rfl rfl rfl (fun _ _ _ h=>h) trivial (fun _ _ _=>rfl) (fun Y _ hY=>by
     have z0:=(hY ⟨tb,toff+i*4,none⟩ (nb tb htB).1 (nb tb htB).2).trans l0;have z1:=(hY ⟨tb,toff+i*4+1,none⟩ (nb tb htB).1 (nb tb htB).2).trans l1;have z2:=(hY ⟨tb,toff+i*4+2,none⟩ (nb tb htB).1 (nb tb htB).2).trans l2;have z3:=(hY ⟨tb,toff+i*4+3,none⟩ (nb tb htB).1 (nb tb htB).2).trans l3
     (try simp only[Act.put]);go_simp) ?_
    refine qaq (v:=.map (some mb)) rfl rfl rfl (fun _ _ _ h=>h) trivial (fun _ _ _=>rfl) (fun Y _ hY=>by
     (try simp only[Act.put]);go_simp) ?_
    simp only[Act.put,List.setIfInBounds_toArray];clear a3 b3 k0 k1 k2 k3 l0 l1 l2 l3;refine qar rfl rfl (fun K hK=>?_);go_wp2_with fail
    refine CL.out.mono ?_;clear CL;rintro e w5 ⟨rfl,n5,hn5,hm5,hb5,ho5⟩;have hs5:∀p:Addr,p.block<D.heap.size→p.block≠mb→w5.cell? p=D.cell? p:=fun p hp hne=>World.cell?_of_block (ho5 _ hp hne);refine hK _ _ ⟨⟨fun _=>trivial,hs5⟩,?_⟩;clear hK K;have HM5:=hdzz (HMD.out.call hmw hm5 hb5 ho5);clear HMD hm5 hb5 ho5
    cases q2 with
    | false=>
     refine qaq (v:=.bool true) rfl rfl rfl (fun _ _ _ h=>h) trivial hs5 (fun Y _ _=>by go_simp) ?_;refine qat ?_;go_wp2_with fail
     go_ret
     have he:=HRE.out.trans (if_neg (by simp));rw[HR2.out.trans he];exact HM5.out.done (r:=(q1,false)) rfl (by omega)
    | true=>
     refine qaq (v:=.bool false) rfl rfl rfl (fun _ _ _ h=>h) trivial hs5 (fun Y _ _=>by go_simp) ?_;refine qat ?_;go_wp2_with fail
     go_roundw
     case rel=>exact⟨i+1,q1,n5,by go_num,by omega,by omega,HRE.out.trans (if_pos rfl),HMS5.out,HM5.out⟩
     case measure=>simp[intOf];omega
   ·obtain rfl:i=p.kids.length:=by omega
    have he:=HE.out;have e0:Tm.mats ([]:List Tm) [] mi=(mi,true):=by rw[Tm.mats];simp
    rw[List.drop_length,List.drop_of_length_le (by have:=HKL.out;omega),e0]at he;go_wp2_with fail
    go_ret
    rw[HR2.out.trans he];rw[List.take_length]at hni;exact HM.out.done (r:=(mi,true)) rfl (by omega)
theorem valid2_ok {t u:Tm} (h:qfo t u=0):t.valid=0∧u.valid=0:=by
 unfold qfo at h
 split at h
 ·rename_i h1;exact absurd h h1
 ·rename_i h1;exact⟨by simpa using h1,h⟩
def varsOf (t:Tm):List Tm:=Tm.set (t.all.filter fun u=>u.kind==1)
theorem qph (t:Tm):(varsOf t).length≤t.size:=by
 unfold varsOf;refine Nat.le_trans (Tm.set_length _) (Nat.le_trans (List.length_filter_le _ _) ?_);rw[qiv];exact Nat.le_refl _
mutual
theorem check_all:∀t:Tm,t.check=0→∀x∈t.all,x.check=0
 | .mk k n s l,h,x,hx=>by
  rw[Tm.all]at hx;rcases List.mem_cons.1 hx with rfl|hx
  ·exact h
  ·rcases qit h with⟨-,rfl⟩|⟨-,-,hc⟩
   ·simp[Tm.alls]at hx
   ·exact qj0 l hc x hx
theorem qj0:∀l:List Tm,Tm.checks l=0→∀x∈Tm.alls l,x.check=0
 | [],_,x,hx=>by simp[Tm.alls]at hx
 | t::r,h,x,hx=>by
  rw[Tm.alls,List.mem_append]at hx;obtain⟨h1,h2⟩:=qmu h;rcases hx with hx|hx
  ·exact check_all t h1 x hx
  ·exact qj0 r h2 x hx
end
theorem qm6 {t:Tm} (h:t.valid=0):∀x∈varsOf t,x.kids=[]∧qaw x:=by
 intro x hx;unfold varsOf at hx;rw[Tm.mem_set,List.mem_filter]at hx;exact check_keyable (check_all t (check_valid h) x hx.1) (by simpa using hx.2)
theorem qna {w:World} {base:Nat} {F:Nat→Prop} {v:Value} {its:List It} (h:RowT w base F v its) (hl:∀x∈its,x.1.kids=[]):RowT w base (fun _=>False) v its:=by
 refine⟨h.own,fun x hx=>?_⟩;have hr:=h.reps x hx;have hk:=hl x hx;obtain⟨⟨a1,a2,a3,a4⟩,A,c⟩:=x;have hk:a4=[]:=hk;subst hk;dsimp only at hr ⊢;rw[qa3]at hr ⊢;exact⟨hr.1,hr.2.1,hr.2.2.1,.inl rfl⟩
structure Box3 (w:World) (o1 o2 o3:Obj) (Z:World):Prop where
 one:Z.heap[w.heap.size]?=some o1
 two:Z.heap[w.heap.size+1]?=some o2
 three:Z.heap[w.heap.size+1+1]?=some o3
 bel:Below w.heap.size w Z
theorem Box3.lt {w Z:World} {o1 o2 o3:Obj} (h:Box3 w o1 o2 o3 Z):w.heap.size+3≤Z.heap.size:=(sltz h.three)
theorem Box3.keep {w Z Z':World} {o1 o2 o3:Obj} (h:Box3 w o1 o2 o3 Z) (hb:∀k,k<w.heap.size+3→w.heap.size≤k→Z'.heap[k]?=Z.heap[k]?) (hbel:Below w.heap.size w Z'):Box3 w o1 o2 o3 Z':=
 ⟨(hb _ (by omega) (by omega)).trans h.one,(hb _ (by omega) (by omega)).trans h.two,(hb _ (by omega) (by omega)).trans h.three,hbel⟩
theorem Box3.go {w Z Z':World} {o1 o2 o3:Obj} (h:Box3 w o1 o2 o3 Z) (hb:Below Z.heap.size Z Z'):Box3 w o1 o2 o3 Z':=
 h.keep (fun k hk _=>hb.block k (by have:=h.lt;omega)) (h.bel.trans (hb.mono (by have:=h.lt;omega)))
theorem Box3.new (w:World) (o1 o2 o3:Obj) (h1:∀W:World,(W.alloc o1).heap[W.heap.size]?=some o1) (h2:∀W:World,(W.alloc o2).heap[W.heap.size]?=some o2) (h3:∀W:World,(W.alloc o3).heap[W.heap.size]?=some o3):Box3 w o1 o2 o3 (((w.alloc o1).alloc o2).alloc o3):=by
 have b1:=qab (Nat.le_refl w.heap.size) o1;have b2:=qab (Nat.le_refl (w.alloc o1).heap.size) o2;have b3:=qab (Nat.le_refl ((w.alloc o1).alloc o2).heap.size) o3;have s1:(w.alloc o1).heap.size=w.heap.size+1:=by simp
 have s2:((w.alloc o1).alloc o2).heap.size=w.heap.size+1+1:=by simp
 refine⟨(b3.block _ (by omega)).trans ((b2.block _ (by omega)).trans (h1 w)),(b3.block _ (by omega)).trans ?_,?_,?_⟩
 ·rw[←s1];exact h2 _
 ·rw[←s2];exact h3 _
 ·exact b1.trans ((b2.mono (by omega)).trans (b3.mono (by omega)))
theorem qcd.look0 {w:World} {b n:Nat} {F:Tm→Option Value} (h:qcd w b n F) {x:Tm} (hx:qaw x) {v:Value} (hF:F x=some v) :
  (Instr.lookup 151 (.map (some b)) (keyV x) false).run Tryz.prog w=.ok v w:=by
 obtain⟨D,h1,h2⟩:=h;obtain⟨u,ps,hr,hv⟩:=h1.lookup qme Tryz.underlying151 (qj4 w) (zd:=.held qi0) (zp:=[]) rfl (qfg hx);obtain⟨h3,h4⟩:=h2 x hx;rw[hr];simp only[RV,Option.some.injEq,Prod.mk.injEq]at hv;rw[h4 v _ hF]at hv;have e:=DataW.held.inj hv.1;rw[e]
theorem MapT.look0 {w:World} {b n:Nat} {G:Nat→Prop} {s:List Bd} (h:MapT w b n G s) {x:Tm} (k1:x.kind=1) (k2:x.kids=[]) (k3:qaw x) (hh:hasS s x=true) :
  ∃A c,RepP w G (getS s x) A c∧(Instr.lookup 151 (.map (some b)) (keyV x) false).run Tryz.prog w=.ok ((getS s x).val A c) w:=by
 obtain⟨F,h1,h2⟩:=h;rcases h2 x k1 k2 k3 with⟨e1,-⟩|⟨-,A,c,e2,r⟩
 ·rw[hh]at e1;cases e1
 ·exact⟨A,c,r,h1.look0 k3 e2⟩
def qg8 (m:List Bd) (L:List Tm):List Bd:=(L.filter fun x=>decide (getS m x≠x)).map fun x=>(x,getS m x)
def qb5 (p t:Tm):List Bd×Int:=if qfo p t≠0 then ([],qfo p t)else if (p.mat t []).2=true then (qg8 (p.mat t []).1 (varsOf p),0)else ([],11)
theorem qqm (m:List Bd) (L:List Tm) (k:Nat) (h:k<L.length):qg8 m (L.take (k+1))=qg8 m (L.take k)++(if getS m L[k]=L[k]then []else [(L[k],getS m L[k])]):=by
 unfold qg8;rw[List.take_succ_eq_append_getElem h,List.filter_append,List.map_append];by_cases e:getS m L[k]=L[k]
 ·rw[if_pos e];simp[e]
 ·rw[if_neg e];simp[e]
def qlc (r:List Bd×Int) (w:World) (e:Ending) (w':World):Prop:=∃A c,e=.returned (.tuple #[.slice A r.1.length c,.int .i64 r.2])∧RepB w' (fun b=>b<w'.heap.size) r.1 A c∧Below w.heap.size w w'
theorem qii {w w':World} {n:Int} (h:Below w.heap.size w w'):qlc ([],n) w (.returned (.tuple #[.slice none 0 0,.int .i64 n])) w':=
 ⟨none,0,rfl,⟨Nat.le_refl _,by simp[maxLen],.inl rfl⟩,h⟩
structure MtAt (w:World) (mb n:Nat) (m:List Bd) (base lb:Nat) (L:List Tm) (AL:Option Addr) (cL:Nat) (itsL:List It) (Z:World):Prop where
 map:MapT Z mb n (fun b=>b<w.heap.size) m
 row:RowT Z lb (fun _=>False) (.slice AL L.length cL) itsL
 is:itsL.map (·.1)=L
 bel:Below w.heap.size w Z
 own:∀k,(Value.slice AL L.length cL).ownBlock=some k→k<base
 mlt:mb<base
theorem MtAt.keep {w:World} {mb n base lb cL:Nat} {m:List Bd} {L:List Tm} {AL:Option Addr} {itsL:List It} {Z Z':World} (h:MtAt w mb n m base lb L AL cL itsL Z) (hk:∀k,k<base→Z'.heap[k]?=Z.heap[k]?) (hs:Z.heap.size≤Z'.heap.size) (hb:Below w.heap.size w Z'):MtAt w mb n m base lb L AL cL itsL Z':=
 ⟨h.map.keep (hk _ h.mlt) (fun _ hp=>(hb.cell hp).trans (h.bel.cell hp).symm),rowT_keep h.row hs (fun k e=>hk k (h.own k e)) (fun _ hf=>False.elim hf),h.is,hb,h.own,h.mlt⟩
theorem qh1 (p t:Tm) (P T:Option Addr) (cp ct:Nat) (w:World) (hp:p.size≤1000000) (ht:t.size≤1000000) (hrp:RepT w w.heap.size p P cp) (hrt:RepT w w.heap.size t T ct) :
  Calls Tryz.prog 102 #[p.val P cp,t.val T ct] w (qlc (qb5 p t) w):=by
 have hmm:=@run_makeMap Tryz.prog;obtain⟨V,hV⟩:∃V,V=(w.alloc (boxT p P cp)).alloc (boxT t T ct):=⟨_,rfl⟩;have h2:TwoV w p t P T cp ct V:=by rw[hV];exact TwoV.new _ _ _ _ _ _ _
 have VV:=qpi p t P T cp ct V hp ht (hrp.go h2.lay.below h2.lay.size) (hrt.go h2.lay.below h2.lay.size);obtain⟨v2,hv2⟩:∃v,v=qfo p t:=⟨_,rfl⟩;obtain⟨r,hr⟩:∃r,r=qb5 p t:=⟨_,rfl⟩;rw[←hr];unfold qb5 at hr;rw[←hv2]at VV hr;have HR:=hdzz hr;clear hr;have HV2:=hdzz hv2;clear hv2;have H2:=hdzz h2;have HRP:=hdzz hrp;clear hrp;have HRT:=hdzz hrt;clear hrt;obtain⟨a0,a1,a2,a3,-⟩:=qaa h2.one;obtain⟨b0,b1,b2,b3,-⟩:=qaa h2.two;clear h2;simp only[boxT]at hV;have HV:=hdzz hV;clear hV;simp only[Tm.val]at VV ⊢;have VV:=hdzz VV;go_enter Tryz.func102,Tryz.ntmps102
 go_wp2_with fail
 rw[←HV.out];go_wp2_with fail
 refine VV.out.mono ?_;clear VV a0 a1 a2 a3 b0 b1 b2 b3;rintro e w1 ⟨rfl,hl1⟩;have H3:=hdzz (H2.out.go hl1);clear H2 hl1;rcases eq_facts v2 0 with⟨e0,e1,n1⟩|⟨e0,e1,n1⟩
 rotate_left
 ·have hr:=HR.out.trans (if_pos e0);subst hr;clear HR;go_wp2_with fail
  go_ret2
  exact qii H3.out.lay.below
 have HR2:=hdzz (HR.out.trans (if_neg (by simpa using e0)));clear HR;have hvt:=valid2_ok (HV2.out.symm.trans e0);clear e0;have hlt3:=H3.out.lt;obtain⟨W1,hW1⟩:∃W1,W1=w1.alloc (.map #[] 0):=⟨_,rfl⟩;have bW1:Below w1.heap.size w1 W1:=by rw[hW1];exact qab (Nat.le_refl _) _
 have hm0:MapT W1 w1.heap.size 0 (fun b=>b<w.heap.size) []:=by
  rw[hW1];exact⟨fun _=>none,qcd.made w1,fun x _ _ _=>.inl ⟨rfl,rfl⟩⟩
 have hbw1:Below w.heap.size w W1:=H3.out.lay.below.trans (bW1.mono (by omega));have MT:=qpk w1.heap.size w.heap.size (by omega) p.size p t P T cp ct [] 0 W1 (Nat.le_refl _) hvt.1 hvt.2 (by omega) (by simp) hm0 (RepP.mono (fun _ h=>h) (fun q (hq:q.block<w.heap.size)=>hbw1.cell hq) _ _ _ HRP.out) (RepP.mono (fun _ h=>h) (fun q (hq:q.block<w.heap.size)=>hbw1.cell hq) _ _ _ HRT.out);obtain⟨q,hq⟩:∃q,q=p.mat t []:=⟨_,rfl⟩;rw[←hq]at MT HR2;have HQ:=hdzz hq;clear hq;simp only[Tm.val]at MT;have MT:=hdzz MT;obtain⟨a0,a1,a2,a3,-⟩:=qaa ((bW1.block _ (by omega)).trans H3.out.one);obtain⟨b0,b1,b2,b3,-⟩:=qaa ((bW1.block _ (by omega)).trans H3.out.two);have HB1:=hdzz hbw1;have hone:=(bW1.block w.heap.size (by omega)).trans H3.out.one;have HONE:=hdzz hone;have hmbw:w.heap.size+2≤w1.heap.size:=hlt3
 rw[hW1]at a0 a1 a2 a3 b0 b1 b2 b3;have HW1:=hdzz hW1;clear hW1 bW1 hm0 hbw1 hone H3 hlt3;go_wp2_with fail
 rw[←HW1.out];refine MT.out.mono ?_;clear MT a0 a1 a2 a3 b0 b1 b2 b3;rintro e w3 ⟨rfl,nn,hnn,hm3,hb3,ho3⟩;have hW1s:W1.heap.size=w1.heap.size+1:=by rw[HW1.out];simp
 obtain⟨mb,hmb⟩:∃mb,mb=w1.heap.size:=⟨_,rfl⟩;rw[←hmb]at hm3 hb3 ho3 hmbw hW1s ⊢;clear hmb;have HB3:=hdzz (HB1.out.trans (hb3.mono (by omega)));have HONE3:=hdzz ((ho3 w.heap.size (by omega) (by omega)).trans HONE.out);have HM3:=hdzz hm3;clear HB1 HONE HW1 hm3 hb3 ho3;obtain⟨q1,q2⟩:=q
 cases q2 with
 | false=>
  have hr:=HR2.out.trans (if_neg (by simp));subst hr;clear HR2;go_wp2_with fail
  go_ret2
  exact qii HB3.out
 | true=>
 have HR3:=hdzz (HR2.out.trans (if_pos rfl));clear HR2;have hmat:(p.mat t []).2=true:=by rw[←HQ.out]
 obtain⟨L,hL⟩:∃L,L=varsOf p:=⟨_,rfl⟩;have hbv:∀x∈L,hasS q1 x=true:=fun x hx=>by
  have h:=(ql8 p t [] hvt.1 hvt.2 ⟨by simp,List.Pairwise.nil⟩ hmat).2.1;rw[←HQ.out]at h;rw[hL]at hx;unfold varsOf at hx;rw[Tm.mem_set,List.mem_filter]at hx;exact h x hx.1 (by simpa using hx.2)
 have hlf:∀x∈L,x.kind=1∧x.kids=[]∧qaw x:=fun x hx=>by
  rw[hL]at hx;have hk:x.kind=1:=by
   unfold varsOf at hx;rw[Tm.mem_set,List.mem_filter]at hx;simpa using hx.2
  exact⟨hk,qm6 hvt.1 x hx⟩
 have hqv:∀b∈q1,b.2.size≤400:=fun b hb=>qcl (qko p t [] hvt.2 (by simp) b (by rw[←HQ.out];exact hb));have hLl:L.length≤400:=by rw[hL];have:=qph p;have:=qcl hvt.1;omega
 have VS:=qj9 p P cp w3 hp (HRP.out.go HB3.out HB3.out.size);rw[show(p.all.filter fun u=>u.kind==1)=(p.all.filter fun u=>u.kind==1)from rfl]at VS;simp only[Tm.val]at VS;have VS:=hdzz VS;have HBV:=hdzz hbv;have HLF:=hdzz hlf;have HQV:=hdzz hqv;have HL:=hdzz hL;have HVT:=hdzz hvt;clear hmat hbv hlf hqv hL hvt HQ;obtain⟨a0,a1,a2,a3,-⟩:=qaa HONE3.out;go_wp2_with fail
 refine VS.out.mono ?_;clear VS a0 a1 a2 a3;rintro e w4 ⟨v4,its4,rfl,hrow4,hb4,his4⟩;obtain⟨A4,c4,hv4,-⟩:=hrow4.toS (P:=fun b=>b<w4.heap.size) (fun b _ h=>h) (fun b _ h=>h);have his4':its4.map (·.1)=L:=by rw[his4,HL.out];rfl
 have hl4:its4.length=L.length:=by rw[←his4',List.length_map]
 rw[hl4]at hv4;subst hv4;have hrowL:=qna hrow4 (fun x hx=>(HLF.out x.1 (by rw[←his4'];exact List.mem_map_of_mem hx)).2.1);have hmbl:=HM3.out.lt;have hMA:MtAt w mb nn q1 w4.heap.size w3.heap.size L A4 c4 its4 w4:=
  ⟨HM3.out.keep (hb4.block _ hmbl) (fun p (hp:p.block<w.heap.size)=>hb4.cell (by have:=HB3.out.size;omega)),hrowL,his4',HB3.out.trans (hb4.mono HB3.out.size),fun k e=>(hrowL.lt k e).2,Nat.lt_of_lt_of_le hmbl hb4.size⟩
 have HMA:=hdzz hMA;have hw4:w.heap.size≤w4.heap.size:=HMA.out.bel.size;obtain⟨base,hbase⟩:∃base,base=w4.heap.size:=⟨_,rfl⟩;rw[←hbase]at HMA hw4;have hb4b:base≤w4.heap.size:=by omega
 clear hMA hrowL hrow4 his4 his4' hb4 HM3 HB3 HONE3 hmbl hl4 hbase;go_wp2_with fail
 go_loopw [8,27] (fun v i wr=>∃(k c0:Nat) (A0:Option Addr) (its:List IB),k≤L.length∧i=.int .i64 k∧v=.slice A0 its.length c0∧base≤wr.heap.size∧Hid (its.map IB.bd=qg8 q1 (L.take k))∧Hid (MtAt w mb nn q1 base w3.heap.size L A4 c4 its4 wr)∧Hid (RowG 157 wr base (fun b=>b<w.heap.size) (.slice A0 its.length c0) its)) (fun _ i _=>L.length - (intOf i).toNat)
 case atStart=>exact⟨0,0,none,[],Nat.zero_le _,rfl,rfl,hb4b,rfl,HMA.out,RowG.nil _ _ _ _⟩
 case round=>
  clear HMA hb4b;obtain⟨k,c0,A0,its,hk,rfl,rfl,hbs,HIT,HMA,HROW⟩:=hrel;have i1:(0:Int)≤(k:Int):=Int.natCast_nonneg _;by_cases hlt:k<L.length
  ·have i2:(k:Int)<(L.length:Int):=by omega
   have hil:its4.length=L.length:=by rw[←HMA.out.is,List.length_map]
   obtain⟨gA,rfl⟩:∃gA,A4=some ⟨gA,0,none⟩:=by
    rcases HMA.out.row.own.2 with⟨h,h2⟩|⟨vb,cap,cur,h,-⟩
    ·omega
    ·injection h with h;exact⟨vb,h⟩
   obtain⟨m0,m1,m2,m3,-⟩:=HMA.out.row.slot hil.symm k (by omega);have hrx:=HMA.out.row.reps (its4[k]'(by omega)) (List.getElem_mem _);have hx1:(its4[k]'(by omega)).1=L[k]:=by
    have h:=congrArg (·[k]?) HMA.out.is;simpa[List.getElem?_eq_getElem (show k<its4.length by omega),List.getElem?_eq_getElem hlt]using h
   obtain⟨hxk,hxi,hxy⟩:=HLF.out L[k] (List.getElem_mem hlt);have hxb:=HBV.out L[k] (List.getElem_mem hlt);have hnx:=qqm q1 L k hlt;rw[←HIT.out]at hnx;have hxs:L[k].size≤1000000:=by
    have h1:L[k].size=1:=by rw[size3,hxi];rfl
    omega
   obtain⟨it,hit⟩:∃it,it=its4[k]'(by omega):=⟨_,rfl⟩;rw[←hit]at m0 m1 m2 m3 hrx hx1;obtain⟨x,Ax,cx⟩:=it;dsimp only at m0 m1 m2 m3 hrx hx1;rw[←hx1]at hxk hxi hxy hxb hnx hxs;clear hit hx1 HIT;obtain⟨X,hX⟩:∃X,X=wr.alloc (.cells #[.int .i64 x.kind,.string x.name,.int .i64 x.sort,.slice Ax x.kids.length cx] 24):=⟨_,rfl⟩;have bX:Below wr.heap.size wr X:=by rw[hX];exact qab (Nat.le_refl _) _
   have cX:X.heap[wr.heap.size]?=some (.cells #[.int .i64 x.kind,.string x.name,.int .i64 x.sort,.slice Ax x.kids.length cx] 24 (0,0)):=by rw[hX];exact heap_alloc_new _ _
   have sX:=bX.size;have HMX:=hdzz (HMA.out.keep (fun j hj=>bX.block j (by omega)) bX.size (HMA.out.bel.trans (bX.mono (by have:=HMA.out.bel.size;omega))));have hRX:=HROW.out.below bX;have KE:=hdzz (key_any x Ax cx X);obtain⟨d0,d1,d2,d3,-⟩:=qaa cX;rw[hX]at d0 d1 d2 d3;have HX:=hdzz hX;have HCX:=hdzz cX;have HRX:=hdzz hRX;have HNX:=hdzz hnx;have HXP:Hid (x.kind=1∧x.kids=[]∧qaw x∧hasS q1 x=true∧x.size≤1000000):=⟨hxk,hxi,hxy,hxb,hxs⟩;have HREPX:Hid (∀(Z:World) (G:Nat→Prop),RepP Z G x Ax cx):=hdzz fun Z G=>RepP.mono (fun b hb=>False.elim hb.1) (fun p hp=>False.elim hp.1) _ _ _ hrx;have hxlt:wr.heap.size<X.heap.size:=(sltz cX);clear hX bX cX hRX hnx hxk hxi hxy hxb hxs hrx HMA HROW;simp only[Tm.val]at KE;go_wp2_with fail
   rw[←HX.out]
   try go_wp2_with fail
   refine KE.out.mono ?_;clear KE d0 d1 d2 d3 m0 m1 m2 m3;rintro e w5 ⟨rfl,hl5⟩;have s5:=hl5.size;have hM5:=HMX.out.keep (fun j hj=>hl5.below.block j (by omega)) hl5.size (HMX.out.bel.trans (hl5.below.mono (by have:=HMX.out.bel.size;omega)));obtain⟨Au,cu,hru,hrun⟩:=hM5.map.look0 HXP.out.1 HXP.out.2.1 HXP.out.2.2.1 HXP.out.2.2.2.1;have hus:(getS q1 x).size≤1000000:=by
    rcases qdy x q1 with⟨b',hb',-,e2⟩|⟨e1,-⟩
    ·rw[e2];have:=HQV.out b' hb';omega
    ·rw[e1];exact HXP.out.2.2.2.2
   obtain⟨u,hu⟩:∃u,u=getS q1 x:=⟨_,rfl⟩;rw[←hu]at hru hrun hus HNX;clear hu;simp only[Tm.val]at hrun;obtain⟨Y,hY⟩:∃Y,Y=w5.alloc (.cells #[.int .i64 u.kind,.string u.name,.int .i64 u.sort,.slice Au u.kids.length cu] 24):=⟨_,rfl⟩;have bY:Below w5.heap.size w5 Y:=by rw[hY];exact qab (Nat.le_refl _) _
   have cY:Y.heap[w5.heap.size]?=some (.cells #[.int .i64 u.kind,.string u.name,.int .i64 u.sort,.slice Au u.kids.length cu] 24 (0,0)):=by rw[hY];exact heap_alloc_new _ _
   have cX5:=(hl5.below.block _ hxlt).trans HCX.out;have cXY:=(bY.block _ (by omega)).trans cX5;have sY:=bY.size;have HMY:=hdzz (hM5.keep (fun j hj=>bY.block j (by omega)) bY.size (hM5.bel.trans (bY.mono (by have:=hM5.bel.size;omega))));have HRY:=hdzz ((HRX.out.below hl5.below).below bY);have hruY:RepP Y (fun b=>b<w.heap.size) u Au cu:=RepP.mono (fun _ h=>h) (fun p hp=>(HMY.out.bel.cell hp).trans (hM5.bel.cell hp).symm) _ _ _ hru;have hwY:=HMY.out.bel.size;have SM:=qh0 u x Au Ax cu cx Y hus HXP.out.2.2.2.2 (RepP.mono (fun b (h:b<w.heap.size)=>by show b<_;omega) (fun _ _=>rfl) _ _ _ hruY) (HREPX.out Y _);obtain⟨qs,hqs⟩:∃q,q=decide (u=x):=⟨_,rfl⟩;rw[←hqs]at SM;simp only[Tm.val]at SM;have SM:=hdzz SM;have HQS:=hdzz hqs;obtain⟨f0,f1,f2,f3,-⟩:=qaa cY;obtain⟨g0,g1,g2,g3,-⟩:=qaa cXY
   obtain⟨h0,h1,h2,h3,-⟩:=qaa cX5;rw[hY]at f0 f1 f2 f3 g0 g1 g2 g3;have HY:=hdzz hY;have HCY:=hdzz cY;have HCXY:=hdzz cXY;have HRUY:=hdzz hruY;have hylt:w5.heap.size<Y.heap.size:=(sltz cY);clear hY bY cY cX5 cXY hru hruY hM5 hl5 HMX HRX HCX hqs hus;go_wp2_with (at_lookup;refine qf3 rfl _ _ rfl rfl rfl hrun ?_)
   rw[←HY.out]
   try go_wp2_with fail
   refine SM.out.mono ?_;clear SM f0 f1 f2 f3 g0 g1 g2 g3 h0 h1 h2 h3;rintro e w6 ⟨rfl,hl6⟩;have s6:=hl6.size;have HM6:=hdzz (HMY.out.keep (fun j hj=>hl6.below.block j (by omega)) hl6.size (HMY.out.bel.trans (hl6.below.mono (by omega))));have HR6:=hdzz (HRY.out.below hl6.below)
   cases qs with
   | true=>
    have he:u=x:=of_decide_eq_true HQS.out.symm;have HN2:=hdzz (HNX.out.trans (by rw[if_pos he,List.append_nil]));clear he HNX HQS HMY HRY hl6;go_wp2_with fail
    go_roundw
    case rel=>exact⟨k+1,c0,A0,its,by omega,by go_num,rfl,by omega,HN2.out.symm,HM6.out,HR6.out⟩
    case measure=>simp[intOf];omega
   | false=>
    have he:u≠x:=of_decide_eq_false HQS.out.symm;have HN2:=hdzz (HNX.out.trans (by rw[if_neg he]));have hlen:its.length+1≤100000000:=by
     have h:=congrArg List.length HNX.out;rw[if_neg he,List.length_append,List.length_map]at h;have h5:(qg8 q1 (L.take (k+1))).length≤(L.take (k+1)).length:=by
      unfold qg8;rw[List.length_map];exact List.length_filter_le _ _
     rw[List.length_take]at h5;simp only[List.length_singleton]at h;omega
    have own:∀j,(Value.slice A0 its.length c0).ownBlock=some j→base≤j:=fun j e=>(HR6.out.lt j e).1;have hru6:RepP w6 (fun b=>b<w.heap.size∧b<w6.heap.size∧(Value.slice A0 its.length c0).ownBlock≠some b) u Au cu:=RepP.mono (fun b (h:b<w.heap.size)=>⟨h,by omega,fun e=>by have:=own b e;omega⟩) (fun p (hp:p.block<w.heap.size)=>hl6.below.cell (by omega)) _ _ _ HRUY.out;obtain⟨g,c9,W9,hap,hrow9,hbel9,hk9,hs9,-⟩:=HR6.out.more1 elemBind (by omega) ((x,Ax,cx),(u,Au,cu)) (HREPX.out _ _) hru6 hlen;have HB9:=hdzz (hbel9 _ _ HM6.out.bel hw4);have HM9:=hdzz (HM6.out.keep (fun j hj=>hk9 j (by omega) (fun e=>by have:=own j e;omega)) hs9 HB9.out);have HROW9:=hdzz hrow9;obtain⟨f0,f1,f2,f3,-⟩:=qaa ((hl6.below.block _ hylt).trans HCY.out)
    obtain⟨g0,g1,g2,g3,-⟩:=qaa ((hl6.below.block _ (by omega)).trans HCXY.out);dsimp only at hap;clear hrow9 hbel9 hk9 own hru6 he HNX HQS HMY HRY hl6;go_wp2_with (at_builtin;refine qag rfl _ _ rfl rfl rfl hap ?_)
    go_roundw
    case rel=>exact⟨k+1,c9,some ⟨g,0,none⟩,its++[((x,Ax,cx),(u,Au,cu))],by omega,by go_num,by rw[List.length_append];rfl,by omega,by show _=_;rw[HN2.out,List.map_append];rfl,HM9.out,by rw[List.length_append];exact HROW9.out⟩
    case measure=>simp[intOf];omega
  ·obtain rfl:k=L.length:=by omega
   have hit:=HIT.out;rw[List.take_length]at hit;obtain⟨A7,c7,hv7,hrep7⟩:=HROW.out.toB (P:=fun b=>b<wr.heap.size) (fun b _ h _=>h) (fun b h=>(HROW.out.lt b h).2);injection hv7 with g1 g2 g3;clear g2;subst g1 g3;rw[hit]at hrep7;have hlb:its.length=(qg8 q1 L).length:=by rw[←hit,List.length_map]
   have hr:=HR3.out;rw[←HL.out]at hr;subst hr;have HREP7:=hdzz hrep7;have HLB:=hdzz hlb;clear hrep7 hlb hit HIT HR3;go_wp2_with fail
   go_ret2
   exact⟨A0,c0,by rw[HLB.out];rfl,HREP7.out,HMA.out.bel⟩
end Go.Proofs.YtjhjoiplpmjepaaGreat
