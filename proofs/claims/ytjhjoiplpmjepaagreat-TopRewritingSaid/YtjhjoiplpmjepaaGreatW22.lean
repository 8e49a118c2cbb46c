/- Gg (joined by shake.py). -/
import Derived.Test.YtjhjoiplpmjepaaGreatW0
import Derived.Test.YtjhjoiplpmjepaaGreatW8
import Derived.BigRegion
set_option maxRecDepth 100000
set_option linter.unusedVariables false
set_option linter.unusedSimpArgs false
set_option maxHeartbeats 8000000
namespace Go.Proofs.YtjhjoiplpmjepaaGreat
open Go.RowKit Go.Sort
open Go.RowKit Go.Sort
open Go.RowKit Go.Sort
def cut (d:Nat):Option (Tm×List UInt8)→Option (Tm×List UInt8)
 | some (t,r)=>if t.depth≤d then some (t,r)else none
 | none=>none
theorem qgp (d:Nat) (t:Tm) (r:List UInt8):cut d (some (t,r))=if t.depth≤d then some (t,r)else none:=rfl
def qbw (d n:Nat) (l:List UInt8):Option (Tm×List UInt8):=cut d (pterm n l)
def qg0 (d n:Nat) (w:ByteArray) (acc:List Tm) (l:List UInt8):Option (Tm×List UInt8):=cut (d+1) (pkids n w acc l)
def qpw (d n:Nat) (w:ByteArray) (acc:List Tm):Option (Tm×List UInt8)→Option (Tm×List UInt8)
 | none=>none
 | some (k,r)=>qg0 d n w (acc++[k]) r
theorem qc1:∀a b:List Tm,Tm.depths (a++b)=max (Tm.depths a) (Tm.depths b)
 | [],b=>by simp[Tm.depths]
 | t::a,b=>by simp only[List.cons_append,Tm.depths,qc1 a b];omega
theorem qpt (n:Nat) (l:List UInt8):qbw 0 n l=none:=by
 unfold qbw cut
 split
 ·rename_i t r h
  obtain⟨k,nm,s,l⟩:=t;rw[if_neg (by rw[Tm.depth];omega)]
 ·rfl
theorem pterm_nil (n:Nat):pterm n []=none:=by
 cases n with
 | zero=>rfl
 | succ n=>rw[pterm];rfl
theorem rkids_nil (d n:Nat) (w:ByteArray) (acc:List Tm):qg0 d n w acc []=none:=by
 unfold qg0
 cases n with
 | zero=>rfl
 | succ n=>
  by_cases ha:acc=[]
  ·subst ha;rw[qjn n w [] [] rfl (.inl rfl),if_neg (by simp),pterm_nil];rfl
  ·rw[qjm n w acc [] rfl ha rfl];rfl
theorem qnc (d n:Nat) (w:ByteArray) (acc:List Tm) (l:List UInt8) (h:Lib.hasPrefix l [41]=true) (ha:Tm.depths acc≤d):qg0 d (n+1) w acc l=some (.mk 3 w 0 acc,l.drop 1):=by
 unfold qg0;rw[pkids,if_pos h];rw[qgp,if_pos (by rw[Tm.depth];omega)]
theorem qji (d n:Nat) (w:ByteArray) (acc:List Tm) (l:List UInt8) (h1:Lib.hasPrefix l [41]=false) (h2:acc≠[]) (h3:Lib.hasPrefix l [44,32]=false):qg0 d (n+1) w acc l=none:=by
 unfold qg0;rw[qjm n w acc l h1 h2 h3];rfl
theorem qjj (d n:Nat) (w:ByteArray) (acc:List Tm) (l:List UInt8) (h1:Lib.hasPrefix l [41]=false) (h2:acc=[]∨Lib.hasPrefix l [44,32]=true) :
  qg0 d (n+1) w acc l=qpw d n w acc (qbw d n (if acc≠[]then l.drop 2 else l)):=by
 unfold qg0 qbw;rw[qjn n w acc l h1 h2];generalize (if acc≠[]then l.drop 2 else l)=m
 cases hp:pterm n m with
 | none=>rfl
 | some kr=>
  obtain⟨k,r⟩:=kr;show cut (d+1) (pkids n w (acc++[k]) r)=qpw d n w acc (if k.depth≤d then some (k,r)else none);by_cases hd:k.depth≤d
  ·rw[if_pos hd];rfl
  ·rw[if_neg hd];show _=none
   cases hq:pkids n w (acc++[k]) r with
   | none=>rfl
   | some tr=>
    obtain⟨t,r'⟩:=tr;obtain⟨ks,rfl,-⟩:=(ptext n).2 _ _ _ _ _ hq;rw[qgp,if_neg];rw[Tm.depth,qc1,qc1];simp only[Tm.depths];omega
theorem qjg (d n:Nat) (l:List UInt8) (h:∀t r,pterm n l=some (t,r)→t.kids=[]):qbw (d+1) n l=pterm n l:=by
 unfold qbw
 cases hp:pterm n l with
 | none=>rfl
 | some tr=>
  obtain⟨t,r⟩:=tr;have:=h t r hp;obtain⟨k,nm,s,ks⟩:=t;simp only[Tm.kids]at this;subst this;rw[qgp,if_pos (by rw[Tm.depth];simp[Tm.depths])]
theorem pdepth:∀n,(∀l t r,pterm n l=some (t,r)→3*t.depth+r.length≤l.length+2)∧(∀w acc l t r,pkids n w acc l=some (t,r)→∃k,t=.mk 3 w 0 (acc++k)∧r.length+1≤l.length∧3*Tm.depths k+r.length≤l.length+1)
 | 0=>⟨fun l t r h=>by simp[pterm]at h,fun w acc l t r h=>by simp[pkids]at h⟩
 | n+1=>by
  obtain⟨ih1,ih2⟩:=pdepth n;have leaf:∀(k:Int) (x:ByteArray) (so:Int),(Tm.mk k x so []).depth=1:=fun k x so=>by simp[Tm.depth,Tm.depths]
  constructor
  ·intro l t r h;rw[pterm]at h;by_cases hv:Lib.hasPrefix l [63]=true
   ·rw[if_pos hv]at h;by_cases hn:qbg ((l.drop 1).takeWhile qa2)=false
    ·rw[if_pos hn]at h;cases h
    ·rw[if_neg hn,if_pos hv]at h;have hw:=qf6 (l:=l.drop 1) (by simpa using hn);have hle:=qds (l.drop 1);rw[List.length_drop]at hle;unfold pvar at h
     split at h
     ·split at h
      ·injection h with h;injection h with h1 h2;subst h1 h2;rw[leaf];simp only[List.length_drop];omega
      ·cases h
     ·injection h with h;injection h with h1 h2;subst h1 h2;rw[leaf];simp only[List.length_drop];omega
   ·rw[if_neg hv]at h;by_cases hn:qbg (l.takeWhile qa2)=false
    ·rw[if_pos hn]at h;cases h
    ·rw[if_neg hn,if_neg hv]at h;have hw:=qf6 (l:=l) (by simpa using hn);have hle:=qds l;by_cases hp:Lib.hasPrefix (l.drop (wlen l)) [40]=false
     ·rw[if_pos hp]at h;unfold qid at h
      split at h
      ·injection h with h;injection h with h1 h2;subst h1 h2;rw[leaf];simp only[List.length_drop];omega
      ·cases h
     ·rw[if_neg hp]at h;have hp':Lib.hasPrefix (l.drop (wlen l)) [40]=true:=by simpa using hp
      have hne:=congrArg List.length (qcn hp');obtain⟨k,rfl,h1,h2⟩:=ih2 _ _ _ _ _ h;simp only[List.length_drop,List.length_cons]at h1 h2 hne;rw[Tm.depth,List.nil_append];omega
  ·intro w acc l t r h;rw[pkids]at h;by_cases h1:Lib.hasPrefix l [41]=true
   ·rw[if_pos h1]at h;have hne:=congrArg List.length (qcn h1);injection h with h;injection h with h3 h4;subst h3 h4;simp only[List.length_drop,List.length_cons]at hne ⊢;exact⟨[],by simp,by omega,by simp only[Tm.depths];omega⟩
   ·rw[if_neg h1]at h
    split at h
    ·cases h
    ·split at h
     ·cases h
     ·rename_i k r' hk
      have a1:=ih1 _ _ _ hk;obtain⟨ks,rfl,a2,a3⟩:=ih2 _ _ _ _ _ h;have a4:=((psize n).1 _ _ _ hk);have a5:=k.size_pos;have hle:(if acc≠[]then l.drop 2 else l).length≤l.length:=by split<;>simp
      exact⟨k::ks,by simp,by omega,by simp only[Tm.depths];omega⟩
theorem parse_cut {l:List UInt8} (h:l.length≤2000):cut 800 (pterm (2*l.length+1) l)=pterm (2*l.length+1) l:=by
 cases hp:pterm (2*l.length+1) l with
 | none=>rfl
 | some tr=>
  obtain⟨t,r⟩:=tr;have:=(pdepth _).1 _ _ _ hp;rw[qgp,if_pos (by omega)]
def qex (tk:Int) (nm:ByteArray) (l:List UInt8):Option (Tm×List UInt8):=
 if Lib.hasPrefix l [58]=true then (if (qec (if tk=1 then 1 else 0) l).2.1=true then some (.mk tk nm (qec (if tk=1 then 1 else 0) l).1 [],l.drop (qec (if tk=1 then 1 else 0) l).2.2)else none)
 else if tk=1 then some (.mk 1 nm 0 [],l)else none
theorem rleaf_var (nm:ByteArray) (l:List UInt8):qex 1 nm l=pvar nm l:=by unfold qex pvar;simp
theorem qpx (nm:ByteArray) (l:List UInt8):qex 2 nm l=qid nm l:=by
 unfold qex qid;by_cases h:Lib.hasPrefix l [58]=true
 ·rw[if_pos h];rfl
 ·rw[if_neg h,qof 0 l (by simpa using h)];rfl
def qet (o:Option (Tm×List UInt8)) (w:World) (e:Ending) (w':World):Prop:=
 Below w.heap.size w w'∧match o with
  | none=>∃k nm so A l c s',e=.returned (.tuple #[.agg #[.int .i64 k,.string nm,.int .i64 so,.slice A l c],.string s',.bool false])
  | some (t,r)=>∃A cap s',e=.returned (.tuple #[t.val A cap,.string s',.bool true])∧RepP w' (fun b=>w.heap.size≤b∧b<w'.heap.size) t A cap∧s'.data.toList=r
theorem qc6 {s:ByteArray} {b:UInt8} {r:List UInt8} (h:s.data.toList=b::r):∃h0:0<s.size,s[0]=b:=by
 have hs:=qak s;rw[h]at hs;refine⟨by rw[hs];simp,?_⟩;have:s[0]'(by rw[hs];simp)=s.data.toList[0]'(by rw[h];simp):=rfl;rw[this];simp only[h,List.getElem_cons_zero]
theorem qg7 {b:UInt8} (c:UInt8) (n:Int) (hn:n=c.toNat) (h:b≠c):((b.toNat:Int)==n)=false∧((b.toNat:Int) != n)=true:=by
 have:((b.toNat:Int)==n)=false:=by
  rw[beq_eq_false_iff_ne,hn];intro e;exact h (UInt8.toNat.inj (by omega))
 exact⟨this,by unfold bne;rw[this];rfl⟩
theorem qan {B b:Nat} {u w:World} {x y z v:Value} (h:Below B u w) (hB:B≤b):Below B u ((((w.setCell ⟨b,0,none⟩ x).setCell ⟨b,1,none⟩ y).setCell ⟨b,2,none⟩ z).setCell ⟨b,3,none⟩ v):=by
 iterate 4 refine Below.setCell ?_ (by exact hB) _
 exact h
theorem leaf_none (tk:Int) (hk:tk=1∨tk=2) (nm:ByteArray) (hnm:nm.size≤24) (s:ByteArray) (hs:s.size≤1000000) (h:Lib.hasPrefix s.data.toList [58]=false) (w:World) :
  Calls Tryz.prog 113 #[.agg #[.int .i64 tk,.string nm,.int .i64 0,.slice none 0 0],.string s] w (qet (qex tk nm s.data.toList) w):=by
 have mixed:=mixz;have HR:Hid (qex tk nm s.data.toList=if tk=1 then some (.mk 1 nm 0 [],s.data.toList)else none):=by unfold qex;rw[if_neg (by rw[h];simp)];exact rfl
 obtain⟨W1,hW1⟩:∃W1,W1=w.alloc (.cells #[.int .i64 tk,.string nm,.int .i64 0,.slice none 0 0] 24):=⟨_,rfl⟩;obtain⟨W2,hW2⟩:∃W2,W2=W1.alloc (.cells #[.int .i64 0,.string ⟨#[]⟩,.int .i64 0,.slice none 0 0] 24):=⟨_,rfl⟩;have s1:W1.heap.size=w.heap.size+1:=by rw[hW1];simp
 have s2:W2.heap.size=w.heap.size+1+1:=by rw[hW2];simp[s1]
 have b1:Below w.heap.size w W1:=by rw[hW1];exact qab (Nat.le_refl _) _
 have b2:Below W1.heap.size W1 W2:=by rw[hW2];exact qab (Nat.le_refl _) _
 have hB:Below w.heap.size w W2:=b1.trans (b2.mono (by omega));have hx1:W2.heap[w.heap.size]?=some (.cells #[.int .i64 tk,.string nm,.int .i64 0,.slice none 0 0] 24 (0,0)):=by rw[b2.block _ (by omega),hW1];exact heap_alloc_new _ _
 have hx2:W2.heap[w.heap.size+1]?=some (.cells #[.int .i64 0,.string ⟨#[]⟩,.int .i64 0,.slice none 0 0] 24 (0,0)):=by rw[hW2,←s1];exact heap_alloc_new _ _
 have HW:Hid (W2=(w.alloc (.cells #[.int .i64 tk,.string nm,.int .i64 0,.slice none 0 0] 24)).alloc (.cells #[.int .i64 0,.string ⟨#[]⟩,.int .i64 0,.slice none 0 0] 24)):=by rw[hW2,hW1];exact rfl
 obtain⟨a0,a1,a2,a3,af⟩:=qaa hx1;obtain⟨c0,c1,c2,c3,cf⟩:=qaa hx2;have HB:=hdzz hB;clear hB b1 b2 hW1 hW2 s1 hx1 hx2
 cases hl:s.data.toList with
 | nil=>
  have hz:((s.size:Int)==0)=true:=by rw[beq_iff_eq,qak,hl];rfl
  rw[←hl];have HL:=hdzz hl;clear hl h;go_enter Tryz.func113,Tryz.ntmps113
  go_wp2_with fail
  rw[←HW.out];go_wp2_with fail
  go_region
  all_goals
   go_wp2_with fail
   refine bodyPost_ret (v:=.tuple #[.agg #[.int .i64 tk,.string nm,.int .i64 0,.slice none 0 0],.string s,.bool (tk==1)]) ?_ rfl ?_
   ·simp[results,Tryz.results113,go_sem,c0,c1,c2,c3]
   refine⟨(qan HB.out (by omega)).drew,?_⟩;rw[HR.out];rcases hk with rfl|rfl
   ·rw[if_pos rfl];exact⟨none,0,s,rfl,qfc _ _ _ (by unfold maxLen;omega),rfl⟩
   ·rw[if_neg (by omega)];exact⟨_,_,_,_,_,_,_,rfl⟩
 | cons b r=>
  obtain⟨h0,hb⟩:=qc6 hl;have hne:b≠58:=fun e=>by subst e;rw[hl,qbz]at h;cases h
  obtain⟨hb58,hbn⟩:=qg7 58 58 rfl hne;have q1:((s.size:Int)==0)=false:=by rw[beq_eq_false_iff_ne];omega
  rw[←hl];have HL:=hdzz hl;clear hl h hne;go_enter Tryz.func113,Tryz.ntmps113
  go_wp2_with fail
  rw[←HW.out]
  go_region
  all_goals
   go_wp2_with fail
   refine bodyPost_ret (v:=.tuple #[.agg #[.int .i64 tk,.string nm,.int .i64 0,.slice none 0 0],.string s,.bool (tk==1)]) ?_ rfl ?_
   ·simp[results,Tryz.results113,go_sem,c0,c1,c2,c3]
   refine⟨(qan HB.out (by omega)).drew,?_⟩;rw[HR.out];rcases hk with rfl|rfl
   ·rw[if_pos rfl];exact⟨none,0,s,rfl,qfc _ _ _ (by unfold maxLen;omega),rfl⟩
   ·rw[if_neg (by omega)];exact⟨_,_,_,_,_,_,_,rfl⟩
theorem qqb (tk:Int) (hk:tk=1∨tk=2) (nm:ByteArray) (hnm:nm.size≤24) (s:ByteArray) (hs:s.size≤1000000) (r:List UInt8) (hl:s.data.toList=58::r) (w:World) :
  Calls Tryz.prog 113 #[.agg #[.int .i64 tk,.string nm,.int .i64 0,.slice none 0 0],.string s] w (qet (qex tk nm s.data.toList) w):=by
 have mixed:=mixz;obtain⟨so,hso⟩:∃so,so=qd6 (r.takeWhile qa2):=⟨_,rfl⟩;obtain⟨least,hle⟩:∃least:Int,least=if tk=1 then 1 else 0:=⟨_,rfl⟩
 have HR:Hid (qex tk nm s.data.toList=if least≤so then some (.mk tk nm so [],r.drop (wlen r))else none):=by
  unfold qex;rw[hl,qbz,if_pos rfl,qfv,←hle,←hso];by_cases h:least≤so
  ·rw[decide_eq_true h,if_pos rfl,if_pos h,Nat.add_comm 1 (wlen r),List.drop_succ_cons];exact rfl
  ·rw[decide_eq_false h,if_neg (by simp),if_neg h];exact rfl
 obtain⟨W1,hW1⟩:∃W1,W1=w.alloc (.cells #[.int .i64 tk,.string nm,.int .i64 0,.slice none 0 0] 24):=⟨_,rfl⟩;obtain⟨W2,hW2⟩:∃W2,W2=W1.alloc (.cells #[.int .i64 0,.string ⟨#[]⟩,.int .i64 0,.slice none 0 0] 24):=⟨_,rfl⟩;have s1:W1.heap.size=w.heap.size+1:=by rw[hW1];simp
 have s2:W2.heap.size=w.heap.size+1+1:=by rw[hW2];simp[s1]
 have b1:Below w.heap.size w W1:=by rw[hW1];exact qab (Nat.le_refl _) _
 have b2:Below W1.heap.size W1 W2:=by rw[hW2];exact qab (Nat.le_refl _) _
 have hB:Below w.heap.size w W2:=b1.trans (b2.mono (by omega));have hx1:W2.heap[w.heap.size]?=some (.cells #[.int .i64 tk,.string nm,.int .i64 0,.slice none 0 0] 24 (0,0)):=by rw[b2.block _ (by omega),hW1];exact heap_alloc_new _ _
 have hx2:W2.heap[w.heap.size+1]?=some (.cells #[.int .i64 0,.string ⟨#[]⟩,.int .i64 0,.slice none 0 0] 24 (0,0)):=by rw[hW2,←s1];exact heap_alloc_new _ _
 have HW:Hid (W2=(w.alloc (.cells #[.int .i64 tk,.string nm,.int .i64 0,.slice none 0 0] 24)).alloc (.cells #[.int .i64 0,.string ⟨#[]⟩,.int .i64 0,.slice none 0 0] 24)):=by rw[hW2,hW1];exact rfl
 obtain⟨h0,hb⟩:=qc6 hl;have q1:((s.size:Int)==0)=false:=by rw[beq_eq_false_iff_ne];omega
 obtain⟨st,hst⟩:∃st,st=s.extract 1 s.size:=⟨_,rfl⟩;have hstl:st.data.toList=r:=by rw[hst,qbb,hl];rfl
 have hsts:st.size+1=s.size:=by rw[qak,qak,hstl,hl,List.length_cons]
 have NM:=qdt st W2 (by omega);rw[hstl]at NM;have NM:=hdzz NM;have HX1:=hdzz hx1;clear hx1;have HX2:=hdzz hx2;clear hx2;have HB:=hdzz hB;clear hB b1 b2 hW1 hW2 s1;have HL:=hdzz hl;clear hl;have HST:=hdzz hst;clear hst;have HSO:=hdzz hso;clear hso;have HLE:=hdzz hle;clear hle;go_enter Tryz.func113,Tryz.ntmps113
 go_wp2_with fail
 rw[←HW.out];go_wp2_with fail
 rw[←HST.out];refine NM.out.mono ?_;rintro e w1 ⟨x,rfl,hx,hxs,hw1⟩;obtain rfl:=hw1.symm;clear hw1;have hxz:1+x.size≤s.size:=by rw[hxs];have:=qds r;rw[←hstl,←qak]at this;rw[←hstl];omega
 have i1:(0:Int)≤1+(x.size:Int):=by omega
 have i2:1+(x.size:Int)≤(s.size:Int):=by omega
 have i3:(1+(x.size:Int)).toNat=1+x.size:=by omega
 have HXL:=hdzz hx;clear hx;have HXS:=hdzz hxs;clear hxs hb NM;go_wp2_with fail
 go_loopw [8] (fun i wr=>∃k:Nat,k≤6∧i=.int .i64 k∧Hid (least≤so→(k:Int)≤so)∧Hid (Lay W2.heap.size W2 wr)) (fun i _=>6 - (intOf i).toNat)
 case atStart=>exact⟨0,by omega,rfl,by have:=HLE.out;split at this<;>(intro h;show(0:Int)≤so;omega),Lay.refl _ _⟩
 case round=>
  obtain⟨k,hk6,rfl,HI,HLR⟩:=hrel;have hx1:=(HLR.out.below.block w.heap.size (by omega)).trans HX1.out;have hx2:=(HLR.out.below.block (w.heap.size+1) (by omega)).trans HX2.out;by_cases hk5:k≤5
  ·have d1:decide ((k:Int)≤5)=true:=decide_eq_true (by omega);have WC:=hdzz (word_any k hk5 wr);obtain⟨wd,hwd⟩:∃wd,wd=(⟨(qa1 k).toArray⟩:ByteArray):=⟨_,rfl⟩;rw[←hwd]at WC;by_cases hxw:x=wd
   ·have hsk:so=k:=by
     rw[HSO.out,←HXL.out,hxw,hwd];exact qh5 (by omega) (by omega)
    have HXW:=hdzz hxw;rw[←hxw]at WC;have HWD:=hdzz hwd;clear hwd hxw;by_cases hk0:k=0
    ·have q0:((k:Int) != 0)=false:=by rw[hk0];rfl
     rcases hk with rfl|rfl
     ·have HNX:Hid (least≤so→((k+1:Nat):Int)≤so):=by intro h;have:=HLE.out;simp at this;omega
      have HSK:=hdzz hsk;clear hsk hk0;go_wp2_with fail
      refine WC.out.mono ?_;rintro e w2 ⟨rfl,hl2⟩;have hL2:Lay W2.heap.size W2 w2:=HLR.out.trans (hl2.mono HLR.out.size);have hy1:=(hL2.below.block w.heap.size (by omega)).trans HX1.out;obtain⟨a0,a1,a2,a3,af⟩:=qaa hy1;have HL2:=hdzz hL2;clear hl2 hy1 WC hL2 hx1 hx2;go_wp2_with fail
      go_roundw
      case rel=>exact⟨k+1,by omega,by go_num,HNX.out,HL2.out⟩
      case measure=>simp[intOf];omega
     ·have HOK:Hid (least≤so):=by have:=HLE.out;rw[hsk];simp at this;(show least≤(k:Int));omega
      have HSK:=hdzz hsk;clear hsk hk0;go_wp2_with fail
      refine WC.out.mono ?_;rintro e w2 ⟨rfl,hl2⟩;have hL2:Lay W2.heap.size W2 w2:=HLR.out.trans (hl2.mono HLR.out.size);have hy1:=(hL2.below.block w.heap.size (by omega)).trans HX1.out;have hy2:=(hL2.below.block (w.heap.size+1) (by omega)).trans HX2.out;obtain⟨a0,a1,a2,a3,af⟩:=qaa hy1;obtain⟨c0,c1,c2,c3,cf⟩:=qaa hy2;have HB2:=hdzz (HB.out.trans (hL2.below.mono (by omega)));clear hl2 hy1 hy2 WC hL2;go_wp2_with fail
      go_region
      all_goals
       go_wp2_with fail
       refine bodyPost_ret (v:=.tuple #[.agg #[.int .i64 2,.string nm,.int .i64 k,.slice none 0 0],.string (s.extract (1+x.size) s.size),.bool true]) ?_ rfl ?_
       ·simp[results,Tryz.results113,go_sem,c0,c1,c2,c3]
       refine⟨(qan (HB2.out.setCell (p:=⟨w.heap.size,2,none⟩) (Nat.le_refl _) _) (by omega)).drew,?_⟩;rw[HR.out,if_pos HOK.out,HSK.out];refine⟨none,0,_,rfl,qfc _ _ _ (by unfold maxLen;omega),?_⟩;rw[qbb,HL.out,Nat.add_comm,List.drop_succ_cons,←HXS.out]
    ·have q0:((k:Int) != 0)=true:=by simp;omega
     have HOK:Hid (least≤so):=by have:=HLE.out;rw[hsk];split at this<;>(show least≤(k:Int);omega)
     have HSK:=hdzz hsk;clear hsk hk0;go_wp2_with fail
     refine WC.out.mono ?_;rintro e w2 ⟨rfl,hl2⟩;have hL2:Lay W2.heap.size W2 w2:=HLR.out.trans (hl2.mono HLR.out.size);have hy1:=(hL2.below.block w.heap.size (by omega)).trans HX1.out;have hy2:=(hL2.below.block (w.heap.size+1) (by omega)).trans HX2.out;obtain⟨a0,a1,a2,a3,af⟩:=qaa hy1;obtain⟨c0,c1,c2,c3,cf⟩:=qaa hy2;have HB2:=hdzz (HB.out.trans (hL2.below.mono (by omega)));clear hl2 hy1 hy2 WC hL2;go_wp2_with fail
     go_region
     all_goals
      go_wp2_with fail
      refine bodyPost_ret (v:=.tuple #[.agg #[.int .i64 tk,.string nm,.int .i64 k,.slice none 0 0],.string (s.extract (1+x.size) s.size),.bool true]) ?_ rfl ?_
      ·simp[results,Tryz.results113,go_sem,c0,c1,c2,c3]
      refine⟨(qan (HB2.out.setCell (p:=⟨w.heap.size,2,none⟩) (Nat.le_refl _) _) (by omega)).drew,?_⟩;rw[HR.out,if_pos HOK.out,HSK.out];refine⟨none,0,_,rfl,qfc _ _ _ (by unfold maxLen;omega),?_⟩;rw[qbb,HL.out,Nat.add_comm,List.drop_succ_cons,←HXS.out]
   ·have e2:¬x.toList=wd.toList:=fun e=>hxw (by
     rw[ByteArray.toList_eq,ByteArray.toList_eq]at e;rw[qdo x,e,←qdo])
    have e3:(x.toList==wd.toList)=false:=by rw[beq_eq_false_iff_ne];exact e2
    have e4:decide (x.toList=wd.toList)=false:=decide_eq_false e2;have HNX:Hid (least≤so→((k+1:Nat):Int)≤so):=by
     intro h;have h1:=HI.out h;have h2:so≠k:=fun e=>hxw (by
      have h3:=(qev (l:=r.takeWhile qa2) (by rw[←HSO.out];omega)).2;rw[←HSO.out,e,←HXL.out]at h3;rw[hwd,h3])
     omega
    have HWD:=hdzz hwd;clear hwd;go_wp2_with fail
    refine WC.out.mono ?_;rintro e w2 ⟨rfl,hl2⟩;have hL2:Lay W2.heap.size W2 w2:=HLR.out.trans (hl2.mono HLR.out.size);have hy1:=(hL2.below.block w.heap.size (by omega)).trans HX1.out;obtain⟨a0,a1,a2,a3,af⟩:=qaa hy1;have HL2:=hdzz hL2;clear hl2 hy1 WC hL2 hx1 hx2;go_wp2_with fail
    go_roundw
    case rel=>exact⟨k+1,by omega,by go_num,HNX.out,HL2.out⟩
    case measure=>simp[intOf];omega
  ·obtain rfl:k=6:=by omega
   have hno:¬least≤so:=fun h=>by
    have h1:=HI.out h;have h2:=(qev (l:=r.takeWhile qa2) (by rw[←HSO.out];omega)).1;rw[←HSO.out]at h2;omega
   have HRR:Hid (qex tk nm s.data.toList=none):=by rw[HR.out];exact if_neg hno
   obtain⟨a0,a1,a2,a3,af⟩:=qaa hx1;obtain⟨c0,c1,c2,c3,cf⟩:=qaa hx2;have HB2:=hdzz (HB.out.trans (HLR.out.below.mono (by omega)));clear hno hx1 hx2;go_wp2_with fail
   refine bodyPost_ret (v:=.tuple #[.agg #[.int .i64 tk,.string nm,.int .i64 0,.slice none 0 0],.string s,.bool false]) ?_ rfl ?_
   ·simp[results,Tryz.results113,go_sem,c0,c1,c2,c3]
   refine⟨qan HB2.out (by omega),?_⟩;rw[HRR.out];exact⟨_,_,_,_,_,_,_,rfl⟩
theorem qkr (tk:Int) (hk:tk=1∨tk=2) (nm:ByteArray) (hnm:nm.size≤24) (s:ByteArray) (hs:s.size≤1000000) (w:World) :
  Calls Tryz.prog 113 #[.agg #[.int .i64 tk,.string nm,.int .i64 0,.slice none 0 0],.string s] w (qet (qex tk nm s.data.toList) w):=by
 by_cases h:Lib.hasPrefix s.data.toList [58]=true
 ·obtain⟨r,hr⟩:=qhf h;exact qqb tk hk nm hnm s hs r hr w
 ·exact leaf_none tk hk nm hnm s hs (by simpa using h) w
theorem heap_set0 {W:World} {B:Nat} {a b c d u:Value} {T:TypeId} (h:W.heap[B]?=some (.cells #[a,b,c,d] T (0,0))) :
  (W.setCell ⟨B,0,none⟩ u).heap[B]?=some (.cells #[u,b,c,d] T (0,0)):=by
 simp[World.setCell,Array.getElem?_modify,h]
theorem heap_set1 {W:World} {B:Nat} {a b c d u:Value} {T:TypeId} (h:W.heap[B]?=some (.cells #[a,b,c,d] T (0,0))) :
  (W.setCell ⟨B,1,none⟩ u).heap[B]?=some (.cells #[a,u,c,d] T (0,0)):=by
 simp[World.setCell,Array.getElem?_modify,h]
structure Rd (w:World) (k:Int) (x:ByteArray) (v:Value) (Y:World):Prop where
 below:Below w.heap.size w Y
 res:Y.heap[w.heap.size]?=some (.cells #[.int .i64 0,.string ⟨#[]⟩,.int .i64 0,.slice none 0 0] 24 (0,0))
 box:Y.heap[w.heap.size+1]?=some (.cells #[.int .i64 k,.string x,.int .i64 0,v] 24 (0,0))
theorem Rd.lt {w Y:World} {k:Int} {x:ByteArray} {v:Value} (h:Rd w k x v Y):w.heap.size+1<Y.heap.size:=(sltz h.box)
theorem Rd.go {w Y Z:World} {k:Int} {x:ByteArray} {v:Value} (h:Rd w k x v Y) (hb:Below Y.heap.size Y Z):Rd w k x v Z:=
 ⟨h.below.trans (hb.mono (by have:=h.lt;omega)),(hb.block _ (by have:=h.lt;omega)).trans h.res,(hb.block _ h.lt).trans h.box⟩
theorem Rd.kind {w Y:World} {k:Int} {x:ByteArray} {v:Value} (h:Rd w k x v Y) (k':Int):Rd w k' x v (Y.setCell ⟨w.heap.size+1,0,none⟩ (.int .i64 k')):=
 ⟨h.below.setCell (p:=⟨w.heap.size+1,0,none⟩) (Nat.le_succ _) _,(Below.heap_setCell _ _ _ _ (by show w.heap.size≠w.heap.size+1;omega)).trans h.res,heap_set0 h.box⟩
theorem Rd.name {w Y:World} {k:Int} {x:ByteArray} {v:Value} (h:Rd w k x v Y) (x':ByteArray):Rd w k x' v (Y.setCell ⟨w.heap.size+1,1,none⟩ (.string x')):=
 ⟨h.below.setCell (p:=⟨w.heap.size+1,1,none⟩) (Nat.le_succ _) _,(Below.heap_setCell _ _ _ _ (by show w.heap.size≠w.heap.size+1;omega)).trans h.res,heap_set1 h.box⟩
theorem Rd.slot {w Y:World} {k:Int} {x:ByteArray} {v:Value} (h:Rd w k x v Y) (v':Value):Rd w k x v' (Y.setCell ⟨w.heap.size+1,3,none⟩ v'):=
 ⟨h.below.setCell (p:=⟨w.heap.size+1,3,none⟩) (Nat.le_succ _) _,(Below.heap_setCell _ _ _ _ (by show w.heap.size≠w.heap.size+1;omega)).trans h.res,qe3 h.box⟩
theorem Rd.new (w:World) (k:Int):Rd w k ⟨#[]⟩ (.slice none 0 0) ((w.alloc (.cells #[.int .i64 0,.string ⟨#[]⟩,.int .i64 0,.slice none 0 0] 24)).alloc (.cells #[.int .i64 k,.string ⟨#[]⟩,.int .i64 0,.slice none 0 0] 24)):=by
 have b1:Below w.heap.size w (w.alloc (.cells #[.int .i64 0,.string ⟨#[]⟩,.int .i64 0,.slice none 0 0] 24)):=qab (Nat.le_refl _) _;have s1:(w.alloc (.cells #[.int .i64 0,.string ⟨#[]⟩,.int .i64 0,.slice none 0 0] 24)).heap.size=w.heap.size+1:=by simp
 have b2:=qab (Nat.le_refl (w.alloc (.cells #[.int .i64 0,.string ⟨#[]⟩,.int .i64 0,.slice none 0 0] 24)).heap.size) (.cells #[.int .i64 k,.string ⟨#[]⟩,.int .i64 0,.slice none 0 0] 24);refine⟨b1.trans (b2.mono (by omega)),?_,?_⟩
 ·rw[b2.block _ (by omega)];exact heap_alloc_new _ _
 ·rw[←s1];exact heap_alloc_new _ _
theorem qma (s:ByteArray) (h:Lib.hasPrefix s.data.toList [63]=true):∃h0:0<s.size,s[0]=63∧(s.extract 1 s.size).data.toList=s.data.toList.drop 1∧(s.extract 1 s.size).size+1=s.size:=by
 have h1:=qcn h;obtain⟨h0,hb⟩:=qc6 h1.symm;refine⟨h0,hb,qbb s 1,?_⟩;have e1:=qak (s.extract 1 s.size);have e2:=qak s;rw[qbb,List.length_drop]at e1;omega
theorem no_byte (s:ByteArray) (c:UInt8) (h:Lib.hasPrefix s.data.toList [c]=false):s.size=0∨∃h0:0<s.size,s[0]≠c:=by
 cases hl:s.data.toList with
 | nil=>left;rw[qak,hl];rfl
 | cons b r=>
  obtain⟨h0,hb⟩:=qc6 hl;right;refine⟨h0,fun e=>?_⟩;rw[hb]at e;subst e;rw[hl,qbz]at h;cases h
theorem qik (s:ByteArray) (h:Lib.hasPrefix s.data.toList [63]=false):s.size=0∨∃h0:0<s.size,s[0]≠63:=by
 cases hl:s.data.toList with
 | nil=>left;rw[qak,hl];rfl
 | cons b r=>
  obtain⟨h0,hb⟩:=qc6 hl;right;refine⟨h0,fun e=>?_⟩;rw[hb]at e;subst e;rw[hl,qbz]at h;cases h
theorem qol (s:ByteArray) (d n:Nat) (hs:s.size≤1000000) (hd:d≤1000000) (w:World)
  (hbad:qbg ((if Lib.hasPrefix s.data.toList [63]=true then s.data.toList.drop 1 else s.data.toList).takeWhile qa2)=false∨d=0) :
  Calls Tryz.prog 72 #[.string s,.int .i64 d] w (qet (qbw d (n+1) s.data.toList) w):=by
 have HR:Hid (qbw d (n+1) s.data.toList=none):=by
  rcases hbad with h|h
  ·unfold qbw;rw[pterm,if_pos h];exact rfl
  ·rw[h];exact qpt _ _
 obtain⟨W2,hW2⟩:∃W2,W2=(w.alloc (.cells #[.int .i64 0,.string ⟨#[]⟩,.int .i64 0,.slice none 0 0] 24)).alloc (.cells #[.int .i64 2,.string ⟨#[]⟩,.int .i64 0,.slice none 0 0] 24):=⟨_,rfl⟩;have hrd0:Rd w 2 ⟨#[]⟩ (.slice none 0 0) W2:=by rw[hW2];exact Rd.new w 2
 have HRD:=hdzz hrd0;clear hrd0;have HW:=hdzz hW2;clear hW2
 cases hv:Lib.hasPrefix s.data.toList [63]with
 | true=>
  obtain⟨h0,hb,hstl,hsts⟩:=qma s hv;have q0:decide (0<s.size)=true:=decide_eq_true h0;have q1:(0:Int)<(s.size:Int):=by omega
  have q2:(1:Int)≤(s.size:Int):=by omega
  obtain⟨st,hst⟩:∃st,st=s.extract 1 s.size:=⟨_,rfl⟩;rw[←hst]at hstl hsts;have HST:=hdzz hst;clear hst;obtain⟨Y,hY⟩:∃Y,Y=(w.alloc (.cells #[.int .i64 0,.string ⟨#[]⟩,.int .i64 0,.slice none 0 0] 24)).alloc (.cells #[.int .i64 1,.string ⟨#[]⟩,.int .i64 0,.slice none 0 0] 24):=⟨_,rfl⟩;have hrd:Rd w 1 ⟨#[]⟩ (.slice none 0 0) Y:=by rw[hY];exact Rd.new w 1
  have HY:=hdzz hY;clear hY HRD HW;have hssz:st.size≤1000000:=by omega
  have NM:=hdzz (qdt st Y (by omega));go_enter Tryz.func72,Tryz.ntmps72
  go_wp2_with fail
  rw[←HST.out,←HY.out];clear q0 q1 q2 hb;refine NM.out.mono ?_;clear NM;rintro e w1 ⟨x,rfl,hx,hxs,hw1⟩;obtain rfl:=hw1.symm;clear hw1;obtain⟨Z,hZ⟩:∃Z,Z=Y.setCell ⟨w.heap.size+1,1,none⟩ (.string x):=⟨_,rfl⟩;have hrz:Rd w 1 x (.slice none 0 0) Z:=by rw[hZ];exact hrd.name x
  obtain⟨a0,a1,a2,a3,af⟩:=qaa hrd.box;have hlt1:=hrd.lt;have hxz:x.size≤st.size:=by rw[hxs];have:=qds st.data.toList;rw[←qak]at this;exact this
  have HRZ:=hdzz hrz;clear hrz hrd;have HZ:=hdzz hZ;clear hZ;have HX:=hdzz hx;clear hx;have HXS:=hdzz hxs;clear hxs;have IN:=hdzz (qcm x Z (by unfold maxLen;omega));go_wp2_with fail
  rw[←HZ.out];clear a0 a1 a2 a3 af HZ;obtain⟨a0,a1,a2,a3,af⟩:=qaa HRZ.out.box;have hlt2:=HRZ.out.lt;refine IN.out.mono ?_;clear IN;rintro e w1 ⟨rfl,hw1⟩;obtain rfl:=hw1.symm;clear hw1;have fin:∀Q:World,Hid (qet none w (.returned (.tuple #[.agg #[.int .i64 1,.string x,.int .i64 0,.slice none 0 0],.string st,.bool false])) ((((Z.setCell ⟨w.heap.size,0,none⟩ (.int .i64 1)).setCell ⟨w.heap.size,1,none⟩ (.string x)).setCell ⟨w.heap.size,2,none⟩ (.int .i64 0)).setCell ⟨w.heap.size,3,none⟩ (.slice none 0 0))):=fun _=>
   ⟨qan HRZ.out.below (Nat.le_refl _),_,_,_,_,_,_,_,rfl⟩
  obtain⟨c0,c1,c2,c3,cf⟩:=qaa HRZ.out.res
  cases hnx:qbg x.data.toList with
  | false=>
   go_wp2_with fail
   refine bodyPost_ret (v:=.tuple #[.agg #[.int .i64 1,.string x,.int .i64 0,.slice none 0 0],.string st,.bool false]) ?_ rfl ?_
   ·simp[results,Tryz.results72,go_sem,c0,c1,c2,c3]
   rw[HR.out];exact(fin Z).out
  | true=>
   have hd0:d=0:=by
    rcases hbad with h|h
    ·rw[if_pos hv]at h;rw[←hstl,←HX.out,hnx]at h;cases h
    ·exact h
   subst hd0;go_wp2_with fail
   refine bodyPost_ret (v:=.tuple #[.agg #[.int .i64 1,.string x,.int .i64 0,.slice none 0 0],.string st,.bool false]) ?_ rfl ?_
   ·simp[results,Tryz.results72,go_sem,c0,c1,c2,c3]
   rw[HR.out];exact(fin Z).out
 | false=>
  rcases qik s hv with hm|hm
  ·have hrd:=HRD.out;have q0:decide (0<s.size)=false:=decide_eq_false (by omega);have hssz:s.size≤1000000:=by omega
   have NM:=hdzz (qdt s W2 (by omega));go_enter Tryz.func72,Tryz.ntmps72
   go_wp2_with fail
   rw[←HW.out];clear q0;refine NM.out.mono ?_;clear NM;rintro e w1 ⟨x,rfl,hx,hxs,hw1⟩;obtain rfl:=hw1.symm;clear hw1;obtain⟨Z,hZ⟩:∃Z,Z=W2.setCell ⟨w.heap.size+1,1,none⟩ (.string x):=⟨_,rfl⟩;have hrz:Rd w 2 x (.slice none 0 0) Z:=by rw[hZ];exact hrd.name x
   obtain⟨a0,a1,a2,a3,af⟩:=qaa hrd.box;have hlt1:=hrd.lt;have hxz:x.size≤s.size:=by rw[hxs];have:=qds s.data.toList;rw[←qak]at this;exact this
   have HRZ:=hdzz hrz;clear hrz hrd;have HZ:=hdzz hZ;clear hZ;have HX:=hdzz hx;clear hx;have HXS:=hdzz hxs;clear hxs;have IN:=hdzz (qcm x Z (by unfold maxLen;omega));go_wp2_with fail
   rw[←HZ.out];clear a0 a1 a2 a3 af HZ;obtain⟨a0,a1,a2,a3,af⟩:=qaa HRZ.out.box;have hlt2:=HRZ.out.lt;refine IN.out.mono ?_;clear IN;rintro e w1 ⟨rfl,hw1⟩;obtain rfl:=hw1.symm;clear hw1;have fin:∀Q:World,Hid (qet none w (.returned (.tuple #[.agg #[.int .i64 2,.string x,.int .i64 0,.slice none 0 0],.string s,.bool false])) ((((Z.setCell ⟨w.heap.size,0,none⟩ (.int .i64 2)).setCell ⟨w.heap.size,1,none⟩ (.string x)).setCell ⟨w.heap.size,2,none⟩ (.int .i64 0)).setCell ⟨w.heap.size,3,none⟩ (.slice none 0 0))):=fun _=>
    ⟨qan HRZ.out.below (Nat.le_refl _),_,_,_,_,_,_,_,rfl⟩
   obtain⟨c0,c1,c2,c3,cf⟩:=qaa HRZ.out.res
   cases hnx:qbg x.data.toList with
   | false=>
    go_wp2_with fail
    refine bodyPost_ret (v:=.tuple #[.agg #[.int .i64 2,.string x,.int .i64 0,.slice none 0 0],.string s,.bool false]) ?_ rfl ?_
    ·simp[results,Tryz.results72,go_sem,c0,c1,c2,c3]
    rw[HR.out];exact(fin Z).out
   | true=>
    have hd0:d=0:=by
     rcases hbad with h|h
     ·rw[hv,if_neg (by simp)]at h;rw[←HX.out,hnx]at h;cases h
     ·exact h
    subst hd0;go_wp2_with fail
    refine bodyPost_ret (v:=.tuple #[.agg #[.int .i64 2,.string x,.int .i64 0,.slice none 0 0],.string s,.bool false]) ?_ rfl ?_
    ·simp[results,Tryz.results72,go_sem,c0,c1,c2,c3]
    rw[HR.out];exact(fin Z).out
  ·have hrd:=HRD.out;obtain⟨h0,hb⟩:=hm;have q0:decide (0<s.size)=true:=decide_eq_true h0;have q1:(0:Int)<(s.size:Int):=by omega
   obtain⟨b,hbb⟩:∃b,b=s[0]:=⟨_,rfl⟩;rw[←hbb]at hb;have hsb:=hbb.symm;clear hbb;obtain⟨e1,e2⟩:=qg7 63 63 rfl hb;have hssz:s.size≤1000000:=by omega
   have NM:=hdzz (qdt s W2 (by omega));go_enter Tryz.func72,Tryz.ntmps72
   go_wp2_with fail
   rw[←HW.out];clear q0 q1 e1 e2 hsb;refine NM.out.mono ?_;clear NM;rintro e w1 ⟨x,rfl,hx,hxs,hw1⟩;obtain rfl:=hw1.symm;clear hw1;obtain⟨Z,hZ⟩:∃Z,Z=W2.setCell ⟨w.heap.size+1,1,none⟩ (.string x):=⟨_,rfl⟩;have hrz:Rd w 2 x (.slice none 0 0) Z:=by rw[hZ];exact hrd.name x
   obtain⟨a0,a1,a2,a3,af⟩:=qaa hrd.box;have hlt1:=hrd.lt;have hxz:x.size≤s.size:=by rw[hxs];have:=qds s.data.toList;rw[←qak]at this;exact this
   have HRZ:=hdzz hrz;clear hrz hrd;have HZ:=hdzz hZ;clear hZ;have HX:=hdzz hx;clear hx;have HXS:=hdzz hxs;clear hxs;have IN:=hdzz (qcm x Z (by unfold maxLen;omega));go_wp2_with fail
   rw[←HZ.out];clear a0 a1 a2 a3 af HZ;obtain⟨a0,a1,a2,a3,af⟩:=qaa HRZ.out.box;have hlt2:=HRZ.out.lt;refine IN.out.mono ?_;clear IN;rintro e w1 ⟨rfl,hw1⟩;obtain rfl:=hw1.symm;clear hw1;have fin:∀Q:World,Hid (qet none w (.returned (.tuple #[.agg #[.int .i64 2,.string x,.int .i64 0,.slice none 0 0],.string s,.bool false])) ((((Z.setCell ⟨w.heap.size,0,none⟩ (.int .i64 2)).setCell ⟨w.heap.size,1,none⟩ (.string x)).setCell ⟨w.heap.size,2,none⟩ (.int .i64 0)).setCell ⟨w.heap.size,3,none⟩ (.slice none 0 0))):=fun _=>
    ⟨qan HRZ.out.below (Nat.le_refl _),_,_,_,_,_,_,_,rfl⟩
   obtain⟨c0,c1,c2,c3,cf⟩:=qaa HRZ.out.res
   cases hnx:qbg x.data.toList with
   | false=>
    go_wp2_with fail
    refine bodyPost_ret (v:=.tuple #[.agg #[.int .i64 2,.string x,.int .i64 0,.slice none 0 0],.string s,.bool false]) ?_ rfl ?_
    ·simp[results,Tryz.results72,go_sem,c0,c1,c2,c3]
    rw[HR.out];exact(fin Z).out
   | true=>
    have hd0:d=0:=by
     rcases hbad with h|h
     ·rw[hv,if_neg (by simp)]at h;rw[←HX.out,hnx]at h;cases h
     ·exact h
    subst hd0;go_wp2_with fail
    refine bodyPost_ret (v:=.tuple #[.agg #[.int .i64 2,.string x,.int .i64 0,.slice none 0 0],.string s,.bool false]) ?_ rfl ?_
    ·simp[results,Tryz.results72,go_sem,c0,c1,c2,c3]
    rw[HR.out];exact(fin Z).out
theorem pvar_kids {w:ByteArray} {l r:List UInt8} {t:Tm} (h:pvar w l=some (t,r)):t.kids=[]:=by
 unfold pvar at h
 split at h
 ·split at h
  ·injection h with h;injection h with h1 h2;subst h1;rfl
  ·cases h
 ·injection h with h;injection h with h1 h2;subst h1;rfl
theorem qp5 {w:ByteArray} {l r:List UInt8} {t:Tm} (h:qid w l=some (t,r)):t.kids=[]:=by
 unfold qid at h
 split at h
 ·injection h with h;injection h with h1 h2;subst h1;rfl
 ·cases h
theorem qfy {w Z w2:World} (hb:Below w.heap.size w Z) (hlt:w.heap.size<Z.heap.size) (h2:Below Z.heap.size Z w2) {t:Tm} {A:Option Addr} {cap:Nat} {s':ByteArray} {r:List UInt8}
  (hrep:RepP w2 (fun b=>Z.heap.size≤b∧b<w2.heap.size) t A cap) (hr:s'.data.toList=r) {x y z v:Value} :
  qet (some (t,r)) w (.returned (.tuple #[t.val A cap,.string s',.bool true])) ((((w2.setCell ⟨w.heap.size,0,none⟩ x).setCell ⟨w.heap.size,1,none⟩ y).setCell ⟨w.heap.size,2,none⟩ z).setCell ⟨w.heap.size,3,none⟩ v):=by
 refine⟨qan (hb.trans (h2.mono (by omega))) (Nat.le_refl _),A,cap,s',rfl,?_,hr⟩;refine RepP.mono ?_ ?_ _ _ _ hrep
 ·rintro b ⟨h1,h3⟩;exact⟨by omega,by simp[World.setCell];omega⟩
 ·rintro q ⟨h1,h3⟩;have hq:∀o,(⟨w.heap.size,o,none⟩:Addr)≠q:=fun o e=>by rw[←e]at h1;simp at h1;omega
  rw[World.cell?_setCell_other _ _ _ _ (hq _),World.cell?_setCell_other _ _ _ _ (hq _),World.cell?_setCell_other _ _ _ _ (hq _),World.cell?_setCell_other _ _ _ _ (hq _)]
theorem qlz (s:ByteArray) (d n:Nat) (hs:s.size≤1000000) (hd:d≤1000000) (w:World)
  (hgood:qbg ((if Lib.hasPrefix s.data.toList [63]=true then s.data.toList.drop 1 else s.data.toList).takeWhile qa2)=true)
  (hpar:Lib.hasPrefix s.data.toList [63]=true∨Lib.hasPrefix (s.data.toList.drop (wlen s.data.toList)) [40]=false) :
  Calls Tryz.prog 72 #[.string s,.int .i64 (d+1:Nat)] w (qet (qbw (d+1) (n+1) s.data.toList) w):=by
 obtain⟨W2,hW2⟩:∃W2,W2=(w.alloc (.cells #[.int .i64 0,.string ⟨#[]⟩,.int .i64 0,.slice none 0 0] 24)).alloc (.cells #[.int .i64 2,.string ⟨#[]⟩,.int .i64 0,.slice none 0 0] 24):=⟨_,rfl⟩;have hrd0:Rd w 2 ⟨#[]⟩ (.slice none 0 0) W2:=by rw[hW2];exact Rd.new w 2
 have HRD:=hdzz hrd0;clear hrd0;have HW:=hdzz hW2;clear hW2
 cases hv:Lib.hasPrefix s.data.toList [63]with
 | true=>
  obtain⟨h0,hb,hstl,hsts⟩:=qma s hv;have q0:decide (0<s.size)=true:=decide_eq_true h0;have q1:(0:Int)<(s.size:Int):=by omega
  have q2:(1:Int)≤(s.size:Int):=by omega
  obtain⟨st,hst⟩:∃st,st=s.extract 1 s.size:=⟨_,rfl⟩;rw[←hst]at hstl hsts;have HST:=hdzz hst;clear hst;obtain⟨Y,hY⟩:∃Y,Y=(w.alloc (.cells #[.int .i64 0,.string ⟨#[]⟩,.int .i64 0,.slice none 0 0] 24)).alloc (.cells #[.int .i64 1,.string ⟨#[]⟩,.int .i64 0,.slice none 0 0] 24):=⟨_,rfl⟩;have hrd:Rd w 1 ⟨#[]⟩ (.slice none 0 0) Y:=by rw[hY];exact Rd.new w 1
  have HY:=hdzz hY;clear hY HRD HW;have hssz:st.size≤1000000:=by omega
  have NM:=hdzz (qdt st Y (by omega));go_enter Tryz.func72,Tryz.ntmps72
  go_wp2_with fail
  rw[←HST.out,←HY.out];clear q0 q1 q2 hb;refine NM.out.mono ?_;clear NM;rintro e w1 ⟨x,rfl,hx,hxs,hw1⟩;obtain rfl:=hw1.symm;clear hw1;obtain⟨Z,hZ⟩:∃Z,Z=Y.setCell ⟨w.heap.size+1,1,none⟩ (.string x):=⟨_,rfl⟩;have hrz:Rd w 1 x (.slice none 0 0) Z:=by rw[hZ];exact hrd.name x
  obtain⟨a0,a1,a2,a3,af⟩:=qaa hrd.box;have hlt1:=hrd.lt;have hxz:x.size≤st.size:=by rw[hxs];have:=qds st.data.toList;rw[←qak]at this;exact this
  have HRZ:=hdzz hrz;clear hrz hrd;have HZ:=hdzz hZ;clear hZ;have HX:=hdzz hx;clear hx;have HXS:=hdzz hxs;clear hxs;have IN:=hdzz (qcm x Z (by unfold maxLen;omega));go_wp2_with fail
  rw[←HZ.out];clear a0 a1 a2 a3 af HZ;obtain⟨a0,a1,a2,a3,af⟩:=qaa HRZ.out.box;have hlt2:=HRZ.out.lt;refine IN.out.mono ?_;clear IN;rintro e w1 ⟨rfl,hw1⟩;obtain rfl:=hw1.symm;clear hw1;have hnx:qbg x.data.toList=true:=by rw[HX.out];rw[hstl];rw[if_pos hv]at hgood;exact hgood
  have hnl:=(qb3 hnx).1;rw[←qak]at hnl;rw[hnx];obtain⟨s2,hs2⟩:∃s2,s2=st.extract x.size st.size:=⟨_,rfl⟩;have hs2l:s2.data.toList=st.data.toList.drop (wlen st.data.toList):=by rw[hs2,qbb,HXS.out]
  have hs2z:s2.size≤st.size:=by rw[qak,hs2l,List.length_drop,qak];omega
  have HR:Hid (qbw (d+1) (n+1) s.data.toList=qex 1 x s2.data.toList):=by
   have hp:pterm (n+1) s.data.toList=pvar x s2.data.toList:=by
    rw[pterm,if_neg (by rw[hgood];simp),if_pos hv,hs2l,hstl,qk4 (a:=x) (by rw[HX.out,hstl])]
   rw[qjg d (n+1) _ (fun t r h=>pvar_kids (by rw[←hp];exact h)),hp,rleaf_var];exact rfl
  have j1:(0:Int)≤(x.size:Int):=Int.natCast_nonneg _;have j2:(x.size:Int)≤(st.size:Int):=by omega
  have j3:((d:Int)+1==0)=false:=by rw[beq_eq_false_iff_ne];omega
  obtain⟨c0,c1,c2,c3,cf⟩:=qaa HRZ.out.res;have HS2:=hdzz hs2;clear hnx;have LF:=hdzz (qkr 1 (.inl rfl) x hnl s2 (by omega) Z);clear hs2 hs2l;go_wp2_with fail
  rw[←HS2.out];refine LF.out.mono ?_;clear LF a0 a1 a2 a3 af c0 c1 c2 c3 cf;rintro e w3 ⟨hb3,hm⟩;have hr3:=HRZ.out.go hb3;obtain⟨c0,c1,c2,c3,cf⟩:=qaa hr3.res;have hlt3:=hr3.lt;have HB3:=hdzz hb3;clear hb3;have HR3:=hdzz hr3;clear hr3
  cases hrl:qex 1 x s2.data.toList with
  | none=>
   rw[hrl]at hm;obtain⟨k',nm',so',A',l',cc',s',rfl⟩:=hm;have HRL:=hdzz hrl;clear hrl;go_wp2_with fail
   refine bodyPost_ret (v:=.tuple #[.agg #[.int .i64 k',.string nm',.int .i64 so',.slice A' l' cc'],.string s',.bool false]) ?_ rfl ?_
   ·simp[results,Tryz.results72,go_sem,c0,c1,c2,c3]
   rw[HR.out,HRL.out];exact⟨qan HR3.out.below (Nat.le_refl _),_,_,_,_,_,_,_,rfl⟩
  | some tr=>
   obtain⟨t,r⟩:=tr;rw[hrl]at hm;obtain⟨A',cc',s',rfl,hrep,hs'⟩:=hm;have HRL:=hdzz hrl;clear hrl;have HREP:=hdzz hrep;clear hrep;have HS':=hdzz hs';clear hs';simp only[Tm.val];go_wp2_with fail
   refine bodyPost_ret (v:=.tuple #[t.val A' cc',.string s',.bool true]) ?_ rfl ?_
   ·simp[results,Tryz.results72,go_sem,c0,c1,c2,c3,Tm.val]
   rw[HR.out,HRL.out];exact qfy HRZ.out.below (by omega) HB3.out HREP.out HS'.out
 | false=>
  rcases qik s hv with hm|hm
  ·rw[hv,if_neg (by simp)]at hgood;have:s.data.toList=[]:=List.length_eq_zero_iff.1 (by rw[←qak];exact hm);rw[this]at hgood;cases hgood
  ·have hrd:=HRD.out;obtain⟨h0,hb⟩:=hm;have q0:decide (0<s.size)=true:=decide_eq_true h0;have q1:(0:Int)<(s.size:Int):=by omega
   obtain⟨b,hbb⟩:∃b,b=s[0]:=⟨_,rfl⟩;rw[←hbb]at hb;have hsb:=hbb.symm;clear hbb;obtain⟨e1,e2⟩:=qg7 63 63 rfl hb;have hssz:s.size≤1000000:=by omega
   have NM:=hdzz (qdt s W2 (by omega));go_enter Tryz.func72,Tryz.ntmps72
   go_wp2_with fail
   rw[←HW.out];clear q0 q1 e1 e2 hsb;refine NM.out.mono ?_;clear NM;rintro e w1 ⟨x,rfl,hx,hxs,hw1⟩;obtain rfl:=hw1.symm;clear hw1;obtain⟨Z,hZ⟩:∃Z,Z=W2.setCell ⟨w.heap.size+1,1,none⟩ (.string x):=⟨_,rfl⟩;have hrz:Rd w 2 x (.slice none 0 0) Z:=by rw[hZ];exact hrd.name x
   obtain⟨a0,a1,a2,a3,af⟩:=qaa hrd.box;have hlt1:=hrd.lt;have hxz:x.size≤s.size:=by rw[hxs];have:=qds s.data.toList;rw[←qak]at this;exact this
   have HRZ:=hdzz hrz;clear hrz hrd;have HZ:=hdzz hZ;clear hZ;have HX:=hdzz hx;clear hx;have HXS:=hdzz hxs;clear hxs;have IN:=hdzz (qcm x Z (by unfold maxLen;omega));go_wp2_with fail
   rw[←HZ.out];clear a0 a1 a2 a3 af HZ;obtain⟨a0,a1,a2,a3,af⟩:=qaa HRZ.out.box;have hlt2:=HRZ.out.lt;refine IN.out.mono ?_;clear IN;rintro e w1 ⟨rfl,hw1⟩;obtain rfl:=hw1.symm;clear hw1;have hnx:qbg x.data.toList=true:=by rw[HX.out];rw[hv,if_neg (by simp)]at hgood;exact hgood
   have hnl:=(qb3 hnx).1;rw[←qak]at hnl;rw[hnx];obtain⟨s2,hs2⟩:∃s2,s2=s.extract x.size s.size:=⟨_,rfl⟩;have hs2l:s2.data.toList=s.data.toList.drop (wlen s.data.toList):=by rw[hs2,qbb,HXS.out]
   have hs2z:s2.size≤s.size:=by rw[qak,hs2l,List.length_drop,qak];omega
   have hpp:Lib.hasPrefix s2.data.toList [40]=false:=by rw[hs2l];rcases hpar with h|h;(rw[hv]at h;cases h);exact h
   have HR:Hid (qbw (d+1) (n+1) s.data.toList=qex 2 x s2.data.toList):=by
    have hg:=hgood;rw[hv,if_neg (by simp)]at hg;have hp:pterm (n+1) s.data.toList=qid x s2.data.toList:=by
     rw[pterm,hv];simp only[Bool.false_eq_true,if_false];rw[hg,if_neg (by simp),if_pos (by rw[←hs2l];exact hpp),hs2l,qk4 (a:=x) HX.out]
    rw[qjg d (n+1) _ (fun t r h=>qp5 (by rw[←hp];exact h)),hp,qpx];exact rfl
   have j1:(0:Int)≤(x.size:Int):=Int.natCast_nonneg _;have j2:(x.size:Int)≤(s.size:Int):=by omega
   have j3:((d:Int)+1==0)=false:=by rw[beq_eq_false_iff_ne];omega
   obtain⟨c0,c1,c2,c3,cf⟩:=qaa HRZ.out.res;have HS2:=hdzz hs2;clear hnx;rcases no_byte s2 40 hpp with hm2|⟨g0,hm2⟩
   ·have g1:s.size - x.size=0:=by rw[hs2,ByteArray.size_extract]at hm2;omega
    have LF:=hdzz (qkr 2 (.inr rfl) x hnl s2 (by omega) Z);clear hs2 hs2l hm2;go_wp2_with fail
    rw[←HS2.out];clear g1;refine LF.out.mono ?_;clear LF a0 a1 a2 a3 af c0 c1 c2 c3 cf;rintro e w3 ⟨hb3,hm⟩;have hr3:=HRZ.out.go hb3;obtain⟨c0,c1,c2,c3,cf⟩:=qaa hr3.res;have hlt3:=hr3.lt;have HB3:=hdzz hb3;clear hb3;have HR3:=hdzz hr3;clear hr3
    cases hrl:qex 2 x s2.data.toList with
    | none=>
     rw[hrl]at hm;obtain⟨k',nm',so',A',l',cc',s',rfl⟩:=hm;have HRL:=hdzz hrl;clear hrl;go_wp2_with fail
     refine bodyPost_ret (v:=.tuple #[.agg #[.int .i64 k',.string nm',.int .i64 so',.slice A' l' cc'],.string s',.bool false]) ?_ rfl ?_
     ·simp[results,Tryz.results72,go_sem,c0,c1,c2,c3]
     rw[HR.out,HRL.out];exact⟨qan HR3.out.below (Nat.le_refl _),_,_,_,_,_,_,_,rfl⟩
    | some tr=>
     obtain⟨t,r⟩:=tr;rw[hrl]at hm;obtain⟨A',cc',s',rfl,hrep,hs'⟩:=hm;have HRL:=hdzz hrl;clear hrl;have HREP:=hdzz hrep;clear hrep;have HS':=hdzz hs';clear hs';simp only[Tm.val];go_wp2_with fail
     refine bodyPost_ret (v:=.tuple #[t.val A' cc',.string s',.bool true]) ?_ rfl ?_
     ·simp[results,Tryz.results72,go_sem,c0,c1,c2,c3,Tm.val]
     rw[HR.out,HRL.out];exact qfy HRZ.out.below (by omega) HB3.out HREP.out HS'.out
   ·obtain⟨b2,hbb2⟩:∃b,b=s2[0]:=⟨_,rfl⟩;rw[←hbb2]at hm2;obtain⟨g0',g3⟩:∃h0:0<(s.extract x.size s.size).size,(s.extract x.size s.size)[0]=b2:=by subst hs2;exact⟨g0,hbb2.symm⟩
    clear hbb2;obtain⟨g4,g5⟩:=qg7 40 40 rfl hm2;have g6:0<s.size - x.size:=by rw[hs2,ByteArray.size_extract]at g0;omega
    have g7:¬s.size - x.size=0:=by omega
    have g8:(((s.size - x.size:Nat):Int)==0)=false:=by rw[beq_eq_false_iff_ne];omega
    have LF:=hdzz (qkr 2 (.inr rfl) x hnl s2 (by omega) Z);clear hs2 hs2l hm2 g0 g4;go_wp2_with fail
    rw[←HS2.out];clear g6 g7 g8 g3 g0' g5;refine LF.out.mono ?_;clear LF a0 a1 a2 a3 af c0 c1 c2 c3 cf;rintro e w3 ⟨hb3,hm⟩;have hr3:=HRZ.out.go hb3;obtain⟨c0,c1,c2,c3,cf⟩:=qaa hr3.res;have hlt3:=hr3.lt;have HB3:=hdzz hb3;clear hb3;have HR3:=hdzz hr3;clear hr3
    cases hrl:qex 2 x s2.data.toList with
    | none=>
     rw[hrl]at hm;obtain⟨k',nm',so',A',l',cc',s',rfl⟩:=hm;have HRL:=hdzz hrl;clear hrl;go_wp2_with fail
     refine bodyPost_ret (v:=.tuple #[.agg #[.int .i64 k',.string nm',.int .i64 so',.slice A' l' cc'],.string s',.bool false]) ?_ rfl ?_
     ·simp[results,Tryz.results72,go_sem,c0,c1,c2,c3]
     rw[HR.out,HRL.out];exact⟨qan HR3.out.below (Nat.le_refl _),_,_,_,_,_,_,_,rfl⟩
    | some tr=>
     obtain⟨t,r⟩:=tr;rw[hrl]at hm;obtain⟨A',cc',s',rfl,hrep,hs'⟩:=hm;have HRL:=hdzz hrl;clear hrl;have HREP:=hdzz hrep;clear hrep;have HS':=hdzz hs';clear hs';simp only[Tm.val];go_wp2_with fail
     refine bodyPost_ret (v:=.tuple #[t.val A' cc',.string s',.bool true]) ?_ rfl ?_
     ·simp[results,Tryz.results72,go_sem,c0,c1,c2,c3,Tm.val]
     rw[HR.out,HRL.out];exact qfy HRZ.out.below (by omega) HB3.out HREP.out HS'.out
theorem qib {d n:Nat} {l r:List UInt8} {t:Tm} (h:qbw d n l=some (t,r)):t.depth≤d∧r.length+1≤l.length:=by
 unfold qbw at h
 cases hp:pterm n l with
 | none=>rw[hp]at h;cases h
 | some tr=>
  obtain⟨t',r'⟩:=tr;rw[hp,qgp]at h
  split at h
  ·injection h with h;injection h with h1 h2;subst h1 h2;have h1:=(psize n).1 _ _ _ hp;have h2:=t'.size_pos;exact⟨by assumption,by omega⟩
  ·cases h
def strLen:Value→Nat
 | .string s=>s.size
 | _=>0
theorem read_app (s:ByteArray) (d n:Nat) (hs:s.size≤1000000) (hd:d≤1000000) (w:World)
  (hv:Lib.hasPrefix s.data.toList [63]=false) (hgood:qbg (s.data.toList.takeWhile qa2)=true) (hpar:Lib.hasPrefix (s.data.toList.drop (wlen s.data.toList)) [40]=true)
  (ih:∀(s:ByteArray) (n:Nat) (w:World),s.size≤1000000→2*s.size+1≤n→Calls Tryz.prog 72 #[.string s,.int .i64 d] w (qet (qbw d n s.data.toList) w))
  (hfuel:2*s.size+1≤n+1) :
  Calls Tryz.prog 72 #[.string s,.int .i64 (d+1:Nat)] w (qet (qbw (d+1) (n+1) s.data.toList) w):=by
 obtain⟨W2,hW2⟩:∃W2,W2=(w.alloc (.cells #[.int .i64 0,.string ⟨#[]⟩,.int .i64 0,.slice none 0 0] 24)).alloc (.cells #[.int .i64 2,.string ⟨#[]⟩,.int .i64 0,.slice none 0 0] 24):=⟨_,rfl⟩;have hrd0:Rd w 2 ⟨#[]⟩ (.slice none 0 0) W2:=by rw[hW2];exact Rd.new w 2
 have HRD:=hdzz hrd0;clear hrd0;have HW:=hdzz hW2;clear hW2;rcases qik s hv with hm|hm
 ·have:s.data.toList=[]:=List.length_eq_zero_iff.1 (by rw[←qak];exact hm);rw[this]at hgood;cases hgood
 ·have hrd:=HRD.out;obtain⟨h0,hb⟩:=hm;have q0:decide (0<s.size)=true:=decide_eq_true h0;have q1:(0:Int)<(s.size:Int):=by omega
  obtain⟨b,hbb⟩:∃b,b=s[0]:=⟨_,rfl⟩;rw[←hbb]at hb;have hsb:=hbb.symm;clear hbb;obtain⟨e1,e2⟩:=qg7 63 63 rfl hb;have hssz:s.size≤1000000:=by omega
  have NM:=hdzz (qdt s W2 (by omega));go_enter Tryz.func72,Tryz.ntmps72
  go_wp2_with fail
  rw[←HW.out];clear q0 q1 e1 e2 hsb;refine NM.out.mono ?_;clear NM;rintro e w1 ⟨x,rfl,hx,hxs,hw1⟩;obtain rfl:=hw1.symm;clear hw1;obtain⟨Z,hZ⟩:∃Z,Z=W2.setCell ⟨w.heap.size+1,1,none⟩ (.string x):=⟨_,rfl⟩;have hrz:Rd w 2 x (.slice none 0 0) Z:=by rw[hZ];exact hrd.name x
  obtain⟨a0,a1,a2,a3,af⟩:=qaa hrd.box;have hlt1:=hrd.lt;have hxz:x.size≤s.size:=by rw[hxs];have:=qds s.data.toList;rw[←qak]at this;exact this
  have HRZ:=hdzz hrz;clear hrz hrd;have HZ:=hdzz hZ;clear hZ;have HX:=hdzz hx;clear hx;have HXS:=hdzz hxs;clear hxs;have IN:=hdzz (qcm x Z (by unfold maxLen;omega));go_wp2_with fail
  rw[←HZ.out];clear a0 a1 a2 a3 af HZ;obtain⟨a0,a1,a2,a3,af⟩:=qaa HRZ.out.box;have hlt2:=HRZ.out.lt;refine IN.out.mono ?_;clear IN;rintro e w1 ⟨rfl,hw1⟩;obtain rfl:=hw1.symm;clear hw1;have hnx:qbg x.data.toList=true:=by rw[HX.out];exact hgood
  have hnl:=(qb3 hnx).1;rw[←qak]at hnl;rw[hnx];obtain⟨s2,hs2⟩:∃s2,s2=s.extract x.size s.size:=⟨_,rfl⟩;have hs2l:s2.data.toList=s.data.toList.drop (wlen s.data.toList):=by rw[hs2,qbb,HXS.out]
  have hs2z:s2.size≤s.size:=by rw[qak,hs2l,List.length_drop,qak];omega
  have j1:(0:Int)≤(x.size:Int):=Int.natCast_nonneg _;have j2:(x.size:Int)≤(s.size:Int):=by omega
  have j3:((d:Int)+1==0)=false:=by rw[beq_eq_false_iff_ne];omega
  obtain⟨c0,c1,c2,c3,cf⟩:=qaa HRZ.out.res;have HS2:=hdzz hs2;clear hnx;have hs2p:Lib.hasPrefix s2.data.toList [40]=true:=by rw[hs2l];exact hpar
  have hp2:=qcn hs2p;obtain⟨g0,hb2⟩:=qc6 hp2.symm;obtain⟨g0',g3⟩:∃h0:0<(s.extract x.size s.size).size,(s.extract x.size s.size)[0]=40:=by subst hs2;exact⟨g0,hb2⟩
  have g6:0<s.size - x.size:=by rw[hs2,ByteArray.size_extract]at g0;omega
  have g7:¬s.size - x.size=0:=by omega
  have g8:(((s.size - x.size:Nat):Int)==0)=false:=by rw[beq_eq_false_iff_ne];omega
  have g9:(1:Int)≤((s.size - x.size:Nat):Int):=by omega
  have g10:1≤s.size - x.size:=by omega
  obtain⟨s3,hs3⟩:∃s3,s3=s2.extract 1 s2.size:=⟨_,rfl⟩;have hs3l:s3.data.toList=s2.data.toList.drop 1:=by rw[hs3];exact qbb s2 1
  have hs3z:s3.size+1=s2.size:=by
   have e1:=qak s3;have e2:=qak s2;rw[hs3l,List.length_drop]at e1;omega
  have hx0:0<x.size:=by
   rw[HXS.out];exact qf6 hgood
  have hs2z':s2.size+x.size=s.size:=by
   have e1:=qak s2;rw[hs2l,List.length_drop,←qak,←HXS.out]at e1;omega
  have hs3e:s3=(s.extract x.size s.size).extract 1 (s.size - x.size):=by
   rw[hs3,hs2];congr 1;rw[ByteArray.size_extract];omega
  have HS3:=hdzz hs3e;have HR:Hid (qg0 d n x [] s3.data.toList=qbw (d+1) (n+1) s.data.toList):=by
   have hp:pterm (n+1) s.data.toList=pkids n x [] s3.data.toList:=by
    rw[pterm,hv];simp only[Bool.false_eq_true,if_false];rw[hgood,if_neg (by simp),if_neg (by rw[hpar];simp),hs3l,hs2l,qk4 (a:=x) HX.out]
   unfold qbw;rw[hp];exact rfl
  obtain⟨Z3,hZ3⟩:∃Z3,Z3=Z.setCell ⟨w.heap.size+1,0,none⟩ (.int .i64 3):=⟨_,rfl⟩;have hrd3:Rd w 3 x (.slice none 0 0) Z3:=by rw[hZ3];exact HRZ.out.kind 3
  have HZ3:=hdzz hZ3;clear hZ3;have HRD3:=hdzz hrd3;clear hrd3;have IH:=hdzz ih;clear ih;clear hs2 hs2l hs2z hs2p hp2 g0 hb2 hs3 hs3l hs3e HRD;go_wp2_with fail
  rw[←HZ3.out,←HS3.out];clear g0' g3 g6 g7 g8 g9 g10 a0 a1 a2 a3 af c0 c1 c2 c3 cf j1 j2 HZ3 HS3;go_loopw [0] (fun v0 wr=>∃(m:Nat) (sc:ByteArray) (v:Value) (its:List It),v0=.string sc∧Hid (qg0 d m x (its.map (·.1)) sc.data.toList=qbw (d+1) (n+1) s.data.toList)∧m≤n∧2*sc.size+2≤m∧sc.size<s.size∧
    Hid (Rd w 3 x v wr)∧Hid (RowT wr (w.heap.size+2) (fun b=>w.heap.size+2≤b) v its)∧its.length+sc.size≤s.size∧Hid (Tm.depths (its.map (·.1))≤d)) (fun v0 _=>strLen v0)
  case atStart=>exact⟨n,s3,_,[],rfl,HR,Nat.le_refl _,by omega,by omega,HRD3,RowT.nil _ _ _,by simp;omega,by show Tm.depths []≤d;simp[Tm.depths]⟩
  case round=>
   obtain⟨m,sc,v,its,rfl,HK,hmn,hmf,hss,HRD2,HROW,hil,HDP⟩:=hrel;obtain⟨m',rfl⟩:∃m',m=m'+1:=⟨m - 1,by omega⟩;obtain⟨Av,cv,rfl,_⟩:=HROW.out.toS (P:=fun _=>True) (fun _ _ _=>trivial) (fun _ _ _=>trivial);have hlt5:=HRD2.out.lt;obtain⟨a0,a1,a2,a3,af⟩:=qaa HRD2.out.box;obtain⟨c0,c1,c2,c3,cf⟩:=qaa HRD2.out.res
   cases hl:sc.data.toList with
   | nil=>
    have hz:sc.size=0:=by rw[qak,hl];rfl
    have q0:decide (0<sc.size)=false:=decide_eq_false (by omega);have q1:((sc.size:Int)==0)=true:=by rw[beq_iff_eq];omega
    have HRES:Hid (qbw (d+1) (n+1) s.data.toList=none):=by rw[←HK.out,hl];exact rkids_nil _ _ _ _
    have HRX:=HRD2;clear hl hz;go_wp2_with fail
    refine bodyPost_ret (v:=.tuple #[.agg #[.int .i64 3,.string x,.int .i64 0,.slice Av its.length cv],.string sc,.bool false]) ?_ rfl ?_
    ·simp[results,Tryz.results72,go_sem,c0,c1,c2,c3]
    rw[HRES.out];exact⟨qan (by exact HRX.out.below) (Nat.le_refl _),_,_,_,_,_,_,_,rfl⟩
   | cons b r=>
    obtain⟨h0,hb⟩:=qc6 hl;have q0:decide (0<sc.size)=true:=decide_eq_true h0;have q1:((sc.size:Int)==0)=false:=by rw[beq_eq_false_iff_ne];omega
    have q2:(0:Int)<(sc.size:Int):=by omega
    have q3:(1:Int)≤(sc.size:Int):=by omega
    by_cases hb41:b=41
    ·subst hb41;have HRES:Hid (qbw (d+1) (n+1) s.data.toList=some (.mk 3 x 0 (its.map (·.1)),r)):=by
      rw[←HK.out,hl];exact qnc d m' x _ _ (qbz _ _) HDP.out
     have HL:=hdzz hl;clear hl;go_wp2_with fail
     go_region
     all_goals
      go_wp2_with fail
      refine bodyPost_ret (v:=.tuple #[.agg #[.int .i64 3,.string x,.int .i64 0,.slice Av its.length cv],.string (sc.extract 1 sc.size),.bool true]) ?_ rfl ?_
      ·simp[results,Tryz.results72,go_sem,c0,c1,c2,c3]
      rw[HRES.out];obtain⟨A1,cc1,he,hS⟩:=HROW.out.toS (P:=fun b=>w.heap.size+2≤b∧b<wr.heap.size) (fun b h h'=>⟨h,h'⟩) (fun b h h'=>⟨h,h'⟩);injection he with he1 he2 he3;subst he1 he3;refine⟨(qan (by exact HRD2.out.below) (Nat.le_refl _)).drew,Av,cv,sc.extract 1 sc.size,by simp[Tm.val,Tm.kind,Tm.name,Tm.sort,Tm.kids],?_,by rw[qbb,HL.out];rfl⟩;rw[qa3];refine⟨by unfold maxLen;omega,RepS.mono ?_ ?_ hS⟩
      ·rintro b ⟨h1,h2⟩;exact⟨by omega,by simp[World.setCell];omega⟩
      ·rintro q ⟨h1,h2⟩;have hq:∀o,(⟨w.heap.size,o,none⟩:Addr)≠q:=fun o e=>by rw[←e]at h1;simp at h1;omega
       show World.cell? ((((wr.setCell _ _).setCell _ _).setCell _ _).setCell _ _) q=_;rw[World.cell?_setCell_other _ _ _ _ (hq _),World.cell?_setCell_other _ _ _ _ (hq _),World.cell?_setCell_other _ _ _ _ (hq _),World.cell?_setCell_other _ _ _ _ (hq _)]
    ·obtain⟨e1,e2⟩:=qg7 41 41 rfl hb41;have hp41:Lib.hasPrefix sc.data.toList [41]=false:=by rw[hl];exact qcr (fun e=>hb41 e.symm) _
     have HL:=hdzz hl;clear hl;by_cases hits:its=[]
     ·subst hits;simp only[List.length_nil]at HRD2 HROW a3;have HKK:Hid (qpw d m' x (([]:List It).map (·.1)) (qbw d m' sc.data.toList)=qbw (d+1) (n+1) s.data.toList):=by
       have h:=HK.out;rw[List.map_nil,qjj d m' x [] _ hp41 (.inl rfl),if_neg (by simp)]at h;exact h
      have CON:=hdzz (IH.out sc m' wr (by omega) (by omega));have HKD:Hid (∀kt r4,qbw d m' sc.data.toList=some (kt,r4)→kt.depth≤d∧r4.length+1≤sc.data.toList.length):=fun kt r4 h=>qib h;obtain⟨o4,ho4⟩:∃o,o=qbw d m' sc.data.toList:=⟨_,rfl⟩;rw[←ho4]at CON HKK HKD;clear ho4;go_wp2_with fail
      refine CON.out.mono ?_;clear CON a0 a1 a2 a3 af c0 c1 c2 c3 cf q0 q1 q2 q3 e1 e2 hb;rintro e w8 ⟨hb8,hm8⟩;have hr8:=HRD2.out.go hb8;have hlt8:=hr8.lt;have hs8:=hb8.size;obtain⟨c0,c1,c2,c3,cf⟩:=qaa hr8.res;have HB8:=hdzz hb8;clear hb8
      cases o4 with
      | none=>
       obtain⟨k',nm',so',A',l',cc',s',rfl⟩:=hm8;have HRES:Hid (qbw (d+1) (n+1) s.data.toList=none):=HKK.out.symm;have hrx:=hr8.go (qab (Nat.le_refl _) (.cells #[.int .i64 k',.string nm',.int .i64 so',.slice A' l' cc'] 24));obtain⟨a0,a1,a2,a3,af⟩:=qaa hrx.box;obtain⟨c0,c1,c2,c3,cf⟩:=qaa hrx.res;have hltx:=hrx.lt;have HRX:=hdzz hrx;clear hrx hr8;go_wp2_with fail
       refine bodyPost_ret (v:=.tuple #[.agg #[.int .i64 3,.string x,.int .i64 0,.slice Av 0 cv],.string sc,.bool false]) ?_ rfl ?_
       ·simp[results,Tryz.results72,go_sem,c0,c1,c2,c3]
       rw[HRES.out];exact⟨qan (by exact HRX.out.below) (Nat.le_refl _),_,_,_,_,_,_,_,rfl⟩
      | some tr=>
       obtain⟨kt,r4⟩:=tr;obtain⟨A8,c8,s5,rfl,hrep8,hs5⟩:=hm8;have hrow8:RowT w8 (w.heap.size+2) (fun b=>w.heap.size+2≤b) (.slice Av 0 cv) ([]:List It):=HROW.out.keep (by omega) (fun b hb hF=>HB8.out.block b hb);have hown:∀b,(Value.slice Av 0 cv).ownBlock=some b→b<wr.heap.size:=fun b hb=>(HROW.out.lt b hb).2;obtain⟨hkd,hkz⟩:=HKD.out kt r4 rfl;have HREP8:=hdzz hrep8;clear hrep8;have HROW8:=hdzz hrow8;clear hrow8;have HS5:=hdzz hs5;clear hs5;have hz5:s5.size+1≤sc.size:=by rw[qak,qak sc,HS5.out];exact hkz
       have hb10:Below w8.heap.size w8 ((w8.alloc (.cells #[.int .i64 kt.kind,.string kt.name,.int .i64 kt.sort,.slice A8 kt.kids.length c8] 24)).alloc (.cells #[.int .i64 kt.kind,.string kt.name,.int .i64 kt.sort,.slice A8 kt.kids.length c8] 24)):=
        (qab (Nat.le_refl _) _).alloc (by simp) _
       have hsrc:=heap_alloc_new (w8.alloc (.cells #[.int .i64 kt.kind,.string kt.name,.int .i64 kt.sort,.slice A8 kt.kids.length c8] 24)) (.cells #[.int .i64 kt.kind,.string kt.name,.int .i64 kt.sort,.slice A8 kt.kids.length c8] 24);rw[World.size_alloc]at hsrc;obtain⟨g,cap2,w9,hap,hrow9,hgr9,hbg9⟩:=(HROW8.out.below hb10).grow1 (by simp;omega) (kt,A8,c8) (w8.heap.size+1) 1 (0,0) hsrc
        (RepP.mono (fun b ⟨h1,h2⟩=>⟨by omega,by simp;omega,fun e=>by have:=hown b e;omega⟩) (fun q ⟨h1,h2⟩=>hb10.cell h2) _ _ _ HREP8.out) (by first|(simp;done)|(simp;omega)|omega)
       have hs9:w8.heap.size+2≤w9.heap.size:=by have:=hgr9.size;simp at this;omega
       have hblk:∀b,b<w.heap.size+2→w9.heap[b]?=w8.heap[b]?:=fun b hb=>by
        rw[hgr9.block b (by simp;omega) (fun e=>by have:=(HROW8.out.lt b e.symm).1;omega)];exact hb10.block b (by omega)
       have hrd9:Rd w 3 x (.slice Av 0 cv) w9:=by
        refine⟨?_,(hblk _ (by omega)).trans hr8.res,(hblk _ (by omega)).trans hr8.box⟩;have h:=hr8.below;exact⟨(hgr9.os.trans hb10.os).trans h.os,(hgr9.tape.trans hb10.tape).trans h.tape,(hgr9.output.trans hb10.output).trans h.output,by have:=h.size;omega,fun b hb=>(hblk b (by omega)).trans (h.block b hb)⟩
       have hx8:=(hr8.go (qab (Nat.le_refl _) (.cells #[.int .i64 kt.kind,.string kt.name,.int .i64 kt.sort,.slice A8 kt.kids.length c8] 24)));obtain⟨a0,a1,a2,a3,af⟩:=qaa hx8.box;obtain⟨u0,u1,u2,u3',uf⟩:=qaa hrd9.box;have hlt9:=hrd9.lt;have hrow9':=hrow9.setCell (p:=⟨w.heap.size+1,3,none⟩) (by show ¬(w.heap.size+2≤w.heap.size+1);omega) (by show w.heap.size+1<w.heap.size+2;omega) (.slice (some ⟨g,0,none⟩) 1 cap2);have HROW9:=hdzz hrow9';clear hrow9' hrow9 hgr9 hx8 hblk;have HRD9:=hdzz (hrd9.slot (.slice (some ⟨g,0,none⟩) 1 cap2));clear hrd9 hr8;have HDP2:Hid (Tm.depths ((([]:List It)++[(kt,A8,c8)]).map (·.1))≤d):=by
        rw[List.map_append,qc1];have h1:=HDP.out;have h2:Tm.depths ([(kt,A8,c8)].map (·.1))=kt.depth:=by simp[Tm.depths]
        rw[h2];exact Nat.max_le.2 ⟨by simp[Tm.depths],hkd⟩
       have HK2:Hid (qg0 d m' x ((([]:List It)++[(kt,A8,c8)]).map (·.1)) s5.data.toList=qbw (d+1) (n+1) s.data.toList):=by
        have h:=HKK.out;unfold qpw at h;rw[←HS5.out]at h;rw[List.map_append];exact h
       simp only[Tm.val];go_wp2_with (at_builtin;refine qag rfl _ _ rfl rfl rfl hap ?_)
       go_roundw
       case rel=>exact⟨m',s5,_,([]:List It)++[(kt,A8,c8)],rfl,HK2,by omega,by omega,by omega,HRD9,HROW9,by simp;omega,HDP2⟩
       case measure=>simp[strLen];omega
     ·have hpos:0<its.length:=List.length_pos_iff.2 hits;have hmne:its.map (·.1)≠[]:=by simpa using hits
      by_cases hz2:sc.size<2
      ·have q4:decide ((sc.size:Int)<2)=true:=decide_eq_true (by omega);have HRES:Hid (qbw (d+1) (n+1) s.data.toList=none):=by
        rw[←HK.out];refine qji d m' x _ _ hp41 hmne ?_;rw[←Bool.not_eq_true];intro hc;have h:=congrArg List.length (qey hc);rw[←qak,List.length_cons,List.length_cons]at h;omega
       have HRX:=HRD2;go_wp2_with fail
       refine bodyPost_ret (v:=.tuple #[.agg #[.int .i64 3,.string x,.int .i64 0,.slice Av its.length cv],.string sc,.bool false]) ?_ rfl ?_
       ·simp[results,Tryz.results72,go_sem,c0,c1,c2,c3]
       rw[HRES.out];exact⟨qan (by exact HRX.out.below) (Nat.le_refl _),_,_,_,_,_,_,_,rfl⟩
      ·have q4:decide ((sc.size:Int)<2)=false:=decide_eq_false (by omega);have q5:(2:Int)≤(sc.size:Int):=by omega
       have htk:(sc.extract 0 2).toList=sc.data.toList.take 2:=by rw[ByteArray.toList_eq,qe4,List.drop_zero]
       cases hcm:Lib.hasPrefix sc.data.toList [44,32]with
       | false=>
        have q6:((sc.extract 0 2).toList==[44,32])=false:=by
         rw[beq_eq_false_iff_ne,htk];intro e;have:Lib.hasPrefix sc.data.toList [44,32]=true:=by
          rw[←List.take_append_drop 2 sc.data.toList,e];exact qjk _ _ _
         rw[hcm]at this;cases this
        have HRES:Hid (qbw (d+1) (n+1) s.data.toList=none):=by rw[←HK.out];exact qji d m' x _ _ hp41 hmne hcm
        have HRX:=HRD2;clear htk hcm;go_wp2_with fail
        refine bodyPost_ret (v:=.tuple #[.agg #[.int .i64 3,.string x,.int .i64 0,.slice Av its.length cv],.string sc,.bool false]) ?_ rfl ?_
        ·simp[results,Tryz.results72,go_sem,c0,c1,c2,c3]
        rw[HRES.out];exact⟨qan (by exact HRX.out.below) (Nat.le_refl _),_,_,_,_,_,_,_,rfl⟩
       | true=>
        have q6:((sc.extract 0 2).toList==[44,32])=true:=by
         rw[beq_iff_eq,htk,←qey hcm];rfl
        have HKK:Hid (qpw d m' x (its.map (·.1)) (qbw d m' (sc.data.toList.drop 2))=qbw (d+1) (n+1) s.data.toList):=by
         have h:=HK.out;rw[qjj d m' x _ _ hp41 (.inr hcm),if_pos hmne]at h;exact h
        obtain⟨s4,hs4⟩:∃s4,s4=sc.extract 2 sc.size:=⟨_,rfl⟩;have hs4l:s4.data.toList=sc.data.toList.drop 2:=by rw[hs4];exact qbb sc 2
        have hs4z:s4.size+2=sc.size:=by
         have e1:=qak s4;have e2:=qak sc;rw[hs4l,List.length_drop]at e1;omega
        rw[←hs4l]at HKK;have HS4:=hdzz hs4;clear hs4 hs4l htk hcm;have CON:=hdzz (IH.out s4 m' wr (by omega) (by omega));have HKD:Hid (∀kt r4,qbw d m' s4.data.toList=some (kt,r4)→kt.depth≤d∧r4.length+1≤s4.data.toList.length):=fun kt r4 h=>qib h;obtain⟨o4,ho4⟩:∃o,o=qbw d m' s4.data.toList:=⟨_,rfl⟩;rw[←ho4]at CON HKK HKD;clear ho4;go_wp2_with fail
        rw[←HS4.out];refine CON.out.mono ?_;clear CON a0 a1 a2 a3 af c0 c1 c2 c3 cf q0 q1 q2 q3 q4 q5 q6 e1 e2 hb HS4;rintro e w8 ⟨hb8,hm8⟩;have hr8:=HRD2.out.go hb8;have hlt8:=hr8.lt;have hs8:=hb8.size;obtain⟨c0,c1,c2,c3,cf⟩:=qaa hr8.res;have HB8:=hdzz hb8;clear hb8
        cases o4 with
        | none=>
         obtain⟨k',nm',so',A',l',cc',s',rfl⟩:=hm8;have HRES:Hid (qbw (d+1) (n+1) s.data.toList=none):=HKK.out.symm;have hrx:=hr8.go (qab (Nat.le_refl _) (.cells #[.int .i64 k',.string nm',.int .i64 so',.slice A' l' cc'] 24));obtain⟨a0,a1,a2,a3,af⟩:=qaa hrx.box;obtain⟨c0,c1,c2,c3,cf⟩:=qaa hrx.res;have hltx:=hrx.lt;have HRX:=hdzz hrx;clear hrx hr8;go_wp2_with fail
         refine bodyPost_ret (v:=.tuple #[.agg #[.int .i64 3,.string x,.int .i64 0,.slice Av its.length cv],.string s4,.bool false]) ?_ rfl ?_
         ·simp[results,Tryz.results72,go_sem,c0,c1,c2,c3]
         rw[HRES.out];exact⟨qan (by exact HRX.out.below) (Nat.le_refl _),_,_,_,_,_,_,_,rfl⟩
        | some tr=>
         obtain⟨kt,r4⟩:=tr;obtain⟨A8,c8,s5,rfl,hrep8,hs5⟩:=hm8;have hrow8:RowT w8 (w.heap.size+2) (fun b=>w.heap.size+2≤b) (.slice Av its.length cv) its:=HROW.out.keep (by omega) (fun b hb hF=>HB8.out.block b hb);have hown:∀b,(Value.slice Av its.length cv).ownBlock=some b→b<wr.heap.size:=fun b hb=>(HROW.out.lt b hb).2;obtain⟨hkd,hkz⟩:=HKD.out kt r4 rfl;have HREP8:=hdzz hrep8;clear hrep8;have HROW8:=hdzz hrow8;clear hrow8;have HS5:=hdzz hs5;clear hs5;have hz5:s5.size+1≤s4.size:=by rw[qak,qak s4,HS5.out];exact hkz
         have hb10:Below w8.heap.size w8 ((w8.alloc (.cells #[.int .i64 kt.kind,.string kt.name,.int .i64 kt.sort,.slice A8 kt.kids.length c8] 24)).alloc (.cells #[.int .i64 kt.kind,.string kt.name,.int .i64 kt.sort,.slice A8 kt.kids.length c8] 24)):=
          (qab (Nat.le_refl _) _).alloc (by simp) _
         have hsrc:=heap_alloc_new (w8.alloc (.cells #[.int .i64 kt.kind,.string kt.name,.int .i64 kt.sort,.slice A8 kt.kids.length c8] 24)) (.cells #[.int .i64 kt.kind,.string kt.name,.int .i64 kt.sort,.slice A8 kt.kids.length c8] 24);rw[World.size_alloc]at hsrc;obtain⟨g,cap2,w9,hap,hrow9,hgr9,hbg9⟩:=(HROW8.out.below hb10).grow1 (by simp;omega) (kt,A8,c8) (w8.heap.size+1) 1 (0,0) hsrc
          (RepP.mono (fun b ⟨h1,h2⟩=>⟨by omega,by simp;omega,fun e=>by have:=hown b e;omega⟩) (fun q ⟨h1,h2⟩=>hb10.cell h2) _ _ _ HREP8.out) (by first|(simp;done)|(simp;omega)|omega)
         have hs9:w8.heap.size+2≤w9.heap.size:=by have:=hgr9.size;simp at this;omega
         have hblk:∀b,b<w.heap.size+2→w9.heap[b]?=w8.heap[b]?:=fun b hb=>by
          rw[hgr9.block b (by simp;omega) (fun e=>by have:=(HROW8.out.lt b e.symm).1;omega)];exact hb10.block b (by omega)
         have hrd9:Rd w 3 x (.slice Av its.length cv) w9:=by
          refine⟨?_,(hblk _ (by omega)).trans hr8.res,(hblk _ (by omega)).trans hr8.box⟩;have h:=hr8.below;exact⟨(hgr9.os.trans hb10.os).trans h.os,(hgr9.tape.trans hb10.tape).trans h.tape,(hgr9.output.trans hb10.output).trans h.output,by have:=h.size;omega,fun b hb=>(hblk b (by omega)).trans (h.block b hb)⟩
         have hx8:=(hr8.go (qab (Nat.le_refl _) (.cells #[.int .i64 kt.kind,.string kt.name,.int .i64 kt.sort,.slice A8 kt.kids.length c8] 24)));obtain⟨a0,a1,a2,a3,af⟩:=qaa hx8.box;obtain⟨u0,u1,u2,u3',uf⟩:=qaa hrd9.box;have hlt9:=hrd9.lt;have hrow9':=hrow9.setCell (p:=⟨w.heap.size+1,3,none⟩) (by show ¬(w.heap.size+2≤w.heap.size+1);omega) (by show w.heap.size+1<w.heap.size+2;omega) (.slice (some ⟨g,0,none⟩) (its.length+1) cap2);have HROW9:=hdzz hrow9';clear hrow9' hrow9 hgr9 hx8 hblk;have HRD9:=hdzz (hrd9.slot (.slice (some ⟨g,0,none⟩) (its.length+1) cap2));clear hrd9 hr8;have HDP2:Hid (Tm.depths ((its++[(kt,A8,c8)]).map (·.1))≤d):=by
          rw[List.map_append,qc1];have h1:=HDP.out;have h2:Tm.depths ([(kt,A8,c8)].map (·.1))=kt.depth:=by simp[Tm.depths]
          rw[h2];exact Nat.max_le.2 ⟨h1,hkd⟩
         have HK2:Hid (qg0 d m' x ((its++[(kt,A8,c8)]).map (·.1)) s5.data.toList=qbw (d+1) (n+1) s.data.toList):=by
          have h:=HKK.out;unfold qpw at h;rw[←HS5.out]at h;rw[List.map_append];exact h
         simp only[Tm.val];go_wp2_with (at_builtin;refine qag rfl _ _ rfl rfl rfl hap ?_)
         go_roundw
         case rel=>exact⟨m',s5,_,its++[(kt,A8,c8)],rfl,HK2,by omega,by omega,by omega,HRD9,HROW9,by simp;omega,HDP2⟩
         case measure=>simp[strLen];omega
theorem read_any (d:Nat):∀(s:ByteArray) (n:Nat) (w:World),s.size≤1000000→2*s.size+1≤n→d≤1000000→Calls Tryz.prog 72 #[.string s,.int .i64 d] w (qet (qbw d n s.data.toList) w):=by
 induction d with
 | zero=>
  intro s n w hs hn hd;obtain⟨m,rfl⟩:∃m,n=m+1:=⟨n - 1,by omega⟩;exact qol s 0 m hs hd w (.inr rfl)
 | succ d ih=>
  intro s n w hs hn hd;obtain⟨m,rfl⟩:∃m,n=m+1:=⟨n - 1,by omega⟩
  cases hg:qbg ((if Lib.hasPrefix s.data.toList [63]=true then s.data.toList.drop 1 else s.data.toList).takeWhile qa2)with
  | false=>exact qol s (d+1) m hs hd w (.inl hg)
  | true=>
   cases hv:Lib.hasPrefix s.data.toList [63]with
   | true=>exact qlz s d m hs (by omega) w hg (.inl hv)
   | false=>
    cases hp:Lib.hasPrefix (s.data.toList.drop (wlen s.data.toList)) [40]with
    | false=>exact qlz s d m hs (by omega) w hg (.inr hp)
    | true=>
     rw[hv,if_neg (by simp)]at hg;exact read_app s d m hs (by omega) w hv hg hp (fun s n w h1 h2=>ih s n w h1 h2 (by omega)) hn
theorem qpu (s:ByteArray) (w:World) (hs:s.size≤2000):Calls Tryz.prog 34 #[.string s] w (qiw s.data.toList w):=by
 obtain⟨W1,hW1⟩:∃W1,W1=w.alloc (.cells #[.int .i64 0,.string ⟨#[]⟩,.int .i64 0,.slice none 0 0] 24):=⟨_,rfl⟩;have s1:W1.heap.size=w.heap.size+1:=by rw[hW1];simp
 have b1:Below w.heap.size w W1:=by rw[hW1];exact qab (Nat.le_refl _) _
 have hr:W1.heap[w.heap.size]?=some (.cells #[.int .i64 0,.string ⟨#[]⟩,.int .i64 0,.slice none 0 0] 24 (0,0)):=by rw[hW1];exact heap_alloc_new _ _
 have hT:=read_any 800 s (2*s.size+1) W1 (by omega) (Nat.le_refl _) (by omega);rw[show qbw 800 (2*s.size+1) s.data.toList=pterm (2*s.size+1) s.data.toList by unfold qbw;rw[qak];exact parse_cut (by rw[←qak];exact hs)]at hT;rw[show((800:Nat):Int)=800 from rfl]at hT;have HT:=hdzz hT;clear hT;have HR:=hdzz hr;clear hr;have HB:=hdzz b1;clear b1;have HW:=hdzz hW1;clear hW1;go_enter Tryz.func34,Tryz.ntmps34
 go_wp2_with fail
 rw[←HW.out];refine HT.out.mono ?_;clear HT;rintro e w5 ⟨hb5,hm⟩;have hsz5:=hb5.size;have hB5:Below w.heap.size w w5:=HB.out.trans (hb5.mono (by omega));have hr5:=(hb5.block _ (by omega)).trans HR.out;have HB5:=hdzz hB5;clear hB5 hb5;have HR5:=hdzz hr5;clear hr5;have bad:∀(Y:World),Below w.heap.size w Y→∀x y z v:Value,Hid (qiw s.data.toList w (.returned (.tuple #[.agg #[.int .i64 0,.string ⟨#[]⟩,.int .i64 0,.slice none 0 0],.int .i64 2])) ((((Y.setCell ⟨w.heap.size,0,none⟩ x).setCell ⟨w.heap.size,1,none⟩ y).setCell ⟨w.heap.size,2,none⟩ z).setCell ⟨w.heap.size,3,none⟩ v))∨qee s.data.toList≠(.mk 0 ⟨#[]⟩ 0 [],2):=fun Y hY x y z v=>by
  by_cases h:qee s.data.toList=(.mk 0 ⟨#[]⟩ 0 [],2)
  ·left;show qiw _ _ _ _;unfold qiw;rw[h];exact⟨none,0,rfl,qfc _ _ _ (Nat.zero_le _),qan hY (Nat.le_refl _)⟩
  ·exact .inr h
 have HE0:Hid (qee s.data.toList=match pterm (2*s.size+1) s.data.toList with|some (t,[])=>if t.valid=0 then (t,0)else (.mk 0 ⟨#[]⟩ 0 [],t.valid)|_=>(.mk 0 ⟨#[]⟩ 0 [],2)):=by unfold qee;rw[qak];exact rfl
 cases hpt:pterm (2*s.size+1) s.data.toList with
 | none=>
  rw[hpt]at hm HE0;obtain⟨k',nm',so',A',l',cc',s',rfl⟩:=hm;have hbx:=(qab (Nat.le_refl _) (.cells #[.int .i64 k',.string nm',.int .i64 so',.slice A' l' cc'] 24):Below w5.heap.size w5 _);have hrx:=(hbx.block _ (by omega)).trans HR5.out;obtain⟨c0,c1,c2,c3,cf⟩:=qaa hrx;have HBX:=hdzz (HB5.out.trans (hbx.mono (by omega)));clear hpt hbx hrx;go_wp2_with fail
  refine bodyPost_ret (v:=.tuple #[.agg #[.int .i64 0,.string ⟨#[]⟩,.int .i64 0,.slice none 0 0],.int .i64 2]) ?_ rfl ?_
  ·simp[results,Tryz.results34,go_sem,c0,c1,c2,c3]
  rcases bad _ HBX.out (.int .i64 0) (.string ⟨#[]⟩) (.int .i64 0) (.slice none 0 0)with h|h
  ·exact h.out
  ·exact absurd HE0.out h
 | some tr=>
  obtain⟨t,r⟩:=tr;rw[hpt]at hm HE0;have hsize:=(psize _).1 _ _ _ hpt;obtain⟨A,cap,s',rfl,hrep,hs'⟩:=hm;have hbx:=(qab (Nat.le_refl _) (.cells #[.int .i64 t.kind,.string t.name,.int .i64 t.sort,.slice A t.kids.length cap] 24):Below w5.heap.size w5 _);have hrx:=(hbx.block _ (by omega)).trans HR5.out;have htx:=heap_alloc_new w5 (.cells #[.int .i64 t.kind,.string t.name,.int .i64 t.sort,.slice A t.kids.length cap] 24);obtain⟨c0,c1,c2,c3,cf⟩:=qaa hrx;have HBX:=hdzz (HB5.out.trans (hbx.mono (by omega)));rw[←qak]at hsize;clear hpt
  cases r with
  | cons b r=>
   have hne:s'.toList.isEmpty=false:=by rw[ByteArray.toList_eq,hs'];rfl
   have hne2:¬s'.toList=[]:=by rw[ByteArray.toList_eq,hs'];simp
   have hne3:(s'.toList==[])=false:=by rw[ByteArray.toList_eq,hs'];rfl
   clear hbx hrx htx hs' hrep;simp only[Tm.val];go_wp2_with fail
   refine bodyPost_ret (v:=.tuple #[.agg #[.int .i64 0,.string ⟨#[]⟩,.int .i64 0,.slice none 0 0],.int .i64 2]) ?_ rfl ?_
   ·simp[results,Tryz.results34,go_sem,c0,c1,c2,c3]
   rcases bad _ HBX.out (.int .i64 0) (.string ⟨#[]⟩) (.int .i64 0) (.slice none 0 0)with h|h
   ·exact h.out
   ·exact absurd HE0.out h
  | nil=>
   have hne:s'.toList.isEmpty=true:=by rw[ByteArray.toList_eq,hs'];rfl
   have hne2:s'.toList=[]:=by rw[ByteArray.toList_eq,hs']
   obtain⟨X,hX⟩:∃X,X=w5.alloc (.cells #[.int .i64 t.kind,.string t.name,.int .i64 t.sort,.slice A t.kids.length cap] 24):=⟨_,rfl⟩;rw[←hX]at hbx hrx htx HBX;have hsx:X.heap.size=w5.heap.size+1:=by rw[hX];simp
   have hrepX:RepP X (fun b=>W1.heap.size≤b∧b<w5.heap.size) t A cap:=RepP.mono (fun _ h=>h) (fun q hq=>hbx.cell hq.2) _ _ _ hrep;have hV:=qjf t A cap X (by omega) (RepP.mono (fun b h=>by omega) (fun _ _=>rfl) _ _ _ hrepX);obtain⟨vl,hvl⟩:∃vl,vl=t.valid:=⟨_,rfl⟩;have HE1:Hid (qee s.data.toList=if vl=0 then (t,0)else (.mk 0 ⟨#[]⟩ 0 [],vl)):=by rw[hvl];exact HE0.out
   rw[←hvl]at hV;have HV:=hdzz hV;clear hV hvl;have HREP:=hdzz hrepX;clear hrepX hrep;have HRX:=hdzz hrx;clear hrx;have HTX:=hdzz htx;clear htx hbx;have HX:=hdzz hX;clear hX hs';simp only[Tm.val]at HV ⊢;go_wp2_with fail
   rw[←HX.out];refine HV.out.mono ?_;clear HV c0 c1 c2 c3 cf hne hne2;rintro e w7 ⟨rfl,hl⟩;have hr7:=(hl.below.block _ (by omega)).trans HRX.out;have ht7:=(hl.below.block _ (by omega)).trans HTX.out;have hs7:=hl.size;have HREP7:Hid (RepP w7 (fun b=>W1.heap.size≤b∧b<w5.heap.size) t A cap):=RepP.mono (fun _ h=>h) (fun q hq=>hl.below.cell (by have:=hq.2;omega)) _ _ _ HREP.out;have HB7:=hdzz (HBX.out.trans (hl.below.mono (by omega)));obtain⟨c0,c1,c2,c3,cf⟩:=qaa hr7;obtain⟨t0,t1,t2,t3,tf⟩:=qaa ht7;clear hl hr7 ht7 HREP;have hwne:w5.heap.size≠w.heap.size:=by omega
   by_cases hv0:vl=0
   ·subst hv0;have HE:Hid (qee s.data.toList=(t,0)):=by rw[HE1.out];exact if_pos rfl
    go_wp2_with fail
    refine bodyPost_ret (v:=.tuple #[.agg #[.int .i64 t.kind,.string t.name,.int .i64 t.sort,.slice A t.kids.length cap],.int .i64 0]) ?_ rfl ?_
    ·simp[results,Tryz.results34,go_sem,c0,c1,c2,c3]
    unfold qiw;rw[HE.out];refine⟨A,cap,rfl,?_,qan HB7.out (Nat.le_refl _)⟩;refine RepP.mono ?_ ?_ _ _ _ HREP7.out
    ·rintro b ⟨h1,h2⟩;exact⟨by omega,by simp[World.setCell];omega⟩
    ·rintro q ⟨h1,h2⟩;have hq:∀o,(⟨w.heap.size,o,none⟩:Addr)≠q:=fun o e=>by rw[←e]at h1;simp at h1;omega
     rw[World.cell?_setCell_other _ _ _ _ (hq _),World.cell?_setCell_other _ _ _ _ (hq _),World.cell?_setCell_other _ _ _ _ (hq _),World.cell?_setCell_other _ _ _ _ (hq _)]
   ·have q:(vl==0)=false:=by rw[beq_eq_false_iff_ne];exact hv0
    have q':(vl != 0)=true:=by simp[hv0]
    have HE:Hid (qee s.data.toList=(.mk 0 ⟨#[]⟩ 0 [],vl)):=by rw[HE1.out];exact if_neg hv0
    clear hv0;go_wp2_with fail
    refine bodyPost_ret (v:=.tuple #[.agg #[.int .i64 0,.string ⟨#[]⟩,.int .i64 0,.slice none 0 0],.int .i64 vl]) ?_ rfl ?_
    ·simp[results,Tryz.results34,go_sem,c0,c1,c2,c3]
    unfold qiw;rw[HE.out];exact⟨none,0,rfl,qfc _ _ _ (Nat.zero_le _),qan HB7.out (Nat.le_refl _)⟩
end Go.Proofs.YtjhjoiplpmjepaaGreat
