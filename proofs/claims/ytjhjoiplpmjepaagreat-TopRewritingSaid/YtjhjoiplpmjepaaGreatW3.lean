/- Gb (joined by shake.py). -/
import Derived.Test.YtjhjoiplpmjepaaGreatW0
import Derived.Test.YtjhjoiplpmjepaaGreatW1
set_option maxRecDepth 100000
set_option linter.unusedVariables false
set_option linter.unusedSimpArgs false
set_option maxHeartbeats 4000000
namespace Go.Proofs.YtjhjoiplpmjepaaGreat
open Go.RowKit
mutual
def Tm.check:Tm→Int
 | .mk k n s l=>
  if k=1∨k=2 then (if s<0∨5<s∨l≠[]then 1 else if qbg n.data.toList=false then 2 else 0)
  else if k=3 then (if s≠0 then 1 else if qbg n.data.toList=false then 2 else if 8<l.length then 3 else Tm.checks l)
  else 1
def Tm.checks:List Tm→Int
 | []=>0
 | t::r=>if t.check≠0 then t.check else Tm.checks r
end
def Tm.valid (t:Tm):Int:=if t.check≠0 then t.check else if 400<t.size∨40<t.depth then 3 else 0
theorem Tm.checks_drop (l:List Tm) (k:Nat) (h:k<l.length):Tm.checks (l.drop k)=if l[k].check≠0 then l[k].check else Tm.checks (l.drop (k+1)):=by
 rw[List.drop_eq_getElem_cons h,Tm.checks]
def Cnt (nb db:Nat) (N D:Int) (w:World):Prop:=w.heap[nb]?=some (.cells #[.int .i64 N] 3 (0,0))∧w.heap[db]?=some (.cells #[.int .i64 D] 3 (0,0))
structure Counts (nb db:Nat) (w w':World):Prop where
 size:w.heap.size≤w'.heap.size
 same:∀b,b<w.heap.size→b≠nb→b≠db→w'.heap[b]?=w.heap[b]?
 os:w'.os=w.os
 tape:w'.tape=w.tape
 output:w'.output=w.output
 drawn:w.drawn≤w'.drawn
theorem Counts.refl (nb db:Nat) (w:World):Counts nb db w w:=⟨Nat.le_refl _,fun _ _ _ _=>rfl,rfl,rfl,rfl,Nat.le_refl _⟩
theorem Counts.trans {nb db:Nat} {a b c:World} (h:Counts nb db a b) (k:Counts nb db b c):Counts nb db a c:=
 ⟨Nat.le_trans h.size k.size,fun x hx h1 h2=>(k.same x (Nat.lt_of_lt_of_le hx h.size) h1 h2).trans (h.same x hx h1 h2),k.os.trans h.os,k.tape.trans h.tape,k.output.trans h.output,Nat.le_trans h.drawn k.drawn⟩
theorem Counts.of_lay {nb db:Nat} {w w':World} (h:Lay w.heap.size w w'):Counts nb db w w':=⟨h.size,fun b hb _ _=>h.below.block b hb,h.below.os,h.below.tape,h.below.output,h.drawn⟩
theorem qbu {nb db:Nat} (w:World) (a b:Value) (o:Obj):Counts nb db w (((w.setCell ⟨nb,0,none⟩ a).setCell ⟨db,0,none⟩ b).alloc o):=by
 have hs:((w.setCell ⟨nb,0,none⟩ a).setCell ⟨db,0,none⟩ b).heap.size=w.heap.size:=by simp[World.setCell]
 refine⟨by rw[World.size_alloc,hs];omega,fun x hx h1 h2=>?_,rfl,rfl,rfl,Nat.le_refl _⟩;rw[Below.heap_alloc _ _ _ (by rw[hs];exact hx),Below.heap_setCell _ _ _ _ (by exact h2),Below.heap_setCell _ _ _ _ (by exact h1)]
theorem qk3 {nb db:Nat} {w:World} {N D:Int} (h:Cnt nb db N D w) (hne:nb≠db) (a b:Int) (o:Obj):Cnt nb db a b (((w.setCell ⟨nb,0,none⟩ (.int .i64 a)).setCell ⟨db,0,none⟩ (.int .i64 b)).alloc o):=by
 obtain⟨h1,h2⟩:=h;have hs:((w.setCell ⟨nb,0,none⟩ (.int .i64 a)).setCell ⟨db,0,none⟩ (.int .i64 b)).heap.size=w.heap.size:=by simp[World.setCell]
 have l1:=(sltz h1);have l2:=(sltz h2);have e1:(w.setCell ⟨nb,0,none⟩ (.int .i64 a)).heap[nb]?=some (.cells #[.int .i64 a] 3 (0,0)):=by simp[World.setCell,Array.getElem?_modify,h1]
 have e2:(w.setCell ⟨nb,0,none⟩ (.int .i64 a)).heap[db]?=some (.cells #[.int .i64 D] 3 (0,0)):=by rw[Below.heap_setCell _ _ _ _ (by exact hne.symm)];exact h2
 constructor
 ·rw[Below.heap_alloc _ _ _ (by rw[hs];exact l1),Below.heap_setCell _ _ _ _ (by exact hne)];exact e1
 ·rw[Below.heap_alloc _ _ _ (by rw[hs];exact l2)];generalize w.setCell ⟨nb,0,none⟩ (.int .i64 a)=W at e2;simp[World.setCell,Array.getElem?_modify,e2]
def qiy (nb db:Nat) (t:Tm) (N D L:Int) (w:World) (e:Ending) (w':World):Prop:=
 e=.returned (.int .i64 t.check)∧Counts nb db w w'∧(t.check=0→Cnt nb db (N+t.size) (max D (L+t.depth - 1)) w')
theorem check_app (B0 nb db:Nat) (hnb:B0≤nb) (hdb:B0≤db) (hne:nb≠db) (n:Nat)
  (ih : ∀ (t : Tm) (A : Option Addr) (cap : Nat) (N D L : Int) (w : World), t.size ≤ n → 0 ≤ N → N + t.size ≤ 1000000000 → 0 ≤ L → L + t.size ≤ 1000000000 → 0 ≤ D → D ≤ 1000000000 →
   nb<w.heap.size→db<w.heap.size→Cnt nb db N D w→RepT w B0 t A cap→
   Calls Tryz.prog 98 #[t.val A cap,.int .i64 L,.pointer (some ⟨nb,0,none⟩),.pointer (some ⟨db,0,none⟩)] w (qiy nb db t N D L w))
  (tn:ByteArray) (l:List Tm) (A:Option Addr) (cap:Nat) (N D L:Int) (w:World) (hn:Tm.sizes l≤n) (hN:0≤N) (hN2:N+(1+Tm.sizes l:Nat)≤1000000000) (hL:0≤L) (hL2:L+(1+Tm.sizes l:Nat)≤1000000000) (hD:0≤D) (hD2:D≤1000000000)
  (hnl:nb<w.heap.size) (hdl:db<w.heap.size) (hcnt:Cnt nb db N D w) (hrep:RepT w B0 (.mk 3 tn 0 l) A cap) (hnm:qbg tn.data.toList=true) (h8:¬8<l.length) :
  Calls Tryz.prog 98 #[(Tm.mk 3 tn 0 l).val A cap,.int .i64 L,.pointer (some ⟨nb,0,none⟩),.pointer (some ⟨db,0,none⟩)] w (qiy nb db (.mk 3 tn 0 l) N D L w):=by
 have HCK:=hdzz (show(Tm.mk 3 tn 0 l).check=Tm.checks l by rw[Tm.check,if_neg (by omega),if_pos rfl,if_neg (by omega),if_neg (by rw[hnm];simp),if_neg h8]);obtain⟨hc1,hc2⟩:=hcnt;have a1:∀o,(w.alloc o).cell? ⟨nb,0,none⟩=some (.int .i64 N):=fun o=>by rw[(qab (Nat.le_refl _) _).cell (by exact hnl)];simp[World.cell?,hc1]
 have a3:∀o,(w.alloc o).frozen? ⟨nb,0,none⟩=false:=fun o=>by rw[(qab (Nat.le_refl _) _).frozen (by exact hnl)];simp[World.frozen?,hc1]
 have hc2':∀v,(w.setCell ⟨nb,0,none⟩ v).heap[db]?=some (.cells #[.int .i64 D] 3 (0,0)):=fun v=>by rw[Below.heap_setCell _ _ _ _ (by exact hne.symm)];exact hc2
 have hsz1:∀v,(w.setCell ⟨nb,0,none⟩ v).heap.size=w.heap.size:=fun v=>by simp[World.setCell]
 have a5:∀v o,((w.setCell ⟨nb,0,none⟩ v).alloc o).cell? ⟨db,0,none⟩=some (.int .i64 D):=fun v o=>by rw[(qab (Nat.le_refl _) _).cell (by rw[hsz1];exact hdl)];simp[World.cell?,hc2']
 have a6:∀v o,((w.setCell ⟨nb,0,none⟩ v).alloc o).frozen? ⟨db,0,none⟩=false:=fun v o=>by rw[(qab (Nat.le_refl _) _).frozen (by rw[hsz1];exact hdl)];simp[World.frozen?,hc2']
 have HCNT:Hid (Cnt nb db N D w):=⟨hc1,hc2⟩;have NA:=hdzz (qjv tn);rw[hnm]at NA;clear hc1 hc2 hc2' hsz1;have hr:=hrep;rw[qbe]at hr;obtain⟨hr1,hr2,hr3,hr4⟩:=hr;have HREP:=hdzz hrep;clear hrep;have IH:=hdzz ih;clear ih;have HM:Hid (max D (L+(Tm.mk 3 tn 0 l).depth - 1)=max (max D L) (L+Tm.depths l)):=by rw[Tm.depth];show _=_;omega
 have HN:Hid (N+((Tm.mk 3 tn 0 l).size:Int)=N+1+(Tm.sizes l:Nat)):=by rw[Tm.size];show _=_;omega
 have hls:=Tm.length_le_sizes l;have hdl':=Tm.depths_le l;clear hnm;simp only[Tm.val,Tm.kind,Tm.name,Tm.sort,Tm.kids];obtain⟨M,hM⟩:∃M,M=max D L:=⟨_,rfl⟩;have hML:L≤M:=by omega
 have hMU:M≤1000000000:=by omega
 have HMD:=hdzz hM;have HST:Hid (Counts nb db w (((w.setCell ⟨nb,0,none⟩ (.int .i64 (N+1))).setCell ⟨db,0,none⟩ (.int .i64 M)).alloc (.cells #[.int .i64 3,.string tn,.int .i64 0,.slice A l.length cap] 24))∧
   Cnt nb db (N+1) M (((w.setCell ⟨nb,0,none⟩ (.int .i64 (N+1))).setCell ⟨db,0,none⟩ (.int .i64 M)).alloc (.cells #[.int .i64 3,.string tn,.int .i64 0,.slice A l.length cap] 24))):=⟨qbu _ _ _ _,qk3 HCNT.out hne _ _ _⟩
 go_enter Tryz.func98,Tryz.ntmps98
 have hMM:(D<L∧M=L)∨(L≤D∧M=D):=by omega
 clear hM;rcases hMM with⟨hDL,e⟩|⟨hDL,e⟩
 all_goals
  rw[e]at HST hML hMU HMD;clear e M;go_wp2_with (go_at_call 127;refine(NA.out _ hr1).mono ?_;rintro e w1 ⟨rfl,rfl⟩)
  go_loopw [59] (fun i wr=>∃k:Nat,k≤l.length∧i=.int .i64 k∧Hid (Counts nb db w wr)∧Hid (∃N' D':Int,N'=N+1+(Tm.sizes (l.take k):Nat)∧D'=max (max D L) (L+(Tm.depths (l.take k):Nat))∧Cnt nb db N' D' wr)∧Hid (Tm.checks (l.drop k)=Tm.checks l))
   (fun i _=>l.length - (intOf i).toNat)
  case atStart=>exact⟨0,Nat.zero_le _,rfl,HST.out.1,⟨_,_,by simp[Tm.sizes],by rw[←HMD.out];simp[Tm.depths]<;>omega,HST.out.2⟩,rfl⟩
  case round=>
   obtain⟨k,hk,rfl,HCT,HCN,HCC⟩:=hrel;by_cases hlt:k<l.length
   ·rcases hr4 with rfl|⟨b,off,rfl,hbB,hl⟩
    ·simp at hlt
    obtain⟨N',D',hN',hD',hcn⟩:=HCN.out;have hlw:RepL wr B0 l b off:=RepLP.mono (w:=w) (w':=wr) (P:=fun b=>b<B0) (P':=fun b=>b<B0) (fun _ h=>h) (fun p (hp:p.block<B0)=>World.cell?_of_block (HCT.out.same p.block (by omega) (by omega) (by omega))) _ _ _ hbB hl;obtain⟨A',cap',h0,h1,h2,h3,h5⟩:=RepLP.get hlw k hlt;have hsg:=Tm.sizes_get l k hlt;have htk:=Tm.sizes_take_succ l k hlt;have htl:=Tm.sizes_take_le l (k+1);have HTD:Hid (Tm.depths (l.take (k+1))=max (Tm.depths (l.take k)) l[k].depth):=Tm.depths_take_succ l k hlt;have hdk:Tm.depths (l.take k)≤Tm.sizes l:=by
     have h1:=Tm.depths_le (l.take k);have h2:=Tm.sizes_take_le l k;omega
    have hss:=HCT.out.size;have HC:Hid (∀X,Below wr.heap.size wr X→Calls Tryz.prog 98 #[l[k].val A' cap',.int .i64 (L+1),.pointer (some ⟨nb,0,none⟩),.pointer (some ⟨db,0,none⟩)] X (qiy nb db l[k] N' D' (L+1) X)):=fun X hX=>
     IH.out l[k] A' cap' N' D' (L+1) X (by omega) (by omega) (by omega) (by omega) (by omega) (by omega) (by omega) (by have:=hX.size;omega) (by have:=hX.size;omega)
      ⟨(hX.block nb (by omega)).trans hcn.1,(hX.block db (by omega)).trans hcn.2⟩ (RepP.mono (fun _ h=>h) (fun p (hp:p.block<B0)=>hX.cell (by omega)) _ _ _ h5)
    have HNN:=hdzz hN';clear hN';have HDD:=hdzz hD';clear hD';have HCL:=hdzz (Tm.checks_drop l k hlt);clear h5 hlw hcn hl htl hdk;obtain⟨c,hc⟩:∃c,c=l[k].check:=⟨_,rfl⟩;unfold qiy at HC;rw[←hc]at HC HCL;have HCK2:=hdzz hc;clear hc;simp only[Tm.val]at HC;by_cases hc0:c=0
    ·subst hc0;go_wp2_with fail
     refine(HC.out _ (qab (Nat.le_refl _) _)).mono ?_;rintro e w2 ⟨rfl,hct2,hcn2⟩;have HCT2:=hdzz hct2;clear hct2;have HCN2:=hdzz (hcn2 trivial);clear hcn2;go_wp2_with fail
     go_roundw
     case rel=>
      refine⟨k+1,by omega,by go_num,HCT.out.trans ((Counts.of_lay ((Lay.refl _ _).alloc (Nat.le_refl _) _)).trans HCT2.out),⟨_,_,?_,?_,HCN2.out⟩,?_⟩
      ·rw[HNN.out];omega
      ·rw[HDD.out,HTD.out];omega
      ·have:=HCL.out;rw[if_neg (by simp)]at this;rw[←this];exact HCC.out
     case measure=>simp[intOf];omega
    ·have hcb:(c != 0)=true:=by simpa using hc0
     have HR:Hid ((Tm.mk 3 tn 0 l).check=c):=by
      have:=HCL.out;rw[if_pos hc0]at this;exact(HCK.out.trans HCC.out.symm).trans this
     have HNZ:=hdzz hc0;clear hc0;go_wp2_with fail
     refine(HC.out _ (qab (Nat.le_refl _) _)).mono ?_;rintro e w2 ⟨rfl,hct2,hcn2⟩;have HCT2:=hdzz hct2;clear hct2 hcn2;go_wp2_with fail
     go_ret
     exact⟨by rw[HR.out];rfl,HCT.out.trans ((Counts.of_lay ((Lay.refl _ _).alloc (Nat.le_refl _) _)).trans HCT2.out),fun h=>absurd (HR.out.symm.trans h) HNZ.out⟩
   ·obtain rfl:k=l.length:=by omega
    have HR:Hid ((Tm.mk 3 tn 0 l).check=0):=by
     rw[HCK.out,←HCC.out,List.drop_length];exact rfl
    obtain⟨N',D',hN',hD',hcn⟩:=HCN.out;have HFIN:Hid (Cnt nb db (N+((Tm.mk 3 tn 0 l).size:Int)) (max D (L+(Tm.mk 3 tn 0 l).depth - 1)) wr):=by
     rw[HM.out,HN.out];rw[List.take_length]at hN' hD';rw[←hN',←hD'];exact hcn
    clear hN' hD' hcn;go_wp2_with fail
    go_ret
    exact⟨by rw[HR.out];rfl,HCT.out,fun _=>HFIN.out⟩
theorem check_any (B0 nb db:Nat) (hnb:B0≤nb) (hdb:B0≤db) (hne:nb≠db) (n:Nat):∀(t:Tm) (A:Option Addr) (cap:Nat) (N D L:Int) (w:World),t.size≤n→0≤N→N+t.size≤1000000000→0≤L→L+t.size≤1000000000→0≤D→D≤1000000000→
  nb<w.heap.size→db<w.heap.size→Cnt nb db N D w→RepT w B0 t A cap→
  Calls Tryz.prog 98 #[t.val A cap,.int .i64 L,.pointer (some ⟨nb,0,none⟩),.pointer (some ⟨db,0,none⟩)] w (qiy nb db t N D L w):=by
 induction n with
 | zero=>intro t _ _ _ _ _ _ h;have:=t.size_pos;omega
 | succ n ih=>
  intro t A cap N D L w hn hN hN2 hL hL2 hD hD2 hnl hdl hcnt hrep;obtain⟨tk,tn,ts,l⟩:=t;obtain⟨hc1,hc2⟩:=hcnt;have a1:∀o,(w.alloc o).cell? ⟨nb,0,none⟩=some (.int .i64 N):=fun o=>by rw[(qab (Nat.le_refl _) _).cell (by exact hnl)];simp[World.cell?,hc1]
  have a3:∀o,(w.alloc o).frozen? ⟨nb,0,none⟩=false:=fun o=>by rw[(qab (Nat.le_refl _) _).frozen (by exact hnl)];simp[World.frozen?,hc1]
  have hc2':∀v,(w.setCell ⟨nb,0,none⟩ v).heap[db]?=some (.cells #[.int .i64 D] 3 (0,0)):=fun v=>by rw[Below.heap_setCell _ _ _ _ (by exact hne.symm)];exact hc2
  have hsz1:∀v,(w.setCell ⟨nb,0,none⟩ v).heap.size=w.heap.size:=fun v=>by simp[World.setCell]
  have a5:∀v o,((w.setCell ⟨nb,0,none⟩ v).alloc o).cell? ⟨db,0,none⟩=some (.int .i64 D):=fun v o=>by rw[(qab (Nat.le_refl _) _).cell (by rw[hsz1];exact hdl)];simp[World.cell?,hc2']
  have a6:∀v o,((w.setCell ⟨nb,0,none⟩ v).alloc o).frozen? ⟨db,0,none⟩=false:=fun v o=>by rw[(qab (Nat.le_refl _) _).frozen (by rw[hsz1];exact hdl)];simp[World.frozen?,hc2']
  have HC1:=hdzz hc1;clear hc1;have HC2:=hdzz hc2;clear hc2 hc2' hsz1;have HREP:=hdzz hrep;clear hrep;have IH:=hdzz ih;clear ih;simp only[Tm.val,Tm.kind,Tm.name,Tm.sort,Tm.kids];have HCNT:Hid (Cnt nb db N D w):=⟨HC1.out,HC2.out⟩;have NA:=hdzz (qjv tn);have hr:=HREP.out;rw[qbe]at hr;obtain⟨hr1,hr2,hr3,hr4⟩:=hr;have hsn:(Tm.mk tk tn ts l).size=1+Tm.sizes l:=by rw[Tm.size]
  have hsd:(Tm.mk tk tn ts l).depth=1+Tm.depths l:=by rw[Tm.depth]
  rw[hsn]at hn hN2 hL2;by_cases hk:tk=1∨tk=2
  ·by_cases hb:ts<0∨5<ts∨l≠[]
   ·have HCK:=hdzz (show(Tm.mk tk tn ts l).check=1 by rw[Tm.check,if_pos hk,if_pos hb]);have hb3:decide (ts<0)=true∨(decide (ts<0)=false∧decide (5<ts)=true)∨(decide (ts<0)=false∧decide (5<ts)=false∧decide (0<l.length)=true):=by
     by_cases h1:ts<0
     ·exact .inl (decide_eq_true h1)
     ·by_cases h2:5<ts
      ·exact .inr (.inl ⟨decide_eq_false h1,decide_eq_true h2⟩)
      ·have h3:l≠[]:=by rcases hb with h|h|h;exact absurd h h1;exact absurd h h2;exact h
       have:=List.length_pos_iff.2 h3;exact .inr (.inr ⟨decide_eq_false h1,decide_eq_false h2,decide_eq_true this⟩)
    clear hb hr1 hr2 hr3 hr4 hsn hsd;rcases Int.lt_or_le D L with hDL|hDL<;>rcases hk with rfl|rfl<;>rcases hb3 with d1|⟨d1,d2⟩|⟨d1,d2,d3⟩
    all_goals
     go_enter Tryz.func98,Tryz.ntmps98
     go_wp2_with fail
     go_ret
     exact⟨by rw[HCK.out];rfl,qbu _ _ _ _,fun h=>by rw[HCK.out]at h;cases h⟩
   ·have d1:decide (ts<0)=false:=decide_eq_false (by omega);have d2:decide (5<ts)=false:=decide_eq_false (by omega);have hl:l=[]:=by
     by_cases h:l=[]
     ·exact h
     ·exact absurd (.inr (.inr h)) hb
    subst hl
    cases hnm:qbg tn.data.toList with
    | false=>
     rw[hnm]at NA;have HCK:=hdzz (show(Tm.mk tk tn ts []).check=2 by rw[Tm.check,if_pos hk,if_neg hb,if_pos hnm]);clear hb hr2 hr3 hr4 hsn hsd hnm;rcases Int.lt_or_le D L with hDL|hDL<;>rcases hk with rfl|rfl
     all_goals
      go_enter Tryz.func98,Tryz.ntmps98
      go_wp2_with (go_at_call 127;refine(NA.out _ hr1).mono ?_;rintro e w1 ⟨rfl,rfl⟩)
      go_ret
      exact⟨by rw[HCK.out];rfl,qbu _ _ _ _,fun h=>by rw[HCK.out]at h;cases h⟩
    | true=>
     rw[hnm]at NA;have HCK:=hdzz (show(Tm.mk tk tn ts []).check=0 by rw[Tm.check,if_pos hk,if_neg hb,if_neg (by rw[hnm];simp)]);have HM:Hid (max D (L+(Tm.mk tk tn ts []).depth - 1)=max D L):=by rw[hsd];simp only[Tm.depths];congr 1;omega
     have HN:Hid (N+((Tm.mk tk tn ts []).size:Int)=N+1):=by rw[hsn];simp only[Tm.sizes];exact rfl
     clear hb hr2 hr3 hr4 hsn hsd hnm;rcases Int.lt_or_le D L with hDL|hDL
     ·have HM2:Hid (max D L=L):=Int.max_eq_right (by omega);rcases hk with rfl|rfl
      all_goals
       go_enter Tryz.func98,Tryz.ntmps98
       go_wp2_with (go_at_call 127;refine(NA.out _ hr1).mono ?_;rintro e w1 ⟨rfl,rfl⟩)
       refine wp_loop_rounds 1 ?_;rw[rounds_succ];go_wp2_with fail
       go_ret
       exact⟨by rw[HCK.out];rfl,qbu _ _ _ _,fun _=>by rw[HM.out,HN.out,HM2.out];exact qk3 HCNT.out hne _ _ _⟩
     ·have HM2:Hid (max D L=D):=Int.max_eq_left (by omega);rcases hk with rfl|rfl
      all_goals
       go_enter Tryz.func98,Tryz.ntmps98
       go_wp2_with (go_at_call 127;refine(NA.out _ hr1).mono ?_;rintro e w1 ⟨rfl,rfl⟩)
       refine wp_loop_rounds 1 ?_;rw[rounds_succ];go_wp2_with fail
       go_ret
       exact⟨by rw[HCK.out];rfl,qbu _ _ _ _,fun _=>by rw[HM.out,HN.out,HM2.out];exact qk3 HCNT.out hne _ _ _⟩
  ·by_cases hk3:tk=3
   ·subst hk3;by_cases hs0:ts≠0
    ·have HCK:=hdzz (show(Tm.mk 3 tn ts l).check=1 by rw[Tm.check,if_neg hk,if_pos rfl,if_pos hs0]);have d1:(ts != 0)=true:=by simpa using hs0
     clear hs0 hr1 hr2 hr3 hr4 hsn hsd;rcases Int.lt_or_le D L with hDL|hDL
     all_goals
      go_enter Tryz.func98,Tryz.ntmps98
      go_wp2_with fail
      go_ret
      exact⟨by rw[HCK.out];rfl,qbu _ _ _ _,fun h=>by rw[HCK.out]at h;cases h⟩
    ·have hs1:ts=0:=by omega
     subst hs1
     cases hnm:qbg tn.data.toList with
     | false=>
      rw[hnm]at NA;have HCK:=hdzz (show(Tm.mk 3 tn 0 l).check=2 by rw[Tm.check,if_neg hk,if_pos rfl,if_neg hs0,if_pos hnm]);clear hs0 hr2 hr3 hr4 hsn hsd hnm;rcases Int.lt_or_le D L with hDL|hDL
      all_goals
       go_enter Tryz.func98,Tryz.ntmps98
       go_wp2_with (go_at_call 127;refine(NA.out _ hr1).mono ?_;rintro e w1 ⟨rfl,rfl⟩)
       go_ret
       exact⟨by rw[HCK.out];rfl,qbu _ _ _ _,fun h=>by rw[HCK.out]at h;cases h⟩
     | true=>
      rw[hnm]at NA;by_cases h8:8<l.length
      ·have HCK:=hdzz (show(Tm.mk 3 tn 0 l).check=3 by rw[Tm.check,if_neg hk,if_pos rfl,if_neg hs0,if_neg (by rw[hnm];simp),if_pos h8]);clear hs0 hr2 hr3 hr4 hsn hsd hnm;rcases Int.lt_or_le D L with hDL|hDL
       all_goals
        go_enter Tryz.func98,Tryz.ntmps98
        go_wp2_with (go_at_call 127;refine(NA.out _ hr1).mono ?_;rintro e w1 ⟨rfl,rfl⟩)
        go_ret
        exact⟨by rw[HCK.out];rfl,qbu _ _ _ _,fun h=>by rw[HCK.out]at h;cases h⟩
      ·have HCK:=hdzz (show(Tm.mk 3 tn 0 l).check=Tm.checks l by rw[Tm.check,if_neg hk,if_pos rfl,if_neg hs0,if_neg (by rw[hnm];simp),if_neg h8]);clear HCK;exact check_app B0 nb db hnb hdb hne n IH.out tn l A cap N D L w (by omega) hN (by omega) hL (by omega) hD hD2 hnl hdl HCNT.out HREP.out hnm (by omega)
   ·have k1:(tk==1)=false:=by simp;omega
    have k2:(tk==2)=false:=by simp;omega
    have k3:(tk==3)=false:=by simp;omega
    have HCK:=hdzz (show(Tm.mk tk tn ts l).check=1 by rw[Tm.check,if_neg hk,if_neg hk3]);clear hk hk3 hr1 hr2 hr3 hr4 hsn hsd;rcases Int.lt_or_le D L with hDL|hDL
    all_goals
     go_enter Tryz.func98,Tryz.ntmps98
     go_wp2_with fail
     go_ret
     exact⟨by rw[HCK.out];rfl,qbu _ _ _ _,fun h=>by rw[HCK.out]at h;cases h⟩
theorem qax (t:Tm) (A:Option Addr) (cap:Nat) (w:World) (hn:t.size≤1000000) (hrep:RepT w w.heap.size t A cap) :
  Calls Tryz.prog 63 #[t.val A cap] w fun e w'=>e=.returned (.int .i64 t.valid)∧Lay w.heap.size w w':=by
 obtain⟨W1,hW1⟩:∃W1,W1=w.alloc (.cells #[.int .i64 t.kind,.string t.name,.int .i64 t.sort,.slice A t.kids.length cap] 24):=⟨_,rfl⟩;obtain⟨W2,hW2⟩:∃W2,W2=W1.alloc (.cells #[.int .i64 0] 3):=⟨_,rfl⟩;obtain⟨W3,hW3⟩:∃W3,W3=W2.alloc (.cells #[.int .i64 0] 3):=⟨_,rfl⟩;have s1:W1.heap.size=w.heap.size+1:=by rw[hW1];simp
 have s2:W2.heap.size=w.heap.size+1+1:=by rw[hW2];simp[s1]
 have s3:W3.heap.size=w.heap.size+1+1+1:=by rw[hW3];simp[s2]
 have l1:Lay w.heap.size w W1:=by rw[hW1];exact(Lay.refl _ _).alloc (Nat.le_refl _) _
 have l2:Lay W1.heap.size W1 W2:=by rw[hW2];exact(Lay.refl _ _).alloc (Nat.le_refl _) _
 have l3:Lay W2.heap.size W2 W3:=by rw[hW3];exact(Lay.refl _ _).alloc (Nat.le_refl _) _
 have hcnt:Cnt (w.heap.size+1) (w.heap.size+1+1) 0 0 W3:=by
  constructor
  ·rw[l3.below.block _ (by omega),hW2,←s1];exact heap_alloc_new _ _
  ·rw[hW3,←s2];exact heap_alloc_new _ _
 have hl:Lay w.heap.size w W3:=l1.trans ((l2.trans (l3.mono (by omega))).mono (by omega));have hC:=check_any (w.heap.size) (w.heap.size+1) (w.heap.size+1+1) (by omega) (by omega) (by omega) t.size t A cap 0 0 1 W3 (Nat.le_refl _) (by omega) (by omega) (by omega) (by omega) (by omega) (by omega) (by omega) (by omega) hcnt (hrep.go hl.below (Nat.le_refl _));have HW:Hid (W3=((w.alloc (.cells #[.int .i64 t.kind,.string t.name,.int .i64 t.sort,.slice A t.kids.length cap] 24)).alloc (.cells #[.int .i64 0] 3)).alloc (.cells #[.int .i64 0] 3)):=by
  rw[hW3,hW2,hW1];exact rfl
 have hbx:W3.heap[w.heap.size]?=some (.cells #[.int .i64 t.kind,.string t.name,.int .i64 t.sort,.slice A t.kids.length cap] 24 (0,0)):=by
  rw[l3.below.block _ (by omega),l2.below.block _ (by omega),hW1];exact heap_alloc_new _ _
 have HC:=hdzz hC;clear hC hcnt hrep;have HL:=hdzz hl;clear hl;have HB:=hdzz hbx;clear hbx;clear l1 l2 l3 hW1 hW2 hW3 s1 s2;have HS3:=hdzz s3;clear s3;have hdep:=Tm.depth_le t;simp only[Tm.val]at HC ⊢;go_enter Tryz.func63,Tryz.ntmps63
 go_wp2_with fail
 rw[←HW.out];refine HC.out.mono ?_;rintro e w5 ⟨rfl,hct,hcn⟩;have hlay:Lay w.heap.size w w5:=⟨⟨hct.os.trans HL.out.below.os,hct.tape.trans HL.out.below.tape,hct.output.trans HL.out.below.output,Nat.le_trans HL.out.size hct.size,
  fun b hb=>(hct.same b (by have:=HL.out.size;omega) (by omega) (by omega)).trans (HL.out.below.block b hb)⟩,Nat.le_trans HL.out.drawn hct.drawn⟩
 have HLAY:=hdzz hlay;clear hlay hct;by_cases hc0:t.check=0
 ·obtain⟨c1,c2⟩:=hcn hc0;have hd0:max 0 (1+(t.depth:Int) - 1)=(t.depth:Int):=by omega
  rw[hd0]at c2;have d1:w5.cell? ⟨w.heap.size+1,0,none⟩=some (.int .i64 t.size):=by simp[World.cell?,c1]
  have d2:w5.cell? ⟨w.heap.size+1+1,0,none⟩=some (.int .i64 t.depth):=by simp[World.cell?,c2]
  have hv:t.valid=if 400<t.size∨40<t.depth then 3 else 0:=by unfold Tm.valid;rw[if_neg (by omega)]
  have HV:=hdzz hv;clear hv c1 c2 hcn hd0;by_cases h1:400<t.size
  ·go_wp2_with fail
   go_ret
   exact⟨by rw[HV.out,if_pos (Or.inl h1)];rfl,HLAY.out⟩
  ·by_cases h2:40<t.depth
   ·go_wp2_with fail
    go_ret
    exact⟨by rw[HV.out,if_pos (Or.inr h2)];rfl,HLAY.out⟩
   ·go_wp2_with fail
    go_ret
    exact⟨by rw[HV.out,if_neg (by omega)];rfl,HLAY.out⟩
 ·have hcb:(t.check != 0)=true:=by simpa using hc0
  have hv:t.valid=t.check:=by unfold Tm.valid;rw[if_pos hc0]
  have HV:=hdzz hv;clear hv hcn hc0;go_wp2_with fail
  go_ret
  exact⟨by rw[HV.out];rfl,HLAY.out⟩
end Go.Proofs.YtjhjoiplpmjepaaGreat
