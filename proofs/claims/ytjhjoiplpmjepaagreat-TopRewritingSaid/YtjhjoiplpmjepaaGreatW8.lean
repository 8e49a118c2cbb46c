/- Ge, Gf, Umix, Umix4 (joined by shake.py). -/
import Derived.Test.YtjhjoiplpmjepaaGreatW0
import Derived.Test.YtjhjoiplpmjepaaGreatShl
import Derived.Test.YtjhjoiplpmjepaaGreatW1
import Derived.Test.YtjhjoiplpmjepaaGreatW3
import Derived.Test.YtjhjoiplpmjepaaGreatW4
import Derived.Lib.FrozenHead2
import Derived.Lib.OthersKept
import Derived.Lib.Hide
import Derived.StillTailTactics
import Derived.Shelf.SlSortCmp.QuietGrown
set_option linter.unusedVariables false
set_option linter.unusedSimpArgs false
set_option maxHeartbeats 4000000
namespace Go.Proofs.YtjhjoiplpmjepaaGreat
open Go.RowKit
open Go.RowKit
def digI (c:Int):Bool:=decide (48≤c∧c≤57)
theorem letter_0 (c:Int) (w:World) (h:c≤64):Calls Tryz.prog 140 #[.int .u8 c] w fun e w'=>e=.returned (.bool (qbl c))∧w'=w:=by
 have hp:(qbl c)=false:=by unfold qbl;simp;omega
 rw[hp];have a0:decide (97≤c)=false:=decide_eq_false (by omega);have a1:decide (c≤122)=true:=decide_eq_true (by omega);have a2:decide (65≤c)=false:=decide_eq_false (by omega);have a3:decide (c≤90)=true:=decide_eq_true (by omega);clear hp h;go_enter Tryz.func140,Tryz.ntmps140
 go_wp2_with fail
 go_ret
 exact⟨rfl,rfl⟩
theorem letter_65 (c:Int) (w:World) (h:65≤c∧c≤90):Calls Tryz.prog 140 #[.int .u8 c] w fun e w'=>e=.returned (.bool (qbl c))∧w'=w:=by
 have hp:(qbl c)=true:=by unfold qbl;simp;omega
 rw[hp];have a0:decide (97≤c)=false:=decide_eq_false (by omega);have a1:decide (c≤122)=true:=decide_eq_true (by omega);have a2:decide (65≤c)=true:=decide_eq_true (by omega);have a3:decide (c≤90)=true:=decide_eq_true (by omega);clear hp h;go_enter Tryz.func140,Tryz.ntmps140
 go_wp2_with fail
 go_ret
 exact⟨rfl,rfl⟩
theorem letter_91 (c:Int) (w:World) (h:91≤c∧c≤96):Calls Tryz.prog 140 #[.int .u8 c] w fun e w'=>e=.returned (.bool (qbl c))∧w'=w:=by
 have hp:(qbl c)=false:=by unfold qbl;simp;omega
 rw[hp];have a0:decide (97≤c)=false:=decide_eq_false (by omega);have a1:decide (c≤122)=true:=decide_eq_true (by omega);have a2:decide (65≤c)=true:=decide_eq_true (by omega);have a3:decide (c≤90)=false:=decide_eq_false (by omega);clear hp h;go_enter Tryz.func140,Tryz.ntmps140
 go_wp2_with fail
 go_ret
 exact⟨rfl,rfl⟩
theorem letter_97 (c:Int) (w:World) (h:97≤c∧c≤122):Calls Tryz.prog 140 #[.int .u8 c] w fun e w'=>e=.returned (.bool (qbl c))∧w'=w:=by
 have hp:(qbl c)=true:=by unfold qbl;simp;omega
 rw[hp];have a0:decide (97≤c)=true:=decide_eq_true (by omega);have a1:decide (c≤122)=true:=decide_eq_true (by omega);have a2:decide (65≤c)=true:=decide_eq_true (by omega);have a3:decide (c≤90)=false:=decide_eq_false (by omega);clear hp h;go_enter Tryz.func140,Tryz.ntmps140
 go_wp2_with fail
 go_ret
 exact⟨rfl,rfl⟩
theorem qqa (c:Int) (w:World) (h:123≤c):Calls Tryz.prog 140 #[.int .u8 c] w fun e w'=>e=.returned (.bool (qbl c))∧w'=w:=by
 have hp:(qbl c)=false:=by unfold qbl;simp;omega
 rw[hp];have a0:decide (97≤c)=true:=decide_eq_true (by omega);have a1:decide (c≤122)=false:=decide_eq_false (by omega);have a2:decide (65≤c)=true:=decide_eq_true (by omega);have a3:decide (c≤90)=false:=decide_eq_false (by omega);clear hp h;go_enter Tryz.func140,Tryz.ntmps140
 go_wp2_with fail
 go_ret
 exact⟨rfl,rfl⟩
theorem qjt (c:Int) (w:World):Calls Tryz.prog 140 #[.int .u8 c] w fun e w'=>e=.returned (.bool (qbl c))∧w'=w:=by
 by_cases h0:c≤64
 ·exact letter_0 c w (by omega)
 by_cases h65:c≤90
 ·exact letter_65 c w (by omega)
 by_cases h91:c≤96
 ·exact letter_91 c w (by omega)
 by_cases h97:c≤122
 ·exact letter_97 c w (by omega)
 exact qqa c w (by omega)
theorem digit_0 (c:Int) (w:World) (h:c≤47):Calls Tryz.prog 141 #[.int .u8 c] w fun e w'=>e=.returned (.bool (digI c))∧w'=w:=by
 have hp:(digI c)=false:=by unfold digI;simp;omega
 rw[hp];have a0:decide (48≤c)=false:=decide_eq_false (by omega);have a1:decide (c≤57)=true:=decide_eq_true (by omega);clear hp h;go_enter Tryz.func141,Tryz.ntmps141
 go_wp2_with fail
 go_ret
 exact⟨rfl,rfl⟩
theorem digit_48 (c:Int) (w:World) (h:48≤c∧c≤57):Calls Tryz.prog 141 #[.int .u8 c] w fun e w'=>e=.returned (.bool (digI c))∧w'=w:=by
 have hp:(digI c)=true:=by unfold digI;simp;omega
 rw[hp];have a0:decide (48≤c)=true:=decide_eq_true (by omega);have a1:decide (c≤57)=true:=decide_eq_true (by omega);clear hp h;go_enter Tryz.func141,Tryz.ntmps141
 go_wp2_with fail
 go_ret
 exact⟨rfl,rfl⟩
theorem digit_58 (c:Int) (w:World) (h:58≤c):Calls Tryz.prog 141 #[.int .u8 c] w fun e w'=>e=.returned (.bool (digI c))∧w'=w:=by
 have hp:(digI c)=false:=by unfold digI;simp;omega
 rw[hp];have a0:decide (48≤c)=true:=decide_eq_true (by omega);have a1:decide (c≤57)=false:=decide_eq_false (by omega);clear hp h;go_enter Tryz.func141,Tryz.ntmps141
 go_wp2_with fail
 go_ret
 exact⟨rfl,rfl⟩
theorem qmn (c:Int) (w:World):Calls Tryz.prog 141 #[.int .u8 c] w fun e w'=>e=.returned (.bool (digI c))∧w'=w:=by
 by_cases h0:c≤47
 ·exact digit_0 c w (by omega)
 by_cases h48:c≤57
 ·exact digit_48 c w (by omega)
 exact digit_58 c w (by omega)
theorem qjp (c:Int):(qbc c=true∧qbl c=true)∨(qbc c=true∧qbl c=false∧digI c=true)∨(qbc c=true∧qbl c=false∧digI c=false∧(c==95)=true∧(c != 95)=false)∨
  (qbc c=true∧qbl c=false∧digI c=false∧(c==95)=false∧(c==35)=true∧(c != 95)=true∧(c != 35)=false)∨(qbc c=false∧qbl c=false∧digI c=false∧(c==95)=false∧(c==35)=false∧(c != 95)=true∧(c != 35)=true):=by
 have e:qbc c=(qbl c || digI c || (c==95) || (c==35)):=by
  unfold qbc qbl digI;simp only[Bool.or_assoc]
 rw[e];unfold bne;cases qbl c<;>cases digI c<;>cases (c==95)<;>cases (c==35)<;>simp
theorem qcm (s:ByteArray) (w:World) (hs:s.size≤maxLen):Calls Tryz.prog 112 #[.string s] w fun e w'=>e=.returned (.bool (qbg s.data.toList))∧w'=w:=by
 obtain⟨l,hl⟩:∃l,l=s.data.toList:=⟨_,rfl⟩;have hsz:s.size=l.length:=by rw[hl];exact qak s
 have hat:∀k,(h:k<l.length)→∃h':k<s.size,s[k]=l[k]:=fun k h=>⟨by omega,by subst hl;rfl⟩;rw[←hl];clear hl;have LE:=hdzz qjt;have DI:=hdzz qmn;have HAT:=hdzz hat;clear hat;unfold maxLen at hs;obtain⟨r,hr⟩:∃r,r=qbg l:=⟨_,rfl⟩;rw[←hr];have HRR:=hdzz hr;clear hr;by_cases h0:l=[]
 ·have e:r=false:=by rw[HRR.out];exact qbj (.inr (.inl h0))
  subst e;have hd:decide ((l.length:Int)=0)=true:=decide_eq_true (by rw[h0];rfl);have hd':((l.length:Int)==0)=true:=by rw[h0];rfl
  clear h0 HAT HRR;go_enter Tryz.func112,Tryz.ntmps112
  go_wp2_with fail
  go_ret
  exact⟨rfl,rfl⟩
 ·have hpos:0<l.length:=List.length_pos_iff.2 h0;have hz:decide ((l.length:Int)=0)=false:=decide_eq_false (by omega);have hz':((l.length:Int)==0)=false:=by rw[beq_eq_false_iff_ne];omega
  obtain⟨hps,hb0⟩:=HAT.out 0 hpos;by_cases h24:24<l.length
  ·have e:r=false:=by rw[HRR.out];exact qbj (.inl h24)
   subst e;clear HAT HRR;have hd:decide (24<(l.length:Int))=true:=decide_eq_true (by omega);go_enter Tryz.func112,Tryz.ntmps112
   go_wp2_with fail
   go_ret
   exact⟨rfl,rfl⟩
  ·have hd:decide (24<(l.length:Int))=false:=decide_eq_false (by omega);obtain⟨b0,hb⟩:∃b0,b0=l[0]:=⟨_,rfl⟩;rw[←hb]at hb0;have HB:=hdzz hb;clear hb
   cases hp:qbl (b0.toNat:Int)with
   | false=>
    have e:r=false:=by rw[HRR.out];exact qbj (.inr (.inr (.inl ⟨hpos,by rw[←HB.out];exact hp⟩)))
    subst e;clear HAT HRR;go_enter Tryz.func112,Tryz.ntmps112
    go_wp2_with (first|(go_at_call 140;refine(LE.out _ _).mono ?_;rintro e w1 ⟨rfl,rfl⟩)|(go_at_call 141;refine(DI.out _ _).mono ?_;rintro e w1 ⟨rfl,rfl⟩))
    go_ret
    exact⟨rfl,rfl⟩
   | true=>
    have HST:=hdzz hp;go_enter Tryz.func112,Tryz.ntmps112
    go_wp2_with (first|(go_at_call 140;refine(LE.out _ _).mono ?_;rintro e w1 ⟨rfl,rfl⟩)|(go_at_call 141;refine(DI.out _ _).mono ?_;rintro e w1 ⟨rfl,rfl⟩))
    go_loopw [3] (fun i wr=>∃k:Nat,k≤l.length∧i=.int .i64 k∧Hid (∀j,(h:j<l.length)→j<k→qa2 l[j]=true)∧wr=w1) (fun i _=>l.length - (intOf i).toNat)
    case atStart=>exact⟨0,Nat.zero_le _,rfl,fun j _ h=>absurd h (Nat.not_lt_zero j),rfl⟩
    case round=>
     obtain⟨k,hk,rfl,HK,rfl⟩:=hrel;clear hp;by_cases hlt:k<l.length
     ·obtain⟨hks,hbk⟩:=HAT.out k hlt;obtain⟨bk,hbk'⟩:∃bk,bk=l[k]:=⟨_,rfl⟩;rw[←hbk']at hbk;have HBK:=hdzz hbk';clear hbk';have yes:Hid (qbc (bk.toNat:Int)=true→∀j,(h:j<l.length)→j<k+1→qa2 l[j]=true):=fun hpk j hj hjk=>by
       by_cases e:j=k
       ·subst e;rw[←HBK.out];exact hpk
       ·exact HK.out j hj (by omega)
      rcases qjp (bk.toNat:Int)with⟨p,c1⟩|⟨p,c1,c2⟩|⟨p,c1,c2,c3,n3⟩|⟨p,c1,c2,c3,c4,n3,n4⟩|⟨p,c1,c2,c3,c4,n3,n4⟩
      iterate 4
       ·have HP:=hdzz p;clear p;go_wp2_with (first|(go_at_call 140;refine(LE.out _ _).mono ?_;rintro e w1 ⟨rfl,rfl⟩)|(go_at_call 141;refine(DI.out _ _).mono ?_;rintro e w1 ⟨rfl,rfl⟩))
        go_roundw
        case rel=>exact⟨k+1,by omega,by go_num,yes.out HP.out,trivial⟩
        case measure=>simp[intOf];omega
      ·have hr0:=hdzz (HRR.out.trans (qbj (l:=l) (.inr (.inr (.inr ⟨l[k],List.getElem_mem _,by rw[←HBK.out];exact p⟩)))));clear p;go_wp2_with (first|(go_at_call 140;refine(LE.out _ _).mono ?_;rintro e w1 ⟨rfl,rfl⟩)|(go_at_call 141;refine(DI.out _ _).mono ?_;rintro e w1 ⟨rfl,rfl⟩))
       go_ret
       exact⟨by rw[hr0.out];rfl,rfl⟩
     ·obtain rfl:k=l.length:=by omega
      have hr1:=hdzz (HRR.out.trans (qjq (l:=l) (by omega) hpos (by rw[←HB.out];exact HST.out) (fun j hj=>HK.out j hj hj)));go_wp2_with fail
      go_ret
      exact⟨by rw[hr1.out];rfl,rfl⟩
theorem qdt (s:ByteArray) (w:World) (hs:s.size≤1000000000):Calls Tryz.prog 111 #[.string s] w fun e w'=>∃x:ByteArray,e=.returned (.string x)∧x.data.toList=s.data.toList.takeWhile qa2∧x.size=wlen s.data.toList∧w'=w:=by
 obtain⟨l,hl⟩:∃l,l=s.data.toList:=⟨_,rfl⟩;have hsz:s.size=l.length:=by rw[hl];exact qak s
 have hat:∀k,(h:k<l.length)→∃h':k<s.size,s[k]=l[k]:=fun k h=>⟨by omega,by subst hl;rfl⟩;have hex:∀k,k≤s.size→(s.extract 0 k).data.toList=l.take k:=fun k hk=>by rw[qe4,hl];simp
 have hxs:∀k,k≤s.size→(s.extract 0 k).size=k:=fun k hk=>by simp;omega
 rw[←hl];clear hl;have LE:=hdzz qjt;have DI:=hdzz qmn;have HAT:=hdzz hat;clear hat;have HEX:=hdzz hex;clear hex;have HXS:=hdzz hxs;clear hxs;go_enter Tryz.func111,Tryz.ntmps111
 go_wp2_with fail
 go_loopw [3] (fun i wr=>∃k:Nat,k≤l.length∧i=.int .i64 k∧Hid (∀j,(h:j<l.length)→j<k→qa2 l[j]=true)∧wr=w) (fun i _=>l.length - (intOf i).toNat)
 case atStart=>exact⟨0,Nat.zero_le _,rfl,fun j _ h=>absurd h (Nat.not_lt_zero j),rfl⟩
 case round=>
  obtain⟨k,hk,rfl,HK,rfl⟩:=hrel;have stop:Hid ((∀h:k<l.length,qa2 l[k]=false)→(s.extract 0 k).data.toList=l.takeWhile qa2∧(s.extract 0 k).size=wlen l):=fun h=>by
   obtain⟨e1,-⟩:=qhc l k hk (fun j hj hjk=>HK.out j hj hjk) h;refine⟨by rw[HEX.out k (by omega),e1],?_⟩;unfold wlen;rw[HXS.out k (by omega),e1,List.length_take];omega
  have hks':k≤s.size:=by omega
  by_cases hlt:k<l.length
  ·obtain⟨hks,hbk⟩:=HAT.out k hlt;obtain⟨bk,hbk'⟩:∃bk,bk=l[k]:=⟨_,rfl⟩;rw[←hbk']at hbk;have HBK:=hdzz hbk';clear hbk';have yes:Hid (qbc (bk.toNat:Int)=true→∀j,(h:j<l.length)→j<k+1→qa2 l[j]=true):=fun hpk j hj hjk=>by
    by_cases e:j=k
    ·subst e;rw[←HBK.out];exact hpk
    ·exact HK.out j hj (by omega)
   rcases qjp (bk.toNat:Int)with⟨p,c1⟩|⟨p,c1,c2⟩|⟨p,c1,c2,c3,n3⟩|⟨p,c1,c2,c3,c4,n3,n4⟩|⟨p,c1,c2,c3,c4,n3,n4⟩
   iterate 4
    ·have HP:=hdzz p;clear p;go_wp2_with (first|(go_at_call 140;refine(LE.out _ _).mono ?_;rintro e w1 ⟨rfl,rfl⟩)|(go_at_call 141;refine(DI.out _ _).mono ?_;rintro e w1 ⟨rfl,rfl⟩))
     go_roundw
     case rel=>exact⟨k+1,by omega,by go_num,yes.out HP.out,trivial⟩
     case measure=>simp[intOf];omega
   ·have hend:=hdzz (stop.out (fun h=>by rw[←HBK.out];exact p));clear p stop yes;go_wp2_with (first|(go_at_call 140;refine(LE.out _ _).mono ?_;rintro e w1 ⟨rfl,rfl⟩)|(go_at_call 141;refine(DI.out _ _).mono ?_;rintro e w1 ⟨rfl,rfl⟩))
    go_ret
    exact⟨_,rfl,hend.out.1,hend.out.2,rfl⟩
  ·have hend:=hdzz (stop.out (fun h=>absurd h hlt));obtain rfl:k=l.length:=by omega
   clear stop;go_wp2_with fail
   go_ret
   exact⟨_,rfl,hend.out.1,hend.out.2,rfl⟩
def qhp (k s:Int) (nm:ByteArray) (m:Nat):Int:=
 if (k≠1∧k≠2∧k≠3)∨s<0∨5<s∨(k≠1∧k≠2∧s≠0)∨((k=1∨k=2)∧m≠0)then 1 else if qbg nm.data.toList=false then 2 else if 8<m then 3 else 0
theorem Tm.check_node (t:Tm):t.check=if qhp t.kind t.sort t.name t.kids.length≠0 then qhp t.kind t.sort t.name t.kids.length else Tm.checks t.kids:=by
 obtain⟨k,n,s,l⟩:=t;show(Tm.mk k n s l).check=if qhp k s n l.length≠0 then qhp k s n l.length else Tm.checks l
 rw[Tm.check];obtain⟨N,hN⟩:∃N,N=qhp k s n l.length:=⟨_,rfl⟩;rw[←hN];unfold qhp at hN;by_cases h1:k=1∨k=2
 ·rw[if_pos h1];by_cases h2:s<0∨5<s∨l≠[]
  ·have e:N=1:=hN.trans (if_pos (by
    rcases h2 with h|h|h
    ·exact .inr (.inl h)
    ·exact .inr (.inr (.inl h))
    ·exact .inr (.inr (.inr (.inr ⟨h1,fun e=>h (List.length_eq_zero_iff.1 e)⟩)))))
   subst e;rw[if_pos h2];rfl
  ·have hl:l=[]:=Classical.byContradiction fun h=>h2 (.inr (.inr h));subst hl;rw[if_neg h2];have hN:=hN.trans (if_neg (by simp only[List.length_nil];intro h;exact h2 (by omega)));by_cases h3:qbg n.data.toList=false
   ·have e:N=2:=hN.trans (if_pos h3);subst e;rw[if_pos h3];rfl
   ·have e:N=0:=hN.trans ((if_neg h3).trans (if_neg (by simp)));subst e;rw[if_neg h3];rfl
 ·rw[if_neg h1];by_cases h3:k=3
  ·rw[if_pos h3];by_cases h4:s≠0
   ·have e:N=1:=hN.trans (if_pos (by omega));subst e;rw[if_pos h4];rfl
   ·rw[if_neg h4];have hN:=hN.trans (if_neg (by omega));by_cases h5:qbg n.data.toList=false
    ·have e:N=2:=hN.trans (if_pos h5);subst e;rw[if_pos h5];rfl
    ·rw[if_neg h5];have hN:=hN.trans (if_neg h5);by_cases h6:8<l.length
     ·have e:N=3:=hN.trans (if_pos h6);subst e;rw[if_pos h6];rfl
     ·have e:N=0:=hN.trans (if_neg h6);subst e;rw[if_neg h6];rfl
  ·have e:N=1:=hN.trans (if_pos (by omega));subst e;rw[if_neg h3];rfl
theorem rnode_any (k s:Int) (nm:ByteArray) (m:Nat) (A:Option Addr) (cap:Nat) (w:World) (hn:nm.size≤maxLen) (hm:m≤maxLen) :
  Calls Tryz.prog 121 #[.agg #[.int .i64 k,.string nm,.int .i64 s,.slice A m cap]] w fun e w'=>e=.returned (.int .i64 (qhp k s nm m))∧Lay w.heap.size w w':=by
 have NA:=hdzz fun w=>qcm nm w hn;unfold maxLen at hn hm;have hlay:Hid (Lay w.heap.size w (w.alloc (.cells #[.int .i64 k,.string nm,.int .i64 s,.slice A m cap] 24))):=(Lay.refl _ _).alloc (Nat.le_refl _) _;obtain⟨r,hr⟩:∃r,r=qhp k s nm m:=⟨_,rfl⟩;obtain⟨nb,hnb⟩:∃nb,nb=qbg nm.data.toList:=⟨_,rfl⟩;rw[←hr];rw[←hnb]at NA;unfold qhp at hr;rw[←hnb]at hr;clear hnb;have HRR:=hdzz hr;clear hr;by_cases k1:k=1
 ·subst k1;by_cases s0:s<0
  ·skip
   have hv:r=1:=HRR.out.trans (if_pos (by omega));have q0:decide (s<0)=true:=decide_eq_true (by omega);clear HRR;subst hv;go_enter Tryz.func121,Tryz.ntmps121
   go_wp2_with (go_at_call 112;refine(NA.out _).mono ?_;rintro e w1 ⟨rfl,rfl⟩)
   go_ret
   exact⟨rfl,hlay.out⟩
  by_cases s5:5<s
  ·skip
   have hv:r=1:=HRR.out.trans (if_pos (by omega));have q0:decide (s<0)=false:=decide_eq_false (by omega);have q1:decide (5<s)=true:=decide_eq_true (by omega);clear HRR;subst hv;go_enter Tryz.func121,Tryz.ntmps121
   go_wp2_with (go_at_call 112;refine(NA.out _).mono ?_;rintro e w1 ⟨rfl,rfl⟩)
   go_ret
   exact⟨rfl,hlay.out⟩
  by_cases m0:m≠0
  ·skip
   have hv:r=1:=HRR.out.trans (if_pos (by omega));have q0:decide (s<0)=false:=decide_eq_false (by omega);have q1:decide (5<s)=false:=decide_eq_false (by omega);have q2:decide (0<(m:Int))=true:=decide_eq_true (by omega);clear HRR;subst hv;go_enter Tryz.func121,Tryz.ntmps121
   go_wp2_with (go_at_call 112;refine(NA.out _).mono ?_;rintro e w1 ⟨rfl,rfl⟩)
   go_ret
   exact⟨rfl,hlay.out⟩
  cases nb with
  | false=>
   have hv:r=2:=HRR.out.trans ((if_neg (by omega)).trans (if_pos rfl));have q0:decide (s<0)=false:=decide_eq_false (by omega);have q1:decide (5<s)=false:=decide_eq_false (by omega);have q2:decide (0<(m:Int))=false:=decide_eq_false (by omega);clear HRR;subst hv;go_enter Tryz.func121,Tryz.ntmps121
   go_wp2_with (go_at_call 112;refine(NA.out _).mono ?_;rintro e w1 ⟨rfl,rfl⟩)
   go_ret
   exact⟨rfl,hlay.out⟩
  | true=>
   have hv:r=0:=HRR.out.trans ((if_neg (by omega)).trans ((if_neg (by decide)).trans (if_neg (by omega))));have q0:decide (s<0)=false:=decide_eq_false (by omega);have q1:decide (5<s)=false:=decide_eq_false (by omega);have q2:decide (0<(m:Int))=false:=decide_eq_false (by omega);have q3:decide (8<(m:Int))=false:=decide_eq_false (by omega);clear HRR;subst hv;go_enter Tryz.func121,Tryz.ntmps121
   go_wp2_with (go_at_call 112;refine(NA.out _).mono ?_;rintro e w1 ⟨rfl,rfl⟩)
   go_ret
   exact⟨rfl,hlay.out⟩
 by_cases k2:k=2
 ·subst k2;by_cases s0:s<0
  ·skip
   have hv:r=1:=HRR.out.trans (if_pos (by omega));have q0:decide (s<0)=true:=decide_eq_true (by omega);clear HRR;subst hv;go_enter Tryz.func121,Tryz.ntmps121
   go_wp2_with (go_at_call 112;refine(NA.out _).mono ?_;rintro e w1 ⟨rfl,rfl⟩)
   go_ret
   exact⟨rfl,hlay.out⟩
  by_cases s5:5<s
  ·skip
   have hv:r=1:=HRR.out.trans (if_pos (by omega));have q0:decide (s<0)=false:=decide_eq_false (by omega);have q1:decide (5<s)=true:=decide_eq_true (by omega);clear HRR;subst hv;go_enter Tryz.func121,Tryz.ntmps121
   go_wp2_with (go_at_call 112;refine(NA.out _).mono ?_;rintro e w1 ⟨rfl,rfl⟩)
   go_ret
   exact⟨rfl,hlay.out⟩
  by_cases m0:m≠0
  ·skip
   have hv:r=1:=HRR.out.trans (if_pos (by omega));have q0:decide (s<0)=false:=decide_eq_false (by omega);have q1:decide (5<s)=false:=decide_eq_false (by omega);have q2:decide (0<(m:Int))=true:=decide_eq_true (by omega);clear HRR;subst hv;go_enter Tryz.func121,Tryz.ntmps121
   go_wp2_with (go_at_call 112;refine(NA.out _).mono ?_;rintro e w1 ⟨rfl,rfl⟩)
   go_ret
   exact⟨rfl,hlay.out⟩
  cases nb with
  | false=>
   have hv:r=2:=HRR.out.trans ((if_neg (by omega)).trans (if_pos rfl));have q0:decide (s<0)=false:=decide_eq_false (by omega);have q1:decide (5<s)=false:=decide_eq_false (by omega);have q2:decide (0<(m:Int))=false:=decide_eq_false (by omega);clear HRR;subst hv;go_enter Tryz.func121,Tryz.ntmps121
   go_wp2_with (go_at_call 112;refine(NA.out _).mono ?_;rintro e w1 ⟨rfl,rfl⟩)
   go_ret
   exact⟨rfl,hlay.out⟩
  | true=>
   have hv:r=0:=HRR.out.trans ((if_neg (by omega)).trans ((if_neg (by decide)).trans (if_neg (by omega))));have q0:decide (s<0)=false:=decide_eq_false (by omega);have q1:decide (5<s)=false:=decide_eq_false (by omega);have q2:decide (0<(m:Int))=false:=decide_eq_false (by omega);have q3:decide (8<(m:Int))=false:=decide_eq_false (by omega);clear HRR;subst hv;go_enter Tryz.func121,Tryz.ntmps121
   go_wp2_with (go_at_call 112;refine(NA.out _).mono ?_;rintro e w1 ⟨rfl,rfl⟩)
   go_ret
   exact⟨rfl,hlay.out⟩
 by_cases k3:k=3
 ·subst k3;by_cases s0:s<0
  ·skip
   have hv:r=1:=HRR.out.trans (if_pos (by omega));have q0:decide (s<0)=true:=decide_eq_true (by omega);clear HRR;subst hv;go_enter Tryz.func121,Tryz.ntmps121
   go_wp2_with (go_at_call 112;refine(NA.out _).mono ?_;rintro e w1 ⟨rfl,rfl⟩)
   go_ret
   exact⟨rfl,hlay.out⟩
  by_cases s5:5<s
  ·skip
   have hv:r=1:=HRR.out.trans (if_pos (by omega));have q0:decide (s<0)=false:=decide_eq_false (by omega);have q1:decide (5<s)=true:=decide_eq_true (by omega);clear HRR;subst hv;go_enter Tryz.func121,Tryz.ntmps121
   go_wp2_with (go_at_call 112;refine(NA.out _).mono ?_;rintro e w1 ⟨rfl,rfl⟩)
   go_ret
   exact⟨rfl,hlay.out⟩
  by_cases s1:s≠0
  ·skip
   have hv:r=1:=HRR.out.trans (if_pos (by omega));have q0:decide (s<0)=false:=decide_eq_false (by omega);have q1:decide (5<s)=false:=decide_eq_false (by omega);have q2:(s==0)=false:=by rw[beq_eq_false_iff_ne];omega
   have q3:(s != 0)=true:=by simp;omega
   clear HRR;subst hv;go_enter Tryz.func121,Tryz.ntmps121
   go_wp2_with (go_at_call 112;refine(NA.out _).mono ?_;rintro e w1 ⟨rfl,rfl⟩)
   go_ret
   exact⟨rfl,hlay.out⟩
  obtain rfl:s=0:=by omega
  cases nb with
  | false=>
   have hv:r=2:=HRR.out.trans ((if_neg (by omega)).trans (if_pos rfl));clear HRR;subst hv;go_enter Tryz.func121,Tryz.ntmps121
   go_wp2_with (go_at_call 112;refine(NA.out _).mono ?_;rintro e w1 ⟨rfl,rfl⟩)
   go_ret
   exact⟨rfl,hlay.out⟩
  | true=>
   by_cases m8:8<m
   ·skip
    have hv:r=3:=HRR.out.trans ((if_neg (by omega)).trans ((if_neg (by decide)).trans (if_pos m8)));have q0:decide (8<(m:Int))=true:=decide_eq_true (by omega);clear HRR;subst hv;go_enter Tryz.func121,Tryz.ntmps121
    go_wp2_with (go_at_call 112;refine(NA.out _).mono ?_;rintro e w1 ⟨rfl,rfl⟩)
    go_ret
    exact⟨rfl,hlay.out⟩
   ·skip
    have hv:r=0:=HRR.out.trans ((if_neg (by omega)).trans ((if_neg (by decide)).trans (if_neg m8)));have q0:decide (8<(m:Int))=false:=decide_eq_false (by omega);clear HRR;subst hv;go_enter Tryz.func121,Tryz.ntmps121
    go_wp2_with (go_at_call 112;refine(NA.out _).mono ?_;rintro e w1 ⟨rfl,rfl⟩)
    go_ret
    exact⟨rfl,hlay.out⟩
 have hv:r=1:=HRR.out.trans (if_pos (by omega));have q0:(k==1)=false:=by rw[beq_eq_false_iff_ne];omega
 have q1:(k != 1)=true:=by simp;omega
 have q2:(k==2)=false:=by rw[beq_eq_false_iff_ne];omega
 have q3:(k != 2)=true:=by simp;omega
 have q4:(k==3)=false:=by rw[beq_eq_false_iff_ne];omega
 have q5:(k != 3)=true:=by simp;omega
 clear HRR;subst hv;go_enter Tryz.func121,Tryz.ntmps121
 go_wp2_with (go_at_call 112;refine(NA.out _).mono ?_;rintro e w1 ⟨rfl,rfl⟩)
 go_ret
 exact⟨rfl,hlay.out⟩
theorem qpv (n:Nat):∀(t:Tm) (A:Option Addr) (cap:Nat) (w:World),t.size≤n→n≤1000000→RepT w w.heap.size t A cap→
  Calls Tryz.prog 78 #[t.val A cap] w fun e w'=>e=.returned (.int .i64 t.check)∧Lay w.heap.size w w':=by
 induction n with
 | zero=>intro t _ _ _ h;have:=t.size_pos;omega
 | succ n ih=>
  intro t A cap w hn hb hrep;obtain⟨tk,tn,ts,l⟩:=t;have hck:(Tm.mk tk tn ts l).check=if qhp tk ts tn l.length≠0 then qhp tk ts tn l.length else Tm.checks l:=Tm.check_node _
  rw[Tm.size]at hn;rw[qbe]at hrep;obtain⟨hr1,hr2,hr3,hr4⟩:=hrep;simp only[Tm.val,Tm.kind,Tm.name,Tm.sort,Tm.kids];obtain⟨ck,hckk⟩:∃c,c=(Tm.mk tk tn ts l).check:=⟨_,rfl⟩;rw[←hckk]at hck ⊢;clear hckk;obtain⟨V,hV⟩:∃V,V=w.alloc (.cells #[.int .i64 tk,.string tn,.int .i64 ts,.slice A l.length cap] 24):=⟨_,rfl⟩;have hND:=rnode_any tk ts tn l.length A cap V hr1 (Nat.le_trans hr2 hr3);obtain⟨nd,hnd⟩:∃c,c=qhp tk ts tn l.length:=⟨_,rfl⟩;rw[←hnd]at hND hck;clear hnd;have HND:=hdzz hND;clear hND;have HCK:=hdzz hck;clear hck;unfold maxLen at hr1 hr3;have hls:=Tm.length_le_sizes l;have hlv:Lay w.heap.size w V:=by rw[hV];exact(Lay.refl _ _).alloc (Nat.le_refl _) _
  have hbx0:V.heap[w.heap.size]?=some (.cells #[.int .i64 tk,.string tn,.int .i64 ts,.slice A l.length cap] 24 (0,0)):=by rw[hV];exact heap_alloc_new _ _
  have HV:=hdzz hV;clear hV;have HLV:=hdzz hlv;clear hlv;have HBX:=hdzz hbx0;clear hbx0;go_enter Tryz.func78,Tryz.ntmps78
  go_wp2_with fail
  rw[←HV.out];clear HV;refine HND.out.mono ?_;clear HND;rintro e w1 ⟨rfl,hl1⟩;have hlt1:w.heap.size<V.heap.size:=(sltz HBX.out);have hL1:Lay w.heap.size w w1:=HLV.out.trans (hl1.mono (by omega));have hbx:w1.heap[w.heap.size]?=some (.cells #[.int .i64 tk,.string tn,.int .i64 ts,.slice A l.length cap] 24 (0,0)):=(hl1.below.block _ hlt1).trans HBX.out;have hlt2:w.heap.size<w1.heap.size:=(sltz hbx);have HB:=hdzz (qaa hbx);clear hbx hl1 hlt1 HBX HLV;have HL1:=hdzz hL1;clear hL1;by_cases h0:nd=0
  ·subst h0;have hv:=HCK.out.trans (if_neg (by simp));clear HCK;have HVL:=hdzz hv;clear hv;obtain⟨r0,r1,r2,r3,rf⟩:=HB.out;go_wp2_with fail
   clear r0 r1 r2 r3 rf;go_loopw [4] (fun i wr=>∃k:Nat,k≤l.length∧i=.int .i64 k∧Hid (ck=Tm.checks (l.drop k))∧Hid (Lay w1.heap.size w1 wr)) (fun i _=>l.length - (intOf i).toNat)
   case atStart=>exact⟨0,Nat.zero_le _,rfl,by rw[List.drop_zero];exact HVL,Lay.refl _ _⟩
   case round=>
    obtain⟨k,hk,rfl,HC,HLR⟩:=hrel;have i1:(0:Int)≤(k:Int):=Int.natCast_nonneg _;have hL:Hid (Lay w.heap.size w wr):=HL1.out.trans (HLR.out.mono (by omega));have hbx:wr.cell? ⟨w.heap.size,3,none⟩=some (.slice A l.length cap):=by rw[HLR.out.below.cell (by exact hlt2)];exact HB.out.2.2.2.1
    by_cases hlt:k<l.length
    ·have i2:(k:Int)<(l.length:Int):=by omega
     rcases hr4 with rfl|⟨b,off,rfl,hbB,hl⟩
     ·simp at hlt
     obtain⟨A',cap',h0,h1,h2,h3,h5⟩:=(hl.below hL.out.below hbB).get k hlt;have hsg:=Tm.sizes_get l k hlt;have hcs:=Tm.checks_drop l k hlt;rw[←HC.out]at hcs;have HC2:=hdzz hcs;clear hcs HC;have CON:=hdzz (ih l[k] A' cap' wr (by omega) (by omega) (h5.go (Below.refl _ _) (by have:=hL.out.size;omega)));simp only[Tm.val]at CON;clear h5 hl;obtain⟨cv,hcv⟩:∃c,c=l[k].check:=⟨_,rfl⟩;rw[←hcv]at CON HC2;clear hcv;go_wp2_with fail
     refine CON.out.mono ?_;clear CON h0 h1 h2 h3;rintro e w2 ⟨rfl,hl2⟩;have hL2:Hid (Lay w1.heap.size w1 w2):=HLR.out.trans (hl2.mono HLR.out.size);have hL3:Hid (Lay w.heap.size w w2):=hL.out.trans (hl2.mono hL.out.size);clear hl2 HLR hL;by_cases hz:cv=0
     ·subst hz;have HC3:=hdzz (HC2.out.trans (if_neg (by simp)));clear HC2;go_wp2_with fail
      go_roundw
      case rel=>exact⟨k+1,by omega,by go_num,HC3,hL2⟩
      case measure=>simp[intOf];omega
     ·have hc4:ck=cv:=HC2.out.trans (if_pos hz);subst hc4;have q:(ck==0)=false:=by rw[beq_eq_false_iff_ne];exact hz
      have q':(ck != 0)=true:=by simp[hz]
      clear HC2;go_wp2_with fail
      go_ret
      exact⟨rfl,hL3.out⟩
    ·obtain rfl:k=l.length:=by omega
     have hz:ck=0:=by rw[HC.out,List.drop_length];rfl
     subst hz;go_wp2_with fail
     go_ret
     exact⟨rfl,hL.out⟩
  ·have hc4:ck=nd:=HCK.out.trans (if_pos h0);subst hc4;have q:(ck==0)=false:=by rw[beq_eq_false_iff_ne];exact h0
   have q':(ck != 0)=true:=by simp[h0]
   clear HCK HB;go_wp2_with fail
   go_ret
   exact⟨rfl,HL1.out⟩
theorem qjf (t:Tm) (A:Option Addr) (cap:Nat) (w:World) (hn:t.size≤1000000) (hrep:RepT w w.heap.size t A cap) :
  Calls Tryz.prog 38 #[t.val A cap] w fun e w'=>e=.returned (.int .i64 t.valid)∧Lay w.heap.size w w':=by
 obtain⟨V,hV⟩:∃V,V=w.alloc (.cells #[.int .i64 t.kind,.string t.name,.int .i64 t.sort,.slice A t.kids.length cap] 24):=⟨_,rfl⟩;have hlv:Lay w.heap.size w V:=by rw[hV];exact(Lay.refl _ _).alloc (Nat.le_refl _) _
 have hbx0:V.heap[w.heap.size]?=some (.cells #[.int .i64 t.kind,.string t.name,.int .i64 t.sort,.slice A t.kids.length cap] 24 (0,0)):=by rw[hV];exact heap_alloc_new _ _
 have hsv:V.heap.size=w.heap.size+1:=by rw[hV];simp
 have NOD:Hid (∀Y,Lay w.heap.size w Y→Calls Tryz.prog 78 #[.agg #[.int .i64 t.kind,.string t.name,.int .i64 t.sort,.slice A t.kids.length cap]] Y fun e w'=>e=.returned (.int .i64 t.check)∧Lay Y.heap.size Y w'):=fun Y h=>
  qpv 1000000 t A cap Y hn (Nat.le_refl _) (hrep.go h.below h.size)
 have SIZ:Hid (∀Y,Lay w.heap.size w Y→Calls Tryz.prog 15 #[.agg #[.int .i64 t.kind,.string t.name,.int .i64 t.sort,.slice A t.kids.length cap]] Y fun e w'=>e=.returned (.int .i64 t.size)∧Lay Y.heap.size Y w'):=fun Y h=>
  qic 1000000 t A cap Y hn (Nat.le_refl _) (hrep.go h.below h.size)
 have DEP:Hid (∀Y,Lay w.heap.size w Y→Calls Tryz.prog 8 #[.agg #[.int .i64 t.kind,.string t.name,.int .i64 t.sort,.slice A t.kids.length cap]] Y fun e w'=>e=.returned (.int .i64 t.depth)∧Lay Y.heap.size Y w'):=fun Y h=>
  qp2 1000000 t A cap Y hn (Nat.le_refl _) (hrep.go h.below h.size)
 clear hrep;simp only[Tm.val];obtain⟨v,hv⟩:∃v,v=t.valid:=⟨_,rfl⟩;rw[←hv];unfold Tm.valid at hv;obtain⟨c,hc⟩:∃c,c=t.check:=⟨_,rfl⟩;rw[←hc]at NOD hv;clear hc;have HVV:=hdzz hv;clear hv;have HV:=hdzz hV;clear hV;have HLV:=hdzz hlv;clear hlv;have HBX:=hdzz hbx0;clear hbx0;have CON:=hdzz (NOD.out V HLV.out);clear NOD;go_enter Tryz.func38,Tryz.ntmps38
 go_wp2_with fail
 rw[←HV.out];clear HV;refine CON.out.mono ?_;clear CON;rintro e w1 ⟨rfl,hl1⟩;have hL1:Lay w.heap.size w w1:=HLV.out.trans (hl1.mono (by omega));have hbx:w1.heap[w.heap.size]?=some (.cells #[.int .i64 t.kind,.string t.name,.int .i64 t.sort,.slice A t.kids.length cap] 24 (0,0)):=(hl1.below.block _ (by omega)).trans HBX.out;clear HLV HBX hl1;have HB1:=hdzz hbx;clear hbx;have HL1:=hdzz hL1;clear hL1;by_cases h0:c=0
 ·subst h0;have hv:=HVV.out.trans (if_neg (by simp));clear HVV;have HVV:=hdzz hv;clear hv;obtain⟨r0,r1,r2,r3,-⟩:=qaa HB1.out;have CON:=hdzz (SIZ.out w1 HL1.out);clear SIZ;have hlt:=(sltz HB1.out);go_wp2_with fail
  refine CON.out.mono ?_;clear CON r0 r1 r2 r3;rintro e w2 ⟨rfl,hl2⟩;have hbx:=(hl2.below.block _ hlt).trans HB1.out;have hL2:=HL1.out.trans (hl2.mono HL1.out.size);clear HL1 HB1 hlt hl2;have HL2:=hdzz hL2;clear hL2;obtain⟨r0,r1,r2,r3,-⟩:=qaa hbx;have hlt:=(sltz hbx);clear hbx;by_cases h4:400<t.size
  ·have q:decide (400<(t.size:Int))=true:=decide_eq_true (by omega);have hv:=HVV.out.trans (if_pos (.inl h4));subst hv;clear HVV;go_wp2_with fail
   go_ret
   exact⟨rfl,HL2.out⟩
  ·have q:decide (400<(t.size:Int))=false:=decide_eq_false (by omega);have CON:=hdzz (DEP.out w2 HL2.out);clear DEP;go_wp2_with fail
   refine CON.out.mono ?_;clear CON r0 r1 r2 r3;rintro e w3 ⟨rfl,hl3⟩;have HL3:=hdzz (HL2.out.trans (hl3.mono HL2.out.size));clear HL2 hl3;by_cases h5:40<t.depth
   ·have q2:decide (40<(t.depth:Int))=true:=decide_eq_true (by omega);have hv:=HVV.out.trans (if_pos (.inr h5));subst hv;clear HVV;go_wp2_with fail
    go_ret
    exact⟨rfl,HL3.out⟩
   ·have q2:decide (40<(t.depth:Int))=false:=decide_eq_false (by omega);have hv:=HVV.out.trans (if_neg (by omega));subst hv;clear HVV;go_wp2_with fail
    go_ret
    exact⟨rfl,HL3.out⟩
 ·have hv:v=c:=HVV.out.trans (if_pos h0);subst hv;have q:(v==0)=false:=by rw[beq_eq_false_iff_ne];exact h0
  have q':(v != 0)=true:=by simp[h0]
  clear HVV SIZ DEP;go_wp2_with fail
  go_ret
  exact⟨rfl,HL1.out⟩
end Go.Proofs.YtjhjoiplpmjepaaGreat
namespace Go.Proofs.YtjhjoiplpmjepaaGreat
open Go.RowKit
open Go.RowKit
open Go.RowKit Go.Sort
def qa1 (s:Int):List UInt8:=(qf4.getD s.toNat ByteArray.empty).data.toList
mutual
def Tm.text:Tm→List UInt8
 | .mk k n s l=>
  if k=1 then 63::(n.data.toList++(if s=0 then []else 58::qa1 s))
  else if k=2 then n.data.toList++58::qa1 s
  else n.data.toList++40::(Tm.texts l++[41])
def Tm.texts:List Tm→List UInt8
 | []=>[]
 | t::r=>t.text++Tm.more r
def Tm.more:List Tm→List UInt8
 | []=>[]
 | t::r=>44::32::(t.text++Tm.more r)
end
def qn8 (r:List UInt8):Prop:=∀c r',r=c::r'→qa2 c=false∧c≠58
theorem stops_nil:qn8 []:=fun _ _ h=>by cases h
theorem qja {c:UInt8} {r:List UInt8} (h:qa2 c=false∧c≠58):qn8 (c::r):=fun c' r' e=>by injection e with e1 e2;subst e1;exact h
theorem qcg {a r:List UInt8} (ha:∀b∈a,qa2 b=true) (hr:∀c r',r=c::r'→qa2 c=false):(a++r).takeWhile qa2=a:=by
 rw[List.takeWhile_append_of_pos ha]
 cases r with
 | nil=>simp
 | cons c r=>rw[List.takeWhile_cons_of_neg (by rw[hr c r rfl];simp)];simp
theorem qb3 {l:List UInt8} (h:qbg l=true):l.length≤24∧(∀b∈l,qa2 b=true)∧∃b r,l=b::r∧qlm b=true:=by
 unfold qbg at h;simp only[Bool.and_eq_true,decide_eq_true_eq,List.all_eq_true]at h;obtain⟨⟨h1,h2⟩,h3⟩:=h;refine⟨h1,h3,?_⟩
 cases l with
 | nil=>simp at h2
 | cons b r=>exact⟨b,r,rfl,h2⟩
theorem qbz (c:UInt8) (r:List UInt8):Lib.hasPrefix (c::r) [c]=true:=by simp[Lib.hasPrefix]
theorem qcr {b c:UInt8} (h:c≠b) (r:List UInt8):Lib.hasPrefix (b::r) [c]=false:=by
 show(c==b && List.isPrefixOf [] r)=false;rw[beq_eq_false_iff_ne.2 h];rfl
theorem name_no {l r:List UInt8} (h:qbg l=true) (c:UInt8) (hc:qlm c=false):Lib.hasPrefix (l++r) [c]=false:=by
 obtain⟨_,_,b,r',rfl,hb⟩:=qb3 h;have:c≠b:=fun e=>by subst e;rw[hb]at hc;cases hc
 exact qcr this _
theorem six {P:Int→Prop} (h0:P 0) (h1:P 1) (h2:P 2) (h3:P 3) (h4:P 4) (h5:P 5) {s:Int} (hs:0≤s) (hs5:s≤5):P s:=by
 obtain h|h|h|h|h|h:s=0∨s=1∨s=2∨s=3∨s=4∨s=5:=by omega
 all_goals (subst h;assumption)
theorem qlf {s:Int} (hs:0≤s) (hs5:s≤5):∀b∈qa1 s,qa2 b=true:=
 six (P:=fun s=>∀b∈qa1 s,qa2 b=true) (by decide +kernel) (by decide +kernel) (by decide +kernel) (by decide +kernel) (by decide +kernel) (by decide +kernel) hs hs5
theorem qh5 {s:Int} (hs:0≤s) (hs5:s≤5):qd6 (qa1 s)=s:=
 six (P:=fun s=>qd6 (qa1 s)=s) (by decide +kernel) (by decide +kernel) (by decide +kernel) (by decide +kernel) (by decide +kernel) (by decide +kernel) hs hs5
theorem qev {l:List UInt8} (h:0≤qd6 l):qd6 l≤5∧qa1 (qd6 l)=l:=by
 have hm:(⟨l.toArray⟩:ByteArray)∈qf4:=(Lib.idxOfS_nonneg_iff _ _).1 h;have key:∀x∈qf4,qd6 x.data.toList≤5∧qa1 (qd6 x.data.toList)=x.data.toList:=by decide +kernel
 exact key _ hm
theorem qf5 {a r:List UInt8} (ha:∀b∈a,qa2 b=true) (hr:∀c r',r=c::r'→qa2 c=false):wlen (a++r)=a.length:=by unfold wlen;rw[qcg ha hr]
theorem qjc {s least:Int} {r:List UInt8} (hs:0≤s) (hs5:s≤5) (hl:least≤s) (hr:∀c r',r=c::r'→qa2 c=false) :
  qec least (58::(qa1 s++r))=(s,true,1+(qa1 s).length):=by
 rw[qfv,qcg (qlf hs hs5) hr,qf5 (qlf hs hs5) hr,qh5 hs hs5,decide_eq_true hl]
theorem stops_no {r:List UInt8} (h:qn8 r):Lib.hasPrefix r [58]=false:=by
 cases r with
 | nil=>rfl
 | cons c r=>exact qcr (h c r rfl).2.symm r
theorem qg6 (n:ByteArray):(⟨n.data.toList.toArray⟩:ByteArray)=n:=(qdo n).symm
theorem pterm_var (n:Nat) (nm:ByteArray) (s:Int) (rest:List UInt8) (hn:qbg nm.data.toList=true) (hs:0≤s) (hs5:s≤5) (hr:qn8 rest) :
  pterm (n+1) ((Tm.mk 1 nm s []).text++rest)=some (.mk 1 nm s [],rest):=by
 obtain⟨_,hp,_⟩:=qb3 hn;have e:(Tm.mk 1 nm s []).text++rest=63::(nm.data.toList++((if s=0 then []else 58::qa1 s)++rest)):=by
  rw[Tm.text,if_pos rfl];simp
 have ht:∀c r',(if s=0 then []else 58::qa1 s)++rest=c::r'→qa2 c=false:=by
  intro c r' h
  split at h
  ·exact(hr c r' (by simpa using h)).1
  ·injection h with h1 h2;subst h1;decide +kernel
 rw[e,pterm,qbz];simp only[if_true,List.drop_succ_cons,List.drop_zero];rw[qcg hp ht,qf5 hp ht,hn,if_neg (by simp),qg6,List.drop_left];unfold pvar;by_cases h0:s=0
 ·subst h0;simp only[if_true,List.nil_append];rw[stops_no hr,if_neg (by simp)]
 ·rw[if_neg h0];have e2:(58::qa1 s)++rest=58::(qa1 s++rest):=rfl;rw[e2,qbz,if_pos rfl,qjc hs hs5 (by omega) (fun c r' h=>(hr c r' h).1)];simp only[if_true];rw[show 1+(qa1 s).length=(qa1 s).length+1 from by omega,List.drop_succ_cons,List.drop_left]
theorem qp3 (n:Nat) (nm:ByteArray) (s:Int) (rest:List UInt8) (hn:qbg nm.data.toList=true) (hs:0≤s) (hs5:s≤5) (hr:qn8 rest) :
  pterm (n+1) ((Tm.mk 2 nm s []).text++rest)=some (.mk 2 nm s [],rest):=by
 obtain⟨_,hp,_⟩:=qb3 hn;have e:(Tm.mk 2 nm s []).text++rest=nm.data.toList++(58::(qa1 s++rest)):=by
  rw[Tm.text,if_neg (by omega),if_pos rfl];simp
 have ht:∀c r',58::(qa1 s++rest)=c::r'→qa2 c=false:=by
  intro c r' h;injection h with h1 h2;subst h1;decide +kernel
 rw[e,pterm,name_no hn 63 (by decide +kernel)];simp only[Bool.false_eq_true,if_false];rw[qcg hp ht,qf5 hp ht,hn,if_neg (by simp),qg6,List.drop_left,qcr (by decide),if_pos rfl];unfold qid;rw[qjc hs hs5 hs (fun c r' h=>(hr c r' h).1)];simp only[if_true];rw[show 1+(qa1 s).length=(qa1 s).length+1 from by omega,List.drop_succ_cons,List.drop_left]
theorem pterm_app (n:Nat) (nm:ByteArray) (x:List UInt8) (hn:qbg nm.data.toList=true) :
  pterm (n+1) (nm.data.toList++40::x)=pkids n nm [] x:=by
 obtain⟨_,hp,_⟩:=qb3 hn;have ht:∀c r',(40:UInt8)::x=c::r'→qa2 c=false:=by
  intro c r' h;injection h with h1 h2;subst h1;decide +kernel
 rw[pterm,name_no hn 63 (by decide +kernel)];simp only[Bool.false_eq_true,if_false];rw[qcg hp ht,qf5 hp ht,hn,if_neg (by simp),qg6,List.drop_left,qbz,if_neg (by simp)];rfl
theorem qfi {k s:Int} {n:ByteArray} {l:List Tm} (hk:k=1∨k=2) (h:(Tm.mk k n s l).check=0):0≤s∧s≤5∧l=[]∧qbg n.data.toList=true:=by
 rw[Tm.check,if_pos hk]at h
 split at h
 ·omega
 ·rename_i h1
  split at h
  ·omega
  ·rename_i h2
   refine⟨by omega,by omega,?_,by simpa using h2⟩;exact Classical.byContradiction fun h3=>h1 (.inr (.inr h3))
theorem qj1 {k s:Int} {n:ByteArray} {l:List Tm} (hk:¬(k=1∨k=2)) (h:(Tm.mk k n s l).check=0):k=3∧s=0∧qbg n.data.toList=true∧Tm.checks l=0:=by
 rw[Tm.check,if_neg hk]at h
 split at h
 ·rename_i h3
  split at h
  ·omega
  ·split at h
   ·omega
   ·split at h
    ·omega
    ·rename_i h4 h5 h6
     exact⟨h3,by omega,by simpa using h5,h⟩
 ·omega
theorem qli {t:Tm} (h:t.check=0):∃c r,t.text=c::r∧c≠41:=by
 obtain⟨k,n,s,l⟩:=t;have app:∀y,qbg n.data.toList=true→∃c r,n.data.toList++y=c::r∧c≠41:=fun y hn=>by
  obtain⟨_,_,b,r,e,hb⟩:=qb3 hn;exact⟨b,r++y,by rw[e];rfl,fun e=>by subst e;revert hb;decide +kernel⟩
 rw[Tm.text];by_cases h1:k=1
 ·rw[if_pos h1];exact⟨63,_,rfl,by decide⟩
 ·rw[if_neg h1];by_cases h2:k=2
  ·rw[if_pos h2];exact app _ (qfi (.inr h2) h).2.2.2
  ·rw[if_neg h2];exact app _ (qj1 (by omega) h).2.2.1
theorem qis {t:Tm} {r:List Tm} (h:Tm.checks (t::r)=0):t.check=0∧Tm.checks r=0:=by
 rw[Tm.checks]at h
 split at h
 ·rename_i h1;exact absurd h h1
 ·rename_i h1;exact⟨by omega,h⟩
theorem qjr (l:List Tm) (rest:List UInt8):qn8 (Tm.more l++41::rest):=by
 cases l with
 | nil=>rw[Tm.more];exact qja (by decide +kernel)
 | cons t r=>rw[Tm.more];exact qja (by decide +kernel)
theorem qjk (a b:UInt8) (r:List UInt8):Lib.hasPrefix (a::b::r) [a,b]=true:=by simp[Lib.hasPrefix]
mutual
theorem qg1:∀(t:Tm) (n:Nat) (rest:List UInt8),t.check=0→2*t.text.length≤n→qn8 rest→pterm n (t.text++rest)=some (t,rest)
 | .mk k nm s l,n,rest,h,hn,hr=>by
  have hpos:0<(Tm.mk k nm s l).text.length:=by
   obtain⟨c,r,e,_⟩:=qli h;rw[e];simp
  obtain⟨m,rfl⟩:∃m,n=m+1:=⟨n - 1,by omega⟩;by_cases h1:k=1
  ·obtain⟨a,b,c,d⟩:=qfi (.inl h1) h;subst h1 c;exact pterm_var m nm s rest d a b hr
  ·by_cases h2:k=2
   ·obtain⟨a,b,c,d⟩:=qfi (.inr h2) h;subst h2 c;exact qp3 m nm s rest d a b hr
   ·obtain⟨a,b,c,d⟩:=qj1 (by omega) h;subst a b;have e:(Tm.mk 3 nm 0 l).text=nm.data.toList++40::(Tm.texts l++[41]):=by rw[Tm.text,if_neg (by omega),if_neg (by omega)]
    rw[e]at hn ⊢;have e2:nm.data.toList++40::(Tm.texts l++[41])++rest=nm.data.toList++40::(Tm.texts l++41::rest):=by simp
    rw[e2,pterm_app m nm _ c];exact qng l m nm rest d (by simp only[List.length_append,List.length_cons]at hn;omega)
theorem qng:∀(l:List Tm) (n:Nat) (w:ByteArray) (rest:List UInt8),Tm.checks l=0→2*(Tm.texts l).length+1≤n→pkids n w [] (Tm.texts l++41::rest)=some (.mk 3 w 0 l,rest)
 | [],n,w,rest,_,hn=>by
  obtain⟨m,rfl⟩:∃m,n=m+1:=⟨n - 1,by omega⟩;rw[Tm.texts,List.nil_append,pkids,qbz,if_pos rfl];rfl
 | t::r,n,w,rest,h,hn=>by
  obtain⟨ht,hr⟩:=qis h;obtain⟨c,x,e,hc⟩:=qli ht;have hl:(Tm.texts (t::r)).length=t.text.length+(Tm.more r).length:=by rw[Tm.texts,List.length_append]
  have hp:0<t.text.length:=by rw[e];simp
  obtain⟨m,rfl⟩:∃m,n=m+1:=⟨n - 1,by omega⟩;have h1:=qg1 t m (Tm.more r++41::rest) ht (by omega) (qjr r rest);have h2:=qjo r m w [t] rest hr (by simp) (by omega);have hf:Lib.hasPrefix (Tm.texts (t::r)++41::rest) [41]=false:=by rw[Tm.texts,e];exact qcr hc.symm _
  rw[pkids,hf,if_neg (by simp),if_neg (by simp)];simp only[ne_eq,not_true,if_false];rw[Tm.texts,List.append_assoc,h1];exact h2
theorem qjo:∀(l:List Tm) (n:Nat) (w:ByteArray) (acc:List Tm) (rest:List UInt8),Tm.checks l=0→acc≠[]→2*(Tm.more l).length+1≤n→pkids n w acc (Tm.more l++41::rest)=some (.mk 3 w 0 (acc++l),rest)
 | [],n,w,acc,rest,_,_,hn=>by
  obtain⟨m,rfl⟩:∃m,n=m+1:=⟨n - 1,by omega⟩;rw[Tm.more,List.nil_append,pkids,qbz,if_pos rfl,List.append_nil];rfl
 | t::r,n,w,acc,rest,h,ha,hn=>by
  obtain⟨ht,hr⟩:=qis h;have hl:(Tm.more (t::r)).length=t.text.length+(Tm.more r).length+2:=by rw[Tm.more];simp
  obtain⟨m,rfl⟩:∃m,n=m+1:=⟨n - 1,by omega⟩;have h1:=qg1 t m (Tm.more r++41::rest) ht (by omega) (qjr r rest);have h2:=qjo r m w (acc++[t]) rest hr (by simp) (by omega);rw[pkids,Tm.more,List.cons_append,List.cons_append,qcr (by decide),if_neg (by simp),qjk,if_neg (by simp),if_pos ha];simp only[List.drop_succ_cons,List.drop_zero];rw[List.append_assoc,h1];simp only;rw[h2];simp
end
theorem qnh {t:Tm} (h:t.valid=0):qee t.text=(t,0):=by
 have hc:t.check=0:=by
  unfold Tm.valid at h
  split at h
  ·exact h
  ·rename_i h1;omega
 have:=qg1 t (2*t.text.length+1) [] hc (by omega) stops_nil;rw[List.append_nil]at this;unfold qee;rw[this];exact if_pos h
theorem qf9 (l:List UInt8):l.takeWhile qa2++l.drop (wlen l)=l:=List.prefix_iff_eq_append.1 (List.takeWhile_prefix _)
theorem qjd {least:Int} (h0:0≤least) {l:List UInt8} (h:(qec least l).2.1=true) :
  least≤(qec least l).1∧(58::qa1 (qec least l).1)++l.drop (qec least l).2.2=l:=by
 by_cases hc:Lib.hasPrefix l [58]=true
 ·obtain⟨r,rfl⟩:=qhf hc;rw[qfv]at h ⊢;have h1:least≤qd6 (r.takeWhile qa2):=by simpa using h
  refine⟨h1,?_⟩;show(58::qa1 (qd6 (r.takeWhile qa2)))++(58::r).drop (1+wlen r)=58::r;rw[(qev (l:=r.takeWhile qa2) (by omega)).2,Nat.add_comm,List.drop_succ_cons,List.cons_append,qf9]
 ·rw[qof least l (by simpa using hc)]at h;cases h
theorem qcn {c:UInt8} {l:List UInt8} (h:Lib.hasPrefix l [c]=true):c::l.drop 1=l:=by
 cases l with
 | nil=>simp[Lib.hasPrefix]at h
 | cons b r=>simp[Lib.hasPrefix]at h;rw[h];rfl
theorem qey {a c:UInt8} {l:List UInt8} (h:Lib.hasPrefix l [a,c]=true):a::c::l.drop 2=l:=by
 cases l with
 | nil=>simp[Lib.hasPrefix]at h
 | cons b r=>
  cases r with
  | nil=>simp[Lib.hasPrefix]at h
  | cons d r=>simp[Lib.hasPrefix]at h;rw[h.1,h.2];rfl
theorem pvar_back {w:ByteArray} {l r:List UInt8} {t:Tm} (h:pvar w l=some (t,r)):63::(w.data.toList++l)=t.text++r:=by
 unfold pvar at h;by_cases hc:Lib.hasPrefix l [58]=true
 ·rw[if_pos hc]at h;by_cases hs:(qec 1 l).2.1=true
  ·rw[if_pos hs]at h;obtain⟨h1,h2⟩:=qjd (by omega) hs;injection h with h;injection h with h3 h4;subst h3 h4;rw[Tm.text,if_pos rfl,if_neg (by omega)]
   conv=>lhs;rw[←h2]
   simp
  ·rw[if_neg hs]at h;cases h
 ·rw[if_neg hc]at h;injection h with h;injection h with h3 h4;subst h3 h4;rw[Tm.text,if_pos rfl,if_pos rfl];simp
theorem qp6 {w:ByteArray} {l r:List UInt8} {t:Tm} (h:qid w l=some (t,r)):w.data.toList++l=t.text++r:=by
 unfold qid at h;by_cases hs:(qec 0 l).2.1=true
 ·rw[if_pos hs]at h;obtain⟨h1,h2⟩:=qjd (by omega) hs;injection h with h;injection h with h3 h4;subst h3 h4;rw[Tm.text,if_neg (by omega),if_pos rfl]
  conv=>lhs;rw[←h2]
  simp
 ·rw[if_neg hs]at h;cases h
theorem ptext:∀n,(∀l t r,pterm n l=some (t,r)→l=t.text++r)∧(∀w acc l t r,pkids n w acc l=some (t,r)→∃k,t=.mk 3 w 0 (acc++k)∧l=(if acc=[]then Tm.texts k else Tm.more k)++41::r)
 | 0=>⟨fun l t r h=>by simp[pterm]at h,fun w acc l t r h=>by simp[pkids]at h⟩
 | n+1=>by
  obtain⟨ih1,ih2⟩:=ptext n;constructor
  ·intro l t r h;rw[pterm]at h;by_cases hv:Lib.hasPrefix l [63]=true
   ·rw[if_pos hv]at h;by_cases hn:qbg ((l.drop 1).takeWhile qa2)=false
    ·rw[if_pos hn]at h;cases h
    ·rw[if_neg hn,if_pos hv]at h;have:=pvar_back h;rw[←this];show l=63::((l.drop 1).takeWhile qa2++(l.drop 1).drop (wlen (l.drop 1)));rw[qf9,qcn hv]
   ·rw[if_neg hv]at h;by_cases hn:qbg (l.takeWhile qa2)=false
    ·rw[if_pos hn]at h;cases h
    ·rw[if_neg hn,if_neg hv]at h;by_cases hp:Lib.hasPrefix (l.drop (wlen l)) [40]=false
     ·rw[if_pos hp]at h;rw[←qp6 h];exact(qf9 l).symm
     ·rw[if_neg hp]at h;obtain⟨k,rfl,h2⟩:=ih2 _ _ _ _ _ h;rw[if_pos rfl]at h2;rw[List.nil_append,Tm.text,if_neg (by omega),if_neg (by omega)];show l=l.takeWhile qa2++40::(Tm.texts k++[41])++r;have h3:40::(l.drop (wlen l)).drop 1=l.drop (wlen l):=qcn (by simpa using hp)
      conv=>lhs;rw[←qf9 l,←h3,h2]
      simp
  ·intro w acc l t r h;rw[pkids]at h;by_cases h1:Lib.hasPrefix l [41]=true
   ·rw[if_pos h1]at h;injection h with h;injection h with h3 h4;subst h3 h4;refine⟨[],by simp,?_⟩;rw[qcn h1];split<;>simp[Tm.texts,Tm.more]
   ·rw[if_neg h1]at h;by_cases h2:acc≠[]∧Lib.hasPrefix l [44,32]=false
    ·rw[if_pos h2]at h;cases h
    ·rw[if_neg h2]at h
     split at h
     ·cases h
     ·rename_i k r' hk
      obtain⟨m,rfl,h4⟩:=ih2 _ _ _ _ _ h;rw[if_neg (by simp)]at h4;have h5:=ih1 _ _ _ hk;refine⟨k::m,by simp,?_⟩;by_cases ha:acc=[]
      ·rw[if_pos ha,Tm.texts];rw[if_neg (by simpa using ha)]at h5;rw[h5,h4];simp
      ·rw[if_neg ha,Tm.more];rw[if_pos ha]at h5;have h6:Lib.hasPrefix l [44,32]=true:=by
        cases e:Lib.hasPrefix l [44,32]with
        | true=>rfl
        | false=>exact absurd ⟨ha,e⟩ h2
       have h7:=qey h6;rw[←h7,h5,h4];simp
structure Wrote (B b:Nat) (w w':World):Prop where
 below:Below B w w'
 others:Lib.OthersKept 5 (some b) w w'
theorem Wrote.refl (B b:Nat) (w:World):Wrote B b w w:=⟨Below.refl _ _,Lib.OthersKept.refl _ _ _⟩
theorem Wrote.trans {B b:Nat} {u v w:World} (h:Wrote B b u v) (k:Wrote B b v w):Wrote B b u w:=⟨h.below.trans k.below,h.others.trans k.others⟩
theorem Wrote.alloc {B b:Nat} {u w:World} (h:Wrote B b u w) (hB:B≤w.heap.size) (o:Obj):Wrote B b u (w.alloc o):=⟨h.below.alloc hB o,h.others.alloc o⟩
theorem Wrote.drewN {B b:Nat} {u w:World} (h:Wrote B b u w) (n:Nat):Wrote B b u (w.drewN n):=⟨⟨h.below.os,h.below.tape,h.below.output,h.below.size,h.below.block⟩,h.others⟩
theorem Wrote.box {B b:Nat} {u w:World} (h:Wrote B b u w) {p:Nat} {cs:Array Value} {fr:Nat×Nat} (hp:u.heap[p]?=some (.cells cs 24 fr)) (hne:p≠b):w.heap[p]?=some (.cells cs 24 fr):=
 h.others p _ hp (fun e=>hne (Option.some.inj e)) (fun c fz e=>by injection e with _ e2 _;exact absurd e2 (by decide))
theorem qk4 {a:ByteArray} {l:List UInt8} (h:a.data.toList=l):a=⟨l.toArray⟩:=by subst h;exact qdo a
theorem word_any (s:Nat) (hs:s≤5) (w:World):Calls Tryz.prog 142 #[.int .i64 s] w fun e w'=>e=.returned (.string ⟨(qa1 s).toArray⟩)∧Lay w.heap.size w w':=by
 have hlay:Hid (∀o,Lay w.heap.size w (w.alloc o)):=fun o=>(Lay.refl _ _).alloc (Nat.le_refl _) o;obtain h|h|h|h|h|h:s=0∨s=1∨s=2∨s=3∨s=4∨s=5:=by omega
 all_goals
  subst h;clear hs;go_enter Tryz.func142,Tryz.ntmps142
  go_wp2_with fail
  go_ret
  exact⟨rfl,hlay.out _⟩
end Go.Proofs.YtjhjoiplpmjepaaGreat
namespace Go.Proofs.YtjhjoiplpmjepaaGreat
section
variable {P:Program} {ops:Array Oper} {Q:Exit→Act→World→Prop} {md:Region.Mode} {S:World→Prop} {n:Nat}
inductive Mx3 where
 | nil
 | held (i:Nat) (r:Mx3)
 | pure (i:Nat) (r:Mx3)
 | op (i:Nat) (r:Mx3)
 | two (i j:Nat) (r r':Mx3)
 | three (i j k:Nat) (r r' r'':Mx3)
def Mx3.len:Mx3→Nat
 | .nil=>0
 | .held _ r|.pure _ r|.op _ r=>r.len+1
 | .two _ _ r _=>r.len+1
 | .three _ _ _ r _ _=>r.len+1
def qbm (P:Program) (ops:Array Oper) (Q:Exit→Act→World→Prop) (S:World→Prop) (n:Nat):Mx3→Act→World→Prop
 | .nil,a,w=>Q .normal a w
 | .held i r,a,w=>S w∧∃o v,ops[i]?=some o∧YieldsIf P ops S o v a∧(∀c a' w',Q (.panic c) (a'.put o.dst v) w'→Q (.panic c) a' w')∧qbm P ops Q S n r (a.put o.dst v) w
 | .pure i r,a,w=>(i<n→S w)∧∃o v,ops[i]?=some o∧YieldsIf P ops (fun _=>True) o v a∧(∀c a' w',Q (.panic c) (a'.put o.dst v) w'→Q (.panic c) a' w')∧qbm P ops Q S n r (a.put o.dst v) w
 | .op i r,a,w=>wpOp P ops Q i (fun a' w'=>(i<n→S w')∧qbm P ops Q S n r a' w') a w
 | .two i j r r',a,w=>wpOp P ops Q i (fun a' w'=>(i<n→S w')∧qbm P ops Q S n r a' w') a w∧wpOp P ops Q j (fun a' w'=>(j<n→S w')∧qbm P ops Q S n r' a' w') a w
 | .three i j k r r' r'',a,w=>wpOp P ops Q i (fun a' w'=>(i<n→S w')∧qbm P ops Q S n r a' w') a w∧wpOp P ops Q j (fun a' w'=>(j<n→S w')∧qbm P ops Q S n r' a' w') a w∧wpOp P ops Q k (fun a' w'=>(k<n→S w')∧qbm P ops Q S n r'' a' w') a w
def qfn (md:Region.Mode) (ops:Array Oper) (n:Nat):Mx3→Array Bool→Bool
 | .nil,listed=>(Region.ready md ops listed).isEmpty
 | .held i r,listed=>decide (i<n) && (Region.ready md ops listed).contains i && Region.free md ops listed i && qfn md ops n r (listed.setIfInBounds i true)
 | .pure i r,listed=>decide (n≤i) && (Region.ready md ops listed).contains i && Region.free md ops listed i && qfn md ops n r (listed.setIfInBounds i true)
 | .op i r,listed=>decide (Region.ready md ops listed=[i]) && qfn md ops n r (listed.setIfInBounds i true)
 | .two i j r r',listed=>decide (Region.ready md ops listed=[i,j]) && decide (r.len=r'.len) && qfn md ops n r (listed.setIfInBounds i true) && qfn md ops n r' (listed.setIfInBounds j true)
 | .three i j k r r' r'',listed=>decide (Region.ready md ops listed=[i,j,k]) && decide (r.len=r'.len) && decide (r.len=r''.len) && qfn md ops n r (listed.setIfInBounds i true) && qfn md ops n r' (listed.setIfInBounds j true) && qfn md ops n r'' (listed.setIfInBounds k true)
def mixOk3 (md:Region.Mode) (ops:Array Oper) (n:Nat) (order:Mx3):Bool:=
 Region.noSelect ops && barB md ops n && decide (order.len=ops.size) && qfn md ops n order (Array.replicate ops.size false)
theorem qa5 (hsel:Region.noSelect ops=true) (hb:barB md ops n=true) :
  ∀(order:Mx3) (listed:Array Bool) (a:Act) (w:World),qfn md ops n order listed=true→qbm P ops Q S n order a w→qi6 P md ops Q S n order.len listed a w
 | .nil,listed,a,w,hB,h=>⟨by simpa[qfn]using hB,h⟩
 | .held i r,listed,a,w,hB,h=>by
  simp only[qfn,Bool.and_eq_true,decide_eq_true_eq]at hB;obtain⟨⟨⟨hin,hr⟩,hf⟩,hB2⟩:=hB;obtain⟨hS,o,v,ho,hy,hQ,hrest⟩:=h;exact qd5 ho (Region.noSelect_spec hsel) (fun l j w hun hj hSw=>hSw (qm0 hb hin hun j hj)) (fun _ h _=>h) hQ r.len listed a w (Region.free_spec ho hf) (by simpa using hr) hy hS
   (qa5 hsel hb r _ _ _ hB2 hrest)
 | .pure i r,listed,a,w,hB,h=>by
  simp only[qfn,Bool.and_eq_true,decide_eq_true_eq]at hB;obtain⟨⟨⟨hin,hr⟩,hf⟩,hB2⟩:=hB;obtain⟨_,o,v,ho,hy,hQ,hrest⟩:=h;exact qd5 (S':=fun _=>True) ho (Region.noSelect_spec hsel) (fun _ _ _ _ _ _=>trivial) (fun _ _ h=>absurd h (by omega)) hQ r.len listed a w (Region.free_spec ho hf) (by simpa using hr) hy trivial
   (qa5 hsel hb r _ _ _ hB2 hrest)
 | .op i r,listed,a,w,hB,h=>by
  simp only[qfn,Bool.and_eq_true,decide_eq_true_eq]at hB;refine⟨fun h0=>(by rw[hB.1]at h0;cases h0),fun j hj=>?_⟩;rw[hB.1]at hj;obtain rfl:j=i:=by simpa using hj
  exact wpOp_mono (fun a' w' h'=>⟨h'.1,qa5 hsel hb r _ a' w' hB.2 h'.2⟩) h
 | .two i k r r',listed,a,w,hB,h=>by
  simp only[qfn,Bool.and_eq_true,decide_eq_true_eq]at hB;obtain⟨⟨⟨hr,hlen⟩,hB1⟩,hB2⟩:=hB;refine⟨fun h0=>(by rw[hr]at h0;cases h0),fun j hj=>?_⟩;rw[hr]at hj;simp only[List.mem_cons,List.not_mem_nil,or_false]at hj;rcases hj with rfl|rfl
  ·exact wpOp_mono (fun a' w' h'=>⟨h'.1,qa5 hsel hb r _ a' w' hB1 h'.2⟩) h.1
  ·exact wpOp_mono (fun a' w' h'=>⟨h'.1,by rw[hlen];exact qa5 hsel hb r' _ a' w' hB2 h'.2⟩) h.2
 | .three i k m r r' r'',listed,a,w,hB,h=>by
  simp only[qfn,Bool.and_eq_true,decide_eq_true_eq]at hB;obtain⟨⟨⟨⟨⟨hr,hlen⟩,hlen2⟩,hB1⟩,hB2⟩,hB3⟩:=hB;refine⟨fun h0=>(by rw[hr]at h0;cases h0),fun j hj=>?_⟩;rw[hr]at hj;simp only[List.mem_cons,List.not_mem_nil,or_false]at hj;rcases hj with rfl|rfl|rfl
  ·exact wpOp_mono (fun a' w' h'=>⟨h'.1,qa5 hsel hb r _ a' w' hB1 h'.2⟩) h.1
  ·exact wpOp_mono (fun a' w' h'=>⟨h'.1,by rw[hlen];exact qa5 hsel hb r' _ a' w' hB2 h'.2⟩) h.2.1
  ·exact wpOp_mono (fun a' w' h'=>⟨h'.1,by rw[hlen2];exact qa5 hsel hb r'' _ a' w' hB3 h'.2⟩) h.2.2
theorem wp_region_mix3 {id:Nat} {Q:Exit→Act→World→Prop} {a:Act} {w:World} {l:List Oper} (S:World→Prop) (n:Nat) (order:Mx3) (hm:P.follows .mixedOrders=true)
  (hB:mixOk3 .any l.toArray n order=true) (h:qbm P l.toArray Q S n order a w.drew):(Code.region id l.toArray true).wp P Q a w:=by
 simp only[mixOk3,Bool.and_eq_true,decide_eq_true_eq]at hB;obtain⟨⟨⟨hsel,hb⟩,hlen⟩,hB⟩:=hB;refine wp_region_any hm ?_;have:=qgw _ _ _ _ (qa5 (md:=.any) hsel hb order _ a w.drew hB h);rw[hlen]at this;exact this
theorem mix3_nil {a:Act} {w:World} (h:Q .normal a w):qbm P ops Q S n .nil a w:=h
theorem mix3_take {i:Nat} {r:Mx3} {a:Act} {w:World} {o:Oper} {v:Value} (ho:ops[i]?=some o) (hg:o.guard=none) (hQ:∀c a' w',Q (.panic c) (a'.put o.dst v) w'→Q (.panic c) a' w')
  (hS:S w) (hv:∀w,S w→(execOp a.eval o).run P w=.ok (.value v) w) (h:qbm P ops Q S n r (a.put o.dst v) w):qbm P ops Q S n (.held i r) a w:=
 ⟨hS,o,v,ho,Or.inl ⟨by simp[Region.wanted,hg],hv⟩,hQ,h⟩
theorem mix3_pure {i:Nat} {r:Mx3} {a:Act} {w:World} {o:Oper} {v:Value} (ho:ops[i]?=some o) (hg:o.guard=none) (hQ:∀c a' w',Q (.panic c) (a'.put o.dst v) w'→Q (.panic c) a' w')
  (hn:n≤i) (hv:∀w,(execOp a.eval o).run P w=.ok (.value v) w) (h:qbm P ops Q S n r (a.put o.dst v) w):qbm P ops Q S n (.pure i r) a w:=
 ⟨fun h=>absurd h (by omega),o,v,ho,Or.inl ⟨by simp[Region.wanted,hg],fun w _=>hv w⟩,hQ,h⟩
theorem mix3_op {i:Nat} {r:Mx3} {a:Act} {w:World} {o:Oper} (ho:ops[i]?=some o) (hg:o.guard=none)
  (h:∀K:Act→World→Prop,(∀a' w',(i<n→S w')∧qbm P ops Q S n r a' w'→K a' w')→o.wp P a w K Q):qbm P ops Q S n (.op i r) a w:=by
 show wpOp P ops Q i _ a w;unfold wpOp;simp only[ho,Region.wanted,hg,if_true];exact .inl (h _ fun a' w' h=>h)
theorem mix3_take_g {i:Nat} {r:Mx3} {a:Act} {w:World} {o:Oper} {v:Value} (ho:ops[i]?=some o) (hw:Region.wanted o (yielded ops a.tmps)=true) (hQ:∀c a' w',Q (.panic c) (a'.put o.dst v) w'→Q (.panic c) a' w')
  (hS:S w) (hv:∀w,S w→(execOp a.eval o).run P w=.ok (.value v) w) (h:qbm P ops Q S n r (a.put o.dst v) w):qbm P ops Q S n (.held i r) a w:=
 ⟨hS,o,v,ho,Or.inl ⟨hw,hv⟩,hQ,h⟩
theorem mix3_op_g {i:Nat} {r:Mx3} {a:Act} {w:World} {o:Oper} (ho:ops[i]?=some o) (hw:Region.wanted o (yielded ops a.tmps)=true)
  (h:∀K:Act→World→Prop,(∀a' w',(i<n→S w')∧qbm P ops Q S n r a' w'→K a' w')→o.wp P a w K Q):qbm P ops Q S n (.op i r) a w:=by
 show wpOp P ops Q i _ a w;unfold wpOp;simp only[ho,hw,if_true];exact .inl (h _ fun a' w' h=>h)
theorem mix3_two {i j:Nat} {r r':Mx3} {a:Act} {w:World} (h:qbm P ops Q S n (.op i r) a w) (h':qbm P ops Q S n (.op j r') a w):qbm P ops Q S n (.two i j r r') a w:=⟨h,h'⟩
theorem mix3_three {i j k:Nat} {r r' r'':Mx3} {a:Act} {w:World} (h:qbm P ops Q S n (.op i r) a w) (h':qbm P ops Q S n (.op j r') a w) (h'':qbm P ops Q S n (.op k r'') a w):qbm P ops Q S n (.three i j k r r' r'') a w:=⟨h,h',h''⟩
end
section
variable {P:Program} {ops:Array Oper} {Q:Exit→Act→World→Prop} {md:Region.Mode} {S S2:World→Prop} {wk:List Nat} {R:Nat→World→Prop}
def qhz (P:Program) (md:Region.Mode) (ops:Array Oper) (Q:Exit→Act→World→Prop) (R:Nat→World→Prop):Nat→Array Bool→Act→World→Prop
 | 0,listed,a,w=>Region.ready md ops listed=[]∧Q .normal a w
 | fuel+1,listed,a,w=>
  (Region.ready md ops listed=[]→Q .normal a w)∧
  ∀i∈Region.ready md ops listed,wpOp P ops Q i (fun a' w'=>R i w'∧qhz P md ops Q R fuel (listed.setIfInBounds i true) a' w') a w
theorem qi5:∀(fuel:Nat) (listed:Array Bool) (a:Act) (w:World),qhz P md ops Q R fuel listed a w→wpAny P md ops Q fuel listed a w
 | 0,_,_,_,h=>h
 | fuel+1,_,_,_,h=>⟨h.1,fun i hi=>wpOp_mono (fun a' w' h'=>qi5 fuel _ a' w' h'.2) (h.2 i hi)⟩
theorem qnw {l0 l:Array Bool} {j:Nat} (h:∀k,l0.getD k true=true→l.getD k true=true):∀k,l0.getD k true=true→(l.setIfInBounds j true).getD k true=true:=by
 intro k hk;by_cases hjk:j=k
 ·subst hjk;simp only[Array.getD_eq_getD_getElem?,Array.getElem?_setIfInBounds];rw[if_pos trivial]
  split<;>rfl
 ·rw[getD_set_ne true hjk];exact h k hk
theorem qle {S':World→Prop} {i:Nat} {oi:Oper} {v:Value} (hi:ops[i]?=some oi) (hsel:∀(j:Nat) (o:Oper) cs b,ops[j]?=some o→o.op≠.select cs b) (l0:Array Bool)
  (hS':∀(listed:Array Bool) (j:Nat) (w:World),(∀k,l0.getD k true=true→listed.getD k true=true)→listed.getD i true=false→j∈Region.ready md ops listed→j≠i→R j w→S' w) (hSS:∀w,S' w→R i w)
  (hQ:∀c a w,Q (.panic c) (a.put oi.dst v) w→Q (.panic c) a w) :
  ∀(fuel:Nat) (listed:Array Bool) (a:Act) (w:World),(∀k,l0.getD k true=true→listed.getD k true=true)→
   (∀j oj,ops[j]?=some oj→j≠i→listed.getD j true=false→(∀e∈oj.after,Region.binds md e=true→e.on≠i)→oi.apart ops oj=true)→
   i∈Region.ready md ops listed→YieldsIf P ops S' oi v a→S' w→
   qhz P md ops Q R fuel (listed.setIfInBounds i true) (a.put oi.dst v) w→qhz P md ops Q R (fuel+1) listed a w:=by
 intro fuel
 induction fuel with
 | zero=>
  intro listed a w _ _ hr hy hS H;refine⟨fun h=>(by rw[h]at hr;cases hr),fun j hj=>?_⟩;by_cases hji:j=i
  ·subst hji;exact hy.wpOp hi hS ⟨hSS w hS,H⟩
  ·have:=ready_mono hj hji;rw[H.1]at this;cases this
 | succ fuel ih=>
  intro listed a w hsub hfree hr hy hS H;have hun:=(mem_ready.1 hr).1;refine⟨fun h=>(by rw[h]at hr;cases hr),fun j hj=>?_⟩;by_cases hji:j=i
  ·subst hji;exact hy.wpOp hi hS ⟨hSS w hS,H⟩
  ·have h1:=H.2 j (ready_mono hj hji);obtain⟨hjun,oj,hoj,hall⟩:=mem_ready.1 hj;have hnot:∀e∈oj.after,Region.binds md e=true→e.on≠i:=fun e he hb heq=>by
    have h1:=hall e he hb;rw[heq,getD_both hun]at h1;cases h1
   have h2:=wpOp_putIf hoj (hfree j oj hoj hji hjun hnot) (fun cs b=>hsel i oi cs b hi) (fun cs b=>hsel j oj cs b hoj) hQ hy h1;have hfree':∀k ok,ops[k]?=some ok→k≠i→(listed.setIfInBounds j true).getD k true=false→
     (∀e∈ok.after,Region.binds md e=true→e.on≠i)→oi.apart ops ok=true:=fun k ok hk hki hu hno=>by
    refine hfree k ok hk hki ?_ hno;by_cases hjk:j=k
    ·subst hjk;exact hjun
    ·rw[getD_set_ne true hjk]at hu;exact hu
   refine wpOp_mono (fun a' w' h3=>⟨h3.2.1,ih (listed.setIfInBounds j true) a' w' (qnw hsub) hfree' (ready_mono hr (Ne.symm hji)) h3.1 (hS' listed j w' hsub hun hj hji h3.2.1) ?_⟩) h2;rw[Array.setIfInBounds_comm _ _ hji];exact h3.2.2
def askR (S S2:World→Prop) (wk:List Nat) (j:Nat) (w:World):Prop:=(wk.contains j=false→S w)∧S2 w
def qay (P:Program) (ops:Array Oper) (Q:Exit→Act→World→Prop) (S S2:World→Prop) (wk:List Nat):Mx3→Act→World→Prop
 | .nil,a,w=>Q .normal a w
 | .held i r,a,w|.pure i r,a,w=>askR S S2 wk i w∧∃o v,ops[i]?=some o∧YieldsIf P ops (askR S S2 wk i) o v a∧(∀c a' w',Q (.panic c) (a'.put o.dst v) w'→Q (.panic c) a' w')∧qay P ops Q S S2 wk r (a.put o.dst v) w
 | .op i r,a,w=>wpOp P ops Q i (fun a' w'=>askR S S2 wk i w'∧qay P ops Q S S2 wk r a' w') a w
 | .two i j r r',a,w=>wpOp P ops Q i (fun a' w'=>askR S S2 wk i w'∧qay P ops Q S S2 wk r a' w') a w∧wpOp P ops Q j (fun a' w'=>askR S S2 wk j w'∧qay P ops Q S S2 wk r' a' w') a w
 | .three i j k r r' r'',a,w=>wpOp P ops Q i (fun a' w'=>askR S S2 wk i w'∧qay P ops Q S S2 wk r a' w') a w∧wpOp P ops Q j (fun a' w'=>askR S S2 wk j w'∧qay P ops Q S S2 wk r' a' w') a w∧wpOp P ops Q k (fun a' w'=>askR S S2 wk k w'∧qay P ops Q S S2 wk r'' a' w') a w
def wkB (md:Region.Mode) (ops:Array Oper) (wk:List Nat) (listed:Array Bool) (i:Nat):Bool:=wk.contains i || (wk.all fun j=>listed.getD j true || Region.waitsFor md ops j i)
def qfx (md:Region.Mode) (ops:Array Oper) (wk:List Nat):Mx3→Array Bool→Bool
 | .nil,listed=>(Region.ready md ops listed).isEmpty
 | .held i r,listed|.pure i r,listed=>(Region.ready md ops listed).contains i && Region.free md ops listed i && wkB md ops wk listed i && qfx md ops wk r (listed.setIfInBounds i true)
 | .op i r,listed=>decide (Region.ready md ops listed=[i]) && qfx md ops wk r (listed.setIfInBounds i true)
 | .two i j r r',listed=>decide (Region.ready md ops listed=[i,j]) && decide (r.len=r'.len) && qfx md ops wk r (listed.setIfInBounds i true) && qfx md ops wk r' (listed.setIfInBounds j true)
 | .three i j k r r' r'',listed=>decide (Region.ready md ops listed=[i,j,k]) && decide (r.len=r'.len) && decide (r.len=r''.len) && qfx md ops wk r (listed.setIfInBounds i true) && qfx md ops wk r' (listed.setIfInBounds j true) && qfx md ops wk r'' (listed.setIfInBounds k true)
def mixOk4 (md:Region.Mode) (ops:Array Oper) (wk:List Nat) (order:Mx3):Bool:=
 Region.noSelect ops && decide (order.len=ops.size) && qfx md ops wk order (Array.replicate ops.size false)
theorem qez (hsel:Region.noSelect ops=true) {i:Nat} {o:Oper} {v:Value} {listed:Array Bool} {a:Act} {w:World} {fuel:Nat} (hr:(Region.ready md ops listed).contains i=true) (hf:Region.free md ops listed i=true) (hwk:wkB md ops wk listed i=true) (hS:askR S S2 wk i w) (ho:ops[i]?=some o)
  (hy:YieldsIf P ops (askR S S2 wk i) o v a) (hQ:∀c a' w',Q (.panic c) (a'.put o.dst v) w'→Q (.panic c) a' w') (h:qhz P md ops Q (askR S S2 wk) fuel (listed.setIfInBounds i true) (a.put o.dst v) w):qhz P md ops Q (askR S S2 wk) (fuel+1) listed a w:=by
 refine qle ho (Region.noSelect_spec hsel) listed (fun l j w hsub hun hj hji hR=>⟨fun hi=>hR.1 ?_,hR.2⟩) (fun _ h=>h) hQ fuel listed a w (fun _ h=>h) (Region.free_spec ho hf) (by simpa using hr) hy hS h;unfold wkB at hwk;rw[hi,Bool.false_or,List.all_eq_true]at hwk
 cases hc:wk.contains j with
 | false=>rfl
 | true=>
  exfalso;obtain⟨hjun,oj,hoj,hall⟩:=mem_ready.1 hj;have h1:=hwk j (by simpa using hc);rw[Bool.or_eq_true]at h1;rcases h1 with h1|h1
  ·rw[hsub j h1]at hjun;cases hjun
  ·obtain⟨o',ho',e,he,hbi,hon⟩:=Region.waitsFor_spec h1;have:o'=oj:=Option.some.inj (ho'.symm.trans hoj);subst this;have h2:=hall e he hbi;rw[hon,getD_both hun]at h2;cases h2
theorem qa6 (hsel:Region.noSelect ops=true) :
  ∀(order:Mx3) (listed:Array Bool) (a:Act) (w:World),qfx md ops wk order listed=true→qay P ops Q S S2 wk order a w→qhz P md ops Q (askR S S2 wk) order.len listed a w
 | .nil,listed,a,w,hB,h=>⟨by simpa[qfx]using hB,h⟩
 | .held i r,listed,a,w,hB,h=>by
  simp only[qfx,Bool.and_eq_true]at hB;obtain⟨⟨⟨hr,hf⟩,hwk⟩,hB2⟩:=hB;obtain⟨hS,o,v,ho,hy,hQ,hrest⟩:=h;exact qez hsel hr hf hwk hS ho hy hQ (qa6 hsel r _ _ _ hB2 hrest)
 | .pure i r,listed,a,w,hB,h=>by
  simp only[qfx,Bool.and_eq_true]at hB;obtain⟨⟨⟨hr,hf⟩,hwk⟩,hB2⟩:=hB;obtain⟨hS,o,v,ho,hy,hQ,hrest⟩:=h;exact qez hsel hr hf hwk hS ho hy hQ (qa6 hsel r _ _ _ hB2 hrest)
 | .op i r,listed,a,w,hB,h=>by
  simp only[qfx,Bool.and_eq_true,decide_eq_true_eq]at hB;refine⟨fun h0=>(by rw[hB.1]at h0;cases h0),fun j hj=>?_⟩;rw[hB.1]at hj;obtain rfl:j=i:=by simpa using hj
  exact wpOp_mono (fun a' w' h'=>⟨h'.1,qa6 hsel r _ a' w' hB.2 h'.2⟩) h
 | .two i k r r',listed,a,w,hB,h=>by
  simp only[qfx,Bool.and_eq_true,decide_eq_true_eq]at hB;obtain⟨⟨⟨hr,hlen⟩,hB1⟩,hB2⟩:=hB;refine⟨fun h0=>(by rw[hr]at h0;cases h0),fun j hj=>?_⟩;rw[hr]at hj;simp only[List.mem_cons,List.not_mem_nil,or_false]at hj;rcases hj with rfl|rfl
  ·exact wpOp_mono (fun a' w' h'=>⟨h'.1,qa6 hsel r _ a' w' hB1 h'.2⟩) h.1
  ·exact wpOp_mono (fun a' w' h'=>⟨h'.1,by rw[hlen];exact qa6 hsel r' _ a' w' hB2 h'.2⟩) h.2
 | .three i k m r r' r'',listed,a,w,hB,h=>by
  simp only[qfx,Bool.and_eq_true,decide_eq_true_eq]at hB;obtain⟨⟨⟨⟨⟨hr,hlen⟩,hlen2⟩,hB1⟩,hB2⟩,hB3⟩:=hB;refine⟨fun h0=>(by rw[hr]at h0;cases h0),fun j hj=>?_⟩;rw[hr]at hj;simp only[List.mem_cons,List.not_mem_nil,or_false]at hj;rcases hj with rfl|rfl|rfl
  ·exact wpOp_mono (fun a' w' h'=>⟨h'.1,qa6 hsel r _ a' w' hB1 h'.2⟩) h.1
  ·exact wpOp_mono (fun a' w' h'=>⟨h'.1,by rw[hlen];exact qa6 hsel r' _ a' w' hB2 h'.2⟩) h.2.1
  ·exact wpOp_mono (fun a' w' h'=>⟨h'.1,by rw[hlen2];exact qa6 hsel r'' _ a' w' hB3 h'.2⟩) h.2.2
theorem qae {id:Nat} {Q:Exit→Act→World→Prop} {a:Act} {w:World} {l:List Oper} (S S2:World→Prop) (wk:List Nat) (order:Mx3) (hm:P.follows .mixedOrders=true)
  (hB:mixOk4 .any l.toArray wk order=true) (h:qay P l.toArray Q S S2 wk order a w.drew):(Code.region id l.toArray true).wp P Q a w:=by
 simp only[mixOk4,Bool.and_eq_true,decide_eq_true_eq]at hB;obtain⟨⟨hsel,hlen⟩,hB⟩:=hB;refine wp_region_any hm ?_;have:=qi5 _ _ _ _ (qa6 (md:=.any) hsel order _ a w.drew hB h);rw[hlen]at this;exact this
theorem qat {a:Act} {w:World} (h:Q .normal a w):qay P ops Q S S2 wk .nil a w:=h
theorem qaq {i:Nat} {r:Mx3} {a:Act} {w:World} {o:Oper} {v:Value} (ho:ops[i]?=some o) (hg:o.guard=none) (hw:wk.contains i=false) (hQ:∀c a' w',Q (.panic c) (a'.put o.dst v) w'→Q (.panic c) a' w')
  (hS:S w) (hS2:S2 w) (hv:∀w,S w→S2 w→(execOp a.eval o).run P w=.ok (.value v) w) (h:qay P ops Q S S2 wk r (a.put o.dst v) w):qay P ops Q S S2 wk (.held i r) a w:=
 ⟨⟨fun _=>hS,hS2⟩,o,v,ho,Or.inl ⟨by simp[Region.wanted,hg],fun w h=>hv w (h.1 hw) h.2⟩,hQ,h⟩
theorem mix4_weak {i:Nat} {r:Mx3} {a:Act} {w:World} {o:Oper} {v:Value} (ho:ops[i]?=some o) (hg:o.guard=none) (hw:wk.contains i=true) (hQ:∀c a' w',Q (.panic c) (a'.put o.dst v) w'→Q (.panic c) a' w')
  (hS2:S2 w) (hv:∀w,S2 w→(execOp a.eval o).run P w=.ok (.value v) w) (h:qay P ops Q S S2 wk r (a.put o.dst v) w):qay P ops Q S S2 wk (.held i r) a w:=
 ⟨⟨fun e=>absurd (hw.symm.trans e) (by decide),hS2⟩,o,v,ho,Or.inl ⟨by simp[Region.wanted,hg],fun w h=>hv w h.2⟩,hQ,h⟩
theorem qar {i:Nat} {r:Mx3} {a:Act} {w:World} {o:Oper} (ho:ops[i]?=some o) (hg:o.guard=none)
  (h:∀K:Act→World→Prop,(∀a' w',askR S S2 wk i w'∧qay P ops Q S S2 wk r a' w'→K a' w')→o.wp P a w K Q):qay P ops Q S S2 wk (.op i r) a w:=by
 show wpOp P ops Q i _ a w;unfold wpOp;simp only[ho,Region.wanted,hg,if_true];exact .inl (h _ fun a' w' h=>h)
theorem stkz {i:Nat} {r:Mx3} {a:Act} {w:World} {o:Oper} (v:Value) (ho:ops[i]?=some o) (hg:o.guard=none) (hw:wk.contains i=false) (hQ:∀c a' w',Q (.panic c) (a'.put o.dst v) w'→Q (.panic c) a' w')
  (hS:S w) (hv:∀w,S w→(execOp a.eval o).run P w=.ok (.value v) w) (h:qay P ops Q S (fun _=>True) wk r (a.put o.dst v) w):qay P ops Q S (fun _=>True) wk (.held i r) a w:=
 qaq ho hg hw hQ hS trivial (fun w h _=>hv w h) h
theorem mix4_two {i j:Nat} {r r':Mx3} {a:Act} {w:World} (h:qay P ops Q S S2 wk (.op i r) a w) (h':qay P ops Q S S2 wk (.op j r') a w):qay P ops Q S S2 wk (.two i j r r') a w:=⟨h,h'⟩
theorem mix4_three {i j k:Nat} {r r' r'':Mx3} {a:Act} {w:World} (h:qay P ops Q S S2 wk (.op i r) a w) (h':qay P ops Q S S2 wk (.op j r') a w) (h'':qay P ops Q S S2 wk (.op k r'') a w):qay P ops Q S S2 wk (.three i j k r r' r'') a w:=⟨h,h',h''⟩
theorem qbx {i:Nat} {r:Mx3} {a:Act} {w:World} {o:Oper} (ho:ops[i]?=some o) (hw:Region.wanted o (yielded ops a.tmps)=true)
  (h:∀K:Act→World→Prop,(∀a' w',askR S S2 wk i w'∧qay P ops Q S S2 wk r a' w'→K a' w')→o.wp P a w K Q):qay P ops Q S S2 wk (.op i r) a w:=by
 show wpOp P ops Q i _ a w;unfold wpOp;simp only[ho,hw,if_true];exact .inl (h _ fun a' w' h=>h)
end
end Go.Proofs.YtjhjoiplpmjepaaGreat
