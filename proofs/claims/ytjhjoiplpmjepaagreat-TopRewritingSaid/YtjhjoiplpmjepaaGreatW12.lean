/- Tinsw, Tdel, Texp1, Tput2 (joined by shake.py). -/
import Derived.Test.YtjhjoiplpmjepaaGreatW0
import Derived.Test.YtjhjoiplpmjepaaGreatW5
import Derived.Test.YtjhjoiplpmjepaaGreatW7
import Derived.Test.YtjhjoiplpmjepaaGreatW8
import Derived.Test.YtjhjoiplpmjepaaGreatW9
import Derived.Test.YtjhjoiplpmjepaaGreatW11
set_option maxRecDepth 100000
set_option linter.unusedVariables false
set_option linter.unusedSimpArgs false
set_option maxHeartbeats 8000000
namespace Go.Proofs.YtjhjoiplpmjepaaGreat
open Go.RowKit Go.Sort
theorem qni {w:World} {base g n cap sz:Nat} {te:TypeId} {cur:Array Value} {xs:List Value} (hg:w.heap[g]?=some (.cells cur te (0,0))) (hb:base≤g) (hnc:n≤cap) (hcm:cap≤maxLen) (hs:cur.size=cap*sz) (ht:cur.toList.take (n*sz)=xs) (hx:xs.length=n*sz) :
  w.ownsRow base te sz (.slice (some ⟨g,0,none⟩) n cap) n xs:=⟨hx,.inr ⟨g,cap,cur,rfl,hb,hg,hnc,hcm,hs,ht⟩⟩
theorem qcq {w:World} {base g:Nat} (hg:base≤g) (cur:Array Value):Below base w (w.setRow g cur):=⟨rfl,rfl,rfl,by simp,fun b hb=>setRow_other _ _ _ _ (by omega)⟩
theorem seg_low {l cs:List Value} {o:Nat} (h:o≤l.length):(l.take o++cs++l.drop (o+cs.length)).take o=l.take o:=by
 rw[List.append_assoc];exact List.take_left' (by rw[List.length_take];omega)
theorem seg_drop {l cs:List Value} {o:Nat} (h:o≤l.length):(l.take o++cs++l.drop (o+cs.length)).drop o=cs++l.drop (o+cs.length):=by
 rw[List.append_assoc];exact List.drop_left' (by rw[List.length_take];omega)
theorem qgz {l cs:List Value} {o:Nat} (h:o+cs.length≤l.length):(l.take o++cs++l.drop (o+cs.length)).length=l.length:=by
 simp only[List.length_append,List.length_take,List.length_drop];omega
theorem seg_shift {cur xs news:List Value} {a b m:Nat} (hb:b=a+news.length) (hx:xs.length=m) (ha:a≤m) (hl:m+news.length≤cur.length) (ht:cur.take m=xs) (c1:List Value)
  (h1:c1=cur.take b++xs.drop a++cur.drop (b+(xs.drop a).length)):(c1.take a++news++c1.drop (a+news.length)).take (m+news.length)=xs.take a++(news++xs.drop a):=by
 have hd:(xs.drop a).length=m - a:=by rw[List.length_drop,hx]
 have e1:c1.take a=xs.take a:=by
  rw[h1,List.append_assoc,List.take_append_of_le_length (by rw[List.length_take];omega),List.take_take,Nat.min_eq_left (by omega),←ht,List.take_take,Nat.min_eq_left ha]
 have e2:c1.drop (a+news.length)=xs.drop a++cur.drop (b+(xs.drop a).length):=by
  rw[h1,←hb];exact seg_drop (by omega)
 rw[e1,e2,List.append_assoc,←List.append_assoc news,←List.append_assoc];refine List.take_left' ?_;simp only[List.length_append,List.length_take,hd,hx];omega
theorem seg_fill {cur xs news:List Value} {a b m:Nat} (hb:b=a+news.length) (hx:xs.length=m) (ha:a≤m) (hl:m+news.length≤cur.length) (ht:cur.take a=xs.take a) (c1:List Value)
  (h1:c1=cur.take a++news++cur.drop (a+news.length)):(c1.take b++xs.drop a++c1.drop (b+(xs.drop a).length)).take (m+news.length)=xs.take a++(news++xs.drop a):=by
 have hd:(xs.drop a).length=m - a:=by rw[List.length_drop,hx]
 have e1:c1.take b=xs.take a++news:=by
  rw[h1,ht];refine List.take_left' ?_;rw[List.length_append,List.length_take];omega
 rw[e1,List.append_assoc (xs.take a)];refine List.take_left' ?_;simp only[List.length_append,List.length_take,hd,hx];omega
def qer (base n i:Nat) (v:Value) (xs news:List Value) (w:World) (e:Ending) (w':World):Prop:=
 ∃v',e=.returned v'∧w'.ownsRow base 163 5 v' (n+1) (xs.take (i*5)++(news++xs.drop (i*5)))∧GrewV base w w' v v'
theorem ins_end (w:World) (base n B:Nat) (v:Value) (xs news:List Value) (hrow:w.ownsRow base 163 5 v n xs) (hbase:base≤w.heap.size) (hn:n≤100000)
  (hB:w.heap[B]?=some (.cells news.toArray 163 (0,0))) (hl:news.length=5) (h1:∀u∈news,u.oneCell'=true) :
  Calls Tryz.prog 182 #[v,.int .i64 n,.slice (some ⟨B,0,none⟩) 1 1] w (qer base n n v xs news w):=by
 obtain⟨v',w',hap,ho,hg⟩:=qoj (m:=1) (c:=1) (A:=some ⟨B,0,none⟩) (vs:=news) (P:=fun _=>True) qln hrow hbase
  ⟨by rw[hl],Nat.le_refl _,by unfold maxLen;omega,.inr ⟨B,0,rfl,trivial,fun j u hj=>by
   rw[Nat.zero_add];unfold World.cell?;rw[hB];simpa using hj⟩⟩ h1 (by unfold maxLen;omega) (by omega)
 have e1:xs.take (n*5)=xs:=List.take_of_length_le (by rw[hrow.1];exact Nat.le_refl _);have e2:xs.drop (n*5)=[]:=List.drop_of_length_le (by rw[hrow.1];exact Nat.le_refl _);have HR:Hid (qer base n n v xs news w (.returned v') w'):=hdzz ⟨v',rfl,by rw[e1,e2,List.append_nil];exact ho,hg⟩;clear ho hg e1 e2 h1 hl hB;rcases hrow.2 with⟨rfl,rfl⟩|⟨g,cap,cur,rfl,-,-,hnc,hcm,-⟩
 ·clear hrow;go_enter Tryz.func182,Tryz.ntmps182
  go_wp2_with (at_builtin;refine qag rfl _ _ rfl rfl rfl hap ?_)
  go_ret
  exact HR.out
 ·clear hrow;unfold maxLen at hcm;have i1:(n:Int)≤(cap:Int):=by omega
  go_enter Tryz.func182,Tryz.ntmps182
  by_cases hcn:cap=n
  ·subst hcn;go_wp2_with (at_builtin;refine qag rfl _ _ rfl rfl rfl hap ?_)
   go_ret
   exact HR.out
  ·go_wp2_with (at_builtin;refine qag rfl _ _ rfl rfl rfl hap ?_)
   go_ret
   exact HR.out
theorem ins_make (w:World) (base n i g B:Nat) (xs news:List Value) (hrow:w.ownsRow base 163 5 (.slice (some ⟨g,0,none⟩) n n) n xs) (hbase:base≤w.heap.size) (hn:n≤100000) (hi:i<n) (hx1:∀u∈xs,u.oneCell'=true)
  (hB:w.heap[B]?=some (.cells news.toArray 163 (0,0))) (hl:news.length=5) (h1:∀u∈news,u.oneCell'=true) :
  Calls Tryz.prog 182 #[.slice (some ⟨g,0,none⟩) n n,.int .i64 i,.slice (some ⟨B,0,none⟩) 1 1] w (qer base n i (.slice (some ⟨g,0,none⟩) n n) xs news w):=by
 have mixed:=mixz;obtain⟨k,hk⟩:∃k,k=n+1 - i:=⟨_,rfl⟩;have hap:∃c w',∃cur:Array Value,(∀ty,(Builtin.append_ #[129,3] ty #[.slice (some ⟨g,0,none⟩) i n,.int .i64 k]).run Tryz.prog w=.ok (.slice (some ⟨w.heap.size,0,none⟩) (i+k) c) w')∧i+k≤c∧c≤maxLen∧
   w'.heap[w.heap.size]?=some (.cells cur 163 (0,0))∧cur.size=c*5∧cur.toList.take (i*5)=xs.take (i*5)∧Below w.heap.size w w':=by
  obtain⟨c,w',cur,h1,h2⟩:=qia qln w 3 0 Tryz.underlying3 hrow i k (by omega) (by omega) (by omega) (by omega);exact⟨c,w',cur,fun _=>h1,h2⟩
 obtain⟨c,w1,cur,hap,hc1,hc2,hcur,hcs,hct,hb1⟩:=hap;have hik:i+k=n+1:=by omega
 rw[hik]at hap hc1;have hs1:=hb1.size;have hBlt:=(sltz hB);obtain⟨W0,hW0⟩:∃W0,W0=w.heap.size:=⟨_,rfl⟩;rw[←hW0]at hap hcur hBlt;have hxl:=hrow.1;have hgl:=(hrow.lt g rfl);obtain⟨c1,hc1e⟩:∃c1:List Value,c1=cur.toList.take (i*5)++news++cur.toList.drop (i*5+news.length):=⟨_,rfl⟩;have hc1l:c1.length=c*5:=by rw[hc1e,qgz (by rw[hl,Array.length_toList,hcs];omega),Array.length_toList,hcs]
 obtain⟨w2,hw2⟩:∃w2,w2=w1.setRow W0 c1.toArray:=⟨_,rfl⟩;have hcp1:∀ty dc,(Builtin.copy_ #[129,129] ty #[.slice (some ⟨W0,i*5,none⟩) (n+1 - i) dc,.slice (some ⟨B,0,none⟩) 1 1]).run Tryz.prog w1=.ok (goInt 1) w2:=fun ty dc=>by
  have h:=qdk qln w1 ty W0 (i*5) (n+1 - i) dc ⟨B,0,none⟩ 1 1 cur _ news 1 hcur (by simp only[Nat.min_def];split<;>omega) (by rw[hl])
   (fun j u hj=>by
    have e:(⟨B,0,none⟩:Addr).add j=⟨B,j,none⟩:=by unfold Addr.add;split<;>simp_all
    rw[e];unfold World.cell?;rw[hb1.block B (by omega),hB];simpa using hj) (by rw[hl,hcs];omega) h1
  rw[h,hw2,hc1e];rfl
 have hcur2:w2.heap[W0]?=some (.cells c1.toArray 163 (0,0)):=by rw[hw2];exact setRow_heap w1 W0 cur _ _ _ hcur
 have hb2:Below w.heap.size w w2:=by rw[hw2,hW0];exact hb1.trans (qcq (Nat.le_refl _) _)
 have hdl:(xs.drop (i*5)).length=(n - i)*5:=by rw[List.length_drop,hxl];omega
 have hgw2:∀j u,(xs.drop (i*5))[j]?=some u→w2.drew.cell? ((⟨g,i*5,none⟩:Addr).add j)=some u:=fun j u hj=>by
  have e:(⟨g,i*5,none⟩:Addr).add j=⟨g,i*5+j,none⟩:=by unfold Addr.add;split<;>simp_all
  rw[e];show w2.cell? _=_;rw[hb2.cell (by show g<_;omega)];have h:=hrow.cells (g:=g) rfl (i*5+j) u (by rw[List.getElem?_drop]at hj;exact hj);have e2:(⟨g,0,none⟩:Addr).add (i*5+j)=⟨g,i*5+j,none⟩:=by unfold Addr.add;split<;>simp_all
  rw[e2]at h;exact h
 obtain⟨w3,hw3⟩:∃w3,w3=w2.drew.setRow W0 (c1.take ((i+1)*5)++xs.drop (i*5)++c1.drop ((i+1)*5+(xs.drop (i*5)).length)).toArray:=⟨_,rfl⟩;have hcp2:∀ty dc sc,(Builtin.copy_ #[129,129] ty #[.slice (some ⟨W0,(i+1)*5,none⟩) (n - i) dc,.slice (some ⟨g,i*5,none⟩) (n - i) sc]).run Tryz.prog w2.drew=.ok (goInt ((n - i:Nat))) w3:=fun ty dc sc=>by
  have h:=qdk qln w2.drew ty W0 ((i+1)*5) (n - i) dc ⟨g,i*5,none⟩ (n - i) sc c1.toArray _ (xs.drop (i*5)) (n - i) hcur2 (by simp) hdl hgw2
   (by rw[hdl,List.size_toArray,hc1l];omega) (fun u hu=>hx1 u (List.mem_of_mem_drop hu))
  rw[h,hw3]
 have hcur3:w3.heap[W0]?=some (.cells (c1.take ((i+1)*5)++xs.drop (i*5)++c1.drop ((i+1)*5+(xs.drop (i*5)).length)).toArray 163 (0,0)):=by rw[hw3];exact setRow_heap w2.drew W0 c1.toArray _ _ _ hcur2
 have hb3:Below w.heap.size w w3:=by rw[hw3,hW0];exact hb2.drew.trans (qcq (Nat.le_refl _) _)
 have hown:w3.ownsRow base 163 5 (.slice (some ⟨W0,0,none⟩) (n+1) c) (n+1) (xs.take (i*5)++(news++xs.drop (i*5))):=by
  refine qni hcur3 (by omega) hc1 hc2 ?_ ?_ ?_
  ·rw[List.size_toArray,qgz (by rw[hdl,hc1l];omega),hc1l]
  ·have h:=seg_fill (cur:=cur.toList) (xs:=xs) (news:=news) (a:=i*5) (b:=(i+1)*5) (m:=n*5) (by rw[hl];omega) hxl (by omega) (by rw[hl,Array.length_toList,hcs];omega) hct c1 hc1e;rw[hl,show n*5+5=(n+1)*5 by omega]at h;exact h
  ·simp only[List.length_append,List.length_take,hdl,hl,hxl];omega
 have HR:Hid (qer base n i (.slice (some ⟨g,0,none⟩) n n) xs news w (.returned (.slice (some ⟨W0,0,none⟩) (n+1) c)) w3):=
  hdzz ⟨_,rfl,hown,hb3.mono hbase,fun k hk _=>hb3.block k hk,.inr (fun k hk=>by have e:W0=k:=Option.some.inj hk;omega),hb3.size⟩
 have HK:=hdzz hk;have hkI:(n:Int)+1 - (i:Int)=(k:Int):=by omega
 have hk0:(0:Int)≤(i:Int):=Int.natCast_nonneg _;have hin:(i:Int)≤(n:Int):=by omega
 have hcI:(n:Int)+1≤(c:Int):=by omega
 clear hown hcur3 hgw2 hdl hcur2 hb2 hb3 hc1l hcur hcs hct hrow hxl hk hw2 hw3 hb1 hB h1 hx1 hl hc1e;unfold maxLen at hc2;go_enter Tryz.func182,Tryz.ntmps182
 have HW0:=hdzz hW0;clear hW0;have hi1:(i:Int)+1≤(n:Int)+1:=by omega
 have hwr:IntKind.i64.wrap ((i:Int)+1)=(i:Int)+1:=by rw[IntKind.wrap_i64];omega
 have hpos:(0:Int)≤(i:Int)+1:=by omega
 have hne1:¬(c=i+1):=by omega
 have hne2:¬(n=i):=by omega
 go_wp2_with (first|(at_builtin;refine qd4 rfl _ _ rfl rfl rfl hap ?_)|(at_builtin;refine qes _ rfl _ _ _ _ rfl _ _ rfl rfl (hcp1 _ _) ?_))
 refine qae (fun _=>True) (fun _=>True) [] (.held 0 (.held 1 (.held 2 (.held 3 (.held 4 (.held 5 (.held 6 (.held 7 (.op 8 .nil))))))))) mixed (by kernel_rfl) ?_;refine stkz (.slice (some ⟨W0,0,none⟩) (n+1) c) rfl rfl rfl (fun _ _ _ h=>h) trivial (fun Y hY=>by
   (try simp only[Act.put]);go_simp) ?_
 refine stkz (.int .i64 i) rfl rfl rfl (fun _ _ _ h=>h) trivial (fun Y hY=>by
   (try simp only[Act.put]);go_simp) ?_
 refine stkz (.int .i64 1) rfl rfl rfl (fun _ _ _ h=>h) trivial (fun Y hY=>by
   (try simp only[Act.put]);go_simp) ?_
 refine stkz (.int .i64 ((i:Int)+1)) rfl rfl rfl (fun _ _ _ h=>h) trivial (fun Y hY=>by
   (try simp only[Act.put]);go_simp) ?_
 refine stkz (.slice (some ⟨W0,(i+1)*5,none⟩) (n - i) (c - (i+1))) rfl rfl rfl (fun _ _ _ h=>h) trivial (fun Y hY=>by
   (try simp only[Act.put]);go_simp) ?_
 refine stkz (.slice (some ⟨g,0,none⟩) n n) rfl rfl rfl (fun _ _ _ h=>h) trivial (fun Y hY=>by
   (try simp only[Act.put]);go_simp) ?_
 refine stkz (.int .i64 i) rfl rfl rfl (fun _ _ _ h=>h) trivial (fun Y hY=>by
   (try simp only[Act.put]);go_simp) ?_
 refine stkz (.slice (some ⟨g,i*5,none⟩) (n - i) (n - i)) rfl rfl rfl (fun _ _ _ h=>h) trivial (fun Y hY=>by
   (try simp only[Act.put]);go_simp) ?_
 simp only[Act.put,fsa,fsb,fsc,fsd,fse,fsf];refine qar rfl rfl (fun K hK=>?_);refine qeu _ _ _ _ _ rfl _ _ rfl rfl (hcp2 _ _ _) ?_;refine hK _ _ ⟨⟨fun _=>trivial,trivial⟩,qat ?_⟩;go_wp2_with fail
 go_ret
 exact HR.out
theorem ins_room (w:World) (base n cap i g B:Nat) (xs news:List Value) (hrow:w.ownsRow base 163 5 (.slice (some ⟨g,0,none⟩) n cap) n xs) (hbase:base≤w.heap.size) (hn:n≤100000) (hi:i<n) (hroom:n+1≤cap) (hx1:∀u∈xs,u.oneCell'=true)
  (hgB:g≠B) (hB:w.heap[B]?=some (.cells news.toArray 163 (0,0))) (hl:news.length=5) (h1:∀u∈news,u.oneCell'=true) :
  Calls Tryz.prog 182 #[.slice (some ⟨g,0,none⟩) n cap,.int .i64 i,.slice (some ⟨B,0,none⟩) 1 1] w (qer base n i (.slice (some ⟨g,0,none⟩) n cap) xs news w):=by
 have mixed:=mixz;rcases hrow.2 with⟨hv,_⟩|⟨g',cap',cur,hv,hb,hg,hnc,hcm,hs,ht⟩
 ·cases hv
 injection hv with e1 e2 e3;injection e1 with e1;injection e1 with e1;subst e1 e3;have hxl:=hrow.1;have hBlt:=(sltz hB);have hglt:=(sltz hg);have hcurl:cur.toList.length=cap*5:=by rw[Array.length_toList,hs]
 have hdl:(xs.drop (i*5)).length=(n - i)*5:=by rw[List.length_drop,hxl];omega
 obtain⟨c1,hc1e⟩:∃c1:List Value,c1=cur.toList.take ((i+1)*5)++xs.drop (i*5)++cur.toList.drop ((i+1)*5+(xs.drop (i*5)).length):=⟨_,rfl⟩;have hc1l:c1.length=cap*5:=by rw[hc1e,qgz (by rw[hdl,hcurl];omega),hcurl]
 obtain⟨w2,hw2⟩:∃w2,w2=w.drew.setRow g c1.toArray:=⟨_,rfl⟩;have hcp1:∀ty dc sc,(Builtin.copy_ #[129,129] ty #[.slice (some ⟨g,(i+1)*5,none⟩) (n - i) dc,.slice (some ⟨g,i*5,none⟩) (n+1 - i) sc]).run Tryz.prog w.drew=.ok (goInt ((n - i:Nat))) w2:=fun ty dc sc=>by
  have h:=qdk qln w.drew ty g ((i+1)*5) (n - i) dc ⟨g,i*5,none⟩ (n+1 - i) sc cur _ (xs.drop (i*5)) (n - i) hg (by simp only[Nat.min_def];split<;>omega) hdl
   (fun j u hj=>by
    have e:(⟨g,i*5,none⟩:Addr).add j=⟨g,i*5+j,none⟩:=by unfold Addr.add;split<;>simp_all
    rw[e];show w.cell? _=_;have h:=hrow.cells (g:=g) rfl (i*5+j) u (by rw[List.getElem?_drop]at hj;exact hj);have e2:(⟨g,0,none⟩:Addr).add (i*5+j)=⟨g,i*5+j,none⟩:=by unfold Addr.add;split<;>simp_all
    rw[e2]at h;exact h) (by rw[hdl,hs];omega) (fun u hu=>hx1 u (List.mem_of_mem_drop hu))
  rw[h,hw2,hc1e]
 have hcur2:w2.heap[g]?=some (.cells c1.toArray 163 (0,0)):=by rw[hw2];exact setRow_heap w.drew g cur _ _ _ hg
 have hblk2:∀k,k≠g→w2.heap[k]?=w.heap[k]?:=fun k hk=>by rw[hw2,setRow_other _ _ _ _ hk];rfl
 have hs2:w2.heap.size=w.heap.size:=by rw[hw2];simp
 have hb2:Below base w w2:=by rw[hw2];exact(Below.refl _ _).drew.trans (qcq hb _)
 obtain⟨w3,hw3⟩:∃w3,w3=w2.setRow g (c1.take (i*5)++news++c1.drop (i*5+news.length)).toArray:=⟨_,rfl⟩;have hcp2:∀ty dc,(Builtin.copy_ #[129,129] ty #[.slice (some ⟨g,i*5,none⟩) (n+1 - i) dc,.slice (some ⟨B,0,none⟩) 1 1]).run Tryz.prog w2=.ok (goInt 1) w3:=fun ty dc=>by
  have h:=qdk qln w2 ty g (i*5) (n+1 - i) dc ⟨B,0,none⟩ 1 1 c1.toArray _ news 1 hcur2 (by simp only[Nat.min_def];split<;>omega) (by rw[hl])
   (fun j u hj=>by
    have e:(⟨B,0,none⟩:Addr).add j=⟨B,j,none⟩:=by unfold Addr.add;split<;>simp_all
    rw[e];unfold World.cell?;rw[hblk2 B (Ne.symm hgB),hB];simpa using hj) (by rw[hl,List.size_toArray,hc1l];omega) h1
  rw[h,hw3];rfl
 have hcur3:w3.heap[g]?=some (.cells (c1.take (i*5)++news++c1.drop (i*5+news.length)).toArray 163 (0,0)):=by rw[hw3];exact setRow_heap w2 g c1.toArray _ _ _ hcur2
 have hblk3:∀k,k≠g→w3.heap[k]?=w.heap[k]?:=fun k hk=>by rw[hw3,setRow_other _ _ _ _ hk];exact hblk2 k hk
 have hs3:w3.heap.size=w.heap.size:=by rw[hw3];simpa using hs2
 have hb3:Below base w w3:=by rw[hw3];exact hb2.trans (qcq hb _)
 have hown:w3.ownsRow base 163 5 (.slice (some ⟨g,0,none⟩) (n+1) cap) (n+1) (xs.take (i*5)++(news++xs.drop (i*5))):=by
  refine qni hcur3 hb hroom hcm ?_ ?_ ?_
  ·rw[List.size_toArray,qgz (by rw[hl,hc1l];omega),hc1l]
  ·have h:=seg_shift (cur:=cur.toList) (xs:=xs) (news:=news) (a:=i*5) (b:=(i+1)*5) (m:=n*5) (by rw[hl];omega) hxl (by omega) (by rw[hl,hcurl];omega) ht c1 hc1e;rw[show n*5+news.length=(n+1)*5 by rw[hl];omega]at h;exact h
  ·simp only[List.length_append,List.length_take,hdl,hl,hxl];omega
 have HR:Hid (qer base n i (.slice (some ⟨g,0,none⟩) n cap) xs news w (.returned (.slice (some ⟨g,0,none⟩) (n+1) cap)) w3):=
  hdzz ⟨_,rfl,hown,hb3,fun k _ hne=>hblk3 k (fun e=>hne (by rw[e];rfl)),.inl rfl,Nat.le_of_eq hs3.symm⟩
 have hov:∀lb cb,(callFunc 187 #[.slice (some ⟨B,0,none⟩) 1 1,.slice (some ⟨g,(i+1)*5,none⟩) lb cb]).run Tryz.prog w=.ok (.value (.bool false)) w:=fun lb cb=>by
  rw[run_callFunc_extern Tryz.func187 (by kernel_rfl) (by kernel_rfl) (by kernel_rfl) (e:=Extern.SlicesOverlaps.overlaps #[129,129] #[4]) (by kernel_rfl),
   Lib.run_overlaps_apart w 129 4 163 Tryz.underlying129 5 (fun _=>by kernel_rfl) ⟨B,0,none⟩ ⟨g,(i+1)*5,none⟩ 1 1 lb cb (Ne.symm hgB) 163 163 5 (cap*5) (by simp[World.shape?,hB,hl]) (by simp[World.shape?,hg,hs]) (by omega) (by simp[World.frozen?,hB]) (by simp[World.frozen?,hB])]
  rfl
 unfold maxLen at hcm;have hk0:(0:Int)≤(i:Int):=Int.natCast_nonneg _;have hin:(i:Int)≤(n:Int):=by omega
 have hcI:(n:Int)+1≤(cap:Int):=by omega
 have hcI2:(n:Int)≤(cap:Int):=by omega
 have hcI3:¬((cap:Int)<(n:Int)+1):=by omega
 have hi1:(i:Int)+1≤(n:Int)+1:=by omega
 have hwr:IntKind.i64.wrap ((i:Int)+1)=(i:Int)+1:=by rw[IntKind.wrap_i64];omega
 have hni1:¬((n:Int)+1<(i:Int)):=by omega
 have hwr2:IntKind.i64.wrap ((n:Int)+1)=(n:Int)+1:=by rw[IntKind.wrap_i64];omega
 have hpos:(0:Int)≤(i:Int)+1:=by omega
 have hne1:¬(cap=i+1):=by omega
 have hne2:¬(cap=i):=by omega
 have hne3:¬((i:Int)=(n:Int)):=by omega
 have htn:((n:Int)+1).toNat=n+1:=by omega
 clear hown hcur3 hblk2 hblk3 hdl hcur2 hb2 hb3 hc1l hs hs2 hs3 ht hrow hxl hw2 hw3 hB h1 hx1 hl hc1e hg hcurl;go_enter Tryz.func182,Tryz.ntmps182
 go_wp2_with (simp only[hov])
 refine qae (fun _=>True) (fun _=>True) [] (.held 0 (.held 1 (.held 2 (.held 3 (.held 4 (.held 5 (.held 6 (.held 7 (.op 8 .nil))))))))) mixed (by kernel_rfl) ?_;refine stkz (.slice (some ⟨g,0,none⟩) (n+1) cap) rfl rfl rfl (fun _ _ _ h=>h) trivial (fun Y hY=>by
   (try simp only[Act.put]);go_simp) ?_
 refine stkz (.int .i64 i) rfl rfl rfl (fun _ _ _ h=>h) trivial (fun Y hY=>by
   (try simp only[Act.put]);go_simp) ?_
 refine stkz (.int .i64 1) rfl rfl rfl (fun _ _ _ h=>h) trivial (fun Y hY=>by
   (try simp only[Act.put]);go_simp) ?_
 refine stkz (.int .i64 ((i:Int)+1)) rfl rfl rfl (fun _ _ _ h=>h) trivial (fun Y hY=>by
   (try simp only[Act.put]);go_simp) ?_
 refine stkz (.slice (some ⟨g,(i+1)*5,none⟩) (n - i) (cap - (i+1))) rfl rfl rfl (fun _ _ _ h=>h) trivial (fun Y hY=>by
   (try simp only[Act.put]);go_simp) ?_
 refine stkz (.slice (some ⟨g,0,none⟩) (n+1) cap) rfl rfl rfl (fun _ _ _ h=>h) trivial (fun Y hY=>by
   (try simp only[Act.put]);go_simp) ?_
 refine stkz (.int .i64 i) rfl rfl rfl (fun _ _ _ h=>h) trivial (fun Y hY=>by
   (try simp only[Act.put]);go_simp) ?_
 refine stkz (.slice (some ⟨g,i*5,none⟩) (n+1 - i) (cap - i)) rfl rfl rfl (fun _ _ _ h=>h) trivial (fun Y hY=>by
   (try simp only[Act.put]);go_simp) ?_
 simp only[Act.put,fsa,fsb,fsc,fsd,fse,fsf];refine qar rfl rfl (fun K hK=>?_);refine qeu _ _ _ _ _ rfl _ _ rfl rfl (hcp1 _ _ _) ?_;refine hK _ _ ⟨⟨fun _=>trivial,trivial⟩,qat ?_⟩;go_wp2_with (at_builtin;refine qes _ rfl _ _ _ _ rfl _ _ rfl rfl (hcp2 _ _) ?_)
 go_ret
 exact HR.out
theorem insW_any (w:World) (base n i B:Nat) (v:Value) (xs news:List Value) (hrow:w.ownsRow base 163 5 v n xs) (hbase:base≤w.heap.size) (hn:n≤100000) (hi:i≤n) (hx1:∀u∈xs,u.oneCell'=true)
  (hne:v.ownBlock≠some B) (hB:w.heap[B]?=some (.cells news.toArray 163 (0,0))) (hl:news.length=5) (h1:∀u∈news,u.oneCell'=true) :
  Calls Tryz.prog 182 #[v,.int .i64 i,.slice (some ⟨B,0,none⟩) 1 1] w (qer base n i v xs news w):=by
 rcases Nat.eq_or_lt_of_le hi with rfl|hi
 ·exact ins_end w base i B v xs news hrow hbase hn hB hl h1
 ·rcases hrow.2 with⟨rfl,rfl⟩|⟨g,cap,cur,rfl,-,-,hnc,-,-⟩
  ·omega
  ·rcases Nat.eq_or_lt_of_le hnc with rfl|hnc
   ·exact ins_make w base n i g B xs news hrow hbase hn hi hx1 hB hl h1
   ·exact ins_room w base n cap i g B xs news hrow hbase hn hi hnc hx1 (fun e=>hne (by rw[e];rfl)) hB hl h1
section
variable {ts te:TypeId} {sz by_:Nat} {z:Value}
theorem qgd (T:SlT ts te sz by_ z) (w:World) (ty:TypeId) (g i cap m c:Nat) (a:Addr) (cur:Array Value) (t:TypeId) (news:List Value) (hg:w.heap[g]?=some (.cells cur t (0,0))) (hroom:i+m≤cap) (hl:news.length=m*sz)
  (hsrc:∀j v,news[j]?=some v→w.cell? (a.add j)=some v) (hfit:i*sz+news.length≤cur.size) (h1:∀v∈news,v.oneCell'=true) :
  (Builtin.append_ #[ts,ts] ty #[.slice (some ⟨g,0,none⟩) i cap,.slice (some a) m c]).run Tryz.prog w=.ok (.slice (some ⟨g,0,none⟩) (i+m) cap) (w.setRow g (cur.toList.take (i*sz)++news++cur.toList.drop (i*sz+news.length)).toArray):=by
 obtain⟨i0,hi0,hz0,hz1,hz2⟩:=info_parts T.info;have hld:=run_loadCells_list (P:=Tryz.prog) w a news hsrc;have hst:=run_storeCells_at Tryz.prog g (i*sz) t news 0 cur w hg (by simpa using hfit) h1;have hadd:(⟨g,0,none⟩:Addr).add (i*sz)=⟨g,i*sz,none⟩:=by unfold Addr.add;split<;>simp_all
 rw[hl]at hld;simp[Builtin.append_,run_underlying T.und,Builtin.lenOf,Builtin.firstCells,sizeOf,typeInfo,hi0,hz1,hroom,hadd,hld,hst]
theorem qkf (T:SlT ts te sz by_ z) (hzv:∀w,(zeroValue te).run Tryz.prog w=.ok z w) (hz1:∀u∈z.cells.toList,u.oneCell'=true) (w:World) (ty:TypeId) (g o c:Nat) (cur:Array Value) (t:TypeId) (hg:w.heap[g]?=some (.cells cur t (0,0))) (hfit:o+sz≤cur.size) :
  (Builtin.clear_ #[ts] ty #[.slice (some ⟨g,o,none⟩) 1 c]).run Tryz.prog w=.ok (.tuple #[]) (w.setRow g (cur.toList.take o++z.cells.toList++cur.toList.drop (o+sz)).toArray):=by
 have hzl:(Builtin.zeroCells z.cells 1).toList=z.cells.toList:=by
  have hp:=T.pos;have hc:=T.cells;apply List.ext_getElem?;intro j;simp only[Builtin.zeroCells,Array.toList_map,Array.toList_range,List.getElem?_map,Nat.one_mul];by_cases hj:j<z.cells.size
  ·rw[List.getElem?_range hj,List.getElem?_eq_getElem (by simpa using hj)];simp[Nat.mod_eq_of_lt hj,hj]
  ·rw[List.getElem?_eq_none (by simpa using hj),List.getElem?_eq_none (by simpa using hj)];rfl
 have hst:=run_storeCells_at Tryz.prog g o t (Builtin.zeroCells z.cells 1).toList 0 cur w hg (by rw[hzl,Array.length_toList,T.cells];simpa using hfit) (by rw[hzl];exact hz1);have hsz:z.cells.toList.length=sz:=by rw[Array.length_toList,T.cells]
 rw[hzl,hsz]at hst;simp only[Builtin.clear_];simp[run_underlying T.und,hzv,hzl,hst]
end
def Deleted (base n i:Nat) (v:Value) (xs:List Value) (w:World) (e:Ending) (w':World):Prop:=
 ∃v',e=.returned v'∧w'.ownsRow base 163 5 v' (n - 1) (xs.take (i*5)++xs.drop ((i+1)*5))∧GrewV base w w' v v'
theorem zeroPow (w:World):(zeroValue 163).run Tryz.prog w=.ok (.agg #[.int .i64 0,.string ⟨#[]⟩,.int .i64 0,.slice none 0 0,.int .i64 0]) w:=by kernel_rfl
theorem delW_any (w:World) (base n i:Nat) (v:Value) (xs:List Value) (hrow:w.ownsRow base 163 5 v n xs) (hbase:base≤w.heap.size) (hn:n≤100000) (hi:i<n) (hx1:∀u∈xs,u.oneCell'=true) :
  Calls Tryz.prog 183 #[v,.int .i64 i,.int .i64 ((i:Int)+1)] w (Deleted base n i v xs w):=by
 have mixed:=mixz;rcases hrow.2 with⟨hv,h0⟩|⟨g,cap,cur,rfl,hb,hg,hnc,hcm,hs,ht⟩
 ·omega
 have hxl:=hrow.1;have hglt:=(sltz hg);have hcurl:cur.toList.length=cap*5:=by rw[Array.length_toList,hs]
 have hdl:(xs.drop ((i+1)*5)).length=(n - i - 1)*5:=by rw[List.length_drop,hxl];omega
 obtain⟨A2,hA2⟩:∃A:Option Addr,A=if cap=i+1 then some ⟨g,0,none⟩else some ⟨g,(i+1)*5,none⟩:=⟨_,rfl⟩
 obtain⟨c1,hc1e⟩:∃c1:List Value,c1=cur.toList.take (i*5)++xs.drop ((i+1)*5)++cur.toList.drop (i*5+(xs.drop ((i+1)*5)).length):=⟨_,rfl⟩;have hc1l:c1.length=cap*5:=by rw[hc1e,qgz (by rw[hdl,hcurl];omega),hcurl]
 obtain⟨w2,hw2⟩:∃w2,w2=w.drew.setRow g c1.toArray:=⟨_,rfl⟩;have hap:∀ty c,(Builtin.append_ #[129,129] ty #[.slice (some ⟨g,0,none⟩) i cap,.slice A2 (n - (i+1)) c]).run Tryz.prog w.drew=.ok (.slice (some ⟨g,0,none⟩) (n - 1) cap) w2:=fun ty c=>by
  have key:∀a:Addr,(∀j u,(xs.drop ((i+1)*5))[j]?=some u→w.drew.cell? (a.add j)=some u)→(Builtin.append_ #[129,129] ty #[.slice (some ⟨g,0,none⟩) i cap,.slice (some a) (n - (i+1)) c]).run Tryz.prog w.drew=.ok (.slice (some ⟨g,0,none⟩) (n - 1) cap) w2:=fun a ha=>by
   have h:=qgd qln w.drew ty g i cap (n - (i+1)) c a cur _ (xs.drop ((i+1)*5)) hg (by omega) (by rw[hdl];omega) ha (by rw[hdl,hs];omega) (fun u hu=>hx1 u (List.mem_of_mem_drop hu));rw[h,hw2,hc1e,show i+(n - (i+1))=n - 1 by omega]
  rw[hA2]
  split
  ·rename_i hce
   refine key _ (fun j u hj=>?_);rw[List.drop_of_length_le (by rw[hxl];omega)]at hj;simp at hj
  ·refine key _ (fun j u hj=>?_);have e:(⟨g,(i+1)*5,none⟩:Addr).add j=⟨g,(i+1)*5+j,none⟩:=by unfold Addr.add;split<;>simp_all
   rw[e];show w.cell? _=_;have h:=hrow.cells (g:=g) rfl ((i+1)*5+j) u (by rw[List.getElem?_drop]at hj;exact hj);have e2:(⟨g,0,none⟩:Addr).add ((i+1)*5+j)=⟨g,(i+1)*5+j,none⟩:=by unfold Addr.add;split<;>simp_all
   rw[e2]at h;exact h
 have hcur2:w2.heap[g]?=some (.cells c1.toArray 163 (0,0)):=by rw[hw2];exact setRow_heap w.drew g cur _ _ _ hg
 have hblk2:∀k,k≠g→w2.heap[k]?=w.heap[k]?:=fun k hk=>by rw[hw2,setRow_other _ _ _ _ hk];rfl
 have hs2:w2.heap.size=w.heap.size:=by rw[hw2];simp
 have hb2:Below base w w2:=by rw[hw2];exact(Below.refl _ _).drew.trans (qcq hb _)
 obtain⟨zs,hzs⟩:∃zs:List Value,zs=(Value.agg #[.int .i64 0,.string ⟨#[]⟩,.int .i64 0,.slice none 0 0,.int .i64 0]).cells.toList:=⟨_,rfl⟩;have hzl:zs.length=5:=by rw[hzs];rfl
 obtain⟨c2,hc2e⟩:∃c2:List Value,c2=c1.take ((n - 1)*5)++zs++c1.drop ((n - 1)*5+zs.length):=⟨_,rfl⟩;have hc2l:c2.length=cap*5:=by rw[hc2e,qgz (by rw[hzl,hc1l];omega),hc1l]
 obtain⟨w3,hw3⟩:∃w3,w3=w2.setRow g c2.toArray:=⟨_,rfl⟩;have hcl:∀ty c,(Builtin.clear_ #[129] ty #[.slice (some ⟨g,(n - 1)*5,none⟩) 1 c]).run Tryz.prog w2=.ok (.tuple #[]) w3:=fun ty c=>by
  have h:=qkf qln zeroPow (by rw[←hzs];intro u hu;rw[hzs]at hu;simp only[Value.cells,List.mem_cons,List.not_mem_nil,or_false]at hu;rcases hu with rfl|rfl|rfl|rfl|rfl<;>rfl) w2 ty g ((n - 1)*5) c c1.toArray _ hcur2 (by rw[List.size_toArray,hc1l];omega);rw[h,hw3,hc2e,hzl,hzs]
 have hcur3:w3.heap[g]?=some (.cells c2.toArray 163 (0,0)):=by rw[hw3];exact setRow_heap w2 g c1.toArray _ _ _ hcur2
 have hblk3:∀k,k≠g→w3.heap[k]?=w.heap[k]?:=fun k hk=>by rw[hw3,setRow_other _ _ _ _ hk];exact hblk2 k hk
 have hs3:w3.heap.size=w.heap.size:=by rw[hw3];simpa using hs2
 have hb3:Below base w w3:=by rw[hw3];exact hb2.trans (qcq hb _)
 have hown:w3.ownsRow base 163 5 (.slice (some ⟨g,0,none⟩) (n - 1) cap) (n - 1) (xs.take (i*5)++xs.drop ((i+1)*5)):=by
  have hil:(i*5)≤c1.length:=by rw[hc1l];omega
  refine qni hcur3 hb (by omega) hcm ?_ ?_ ?_
  ·rw[List.size_toArray,hc2l]
  ·show c2.take ((n - 1)*5)=_;rw[hc2e,seg_low (by rw[hc1l];omega),hc1e,←ht,List.take_take,Nat.min_eq_left (by omega)];refine List.take_left' ?_;rw[List.length_append,List.length_take,ht,hdl,hcurl];omega
  ·rw[List.length_append,List.length_take,hdl,hxl];omega
 have HR:Hid (Deleted base n i (.slice (some ⟨g,0,none⟩) n cap) xs w (.returned (.slice (some ⟨g,0,none⟩) (n - 1) cap)) w3):=
  hdzz ⟨_,rfl,hown,hb3,fun k _ hne=>hblk3 k (fun e=>hne (by rw[e];rfl)),.inl rfl,Nat.le_of_eq hs3.symm⟩
 have hA2s:=hA2.symm;unfold maxLen at hcm;have hk0:(0:Int)≤(i:Int):=Int.natCast_nonneg _;have hin:(i:Int)≤(n:Int):=by omega
 have hin1:(i:Int)+1≤(n:Int):=by omega
 have hcI2:(n:Int)≤(cap:Int):=by omega
 have hii:(i:Int)≤(i:Int)+1:=by omega
 have hnei:¬((i:Int)=(i:Int)+1):=by omega
 have hwr:IntKind.i64.wrap ((i:Int)+1)=(i:Int)+1:=by rw[IntKind.wrap_i64];omega
 have hpos:(0:Int)≤(i:Int)+1:=by omega
 have htn:((i:Int)+1).toNat=i+1:=by omega
 have hn1:((n - 1:Nat):Int)≤(n:Int):=by omega
 have hne2:¬(cap=n - 1):=by omega
 have hn11:n - (n - 1)=1:=by omega
 have hci:¬(cap<i):=by omega
 clear hA2 hown hcur3 hblk2 hblk3 hdl hcur2 hb2 hb3 hc1l hc2l hc2e hzl hzs hs hs2 hs3 ht hrow hxl hw2 hw3 hx1 hc1e hg hcurl;go_enter Tryz.func183,Tryz.ntmps183
 go_wp2_with fail
 refine qae (fun _=>True) (fun _=>True) [] (.held 0 (.held 1 (.held 2 (.held 3 (.held 4 (.held 5 (.op 6 (.held 7 .nil)))))))) mixed (by kernel_rfl) ?_;refine stkz (.slice (some ⟨g,0,none⟩) n cap) rfl rfl rfl (fun _ _ _ h=>h) trivial (fun Y hY=>by
   (try simp only[Act.put]);go_simp) ?_
 refine stkz (.int .i64 i) rfl rfl rfl (fun _ _ _ h=>h) trivial (fun Y hY=>by
   (try simp only[Act.put]);go_simp) ?_
 refine stkz (.slice (some ⟨g,0,none⟩) i cap) rfl rfl rfl (fun _ _ _ h=>h) trivial (fun Y hY=>by
   (try simp only[Act.put]);go_simp) ?_
 refine stkz (.slice (some ⟨g,0,none⟩) n cap) rfl rfl rfl (fun _ _ _ h=>h) trivial (fun Y hY=>by
   (try simp only[Act.put]);go_simp) ?_
 refine stkz (.int .i64 ((i:Int)+1)) rfl rfl rfl (fun _ _ _ h=>h) trivial (fun Y hY=>by
   (try simp only[Act.put]);go_simp) ?_
 refine stkz (.slice A2 (n - (i+1)) (cap - (i+1))) rfl rfl rfl (fun _ _ _ h=>h) trivial (fun Y hY=>by
   (try simp only[Act.put]);go_simp) ?_
 simp only[Act.put,fsa,fsb,fsc,fsd,fse,fsf];refine qar rfl rfl (fun K hK=>?_);refine qdh _ _ rfl rfl rfl (fun ty=>hap ty _) ?_;refine hK _ _ ⟨⟨fun _=>trivial,trivial⟩,?_⟩;refine stkz (.slice (some ⟨g,0,none⟩) (n - 1) cap) rfl rfl rfl (fun _ _ _ h=>h) trivial (fun Y hY=>by
   (try simp only[Act.put]);go_simp) ?_
 refine qat ?_;simp only[Act.put,fsa,fsb,fsc,fsd,fse,fsf];go_wp2_with fail
 go_ret
 exact HR.out
theorem rowT_copy {w:World} {base:Nat} {F:Nat→Prop} {v:Value} (hrow:RowT w base F v []) (hF:∀b,F b→b<base) (hbase:base≤w.heap.size) (a:Addr) (c m:Nat) (news:List It) (hm:m=news.length)
  (hc:∀j u,(itCells news)[j]?=some u→w.cell? (a.add j)=some u) (hN:∀x∈news,RepP w F x.1 x.2.1 x.2.2) (hlen:m≤100000000) (hne:v≠.slice none 0 0) :
  ∃g c' w',(∀ty,(Builtin.append_ #[22,22] ty #[v,.slice (some a) m c]).run Tryz.prog w=.ok (.slice (some ⟨g,0,none⟩) m c') w')∧
   RowT w' base F (.slice (some ⟨g,0,none⟩) m c') news∧w.grownBy w' v.ownBlock:=by
 subst hm;obtain⟨i0,hi0,hz0,hz1,hz2⟩:=info_parts qcj;obtain⟨v',w',hr,ho,hg,hnil⟩:=run_append_own (P:=Tryz.prog) w base 22 0 24 i0 _ 4 56 Tryz.underlying22 hi0 hz0 hz1 hz2 rfl (by omega) v 0 [] hrow.own a news.length c (itCells news)
  (qa8 news) hc (qbt news) (by unfold maxLen;omega) (by omega) hbase
 rw[Nat.zero_add,List.nil_append]at ho;have hrow':RowT w' base F v' news:=by
  refine⟨ho,fun x hx=>?_⟩;refine RepP.mono ?_ ?_ _ _ _ (hN x hx)
  ·intro k h1;have hk:=hF k h1;refine⟨h1,by have:=hg.size;omega,fun e=>?_⟩;have:=(ho.lt k e).1;omega
  ·intro p h1;have hk:=hF p.block h1;exact World.cell?_of_block (hg.block p.block (by omega) (fun e=>by have:=(hrow.own.lt _ e.symm).1;omega))
 rcases ho.2 with⟨rfl,h0⟩|⟨g,c',cur,rfl,_⟩
 ·exact absurd (hnil.1 rfl).1 hne
 ·exact⟨g,c',w',fun ty=>hr,hrow',hg⟩
def TClone (P:Nat→Prop) (l:List Tm) (w:World) (e:Ending) (w':World):Prop:=
 Below w.heap.size w w'∧∃(A:Option Addr) (c:Nat) (its:List It),e=.returned (.slice A l.length c)∧its.map (·.1)=l∧RowT w' w.heap.size P (.slice A l.length c) its
theorem qpo (P:Nat→Prop) (l:List Tm) (A:Option Addr) (cap:Nat) (w:World) (hP:∀b,P b→b<w.heap.size) (hlen:l.length≤1000000) (hrep:RepS w P l A cap) :
  Calls Tryz.prog 82 #[.slice A l.length cap] w (TClone P l w):=by
 cases A with
 | none=>
  obtain rfl:l=[]:=by
   rcases hrep.2.2 with h|⟨b,off,h,_⟩
   ·exact h
   ·cases h
  have q22:∀(w:World) (n c n' c':Nat),(binOp .eql 22 (.slice none n c) (.slice none n' c')).run Tryz.prog w=.ok (.bool true) w:=fun w n c n' c'=>Lib.run_eql_slice_nil w _ _ none n c n' c' Tryz.underlying22;go_enter Tryz.func82,Tryz.ntmps82
  go_wp2_with fail
  go_ret
  exact⟨Below.refl _ _,none,0,[],rfl,rfl,RowT.nil _ _ _⟩
 | some a=>
  have q22:∀(w:World) (n c n' c':Nat),(binOp .eql 22 (.slice (some a) n c) (.slice none n' c')).run Tryz.prog w=.ok (.bool false) w:=fun w n c n' c'=>Lib.run_eql_slice_nil w _ _ (some a) n c n' c' Tryz.underlying22;obtain⟨V,hV⟩:∃V,V=w.alloc (.cells #[] 24):=⟨_,rfl⟩;have hbV:Below w.heap.size w V:=by rw[hV];exact qab (Nat.le_refl _) _
  have hrow:RowT V w.heap.size P (.slice (some ⟨w.heap.size,0,none⟩) 0 0) []:=by
   rw[hV];exact⟨World.ownsRow_made w #[] 0 (Nat.le_refl _) (by unfold maxLen;omega) rfl,by simp⟩
  obtain⟨its,hits,hc,hN⟩:∃its:List It,its.map (·.1)=l∧(∀j u,(itCells its)[j]?=some u→V.cell? (a.add j)=some u)∧(∀x∈its,RepP V P x.1 x.2.1 x.2.2):=by
   rcases hrep.2.2 with rfl|⟨b,off,h,hbb,hl⟩
   ·exact⟨[],rfl,by simp[itCells],by simp⟩
   ·injection h with h;subst h;obtain⟨its,h1,h2,h3⟩:=RepLP.its (w:=V) (P:=P) l b off (RepLP.mono (w':=V) (fun _ h=>h) (fun p hp=>hbV.cell (hP _ hp)) _ _ _ hbb hl);refine⟨its,h1,fun j u hj=>?_,h3⟩;have:=h2 j u hj;unfold Addr.add;split
    ·rename_i h;rw[h,Nat.add_zero]at this;exact this
    ·exact this
  have hil:its.length=l.length:=by rw[←hits];simp
  obtain⟨g,c',w',hr,hrow',hg⟩:=rowT_copy hrow hP hbV.size a cap l.length its hil.symm hc hN (by omega) (by simp);have hV2:=hV;have HV:=hdzz hV;clear hV;rw[hV2]at hr;have hb2:Below w.heap.size w w':=⟨hg.os.trans hbV.os,hg.tape.trans hbV.tape,hg.output.trans hbV.output,Nat.le_trans hbV.size hg.size,fun b hb=>(hg.block b (by have:=hbV.size;omega) (fun e=>by have e':=Option.some.inj e;simp only at e';omega)).trans (hbV.block b hb)⟩;have HRO:=hdzz hrow';clear hrow' hrow hc hN hg hV2 hbV;have HB:=hdzz hb2;clear hb2;have HM:=hdzz hits;clear hits hil hrep;go_enter Tryz.func82,Tryz.ntmps82
  go_wp2_with (at_builtin;refine qag rfl _ _ rfl rfl rfl hr ?_)
  go_ret
  exact⟨HB.out,_,_,its,rfl,HM.out,HRO.out⟩
def Copied (t:Tm) (w:World) (e:Ending) (w':World):Prop:=
 ∃A c,e=.returned (t.val A c)∧RepP w' (fun b=>w.heap.size≤b∧b<w'.heap.size) t A c∧Below w.heap.size w w'
structure ClRel (w:World) (P:Nat→Prop) (tk:Int) (tn:ByteArray) (ts:Int) (l:List Tm) (A1:Option Addr) (c1:Nat) (k:Nat) (its:List It) (wr:World):Prop where
 eq:its.map (·.1)=l
 b1:wr.heap[w.heap.size]?=some (.cells #[.int .i64 tk,.string tn,.int .i64 ts,.slice A1 l.length c1] 24 (0,0))
 b2:wr.heap[w.heap.size+1]?=some (.cells #[.int .i64 0,.string ⟨#[]⟩,.int .i64 0,.slice none 0 0] 24 (0,0))
 row:RowT wr (w.heap.size+2) (fun b=>P b∨w.heap.size+2≤b) (.slice A1 l.length c1) its
 bel:Below w.heap.size w wr
 new:∀j (h:j<its.length),j<k→RepP wr (fun b=>w.heap.size+2≤b∧b<wr.heap.size∧(Value.slice A1 l.length c1).ownBlock≠some b) its[j].1 its[j].2.1 its[j].2.2
attribute [local irreducible] qay
theorem qfh (n:Nat):∀(t:Tm) (A:Option Addr) (cap:Nat) (w:World) (P:Nat→Prop),t.size≤n→n≤1000000→(∀b,P b→b<w.heap.size)→RepP w P t A cap→
  Calls Tryz.prog 136 #[t.val A cap] w (Copied t w):=by
 have mixed:=mixz
 induction n with
 | zero=>intro t _ _ _ _ h;have:=t.size_pos;omega
 | succ n ih=>
  intro t A cap w P hn hb hP hrep;obtain⟨tk,tn,ts,l⟩:=t;rw[Tm.size]at hn;rw[qa3]at hrep;obtain⟨hr1,hrS⟩:=hrep;have hls:=Tm.length_le_sizes l;unfold maxLen at hr1;obtain⟨V,hV⟩:∃V,V=(w.alloc (.cells #[.int .i64 tk,.string tn,.int .i64 ts,.slice A l.length cap] 24)).alloc (.cells #[.int .i64 0,.string ⟨#[]⟩,.int .i64 0,.slice none 0 0] 24):=⟨_,rfl⟩;have hbV:Below w.heap.size w V:=by rw[hV];exact((Below.refl _ _).alloc (Nat.le_refl _) _).alloc (by simp) _
  have hsV:V.heap.size=w.heap.size+2:=by rw[hV];simp
  have hx1:V.heap[w.heap.size]?=some (.cells #[.int .i64 tk,.string tn,.int .i64 ts,.slice A l.length cap] 24 (0,0)):=by
   rw[hV,Below.heap_alloc _ _ _ (by simp)];exact heap_alloc_new _ _
  have hx2:V.heap[w.heap.size+1]?=some (.cells #[.int .i64 0,.string ⟨#[]⟩,.int .i64 0,.slice none 0 0] 24 (0,0)):=by
   have h:=heap_alloc_new (w.alloc (.cells #[.int .i64 tk,.string tn,.int .i64 ts,.slice A l.length cap] 24)) (.cells #[.int .i64 0,.string ⟨#[]⟩,.int .i64 0,.slice none 0 0] 24);rw[World.size_alloc]at h;rw[hV];exact h
  have CL:=hdzz (qpo P l A cap V (fun b h=>by have:=hP b h;omega) (by omega) (RepS.mono (fun _ h=>h) (fun p h=>hbV.cell (hP _ h)) hrS));have HP:=hdzz hP;clear hP hrS;obtain⟨r0,r1,r2,r3,rf⟩:=qaa hx1;have HX1:=hdzz hx1;clear hx1;have HX2:=hdzz hx2;clear hx2;have HBV:=hdzz hbV;clear hbV;have HV:=hdzz hV;clear hV;have IH:=hdzz ih;clear ih;simp only[Tm.val,Tm.kind,Tm.name,Tm.sort,Tm.kids];go_enter Tryz.func136,Tryz.ntmps136
  go_wp2_with fail
  rw[←HV.out];clear HV;go_wp2_with fail
  refine CL.out.mono ?_;clear CL;rintro e w1 ⟨hb1,A1,c1,its,rfl,hm,hrow⟩;have hs1:=hb1.size;have hx1:=(hb1.block _ (by omega)).trans HX1.out;have hx2:=(hb1.block _ (by omega)).trans HX2.out;have HB1:=hdzz (HBV.out.trans (hb1.mono (by omega)));clear hb1 HX1 HX2 HBV r0 r1 r2 r3 rf;obtain⟨r0,r1,r2,r3,rf⟩:=qaa hx1;obtain⟨W2,hW2⟩:∃W2,W2=w1.setCell ⟨w.heap.size,3,none⟩ (.slice A1 l.length c1):=⟨_,rfl⟩;have hsW:W2.heap.size=w1.heap.size:=by rw[hW2];simp[World.setCell]
  have hy1:W2.heap[w.heap.size]?=some (.cells #[.int .i64 tk,.string tn,.int .i64 ts,.slice A1 l.length c1] 24 (0,0)):=by rw[hW2];exact qe3 hx1
  have hy2:W2.heap[w.heap.size+1]?=some (.cells #[.int .i64 0,.string ⟨#[]⟩,.int .i64 0,.slice none 0 0] 24 (0,0)):=by rw[hW2,Below.heap_setCell _ _ _ _ (by simp)];exact hx2
  have hbW:Below w.heap.size w W2:=by rw[hW2];exact HB1.out.setCell (Nat.le_refl _) _
  have hrW:RowT W2 (w.heap.size+2) (fun b=>P b∨w.heap.size+2≤b) (.slice A1 l.length c1) its:=by
   rw[hW2];have h:=hrow.setCell (p:=⟨w.heap.size,3,none⟩) (fun h=>by have:=HP.out _ h;simp at this) (by simp;omega) (.slice A1 l.length c1);rw[hsV]at h;exact h.loosen (Nat.le_refl _) (fun b h=>Or.inl h)
  have HW:=hdzz hW2;clear hW2;clear hx1 hx2 hrow HB1;go_wp2_with fail
  rw[←HW.out];clear HW r0 r1 r2 r3 rf;obtain⟨r0,r1,r2,r3,rf⟩:=qaa hy1;go_wp2_with fail
  go_loopw [12] (fun i wr=>∃(k:Nat) (jts:List It),k≤l.length∧i=.int .i64 k∧Hid (ClRel w P tk tn ts l A1 c1 k jts wr)) (fun i _=>l.length - (intOf i).toNat)
  case atStart=>exact⟨0,its,Nat.zero_le _,rfl,⟨hm,hy1,hy2,hrW,hbW,fun j _ h=>absurd h (Nat.not_lt_zero j)⟩⟩
  case round=>
   clear r0 r1 r2 r3 rf hy1 hy2 hrW hbW hm its;obtain⟨k,jts,hk,rfl,HR⟩:=hrel;obtain⟨hm,hy1,hy2,hrow,hbel,hnew⟩:=HR.out;have i1:(0:Int)≤(k:Int):=Int.natCast_nonneg _;have hsr:w.heap.size+2≤wr.heap.size:=by have:=(sltz hy2);omega
   obtain⟨r0,r1,r2,r3,rf⟩:=qaa hy1;by_cases hlt:k<l.length
   ·have i2:(k:Int)<(l.length:Int):=by omega
    have hjl:jts.length=l.length:=by rw[←hm];simp
    obtain⟨g,rfl⟩:∃g,A1=some ⟨g,0,none⟩:=by
     rcases hrow.own.2 with⟨-,h0⟩|⟨g,cap',cur,hv,-⟩
     ·omega
     ·injection hv with h1;exact⟨g,h1⟩
    have hgb:=hrow.lt g rfl;obtain⟨h0,h1,h2,h3,hz⟩:=hrow.slot hjl.symm k (by omega);have hx:=hrow.reps _ (List.getElem_mem (show k<jts.length by omega));have hjk:(jts[k]'(by omega)).1=l[k]:=by
     have:=congrArg (fun z=>z[k]?) hm;simp only[List.getElem?_map]at this;rw[List.getElem?_eq_getElem hlt,List.getElem?_eq_getElem (by omega)]at this;simpa using this
    have hsg:=Tm.sizes_get l k hlt;obtain⟨A',c',hAc⟩:∃A' c',(jts[k]'(by omega)).2=(A',c'):=⟨_,_,rfl⟩;rw[hjk,hAc]at h3 hx;rw[hjk]at h0 h1 h2;dsimp only at h3 hx;obtain⟨x,hxl⟩:∃x,x=l[k]:=⟨_,rfl⟩;rw[←hxl]at h0 h1 h2 h3 hx hsg;have hset:(jts.set k (x,A',c')).map (·.1)=l:=by
     rw[List.map_set,hm,hxl];exact List.set_getElem_self _
    have HSET:Hid (∀A5 c5,(jts.set k (x,A5,c5)).map (·.1)=l):=hdzz fun A5 c5=>by
     rw[List.map_set,hm,hxl];exact List.set_getElem_self _
    clear hxl hset hAc hjk;obtain⟨X,hX⟩:∃X,X=wr.alloc (.cells #[.int .i64 x.kind,.string x.name,.int .i64 x.sort,.slice A' x.kids.length c'] 24):=⟨_,rfl⟩;have hbX:Below wr.heap.size wr X.drew:=by rw[hX];exact(qab (Nat.le_refl _) _).drew
    have hsX:X.drew.heap.size=wr.heap.size+1:=by rw[hX];simp
    have hxX:X.drew.heap[wr.heap.size]?=some (.cells #[.int .i64 x.kind,.string x.name,.int .i64 x.sort,.slice A' x.kids.length c'] 24 (0,0)):=by
     rw[hX];exact heap_alloc_new wr _
    have HX:=hdzz hX;clear hX;go_wp2_with fail
    rw[←HX.out];refine qae (fun Y=>Below X.drew.heap.size X.drew Y) (fun _=>True) [6] (.held 0 (.held 1 (.held 2 (.held 3 (.op 4 (.op 5 (.op 6 .nil))))))) mixed (by kernel_rfl) ?_;clear HX;generalize X.drew=D at *;have CON:=IH.out x A' c' D _ (by omega) (by omega) (fun b h=>by have:=h.2.1;omega) (RepP.mono (fun _ h=>h) (fun p h=>hbX.cell h.2.1) _ _ _ hx);have s3:=sclz hbX r3 (by omega);obtain⟨x0,x1,x2,x3,xf⟩:=qaa hxX;have g0:=sclz hbX h0 (by omega);have g1:=sclz hbX h1 (by omega);have g2:=sclz hbX h2 (by omega);have g3:=sclz hbX h3 (by omega);have gz:=fun o=>(hbX.frozen (p:=⟨g,o,none⟩) (by show g<_;omega)).trans (hz o);have hrowD:=hdzz (hrow.below hbX);have HBX:=hdzz hbX;have HXX:=hdzz hx;clear h0 h1 h2 h3 hz r0 r1 r2 r3 rf hbX hx hrow hy1 hy2 hm xf;simp only[Tm.val]at CON;have CON:=hdzz CON
    refine qaq (v:=.pointer (some ⟨w.heap.size,3,none⟩)) rfl rfl rfl (fun _ _ _ h=>h) (Below.refl _ _) trivial (fun Y hY _=>by
     (try simp only[Act.put]);go_simp) ?_
    refine qaq (v:=.slice (some ⟨g,0,none⟩) l.length c1) rfl rfl rfl (fun _ _ _ h=>h) (Below.refl _ _) trivial (fun Y hY _=>by
     have z0:=sclz hY s3 (by omega)
     (try simp only[Act.put]);go_simp) ?_
    refine qaq (v:=.int .i64 k) rfl rfl rfl (fun _ _ _ h=>h) (Below.refl _ _) trivial (fun Y hY _=>by
     (try simp only[Act.put]);go_simp) ?_
    refine qaq (v:=.agg #[.int .i64 x.kind,.string x.name,.int .i64 x.sort,.slice A' x.kids.length c']) rfl rfl rfl (fun _ _ _ h=>h) (Below.refl _ _) trivial (fun Y hY _=>by
     have z0:=sclz hY x0 (by omega);have z1:=sclz hY x1 (by omega);have z2:=sclz hY x2 (by omega);have z3:=sclz hY x3 (by omega)
     (try simp only[Act.put]);go_simp) ?_
    simp only[Act.put,List.setIfInBounds_toArray];refine qar rfl rfl (fun K hK=>?_);go_wp2_with fail
    refine CON.out.mono ?_;clear CON x0 x1 x2 x3 s3;rintro e w5 ⟨A5,c5,rfl,hrep5,hb5⟩;refine hK _ _ ⟨⟨fun _=>hb5,trivial⟩,?_⟩;clear hK K;have hs5:=hb5.size;have k0:=sclz hb5 g0 (by omega);have k1:=sclz hb5 g1 (by omega);have k2:=sclz hb5 g2 (by omega);have k3:=sclz hb5 g3 (by omega);have kz:=fun o=>(hb5.frozen (p:=⟨g,o,none⟩) (by show g<_;omega)).trans (gz o);clear g0 g1 g2 g3 gz;have HB5:=hdzz (HBX.out.trans (hb5.mono (by omega)));have HRW:=hdzz ((hrowD.out.below hb5).set hjl.symm k (by omega) (x,A5,c5) (RepP.mono (fun b h=>by
     obtain⟨h1,h2⟩:=h;exact⟨Or.inr (by omega),h2,by omega⟩) (fun _ _=>rfl) _ _ _ hrep5))
    have HD5:=hdzz hb5;have HREP5:=hdzz hrep5;have HNEW:=hdzz hnew;clear hnew;clear hrep5 hb5 hrowD HBX HXX;simp only[Tm.val];refine qar rfl rfl (fun K hK=>?_);go_wp2_with fail
    refine⟨⟨fun _=>HD5.out.mono (by omega),trivial⟩,?_⟩;refine qar rfl rfl (fun K hK=>?_);go_wp2_with fail
    refine⟨⟨fun h=>absurd h (by decide),trivial⟩,qat ?_⟩;go_wp2_with fail
    go_roundw
    case rel=>
     have hb5:=HB5.out;refine⟨k+1,jts.set k (x,A5,c5),by omega,by go_num,⟨HSET.out A5 c5,?_,?_,HRW.out,?_,fun j hj hjk=>?_⟩⟩
     ·iterate 4 rw[Below.heap_setCell _ _ _ _ (by show _≠g;omega)]
      exact(hb5.block _ (by omega)).trans HR.out.b1
     ·iterate 4 rw[Below.heap_setCell _ _ _ _ (by show _≠g;omega)]
      exact(hb5.block _ (by omega)).trans HR.out.b2
     ·iterate 4 refine Below.setCell ?_ (by show _≤g;omega) _
      exact HR.out.bel.trans (hb5.mono (by omega))
     ·have hcl:∀(p:Addr),p.block≠g→((((w5.setCell ⟨g,k*4,none⟩ (.int .i64 x.kind)).setCell ⟨g,k*4+1,none⟩ (.string x.name)).setCell ⟨g,k*4+2,none⟩ (.int .i64 x.sort)).setCell ⟨g,k*4+3,none⟩ (.slice A5 x.kids.length c5)).cell? p=w5.cell? p:=fun p hp=>by
       have hne:∀o,(⟨g,o,none⟩:Addr)≠p:=fun o e=>hp (by rw[←e]);rw[World.cell?_setCell_other _ _ _ _ (hne _),World.cell?_setCell_other _ _ _ _ (hne _),World.cell?_setCell_other _ _ _ _ (hne _),World.cell?_setCell_other _ _ _ _ (hne _)]
      by_cases hjk2:j=k
      ·subst hjk2;rw[List.getElem_set_self];refine RepP.mono (fun b h=>⟨by omega,by simpa[World.setCell]using h.2,fun e=>?_⟩) (fun p h=>hcl p (by omega)) _ _ _ HREP5.out;have e:g=b:=Option.some.inj e;omega
      ·rw[List.getElem_set_ne (Ne.symm hjk2)];have hjl2:j<jts.length:=by simpa using hj
       refine RepP.mono (fun b h=>⟨h.1,by have:=h.2.1;simp[World.setCell];omega,h.2.2⟩) (fun p h=>(hcl p (fun e=>h.2.2 (by rw[e];rfl))).trans (hb5.cell h.2.1)) _ _ _ (HNEW.out j hjl2 (by omega))
    case measure=>simp[intOf];omega
   ·obtain rfl:k=l.length:=by omega
    obtain⟨b0,b1,b2,b3,bf⟩:=qaa hy2;have hjl:jts.length=l.length:=by rw[←hm];simp
    have hrow2:RowT wr (w.heap.size+2) (fun b=>w.heap.size+2≤b) (.slice A1 l.length c1) jts:=⟨hrow.own,fun x hx=>by
     obtain⟨j,hj,rfl⟩:=List.getElem_of_mem hx;exact hnew j hj (by omega)⟩
    obtain⟨Av,cv,hv,hS⟩:=hrow2.toS (P:=fun b=>w.heap.size+2≤b∧b<wr.heap.size) (fun b h h'=>⟨h,h'⟩) (fun b h h'=>⟨h,h'⟩);injection hv with e1 e2 e3;subst e1 e3;rw[hm]at hS;have HS:=hdzz hS;clear hS hrow hrow2 hnew hjl hy1 hy2 e2;go_wp2_with fail
    refine bodyPost_ret (v:=.agg #[.int .i64 tk,.string tn,.int .i64 ts,.slice A1 l.length c1]) ?_ rfl ?_
    ·simp[results,Tryz.results136,go_sem,b0,b1,b2,b3]
    refine⟨A1,c1,rfl,?_,?_⟩
    ·rw[qa3];refine⟨by unfold maxLen;omega,RepS.mono (w:=wr) (fun b h=>⟨by omega,by simpa[World.setCell]using h.2⟩) (fun p hp=>?_) HS.out⟩;have hne:∀o,(⟨w.heap.size+1,o,none⟩:Addr)≠p:=fun o e=>by
      rw[←e]at hp;obtain⟨h,-⟩:=hp;simp at h
     rw[World.cell?_setCell_other _ _ _ _ (hne _),World.cell?_setCell_other _ _ _ _ (hne _),World.cell?_setCell_other _ _ _ _ (hne _),World.cell?_setCell_other _ _ _ _ (hne _)]
    ·iterate 4 refine Below.setCell ?_ (by simp) _
     exact hbel
theorem RowW.grew {w w':World} {base:Nat} {F:Nat→Prop} {v v':Value} {jts:List IW} (ho:w'.ownsRow base 163 5 v' jts.length (wCells jts)) (hg:GrewV base w w' v v')
  (hj:∀x∈jts,RepP w (fun b=>F b∧b<w.heap.size∧v.ownBlock≠some b) x.1.1 x.1.2.1 x.1.2.2):RowW w' base F v' jts:=by
 refine⟨ho,fun x hx=>RepP.mono ?_ ?_ _ _ _ (hj x hx)⟩
 ·rintro b ⟨h1,h2,h3⟩;refine⟨h1,Nat.lt_of_lt_of_le h2 hg.size,fun e=>?_⟩;rcases hg.own with h|h
  ·rw[h]at e;exact h3 e
  ·have:=h b e;omega
 ·rintro p ⟨h1,h2,h3⟩;exact World.cell?_of_block (hg.old p.block h2 h3)
theorem qpc (its:List IW) (i:Nat) (X:IW):(wCells its).take (i*5)++(wCells [X]++(wCells its).drop (i*5))=wCells (its.take i++X::its.drop i):=by
 rw[qfr,qfs,←qdi,←qdi];rfl
theorem wCells_del (its:List IW) (i:Nat):(wCells its).take (i*5)++(wCells its).drop ((i+1)*5)=wCells (its.eraseIdx i):=by
 rw[qfr,qfs,←qdi,List.eraseIdx_eq_take_drop_succ]
def Inst (base:Nat) (l:List Pw) (w:World) (e:Ending) (w':World):Prop:=
 ∃v' jts,e=.returned v'∧RowW w' base (fun b=>base≤b) v' jts∧jts.map IW.pw=l∧Below base w w'
theorem qip (w:World) (base:Nat) (v:Value) (its:List IW) (t:Tm) (n:Int) (A:Option Addr) (c:Nat) (hrow:RowW w base (fun b=>base≤b) v its) (hbase:base≤w.heap.size) (hg:qbv (its.map IW.pw)) (hlen:its.length≤50000)
  (hsz:∀x∈its,x.1.1.size≤1000000) (hm:∀x∈its,-1000000000≤x.2∧x.2≤1000000000) (hn:-1000000000≤n∧n≤1000000000) (ht:t.size≤1000000) (hrep:RepP w (fun b=>b<w.heap.size∧v.ownBlock≠some b) t A c) :
  Calls Tryz.prog 169 #[v,pval t A c n] w (Inst base (insP t n (its.map IW.pw)) w):=by
 have mixed:=mixz;obtain⟨V,hV⟩:∃V,V=w.alloc (.cells #[.int .i64 t.kind,.string t.name,.int .i64 t.sort,.slice A t.kids.length c,.int .i64 n] 163):=⟨_,rfl⟩;have hbV:Below w.heap.size w V:=by rw[hV];exact qab (Nat.le_refl _) _
 have hsV:V.heap.size=w.heap.size+1:=by rw[hV];simp
 have hbx:V.heap[w.heap.size]?=some (.cells #[.int .i64 t.kind,.string t.name,.int .i64 t.sort,.slice A t.kids.length c,.int .i64 n] 163 (0,0)):=by rw[hV];exact heap_alloc_new _ _
 have hrV:=hrow.below hbV;have htV:RepP V (fun b=>b<w.heap.size∧v.ownBlock≠some b) t A c:=RepP.mono (fun _ h=>h) (fun p h=>hbV.cell h.1) _ _ _ hrep;have hvo:v.ownBlock≠some w.heap.size:=fun e=>by have:=(hrow.lt _ e).2;omega
 obtain⟨l,hl⟩:∃l,l=its.map IW.pw:=⟨_,rfl⟩;have hll:l.length=its.length:=by rw[hl];simp
 rw[←hl]at hg ⊢;obtain⟨Av,cv,hv,hW⟩:=hrV.toW (P:=fun b=>b<V.heap.size) (fun b _ h=>h) (fun b h=>(hrV.lt b h).2);rw[←hl]at hW;have BS:=qn5 l Av cv t A c V hg (by omega) (fun p hp=>by rw[hl]at hp;obtain⟨x,hx,rfl⟩:=List.mem_map.1 hp;exact hsz x hx) ht hW (RepP.mono (fun b h=>by omega) (fun _ _=>rfl) _ _ _ htV);rw[hll]at BS;simp only[Tm.val]at BS;have HBS:=hdzz BS;have HV:=hdzz hV;have HBX:=hdzz hbx;have HBV:=hdzz hbV;have HRV:=hdzz hrV;have HTV:=hdzz htV;have HL:=hdzz hl;have HLL:=hdzz hll;have HG:=hdzz hg;have HSZ:=hdzz hsz;have HM:=hdzz hm;obtain⟨r0,r1,r2,r3,r4,rf⟩:=qdg hbx;clear hV hbx hbV hrV htV hl hll hg hsz hm hrow hrep hW BS;obtain⟨k,hk⟩:∃k,k=its.length:=⟨_,rfl⟩;rw[←hk]at hv hlen HBS;have HK:=hdzz hk;clear hk;subst hv;simp only[pval]
 obtain⟨res,hres⟩:∃r,r=insP t n l:=⟨_,rfl⟩;rw[←hres];have HR0:=hdzz hres;clear hres;go_enter Tryz.func169,Tryz.ntmps169
 go_wp2_with fail
 rw[←HV.out];clear HV;go_wp2_with fail
 refine HBS.out.mono ?_;clear HBS;rintro e w1 ⟨i,rfl,hi,hlo,hhi,hb1⟩;have hs1:=hb1.size;have hrow1:=HRV.out.below hb1;have hx1:=(hb1.block _ (by omega)).trans HBX.out;have HB1:=hdzz (HBV.out.trans (hb1.mono (by omega)));have ht1:RepP w1 (fun b=>b<w.heap.size∧(Value.slice Av k cv).ownBlock≠some b) t A c:=RepP.mono (fun _ h=>h) (fun p h=>hb1.cell (by omega)) _ _ _ HTV.out;clear r0 r1 r2 r3 r4 rf HBX HRV HTV HBV hb1;obtain⟨r0,r1,r2,r3,r4,rf⟩:=qdg hx1;have HX1:=hdzz hx1;clear hx1;have hins:insP t n l=qqc l t n i:=insP_at t n l i hi hlo (fun h=>Int.not_lt.2 (hhi i h (Nat.le_refl _)));clear hlo hhi;have hr0:=HR0.out.trans hins;unfold qqc at hr0;clear hins HR0;have hik:i≤k:=by have:=HLL.out;have:=HK.out;omega
 by_cases hf:∃h:i<l.length,l[i].1.same t=true
 ·-- found
  obtain⟨hil,hsame⟩:=hf;rw[dif_pos hil,if_pos (show l[i].1.cmp t=0 from by unfold Tm.same at hsame;exact of_decide_eq_true hsame)]at hr0;rw[dif_pos hil,hsame];have hit:i<its.length:=by have:=HLL.out;omega
  have hik2:i<k:=by have:=HK.out;omega
  obtain⟨g,cap,hv,hbg,hgl,-⟩:=hrow1.head (by omega);injection hv with e1 e2 e3;subst e1 e3;clear e2;have hsl:=hrow1.slot i hit;have hset:=hrow1.setN HK.out i hit (its[i].2+n);have hmi:=HM.out its[i] (List.getElem_mem hit);have hli:l[i]=its[i].pw:=by have:=HL.out;subst this;simp
  rw[hli]at hr0;have hpw:(its[i].pw).1=its[i].1.1∧(its[i].pw).2=its[i].2:=⟨rfl,rfl⟩;have HER:Hid (l.eraseIdx i=((its.set i (its[i].1,its[i].2+n)).eraseIdx i).map IW.pw):=hdzz (by
   rw[HL.out,List.eraseIdx_set_eq,List.eraseIdx_eq_take_drop_succ,List.eraseIdx_eq_take_drop_succ,List.map_append,List.map_take,List.map_drop])
  have HST:Hid (l.set i (its[i].pw.1,its[i].pw.2+n)=(its.set i (its[i].1,its[i].2+n)).map IW.pw):=hdzz (by
   rw[HL.out,List.map_set];rfl)
  have hjl:(its.set i (its[i].1,its[i].2+n)).length=k:=by rw[List.length_set];exact HK.out.symm
  obtain⟨jts,hjts⟩:∃j,j=its.set i (its[i].1,its[i].2+n):=⟨_,rfl⟩;rw[←hjts]at hset HER HST hjl;have hjn:(jts[i]'(by omega)).2=its[i].2+n:=by simp[hjts]
  obtain⟨m,hm⟩:∃m,m=its[i].2:=⟨_,rfl⟩;have hr:(if its[i].pw.2+n=0 then l.eraseIdx i else l.set i (its[i].pw.1,its[i].pw.2+n))=(if m+n=0 then (jts.eraseIdx i).map IW.pw else jts.map IW.pw):=by rw[HER.out,HST.out,hm];rfl
  rw[hr]at hr0;have HR0:=hdzz hr0;clear hr0 hr HER HST hli hpw;obtain⟨-,-,-,-,s4,sf⟩:=hsl;rw[←hm]at hset s4 hmi hjn;clear hm hjts hsame;have hw:IntKind.i64.wrap (m+n)=m+n:=by rw[IntKind.wrap_i64];omega
  have hi0:(0:Int)≤(i:Int):=Int.natCast_nonneg _;have hiI:(i:Int)<(k:Int):=by omega
  have HSET:=hdzz hset;have HJN:=hdzz hjn;clear hset hjn hrow1 ht1;go_wp2_with fail
  have hgw:g≠w.heap.size:=fun e=>hvo (by rw[e];rfl);have t4:w1.drew.cell? ⟨g,i*5+4,none⟩=_:=s4;have u4:w1.drew.cell? ⟨w.heap.size,4,none⟩=_:=r4;have tf:w1.drew.frozen? ⟨g,i*5+4,none⟩=false:=sf _;have HD:Hid (RowW (w1.drew.setCell ⟨g,i*5+4,none⟩ (.int .i64 (m+n))) base (fun b=>base≤b) (.slice (some ⟨g,0,none⟩) k cv) jts):=hdzz (HSET.out.keep (by simp[World.setCell]) (fun b _ _=>rfl));have HB2:=hdzz ((HB1.out.mono hbase).drew.setCell (p:=⟨g,i*5+4,none⟩) hbg (.int .i64 (m+n)));clear HSET s4 sf r0 r1 r2 r3 r4 rf
  refine qae (fun Y=>Y.cell? ⟨g,i*5+4,none⟩=some (.int .i64 m)∧Y.cell? ⟨w.heap.size,4,none⟩=some (.int .i64 n)∧Y.frozen? ⟨g,i*5+4,none⟩=false) (fun _=>True) [10] (.held 0 (.held 1 (.held 2 (.held 3 (.held 4 (.held 5 (.held 6 (.held 7 (.op 8 (.op 9 (.op 10 .nil))))))))))) mixed (by kernel_rfl) ?_;generalize w1.drew=D at *;refine stkz (.slice (some ⟨g,0,none⟩) k cv) rfl rfl rfl (fun _ _ _ h=>h) ⟨t4,u4,tf⟩ (fun Y hY=>by
    obtain⟨y0,y1,y2⟩:=hY
    (try simp only[Act.put]);go_simp) ?_
  refine stkz (.int .i64 i) rfl rfl rfl (fun _ _ _ h=>h) ⟨t4,u4,tf⟩ (fun Y hY=>by
    obtain⟨y0,y1,y2⟩:=hY
    (try simp only[Act.put]);go_simp) ?_
  refine stkz (.pointer (some ⟨g,i*5,none⟩)) rfl rfl rfl (fun _ _ _ h=>h) ⟨t4,u4,tf⟩ (fun Y hY=>by
    obtain⟨y0,y1,y2⟩:=hY
    (try simp only[Act.put]);go_simp) ?_
  refine stkz (.pointer (some ⟨g,i*5+4,none⟩)) rfl rfl rfl (fun _ _ _ h=>h) ⟨t4,u4,tf⟩ (fun Y hY=>by
    obtain⟨y0,y1,y2⟩:=hY
    (try simp only[Act.put]);go_simp) ?_
  refine stkz (.int .i64 m) rfl rfl rfl (fun _ _ _ h=>h) ⟨t4,u4,tf⟩ (fun Y hY=>by
    obtain⟨y0,y1,y2⟩:=hY
    (try simp only[Act.put]);go_simp) ?_
  refine stkz (.pointer (some ⟨w.heap.size,4,none⟩)) rfl rfl rfl (fun _ _ _ h=>h) ⟨t4,u4,tf⟩ (fun Y hY=>by
    obtain⟨y0,y1,y2⟩:=hY
    (try simp only[Act.put]);go_simp) ?_
  refine stkz (.int .i64 n) rfl rfl rfl (fun _ _ _ h=>h) ⟨t4,u4,tf⟩ (fun Y hY=>by
    obtain⟨y0,y1,y2⟩:=hY
    (try simp only[Act.put]);go_simp) ?_
  refine stkz (.int .i64 (m+n)) rfl rfl rfl (fun _ _ _ h=>h) ⟨t4,u4,tf⟩ (fun Y hY=>by
    obtain⟨y0,y1,y2⟩:=hY
    (try simp only[Act.put]);go_simp) ?_
  simp only[Act.put,fsa,fsb,fsc,fsd,fse,fsf];refine qar rfl rfl (fun K hK=>?_);go_wp2_with fail
  refine⟨⟨fun _=>⟨t4,u4,tf⟩,trivial⟩,?_⟩;refine qar rfl rfl (fun K hK=>?_);go_wp2_with fail
  refine⟨⟨fun _=>⟨t4,u4,tf⟩,trivial⟩,?_⟩;refine qar rfl rfl (fun K hK=>?_);go_wp2_with fail
  refine⟨⟨fun h=>absurd h (by decide),trivial⟩,qat ?_⟩;obtain⟨W2,hW2⟩:∃W,W=D.setCell ⟨g,i*5+4,none⟩ (.int .i64 (m+n)):=⟨_,rfl⟩;rw[←hW2]at HD HB2 ⊢;clear hW2 t4 u4 tf;obtain⟨-,-,-,-,s4,sf⟩:=HD.out.slot i (by omega);rw[HJN.out]at s4;have HSZ2:=hdzz HD.out;have hown:=HD.out.own;rw[hjl]at hown;have hb2s:=HB2.out.size;have HDEL:=hdzz (delW_any W2 base k i _ (wCells jts) hown (by omega) (by omega) (by omega) (qe8 jts));clear hown;by_cases hz:m+n=0
  ·rw[hz]at s4;have hr0:=HR0.out;rw[if_pos hz]at hr0;subst hr0;clear hz hw HR0;go_wp2_with fail
   refine HDEL.out.mono ?_;clear HDEL;rintro e w3 ⟨v',rfl,ho,hgr⟩;rw[wCells_del]at ho;have hel:(jts.eraseIdx i).length=k - 1:=by rw[List.length_eraseIdx_of_lt (by omega),hjl]
   rw[←hel]at ho;have hres:=RowW.grew (F:=fun b=>base≤b) ho hgr (fun x hx=>HD.out.reps x (List.mem_of_mem_eraseIdx hx));have HRES:Hid (Inst base ((jts.eraseIdx i).map IW.pw) w (.returned v') w3):=hdzz ⟨v',_,rfl,hres,rfl,(HB2.out.trans hgr.below)⟩;clear ho hgr hres hel;go_wp2_with fail
   go_ret
   exact HRES.out
  ·have hr0:=HR0.out;rw[if_neg hz]at hr0;subst hr0;clear HR0;have q:(m+n==0)=false:=by rw[beq_eq_false_iff_ne];exact hz
   have HRES:Hid (Inst base (jts.map IW.pw) w (.returned (.slice (some ⟨g,0,none⟩) k cv)) W2):=hdzz ⟨_,jts,rfl,HD.out,rfl,HB2.out⟩;clear hz;go_wp2_with fail
   go_ret
   exact HRES.out
 ·-- not found
  have hbf:(if h:i<l.length then l[i].1.same t else false)=false:=by
   split
   ·rename_i h
    rw[←Bool.not_eq_true];exact fun e=>hf ⟨h,e⟩
   ·rfl
  rw[hbf];have hr1:res=l.take i++(t,n)::l.drop i:=by
   rw[hr0]
   split
   ·rename_i h
    rw[if_neg (fun e=>hf ⟨h,by unfold Tm.same;exact decide_eq_true e⟩)]
   ·rfl
  have HR1:=hdzz hr1;clear hr0 hr1 hbf hf;go_wp2_with fail
  have hbD:Below w1.heap.size w1 w1.drew:=(Below.refl _ _).drew;have u0:w1.drew.cell? ⟨w.heap.size,0,none⟩=_:=r0;have u1:w1.drew.cell? ⟨w.heap.size,1,none⟩=_:=r1;have u2:w1.drew.cell? ⟨w.heap.size,2,none⟩=_:=r2;have u3:w1.drew.cell? ⟨w.heap.size,3,none⟩=_:=r3;have u4:w1.drew.cell? ⟨w.heap.size,4,none⟩=_:=r4;have ht1D:RepP w1.drew (fun b=>b<w.heap.size∧(Value.slice Av k cv).ownBlock≠some b) t A c:=RepP.mono (w:=w1) (w':=w1.drew) (fun _ h=>h) (fun _ _=>rfl) _ _ _ ht1;have CC:=qfh 1000000 t A c w1.drew _ ht (Nat.le_refl _) (fun b h=>by show b<w1.heap.size;have:=h.1;omega) ht1D;simp only[Tm.val]at CC;have CC:=hdzz CC;have HRD:=hdzz (hrow1.below hbD);have HBD:=hdzz (HB1.out.drew);have hsD:w1.drew.heap.size=w1.heap.size:=rfl;clear r0 r1 r2 r3 r4 rf hbD hrow1 ht1 ht1D
  refine qae (fun Y=>∀q,q<w1.drew.heap.size→(Value.slice Av k cv).ownBlock≠some q→Y.heap[q]?=w1.drew.heap[q]?) (fun _=>True) [] (.held 0 (.held 1 (.held 2 (.held 3 (.held 5 (.held 6 (.op 4 (.held 7 (.op 8 (.op 9 (.held 10 .nil))))))))))) mixed (by kernel_rfl) ?_;generalize w1.drew=D at *;refine stkz (.slice Av k cv) rfl rfl rfl (fun _ _ _ h=>h) (fun _ _ _=>rfl) (fun Y hY=>by
    (try simp only[Act.put]);go_simp) ?_
  refine stkz (.int .i64 i) rfl rfl rfl (fun _ _ _ h=>h) (fun _ _ _=>rfl) (fun Y hY=>by
    (try simp only[Act.put]);go_simp) ?_
  refine stkz (.pointer (some ⟨w.heap.size,0,none⟩)) rfl rfl rfl (fun _ _ _ h=>h) (fun _ _ _=>rfl) (fun Y hY=>by
    (try simp only[Act.put]);go_simp) ?_
  refine stkz (.agg #[.int .i64 t.kind,.string t.name,.int .i64 t.sort,.slice A t.kids.length c]) rfl rfl rfl (fun _ _ _ h=>h) (fun _ _ _=>rfl) (fun Y hY=>by
    have z0:Y.cell? ⟨w.heap.size,0,none⟩=_:=(World.cell?_of_block (hY w.heap.size (by omega) hvo)).trans u0;have z1:Y.cell? ⟨w.heap.size,1,none⟩=_:=(World.cell?_of_block (hY w.heap.size (by omega) hvo)).trans u1;have z2:Y.cell? ⟨w.heap.size,2,none⟩=_:=(World.cell?_of_block (hY w.heap.size (by omega) hvo)).trans u2;have z3:Y.cell? ⟨w.heap.size,3,none⟩=_:=(World.cell?_of_block (hY w.heap.size (by omega) hvo)).trans u3
    (try simp only[Act.put]);go_simp) ?_
  refine stkz (.pointer (some ⟨w.heap.size,4,none⟩)) rfl rfl rfl (fun _ _ _ h=>h) (fun _ _ _=>rfl) (fun Y hY=>by
    (try simp only[Act.put]);go_simp) ?_
  refine stkz (.int .i64 n) rfl rfl rfl (fun _ _ _ h=>h) (fun _ _ _=>rfl) (fun Y hY=>by
    have z4:Y.cell? ⟨w.heap.size,4,none⟩=_:=(World.cell?_of_block (hY w.heap.size (by omega) hvo)).trans u4
    (try simp only[Act.put]);go_simp) ?_
  simp only[Act.put,fsa,fsb,fsc,fsd,fse,fsf];refine qar rfl rfl (fun K hK=>?_);go_wp2_with fail
  refine CC.out.mono ?_;clear CC u0 u1 u2 u3 u4;rintro e w5 ⟨A5,c5,rfl,hrep5,hb5⟩;have hS5:∀q,q<D.heap.size→(Value.slice Av k cv).ownBlock≠some q→w5.heap[q]?=D.heap[q]?:=fun q hq _=>hb5.block q hq;refine hK _ _ ⟨⟨fun _=>hS5,trivial⟩,?_⟩;clear hK K;have hs5:=hb5.size;obtain⟨W6,hW6⟩:∃W6,W6=w5.alloc (.cells #[.int .i64 t.kind,.string t.name,.int .i64 t.sort,.slice A5 t.kids.length c5,.int .i64 n] 163):=⟨_,rfl⟩;have hb6:Below w5.heap.size w5 W6:=by rw[hW6];exact qab (Nat.le_refl _) _
  have hs6:W6.heap.size=w5.heap.size+1:=by rw[hW6];simp
  have hx6:W6.heap[w5.heap.size]?=some (.cells (wCells [((t,A5,c5),n)]).toArray 163 (0,0)):=by rw[hW6];exact heap_alloc_new _ _
  have hrow6:=HRD.out.below (hb5.trans (hb6.mono hs5));have hown6:=hrow6.own;have hkl:=HK.out;rw[←hkl]at hown6;have IN:=insW_any W6 base k i w5.heap.size _ (wCells its) (wCells [((t,A5,c5),n)]) hown6 (by omega) (by omega) hik (qe8 its) (fun e=>by have:=(HRD.out.lt _ e).2;omega) hx6 rfl (qe8 _);have HIN:=hdzz IN;have HR6:=hdzz hrow6;have HP5:=hdzz hrep5;have HB6:=hdzz (HBD.out.trans ((hb5.mono (by omega)).trans (hb6.mono (by omega))));have HS6:Hid (∀q,q<D.heap.size→(Value.slice Av k cv).ownBlock≠some q→W6.heap[q]?=D.heap[q]?):=hdzz fun q hq hne=>(hb6.block q (by omega)).trans (hS5 q hq hne);have H56:=hdzz hb6;clear hown6 hkl IN hrow6 hrep5 hb5 hb6 hx6;simp only[Tm.val]
  refine stkz (.agg #[.int .i64 t.kind,.string t.name,.int .i64 t.sort,.slice A5 t.kids.length c5,.int .i64 n]) rfl rfl rfl (fun _ _ _ h=>h) hS5 (fun Y hY=>by
    (try simp only[Act.put]);go_simp) ?_
  simp only[Act.put,fsa,fsb,fsc,fsd,fse,fsf];clear hS5;refine qar rfl rfl (fun K hK=>?_);go_wp2_with fail
  rw[←hW6];refine⟨⟨fun _ q hq hne=>HS6.out q (by omega) hne,trivial⟩,?_⟩;clear hW6;refine qar rfl rfl (fun K hK=>?_);go_wp2_with fail
  refine HIN.out.mono ?_;clear HIN;rintro e w7 ⟨v',rfl,ho,hgr⟩;have hS7:∀q,q<D.heap.size→(Value.slice Av k cv).ownBlock≠some q→w7.heap[q]?=D.heap[q]?:=fun q hq hne=>(hgr.old q (by omega) hne).trans (HS6.out q hq hne);refine hK _ _ ⟨⟨fun _ q hq hne=>hS7 q (by omega) hne,trivial⟩,?_⟩;clear hK K;rw[qpc]at ho;have hjl:(its.take i++((t,A5,c5),n)::its.drop i).length=k+1:=by
   have:=HK.out;simp only[List.length_append,List.length_cons,List.length_take,List.length_drop];omega
  rw[←hjl]at ho;have hres:=RowW.grew (F:=fun b=>base≤b) ho hgr (fun x hx=>by
   rcases List.mem_append.1 hx with hx|hx
   ·exact HR6.out.reps x (List.mem_of_mem_take hx)
   ·rcases List.mem_cons.1 hx with rfl|hx
    ·refine RepP.mono (fun b h=>?_) (fun p h=>H56.out.cell (by omega)) _ _ _ HP5.out;obtain⟨h1,h2⟩:=h;exact⟨by omega,by omega,fun e=>by have:=(HRD.out.lt _ e).2;omega⟩
    ·exact HR6.out.reps x (List.mem_of_mem_drop hx))
  have hmap:(its.take i++((t,A5,c5),n)::its.drop i).map IW.pw=res:=by
   rw[HR1.out,HL.out,List.map_append,List.map_cons,List.map_take,List.map_drop];rfl
  have HRES:Hid (Inst base res w (.returned v') w7):=hdzz ⟨v',_,rfl,hres,hmap,(HB6.out.mono hbase).trans hgr.below⟩;clear hres hmap hjl ho hgr;refine stkz (v') rfl rfl rfl (fun _ _ _ h=>h) (fun q hq hne=>hS7 q (by omega) hne) (fun Y hY=>by
    (try simp only[Act.put]);go_simp) ?_
  refine qat ?_;clear hS7;simp only[Act.put,fsa,fsb,fsc,fsd,fse,fsf];go_wp2_with fail
  go_ret
  exact HRES.out
end Go.Proofs.YtjhjoiplpmjepaaGreat
