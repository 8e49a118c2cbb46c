/- Tbent0, Tput, Tlaw0, Tdes1, Tdes2 (joined by shake.py). -/
import Derived.Test.YtjhjoiplpmjepaaGreatL0
import Derived.Test.YtjhjoiplpmjepaaGreatL6
import Derived.Test.YtjhjoiplpmjepaaGreatL8
import Derived.Test.YtjhjoiplpmjepaaGreatL9
import Derived.Test.YtjhjoiplpmjepaaGreatL10
import Derived.Test.YtjhjoiplpmjepaaGreatL12
set_option maxRecDepth 100000
set_option linter.unusedVariables false
set_option linter.unusedSimpArgs false
set_option maxHeartbeats 8000000
namespace Go.Proofs.YtjhjoiplpmjepaaGreat
open Go.RowKit Go.Sort
def Qb (Pb:Nat→Prop) (B:Nat) (W:World) (b:Nat):Prop:=Pb b∨B≤b∧b<W.heap.size
theorem Qb.go {Pb:Nat→Prop} {B:Nat} {W Z:World} {t:Tm} {A:Option Addr} {c:Nat} (h:RepP W (Qb Pb B W) t A c) (hb:Below W.heap.size W Z) (hP:∀b,Pb b→b<B) (hB:B≤W.heap.size):RepP Z (Qb Pb B Z) t A c:=
 RepP.mono (fun b h=>h.imp id fun h=>⟨h.1,by have:=hb.size;omega⟩) (fun p hp=>hb.cell (hp.elim (fun h=>by have:=hP _ h;omega) (fun h=>h.2))) _ _ _ h
theorem app_box (x:ByteArray) (its:List It) (g:Nat) (W:World) (Pb:Nat→Prop) (B:Nat) (hP:∀b,Pb b→b<B) (hB:B≤W.heap.size) (hx:x.size≤1000) (hne:its≠[]) (hlen:its.length≤1000) (hg:B≤g) (hbx:W.heap[g]?=some (.cells (itCells its).toArray 24 (0,0)))
  (hr:∀y∈its,RepP W (Qb Pb B W) y.1 y.2.1 y.2.2) :
  Calls Tryz.prog 20 #[.string x,.slice (some ⟨g,0,none⟩) its.length its.length] W fun e w'=>∃A' c',e=.returned (.agg #[.int .i64 3,.string x,.int .i64 0,.slice A' its.length c'])∧RepP w' (Qb Pb B w') (.mk 3 x 0 (its.map (·.1))) A' c'∧Below W.heap.size W w':=by
 have hglt:g<W.heap.size:=(sltz hbx);have hS:RepS W (Qb Pb B W) (its.map (·.1)) (some ⟨g,0,none⟩) its.length:=by
  refine⟨by rw[List.length_map];exact Nat.le_refl _,by unfold maxLen;omega,.inr ⟨g,0,rfl,.inr ⟨hg,hglt⟩,?_⟩⟩;refine RepLP.of_its its _ 0 (fun j u hj=>?_) hr;rw[Nat.zero_add];unfold World.cell?;rw[hbx];simpa using hj
 have h:=qb5 x (its.map (·.1)) (some ⟨g,0,none⟩) its.length W (Qb Pb B W) (fun b h=>h.elim (fun h=>by have:=hP b h;omega) (fun h=>h.2)) (by unfold maxLen;omega) (fun e=>hne (List.map_eq_nil_iff.1 e)) (by rw[List.length_map];omega) hS;rw[List.length_map]at h;refine h.mono ?_;rintro e w' ⟨A',c',rfl,h1,h2⟩;have e1:(Tm.mk 3 x 0 (its.map (·.1))).val A' c'=.agg #[.int .i64 3,.string x,.int .i64 0,.slice A' (its.map (·.1)).length c']:=rfl;rw[e1,List.length_map];refine⟨A',c',rfl,RepP.mono (fun b h=>?_) (fun _ _=>rfl) _ _ _ h1,h2⟩;have:=h2.size;rcases h with(h|h)|h
 ·exact .inl h
 ·exact .inr ⟨h.1,by omega⟩
 ·exact .inr ⟨by omega,h.2⟩
theorem qmj (x:ByteArray) (W:World) (Pb:Nat→Prop) (B:Nat) (hx:x.size≤1000) :
  Calls Tryz.prog 20 #[.string x,.slice none 0 0] W fun e w'=>∃A',e=.returned (.agg #[.int .i64 3,.string x,.int .i64 0,.slice A' 0 0])∧RepP w' (Qb Pb B w') (.mk 3 x 0 []) A' 0∧Below W.heap.size W w':=by
 refine(qdc x W).mono ?_;rintro e w' ⟨⟨A',rfl⟩,hb⟩;exact⟨A',rfl,by rw[RepP_mk];exact⟨by unfold maxLen;omega,Nat.le_refl _,Nat.zero_le _,.inl rfl⟩,hb⟩
def nOf (j:Nat):Tm:=match j with
 | 0=>.mk 2 ⟨#[110]⟩ 2 []
 | 1=>.mk 2 ⟨#[107]⟩ 3 []
 | _=>.mk 2 ⟨#[97]⟩ 1 []
theorem nOf_kind (j:Nat):(nOf j).kind=2:=by unfold nOf;split<;>rfl
theorem qb7 (j:Nat) (W:World) (P:Nat→Prop):RepP W P (nOf j) none 0:=by
 unfold nOf;split<;>(rw[RepP_mk];exact⟨by decide,Nat.le_refl _,Nat.zero_le _,.inl rfl⟩)
structure BtN (Pb:Nat→Prop) (w:World) (u:Tm) (Au:Option Addr) (cu:Nat) (nn:Tm) (g:Nat) (W:World):Prop where
 b1:W.heap[w.heap.size]?=some (qag u Au cu)
 b3:W.heap[w.heap.size+1+1]?=some (.cells #[.int .i64 0,.string ⟨#[]⟩,.int .i64 0,.slice none 0 0] 24 (0,0))
 bn:W.heap[g]?=some (qag nn none 0)
 hg:w.heap.size+1+1<g
 lt:g<W.heap.size
 bel:Below w.heap.size w W
 ru:RepP W Pb u Au cu
 le:∀b,Pb b→b<w.heap.size
theorem BtN.go {Pb:Nat→Prop} {w W Z:World} {u:Tm} {Au:Option Addr} {cu:Nat} {nn:Tm} {g:Nat} (h:BtN Pb w u Au cu nn g W) (hb:Below W.heap.size W Z):BtN Pb w u Au cu nn g Z:=by
 have h1:=h.hg;have h2:=h.lt;have h3:=h.le;have h4:=hb.size;exact⟨(hb.block _ (by omega)).trans h.b1,(hb.block _ (by omega)).trans h.b3,(hb.block _ h2).trans h.bn,h1,by omega,h.bel.trans (hb.mono (by omega)),RepP.mono (fun _ h=>h) (fun p hp=>hb.cell (by have:=h3 _ hp;omega)) _ _ _ h.ru,h3⟩
theorem qdf {Pb:Nat→Prop} {r:Tm} {w Y:World} {x y z u:Value} {A:Option Addr} {c:Nat} (hB:Below w.heap.size w Y) (hP:∀b,Pb b→b<w.heap.size) (hr:RepP Y (Qb Pb (w.heap.size+1+1+1) Y) r A c) (hlt:w.heap.size+1+1<Y.heap.size) :
  TmP Pb r w (.returned (r.val A c)) ((((Y.setCell ⟨w.heap.size+1+1,0,none⟩ x).setCell ⟨w.heap.size+1+1,1,none⟩ y).setCell ⟨w.heap.size+1+1,2,none⟩ z).setCell ⟨w.heap.size+1+1,3,none⟩ u):=
 qi7 hB hP (by omega) (RepP.mono (fun b h=>h.elim (fun h=>⟨.inl h,by have:=hP b h;omega⟩) (fun h=>⟨.inr ⟨by omega,by omega⟩,h.2⟩)) (fun _ _=>rfl) _ _ _ hr)
end Go.Proofs.YtjhjoiplpmjepaaGreat
namespace Go.Proofs.YtjhjoiplpmjepaaGreat
def qg7:Tm→Prop
 | .mk k _ _ l=>(k≠3→l=[])∧∀t∈l,qg7 t
theorem nf_put:∀(p:List Int) (t x y:Tm),qg7 t→Tm.atP p t=some x→y.nf=x.nf→(Tm.putP p t y).nf=t.nf
 | [],t,x,y,_,h,he=>by
  rw[Tm.atP,Option.some.injEq]at h;subst h;exact he
 | i::p,t,x,y,hf,h,he=>by
  rw[Tm.atP]at h
  cases hk:t.kid i with
  | none=>rw[hk]at h;cases h
  | some z=>
   rw[hk]at h;obtain⟨-,hl0,hz0⟩:=Tm.kid_lt hk;obtain⟨k,n,s,l⟩:=t;have hl:i.toNat<l.length:=hl0;have hz:l[i.toNat]=z:=hz0;clear hl0 hz0;rw[qg7]at hf;have ih:=nf_put p z x y (hf.2 z (hz ▸ List.getElem_mem hl)) h he;rw[Tm.putP,hk];show(Tm.mk k n s (l.set i.toNat (Tm.putP p z y))).nf=_;have h3:k=3:=Classical.byContradiction fun hne=>by rw[hf.1 hne]at hl;exact absurd hl (by simp)
   subst h3;rw[Tm.nf,Tm.nf,if_pos rfl,if_pos rfl,qc0,qc0,List.map_set,ih,←hz]
   congr 1
   have:(l.map Tm.nf)[i.toNat]'(by simpa using hl)=l[i.toNat].nf:=by simp
   rw[←this];exact List.set_getElem_self _
mutual
theorem qg7.of:∀{t:Tm},t.check=0→qg7 t
 | .mk k n s l,hc=>by
  rw[Tm.check]at hc;rw[qg7]
  split at hc
  ·split at hc
   ·exact absurd hc (by decide)
   ·rename_i h1
    have hl:l=[]:=Classical.byContradiction fun e=>h1 (.inr (.inr e));subst hl;exact⟨fun _=>rfl,by simp⟩
  ·split at hc
   ·rename_i hk
    split at hc
    ·exact absurd hc (by decide)
    ·split at hc
     ·exact absurd hc (by decide)
     ·split at hc
      ·exact absurd hc (by decide)
      ·exact⟨fun e=>absurd hk e,qg7.ofs hc⟩
   ·exact absurd hc (by decide)
theorem qg7.ofs:∀{l:List Tm},Tm.checks l=0→∀t∈l,qg7 t
 | [],_,t,h=>by simp at h
 | u::r,hc,t,h=>by
  rw[Tm.checks]at hc
  split at hc
  ·rename_i hn;exact absurd hc hn
  ·rename_i hn
   rcases List.mem_cons.1 h with h|h
   ·rw[h];exact qg7.of (Classical.not_not.1 hn)
   ·exact qg7.ofs hc t h
end
theorem kid_in {t k:Tm} {i:Int} (h:t.kid i=some k):k∈t.kids:=by
 unfold Tm.kid at h
 split at h
 ·exact List.mem_of_getElem? h
 ·cases h
theorem ArT.atP:∀(p:List Int) (t x:Tm),ArT t→Tm.atP p t=some x→ArT x∧x.size≤t.size
 | [],t,x,ht,h=>by rw[Tm.atP,Option.some.injEq]at h;subst h;exact⟨ht,Nat.le_refl _⟩
 | i::r,t,x,ht,h=>by
  rw[Tm.atP]at h
  cases hk:t.kid i with
  | none=>simp[hk]at h
  | some k=>
   rw[hk]at h;have hm:=kid_in hk;have h1:=ArT.atP r k x (ht.kids k hm) h;have h2:=qhe hm;exact⟨h1.1,by omega⟩
mutual
theorem Tm.poss_at:∀(t:Tm) (p:List Int),p∈t.poss→∃x,Tm.atP p t=some x
 | .mk k n s l,p,h=>by
  rw[Tm.poss,List.mem_cons]at h;rcases h with rfl|h
  ·exact⟨_,rfl⟩
  ·obtain⟨j,r,y,rfl,hj,x,hx⟩:=Tm.posss_at l 0 p h;refine⟨x,?_⟩;have hk:(Tm.mk k n s l).kid ((0+j:Nat):Int)=some y:=by
    unfold Tm.kid;rw[if_pos (Int.natCast_nonneg _),Int.toNat_natCast,Nat.zero_add];exact hj
   rw[Tm.atP,hk];exact hx
theorem Tm.posss_at:∀(l:List Tm) (i:Nat) (p:List Int),p∈Tm.posss l i→∃(j:Nat) (r:List Int) (y:Tm),p=((i+j:Nat):Int)::r∧l[j]?=some y∧∃x,Tm.atP r y=some x
 | [],_,p,h=>by simp[Tm.posss]at h
 | t::l,i,p,h=>by
  rw[Tm.posss,List.mem_append,List.mem_map]at h;rcases h with⟨q,hq,rfl⟩|h
  ·exact⟨0,q,t,rfl,rfl,Tm.poss_at t q hq⟩
  ·obtain⟨j,r,y,rfl,hj,hx⟩:=Tm.posss_at l (i+1) p h;exact⟨j+1,r,y,by rw[show i+1+j=i+(j+1)by omega],hj,hx⟩
end
theorem qj5:∀l:List Tm,Tm.sizes l.reverse=Tm.sizes l
 | []=>rfl
 | t::r=>by rw[List.reverse_cons,qeq,qj5 r,Tm.sizes,Tm.sizes,Tm.sizes];omega
theorem nOf_size (j:Nat):(nOf j).size=1:=by unfold nOf;split<;>rfl
theorem qk4 (k j:Nat) (u:Tm):(qfd k (nOf j) u).size≤3*u.size+20:=by
 have hn:=nOf_size j;have hu:=u.size_pos
 match k with
 | 0|1|2|3|4|5|6|7|8|9|10|11=>simp only[qfd,appT,Tm.size,Tm.sizes];omega
 | k+12=>
  show(qex u).size≤_;unfold qex
  split
  ·obtain⟨k0,n,s,l⟩:=u;simp only[appT,Tm.size,Tm.kids,Tm.name];rw[qj5];omega
  ·split
   ·have h1:(kidT (kidT u.kids 0).kids 0).size≤u.size:=Nat.le_trans qgp qgp;have h2:(kidT (kidT u.kids 0).kids 1).size≤u.size:=Nat.le_trans qgp qgp;have h3:(kidT u.kids 1).size≤u.size:=qgp;simp only[appT,Tm.size,Tm.sizes];omega
   ·omega
theorem ql6 {t:Tm} (h:t.validT=0):t.valid=0∧t.th=0:=by
 unfold Tm.validT at h
 split at h
 ·rename_i hn;exact absurd h hn
 ·rename_i hn;exact⟨Classical.not_not.1 hn,h⟩
structure Bent (t u:Tm):Prop where
 v:u.validT=0
 n:u.nf=t.nf
 s:u.size≤150
theorem Bent.ar {t u:Tm} (h:Bent t u):ArT u:=by
 have h1:=ql6 h.v;exact ArT.of_th (qap h1.1).1 h1.2
theorem Bent.step {t u x:Tm} {p:List Int} (h:Bent t u) (hx:Tm.atP p u=some x) (k j:Nat):∃y,Tm.repl p u (qfd k (nOf j) x)=some y∧y.nf=t.nf∧y.size≤1000:=by
 have hax:=ArT.atP p u x h.ar hx;have hf:=qg7.of (qap (ql6 h.v).1).1;have hb:=nf_bent k (nOf j) x (by rw[nOf_kind];decide) (fun hE=>⟨(hax.1.num hE).2.1 (by decide),fun hE0=>((ArT.kidl hax.1.kids 0).num hE0).2.1 (by decide)⟩);refine⟨_,Tm.repl_some hx,?_,?_⟩
 ·rw[nf_put p u x _ hf hx hb,h.n]
 ·have h1:=Tm.put_size p u (qfd k (nOf j) x);have h2:=qk4 k j x;have h3:=h.s;omega
end Go.Proofs.YtjhjoiplpmjepaaGreat
namespace Go.Proofs.YtjhjoiplpmjepaaGreat
open Go.RowKit Go.Sort
theorem qee {t:Tm} {i M:Nat} (h:t.size≤M):(kidT t.kids i).size≤M:=Nat.le_trans (qgo t i) h
theorem des_fst (a:Tm) (A:Option Addr) (c:Nat) (w:World) (Pb:Nat→Prop) (hPb:∀b,Pb b→b<w.heap.size) (hka:ArT a) (hsa:a.size≤900000) (hrep:RepP w Pb (.mk 3 nFst 0 [a]) A c) :
  Calls Tryz.prog 104 #[(Tm.mk 3 nFst 0 [a]).val A c] w (OkR Pb (qau nFst [a]) w):=by
 have mixed:=mixz;obtain⟨b,off,Aa,ca,rfl,hbw,p0,p1,p2,p3,pa⟩:=qal hrep 0 (by show 0<[a].length;exact Nat.succ_pos _);have hbw:b<w.heap.size:=hPb _ hbw;rw[Nat.zero_mul,Nat.add_zero]at p0 p1 p2 p3;have ek0:kidT (Tm.mk 3 nFst 0 [a]).kids 0=a:=rfl;rw[ek0]at p0 p1 p2 p3 pa;clear ek0;have HREP:=hdzz hrep;obtain⟨V,hV⟩:∃V,V=((((w.alloc (.cells #[.int .i64 3,.string ⟨#[102,115,116]⟩,.int .i64 0,.slice (some ⟨b,off,none⟩) 1 c] 24)).alloc (.cells #[.int .i64 0,.string ⟨#[]⟩,.int .i64 0,.slice none 0 0] 24)).alloc (.cells #[.int .i64 a.kind,.string a.name,.int .i64 a.sort,.slice Aa a.kids.length ca] 24)).alloc (.cells #[.int .i64 0,.string ⟨#[]⟩,.int .i64 0,.slice none 0 0] 24)):=⟨_,rfl⟩
 have s1:(w.alloc (.cells #[.int .i64 3,.string ⟨#[102,115,116]⟩,.int .i64 0,.slice (some ⟨b,off,none⟩) 1 c] 24)).heap.size=w.heap.size+1:=by simp
 have s2:((w.alloc (.cells #[.int .i64 3,.string ⟨#[102,115,116]⟩,.int .i64 0,.slice (some ⟨b,off,none⟩) 1 c] 24)).alloc (.cells #[.int .i64 0,.string ⟨#[]⟩,.int .i64 0,.slice none 0 0] 24)).heap.size=w.heap.size+1+1:=by simp
 have s3:(((w.alloc (.cells #[.int .i64 3,.string ⟨#[102,115,116]⟩,.int .i64 0,.slice (some ⟨b,off,none⟩) 1 c] 24)).alloc (.cells #[.int .i64 0,.string ⟨#[]⟩,.int .i64 0,.slice none 0 0] 24)).alloc (.cells #[.int .i64 a.kind,.string a.name,.int .i64 a.sort,.slice Aa a.kids.length ca] 24)).heap.size=w.heap.size+1+1+1:=by simp
 have hb2:Below w.heap.size w ((w.alloc (.cells #[.int .i64 3,.string ⟨#[102,115,116]⟩,.int .i64 0,.slice (some ⟨b,off,none⟩) 1 c] 24)).alloc (.cells #[.int .i64 0,.string ⟨#[]⟩,.int .i64 0,.slice none 0 0] 24)):=((Below.refl _ _).alloc (Nat.le_refl _) _).alloc (by simp) _;have hb3:Below w.heap.size w (((w.alloc (.cells #[.int .i64 3,.string ⟨#[102,115,116]⟩,.int .i64 0,.slice (some ⟨b,off,none⟩) 1 c] 24)).alloc (.cells #[.int .i64 0,.string ⟨#[]⟩,.int .i64 0,.slice none 0 0] 24)).alloc (.cells #[.int .i64 a.kind,.string a.name,.int .i64 a.sort,.slice Aa a.kids.length ca] 24)):=hb2.alloc (by simp;omega) _;have hbV:Below w.heap.size w V:=by rw[hV];exact hb3.alloc (by simp;omega) _
 have hb4:Below w.heap.size w ((((w.alloc (.cells #[.int .i64 3,.string ⟨#[102,115,116]⟩,.int .i64 0,.slice (some ⟨b,off,none⟩) 1 c] 24)).alloc (.cells #[.int .i64 0,.string ⟨#[]⟩,.int .i64 0,.slice none 0 0] 24)).alloc (.cells #[.int .i64 a.kind,.string a.name,.int .i64 a.sort,.slice Aa a.kids.length ca] 24)).alloc (.cells #[.int .i64 0,.string ⟨#[]⟩,.int .i64 0,.slice none 0 0] 24)):=hb3.alloc (by simp;omega) _;have DB:Hid (DstB Pb w nFst [a] (some ⟨b,off,none⟩) c a (Tm.mk 0 .empty 0 []) Aa none ca 0 V):=hdzz (by
  refine⟨?_,?_,?_,?_,hbV,RepP.mono (fun _ h=>h) (fun p h=>hbV.cell (hPb _ h)) _ _ _ pa,(by rw[RepP_mk];exact⟨Nat.zero_le _,Nat.le_refl _,Nat.zero_le _,.inl rfl⟩),RepP.mono (fun _ h=>h) (fun p h=>hbV.cell (hPb _ h)) _ _ _ HREP.out,hPb⟩
  ·rw[hV,Below.heap_alloc _ _ _ (by rw[s3];omega),Below.heap_alloc _ _ _ (by rw[s2];omega),Below.heap_alloc _ _ _ (by rw[s1];omega)];exact heap_alloc_new w _
  ·rw[hV,Below.heap_alloc _ _ _ (by rw[s3];omega),Below.heap_alloc _ _ _ (by rw[s2];omega)];have h:=heap_alloc_new (w.alloc (.cells #[.int .i64 3,.string ⟨#[102,115,116]⟩,.int .i64 0,.slice (some ⟨b,off,none⟩) 1 c] 24)) (.cells #[.int .i64 0,.string ⟨#[]⟩,.int .i64 0,.slice none 0 0] 24);rw[s1]at h;exact h
  ·rw[hV,Below.heap_alloc _ _ _ (by rw[s3];omega)];have h:=heap_alloc_new ((w.alloc (.cells #[.int .i64 3,.string ⟨#[102,115,116]⟩,.int .i64 0,.slice (some ⟨b,off,none⟩) 1 c] 24)).alloc (.cells #[.int .i64 0,.string ⟨#[]⟩,.int .i64 0,.slice none 0 0] 24)) (.cells #[.int .i64 a.kind,.string a.name,.int .i64 a.sort,.slice Aa a.kids.length ca] 24);rw[s2]at h;exact h
  ·rw[hV];have h:=heap_alloc_new (((w.alloc (.cells #[.int .i64 3,.string ⟨#[102,115,116]⟩,.int .i64 0,.slice (some ⟨b,off,none⟩) 1 c] 24)).alloc (.cells #[.int .i64 0,.string ⟨#[]⟩,.int .i64 0,.slice none 0 0] 24)).alloc (.cells #[.int .i64 a.kind,.string a.name,.int .i64 a.sort,.slice Aa a.kids.length ca] 24)) (.cells #[.int .i64 0,.string ⟨#[]⟩,.int .i64 0,.slice none 0 0] 24);rw[s3]at h;exact h)
 have a0:=(hb2.cell (p:=⟨b,off,none⟩) hbw).trans p0;have a1:=(hb2.cell (p:=⟨b,off+1,none⟩) hbw).trans p1;have a2:=(hb2.cell (p:=⟨b,off+2,none⟩) hbw).trans p2;have a3:=(hb2.cell (p:=⟨b,off+3,none⟩) hbw).trans p3;clear s1 s2 s3 hb2 hb3 hb4 hbV p0 p1 p2 p3 pa  hrep;have HV:=hdzz hV;clear hV;have nyes:((⟨#[102,115,116]⟩:ByteArray).toList==[102,115,116])=true:=(qat (n:=⟨#[102,115,116]⟩) (c:=⟨#[102,115,116]⟩) (L:=[102,115,116]) rfl).1 rfl;have IS:=qcc a qbm Aa ca V;have hiff:fitD nFst [a]↔a.isA qbm:=⟨fun h=>by
  rcases h with⟨h,h2⟩|⟨h,h2⟩|⟨h,h2⟩|⟨h,h2⟩|⟨h,h2⟩|⟨h,h2⟩
  all_goals first|exact h2|exact absurd h (by decide),fun h=>by unfold fitD;exact .inl ⟨rfl,h⟩⟩
 simp only[Tm.val,qbm]at IS;have IS:=hdzz IS;obtain⟨res,hres⟩:∃r,r=qau nFst [a]:=⟨_,rfl⟩;rw[←hres];have HRES:=hdzz hres;clear hres;simp only[Tm.val,Tm.kind,Tm.name,Tm.sort,Tm.kids,nFst,List.length_cons,List.length_nil,Nat.zero_add,Nat.reduceAdd];go_enter Tryz.func104,Tryz.ntmps104
 go_wp2_with fail
 rw[←HV.out];clear HV a0 a1 a2 a3;refine IS.out.mono ?_;clear IS;rintro e w5 ⟨rfl,hl5⟩;have D5:=hdzz (DB.out.go hl5.below);clear DB hl5;by_cases hf:a.isA qbm
 ·have hfit:=hiff.2 hf;have hal:a.kids.length=2:=(hka.num hf).2.1 (by decide);have hdec:decide (a.isA qbm)=true:=decide_eq_true hf;simp only[qbm]at hdec;rw[hdec];clear hdec hf hiff;obtain⟨kb,ko,Ar,cr,hke,hkb,k0,k1,k2,k3,kr⟩:=qal D5.out.ra 0 (by omega);rw[Nat.zero_mul,Nat.add_zero]at k0 k1 k2 k3;subst hke;obtain⟨y0,y1,y2,y3,yf⟩:=qaa D5.out.b3;obtain⟨z0,z1,z2,z3,zf⟩:=qaa D5.out.b2;have hsz:=D5.out.size;have hd:qau nFst [a]=kidT a.kids 0:=by unfold qau;rw[if_pos hfit];rfl
  have HD:=hdzz hd;have HKR:=hdzz kr;have hal2:(2:Int)=(a.kids.length:Int):=by omega
  rw[hal]at y3;obtain⟨r,hr⟩:∃r,r=kidT a.kids 0:=⟨_,rfl⟩;rw[←hr]at k0 k1 k2 k3 HKR HD;clear hd kr hr hal2 hal hfit;go_wp2_with fail
  refine bodyPost_ret (v:=r.val Ar cr) ?_ rfl ?_
  ·simp[results,Tryz.results104,go_sem,z0,z1,z2,z3,Tm.val]
  refine⟨Ar,cr,by rw[HRES.out,HD.out],?_,?_⟩
  ·rw[HRES.out,HD.out];exact RepP.mono (fun b h=>.inl h) (fun p hp=>qaq (by have:=hPb _ hp;omega)) _ _ _ HKR.out
  ·iterate 4 refine Below.setCell ?_ (by show _≤w.heap.size+1;omega) _
   exact D5.out.bel
 ·have hfit:¬fitD nFst [a]:=fun h=>hf (hiff.1 h);have hdec:decide (a.isA qbm)=false:=decide_eq_false hf;simp only[qbm]at hdec;rw[hdec];clear hdec hf hiff;obtain⟨x0,x1,x2,x3,xf⟩:=qaa D5.out.b1;obtain⟨z0,z1,z2,z3,zf⟩:=qaa D5.out.b2;have hsz:=D5.out.size;have hd:qau nFst [a]=.mk 3 nFst 0 [a]:=by unfold qau;rw[if_neg hfit]
  have HD:=hdzz hd;have HKR:=hdzz D5.out.rt;clear hd hfit;simp only[Tm.kind,Tm.name,Tm.sort,Tm.kids,nFst,List.length_cons,List.length_nil,Nat.zero_add,Nat.reduceAdd]at x0 x1 x2 x3;go_wp2_with fail
  refine bodyPost_ret (v:=Tm.val (.mk 3 nFst 0 [a]) (some ⟨b,off,none⟩) c) ?_ rfl ?_
  ·simp[results,Tryz.results104,go_sem,z0,z1,z2,z3,Tm.val,Tm.kind,Tm.name,Tm.sort,Tm.kids,nFst]
  refine⟨some ⟨b,off,none⟩,c,by rw[HRES.out,HD.out],?_,?_⟩
  ·rw[HRES.out,HD.out];exact RepP.mono (fun b h=>.inl h) (fun p hp=>qaq (by have:=hPb _ hp;omega)) _ _ _ HKR.out
  ·iterate 4 refine Below.setCell ?_ (by show _≤w.heap.size+1;omega) _
   exact D5.out.bel
theorem des_snd (a:Tm) (A:Option Addr) (c:Nat) (w:World) (Pb:Nat→Prop) (hPb:∀b,Pb b→b<w.heap.size) (hka:ArT a) (hsa:a.size≤900000) (hrep:RepP w Pb (.mk 3 nSnd 0 [a]) A c) :
  Calls Tryz.prog 104 #[(Tm.mk 3 nSnd 0 [a]).val A c] w (OkR Pb (qau nSnd [a]) w):=by
 have mixed:=mixz;obtain⟨b,off,Aa,ca,rfl,hbw,p0,p1,p2,p3,pa⟩:=qal hrep 0 (by show 0<[a].length;exact Nat.succ_pos _);have hbw:b<w.heap.size:=hPb _ hbw;rw[Nat.zero_mul,Nat.add_zero]at p0 p1 p2 p3;have ek0:kidT (Tm.mk 3 nSnd 0 [a]).kids 0=a:=rfl;rw[ek0]at p0 p1 p2 p3 pa;clear ek0;have HREP:=hdzz hrep;obtain⟨V,hV⟩:∃V,V=((((w.alloc (.cells #[.int .i64 3,.string ⟨#[115,110,100]⟩,.int .i64 0,.slice (some ⟨b,off,none⟩) 1 c] 24)).alloc (.cells #[.int .i64 0,.string ⟨#[]⟩,.int .i64 0,.slice none 0 0] 24)).alloc (.cells #[.int .i64 a.kind,.string a.name,.int .i64 a.sort,.slice Aa a.kids.length ca] 24)).alloc (.cells #[.int .i64 0,.string ⟨#[]⟩,.int .i64 0,.slice none 0 0] 24)):=⟨_,rfl⟩
 have s1:(w.alloc (.cells #[.int .i64 3,.string ⟨#[115,110,100]⟩,.int .i64 0,.slice (some ⟨b,off,none⟩) 1 c] 24)).heap.size=w.heap.size+1:=by simp
 have s2:((w.alloc (.cells #[.int .i64 3,.string ⟨#[115,110,100]⟩,.int .i64 0,.slice (some ⟨b,off,none⟩) 1 c] 24)).alloc (.cells #[.int .i64 0,.string ⟨#[]⟩,.int .i64 0,.slice none 0 0] 24)).heap.size=w.heap.size+1+1:=by simp
 have s3:(((w.alloc (.cells #[.int .i64 3,.string ⟨#[115,110,100]⟩,.int .i64 0,.slice (some ⟨b,off,none⟩) 1 c] 24)).alloc (.cells #[.int .i64 0,.string ⟨#[]⟩,.int .i64 0,.slice none 0 0] 24)).alloc (.cells #[.int .i64 a.kind,.string a.name,.int .i64 a.sort,.slice Aa a.kids.length ca] 24)).heap.size=w.heap.size+1+1+1:=by simp
 have hb2:Below w.heap.size w ((w.alloc (.cells #[.int .i64 3,.string ⟨#[115,110,100]⟩,.int .i64 0,.slice (some ⟨b,off,none⟩) 1 c] 24)).alloc (.cells #[.int .i64 0,.string ⟨#[]⟩,.int .i64 0,.slice none 0 0] 24)):=((Below.refl _ _).alloc (Nat.le_refl _) _).alloc (by simp) _;have hb3:Below w.heap.size w (((w.alloc (.cells #[.int .i64 3,.string ⟨#[115,110,100]⟩,.int .i64 0,.slice (some ⟨b,off,none⟩) 1 c] 24)).alloc (.cells #[.int .i64 0,.string ⟨#[]⟩,.int .i64 0,.slice none 0 0] 24)).alloc (.cells #[.int .i64 a.kind,.string a.name,.int .i64 a.sort,.slice Aa a.kids.length ca] 24)):=hb2.alloc (by simp;omega) _;have hbV:Below w.heap.size w V:=by rw[hV];exact hb3.alloc (by simp;omega) _
 have hb4:Below w.heap.size w ((((w.alloc (.cells #[.int .i64 3,.string ⟨#[115,110,100]⟩,.int .i64 0,.slice (some ⟨b,off,none⟩) 1 c] 24)).alloc (.cells #[.int .i64 0,.string ⟨#[]⟩,.int .i64 0,.slice none 0 0] 24)).alloc (.cells #[.int .i64 a.kind,.string a.name,.int .i64 a.sort,.slice Aa a.kids.length ca] 24)).alloc (.cells #[.int .i64 0,.string ⟨#[]⟩,.int .i64 0,.slice none 0 0] 24)):=hb3.alloc (by simp;omega) _;have DB:Hid (DstB Pb w nSnd [a] (some ⟨b,off,none⟩) c a (Tm.mk 0 .empty 0 []) Aa none ca 0 V):=hdzz (by
  refine⟨?_,?_,?_,?_,hbV,RepP.mono (fun _ h=>h) (fun p h=>hbV.cell (hPb _ h)) _ _ _ pa,(by rw[RepP_mk];exact⟨Nat.zero_le _,Nat.le_refl _,Nat.zero_le _,.inl rfl⟩),RepP.mono (fun _ h=>h) (fun p h=>hbV.cell (hPb _ h)) _ _ _ HREP.out,hPb⟩
  ·rw[hV,Below.heap_alloc _ _ _ (by rw[s3];omega),Below.heap_alloc _ _ _ (by rw[s2];omega),Below.heap_alloc _ _ _ (by rw[s1];omega)];exact heap_alloc_new w _
  ·rw[hV,Below.heap_alloc _ _ _ (by rw[s3];omega),Below.heap_alloc _ _ _ (by rw[s2];omega)];have h:=heap_alloc_new (w.alloc (.cells #[.int .i64 3,.string ⟨#[115,110,100]⟩,.int .i64 0,.slice (some ⟨b,off,none⟩) 1 c] 24)) (.cells #[.int .i64 0,.string ⟨#[]⟩,.int .i64 0,.slice none 0 0] 24);rw[s1]at h;exact h
  ·rw[hV,Below.heap_alloc _ _ _ (by rw[s3];omega)];have h:=heap_alloc_new ((w.alloc (.cells #[.int .i64 3,.string ⟨#[115,110,100]⟩,.int .i64 0,.slice (some ⟨b,off,none⟩) 1 c] 24)).alloc (.cells #[.int .i64 0,.string ⟨#[]⟩,.int .i64 0,.slice none 0 0] 24)) (.cells #[.int .i64 a.kind,.string a.name,.int .i64 a.sort,.slice Aa a.kids.length ca] 24);rw[s2]at h;exact h
  ·rw[hV];have h:=heap_alloc_new (((w.alloc (.cells #[.int .i64 3,.string ⟨#[115,110,100]⟩,.int .i64 0,.slice (some ⟨b,off,none⟩) 1 c] 24)).alloc (.cells #[.int .i64 0,.string ⟨#[]⟩,.int .i64 0,.slice none 0 0] 24)).alloc (.cells #[.int .i64 a.kind,.string a.name,.int .i64 a.sort,.slice Aa a.kids.length ca] 24)) (.cells #[.int .i64 0,.string ⟨#[]⟩,.int .i64 0,.slice none 0 0] 24);rw[s3]at h;exact h)
 have a0:=(hb2.cell (p:=⟨b,off,none⟩) hbw).trans p0;have a1:=(hb2.cell (p:=⟨b,off+1,none⟩) hbw).trans p1;have a2:=(hb2.cell (p:=⟨b,off+2,none⟩) hbw).trans p2;have a3:=(hb2.cell (p:=⟨b,off+3,none⟩) hbw).trans p3;clear s1 s2 s3 hb2 hb3 hb4 hbV p0 p1 p2 p3 pa  hrep;have HV:=hdzz hV;clear hV;have nyes:((⟨#[115,110,100]⟩:ByteArray).toList==[115,110,100])=true:=(qat (n:=⟨#[115,110,100]⟩) (c:=⟨#[115,110,100]⟩) (L:=[115,110,100]) rfl).1 rfl;have nfst:((⟨#[115,110,100]⟩:ByteArray).toList==[102,115,116])=false:=by rw[beq_eq_false_iff_ne];rw[beq_iff_eq]at nyes;rw[nyes];decide
 have IS:=qcc a qbm Aa ca V;have hiff:fitD nSnd [a]↔a.isA qbm:=⟨fun h=>by
  rcases h with⟨h,h2⟩|⟨h,h2⟩|⟨h,h2⟩|⟨h,h2⟩|⟨h,h2⟩|⟨h,h2⟩
  all_goals first|exact h2|exact absurd h (by decide),fun h=>by unfold fitD;exact .inr (.inl ⟨rfl,h⟩)⟩
 simp only[Tm.val,qbm]at IS;have IS:=hdzz IS;obtain⟨res,hres⟩:∃r,r=qau nSnd [a]:=⟨_,rfl⟩;rw[←hres];have HRES:=hdzz hres;clear hres;simp only[Tm.val,Tm.kind,Tm.name,Tm.sort,Tm.kids,nSnd,List.length_cons,List.length_nil,Nat.zero_add,Nat.reduceAdd];go_enter Tryz.func104,Tryz.ntmps104
 go_wp2_with fail
 rw[←HV.out];clear HV a0 a1 a2 a3;refine IS.out.mono ?_;clear IS;rintro e w5 ⟨rfl,hl5⟩;have D5:=hdzz (DB.out.go hl5.below);clear DB hl5;by_cases hf:a.isA qbm
 ·have hfit:=hiff.2 hf;have hal:a.kids.length=2:=(hka.num hf).2.1 (by decide);have hdec:decide (a.isA qbm)=true:=decide_eq_true hf;simp only[qbm]at hdec;rw[hdec];clear hdec hf hiff;obtain⟨kb,ko,Ar,cr,hke,hkb,k0,k1,k2,k3,kr⟩:=qal D5.out.ra 1 (by omega);rw[Nat.one_mul]at k0 k1 k2 k3;subst hke;obtain⟨y0,y1,y2,y3,yf⟩:=qaa D5.out.b3;obtain⟨z0,z1,z2,z3,zf⟩:=qaa D5.out.b2;have hsz:=D5.out.size;have hd:qau nSnd [a]=kidT a.kids 1:=by unfold qau;rw[if_pos hfit];rfl
  have HD:=hdzz hd;have HKR:=hdzz kr;have hal2:(2:Int)=(a.kids.length:Int):=by omega
  rw[hal]at y3;obtain⟨r,hr⟩:∃r,r=kidT a.kids 1:=⟨_,rfl⟩;rw[←hr]at k0 k1 k2 k3 HKR HD;clear hd kr hr hal2 hal hfit;go_wp2_with fail
  refine bodyPost_ret (v:=r.val Ar cr) ?_ rfl ?_
  ·simp[results,Tryz.results104,go_sem,z0,z1,z2,z3,Tm.val]
  refine⟨Ar,cr,by rw[HRES.out,HD.out],?_,?_⟩
  ·rw[HRES.out,HD.out];exact RepP.mono (fun b h=>.inl h) (fun p hp=>qaq (by have:=hPb _ hp;omega)) _ _ _ HKR.out
  ·iterate 4 refine Below.setCell ?_ (by show _≤w.heap.size+1;omega) _
   exact D5.out.bel
 ·have hfit:¬fitD nSnd [a]:=fun h=>hf (hiff.1 h);have hdec:decide (a.isA qbm)=false:=decide_eq_false hf;simp only[qbm]at hdec;rw[hdec];clear hdec hf hiff;obtain⟨x0,x1,x2,x3,xf⟩:=qaa D5.out.b1;obtain⟨z0,z1,z2,z3,zf⟩:=qaa D5.out.b2;have hsz:=D5.out.size;have hd:qau nSnd [a]=.mk 3 nSnd 0 [a]:=by unfold qau;rw[if_neg hfit]
  have HD:=hdzz hd;have HKR:=hdzz D5.out.rt;clear hd hfit;simp only[Tm.kind,Tm.name,Tm.sort,Tm.kids,nSnd,List.length_cons,List.length_nil,Nat.zero_add,Nat.reduceAdd]at x0 x1 x2 x3;go_wp2_with fail
  refine bodyPost_ret (v:=Tm.val (.mk 3 nSnd 0 [a]) (some ⟨b,off,none⟩) c) ?_ rfl ?_
  ·simp[results,Tryz.results104,go_sem,z0,z1,z2,z3,Tm.val,Tm.kind,Tm.name,Tm.sort,Tm.kids,nSnd]
  refine⟨some ⟨b,off,none⟩,c,by rw[HRES.out,HD.out],?_,?_⟩
  ·rw[HRES.out,HD.out];exact RepP.mono (fun b h=>.inl h) (fun p hp=>qaq (by have:=hPb _ hp;omega)) _ _ _ HKR.out
  ·iterate 4 refine Below.setCell ?_ (by show _≤w.heap.size+1;omega) _
   exact D5.out.bel
theorem des_read (a:Tm) (A:Option Addr) (c:Nat) (w:World) (Pb:Nat→Prop) (hPb:∀b,Pb b→b<w.heap.size) (hka:ArT a) (hsa:a.size≤900000) (hrep:RepP w Pb (.mk 3 qc1 0 [a]) A c) :
  Calls Tryz.prog 104 #[(Tm.mk 3 qc1 0 [a]).val A c] w (OkR Pb (qau qc1 [a]) w):=by
 have mixed:=mixz;obtain⟨b,off,Aa,ca,rfl,hbw,p0,p1,p2,p3,pa⟩:=qal hrep 0 (by show 0<[a].length;exact Nat.succ_pos _);have hbw:b<w.heap.size:=hPb _ hbw;rw[Nat.zero_mul,Nat.add_zero]at p0 p1 p2 p3;have ek0:kidT (Tm.mk 3 qc1 0 [a]).kids 0=a:=rfl;rw[ek0]at p0 p1 p2 p3 pa;clear ek0;have HREP:=hdzz hrep;obtain⟨V,hV⟩:∃V,V=((((w.alloc (.cells #[.int .i64 3,.string ⟨#[114,101,97,100]⟩,.int .i64 0,.slice (some ⟨b,off,none⟩) 1 c] 24)).alloc (.cells #[.int .i64 0,.string ⟨#[]⟩,.int .i64 0,.slice none 0 0] 24)).alloc (.cells #[.int .i64 a.kind,.string a.name,.int .i64 a.sort,.slice Aa a.kids.length ca] 24)).alloc (.cells #[.int .i64 0,.string ⟨#[]⟩,.int .i64 0,.slice none 0 0] 24)):=⟨_,rfl⟩
 have s1:(w.alloc (.cells #[.int .i64 3,.string ⟨#[114,101,97,100]⟩,.int .i64 0,.slice (some ⟨b,off,none⟩) 1 c] 24)).heap.size=w.heap.size+1:=by simp
 have s2:((w.alloc (.cells #[.int .i64 3,.string ⟨#[114,101,97,100]⟩,.int .i64 0,.slice (some ⟨b,off,none⟩) 1 c] 24)).alloc (.cells #[.int .i64 0,.string ⟨#[]⟩,.int .i64 0,.slice none 0 0] 24)).heap.size=w.heap.size+1+1:=by simp
 have s3:(((w.alloc (.cells #[.int .i64 3,.string ⟨#[114,101,97,100]⟩,.int .i64 0,.slice (some ⟨b,off,none⟩) 1 c] 24)).alloc (.cells #[.int .i64 0,.string ⟨#[]⟩,.int .i64 0,.slice none 0 0] 24)).alloc (.cells #[.int .i64 a.kind,.string a.name,.int .i64 a.sort,.slice Aa a.kids.length ca] 24)).heap.size=w.heap.size+1+1+1:=by simp
 have hb2:Below w.heap.size w ((w.alloc (.cells #[.int .i64 3,.string ⟨#[114,101,97,100]⟩,.int .i64 0,.slice (some ⟨b,off,none⟩) 1 c] 24)).alloc (.cells #[.int .i64 0,.string ⟨#[]⟩,.int .i64 0,.slice none 0 0] 24)):=((Below.refl _ _).alloc (Nat.le_refl _) _).alloc (by simp) _;have hb3:Below w.heap.size w (((w.alloc (.cells #[.int .i64 3,.string ⟨#[114,101,97,100]⟩,.int .i64 0,.slice (some ⟨b,off,none⟩) 1 c] 24)).alloc (.cells #[.int .i64 0,.string ⟨#[]⟩,.int .i64 0,.slice none 0 0] 24)).alloc (.cells #[.int .i64 a.kind,.string a.name,.int .i64 a.sort,.slice Aa a.kids.length ca] 24)):=hb2.alloc (by simp;omega) _;have hbV:Below w.heap.size w V:=by rw[hV];exact hb3.alloc (by simp;omega) _
 have hb4:Below w.heap.size w ((((w.alloc (.cells #[.int .i64 3,.string ⟨#[114,101,97,100]⟩,.int .i64 0,.slice (some ⟨b,off,none⟩) 1 c] 24)).alloc (.cells #[.int .i64 0,.string ⟨#[]⟩,.int .i64 0,.slice none 0 0] 24)).alloc (.cells #[.int .i64 a.kind,.string a.name,.int .i64 a.sort,.slice Aa a.kids.length ca] 24)).alloc (.cells #[.int .i64 0,.string ⟨#[]⟩,.int .i64 0,.slice none 0 0] 24)):=hb3.alloc (by simp;omega) _;have DB:Hid (DstB Pb w qc1 [a] (some ⟨b,off,none⟩) c a (Tm.mk 0 .empty 0 []) Aa none ca 0 V):=hdzz (by
  refine⟨?_,?_,?_,?_,hbV,RepP.mono (fun _ h=>h) (fun p h=>hbV.cell (hPb _ h)) _ _ _ pa,(by rw[RepP_mk];exact⟨Nat.zero_le _,Nat.le_refl _,Nat.zero_le _,.inl rfl⟩),RepP.mono (fun _ h=>h) (fun p h=>hbV.cell (hPb _ h)) _ _ _ HREP.out,hPb⟩
  ·rw[hV,Below.heap_alloc _ _ _ (by rw[s3];omega),Below.heap_alloc _ _ _ (by rw[s2];omega),Below.heap_alloc _ _ _ (by rw[s1];omega)];exact heap_alloc_new w _
  ·rw[hV,Below.heap_alloc _ _ _ (by rw[s3];omega),Below.heap_alloc _ _ _ (by rw[s2];omega)];have h:=heap_alloc_new (w.alloc (.cells #[.int .i64 3,.string ⟨#[114,101,97,100]⟩,.int .i64 0,.slice (some ⟨b,off,none⟩) 1 c] 24)) (.cells #[.int .i64 0,.string ⟨#[]⟩,.int .i64 0,.slice none 0 0] 24);rw[s1]at h;exact h
  ·rw[hV,Below.heap_alloc _ _ _ (by rw[s3];omega)];have h:=heap_alloc_new ((w.alloc (.cells #[.int .i64 3,.string ⟨#[114,101,97,100]⟩,.int .i64 0,.slice (some ⟨b,off,none⟩) 1 c] 24)).alloc (.cells #[.int .i64 0,.string ⟨#[]⟩,.int .i64 0,.slice none 0 0] 24)) (.cells #[.int .i64 a.kind,.string a.name,.int .i64 a.sort,.slice Aa a.kids.length ca] 24);rw[s2]at h;exact h
  ·rw[hV];have h:=heap_alloc_new (((w.alloc (.cells #[.int .i64 3,.string ⟨#[114,101,97,100]⟩,.int .i64 0,.slice (some ⟨b,off,none⟩) 1 c] 24)).alloc (.cells #[.int .i64 0,.string ⟨#[]⟩,.int .i64 0,.slice none 0 0] 24)).alloc (.cells #[.int .i64 a.kind,.string a.name,.int .i64 a.sort,.slice Aa a.kids.length ca] 24)) (.cells #[.int .i64 0,.string ⟨#[]⟩,.int .i64 0,.slice none 0 0] 24);rw[s3]at h;exact h)
 have a0:=(hb2.cell (p:=⟨b,off,none⟩) hbw).trans p0;have a1:=(hb2.cell (p:=⟨b,off+1,none⟩) hbw).trans p1;have a2:=(hb2.cell (p:=⟨b,off+2,none⟩) hbw).trans p2;have a3:=(hb2.cell (p:=⟨b,off+3,none⟩) hbw).trans p3;clear s1 s2 s3 hb2 hb3 hb4 hbV p0 p1 p2 p3 pa  hrep;have HV:=hdzz hV;clear hV;have nyes:((⟨#[114,101,97,100]⟩:ByteArray).toList==[114,101,97,100])=true:=(qat (n:=⟨#[114,101,97,100]⟩) (c:=⟨#[114,101,97,100]⟩) (L:=[114,101,97,100]) rfl).1 rfl;have nfst:((⟨#[114,101,97,100]⟩:ByteArray).toList==[102,115,116])=false:=by rw[beq_eq_false_iff_ne];rw[beq_iff_eq]at nyes;rw[nyes];decide
 have nsnd:((⟨#[114,101,97,100]⟩:ByteArray).toList==[115,110,100])=false:=by rw[beq_eq_false_iff_ne];rw[beq_iff_eq]at nyes;rw[nyes];decide
 have ndec:((⟨#[114,101,97,100]⟩:ByteArray).toList==[100,101,99])=false:=by rw[beq_eq_false_iff_ne];rw[beq_iff_eq]at nyes;rw[nyes];decide
 have nadec:((⟨#[114,101,97,100]⟩:ByteArray).toList==[97,100,101,99])=false:=by rw[beq_eq_false_iff_ne];rw[beq_iff_eq]at nyes;rw[nyes];decide
 have nopen:((⟨#[114,101,97,100]⟩:ByteArray).toList==[111,112,101,110])=false:=by rw[beq_eq_false_iff_ne];rw[beq_iff_eq]at nyes;rw[nyes];decide
 have IS:=qcc a qbg Aa ca V;have hiff:fitD qc1 [a]↔a.isA qbg:=⟨fun h=>by
  rcases h with⟨h,h2⟩|⟨h,h2⟩|⟨h,h2⟩|⟨h,h2⟩|⟨h,h2⟩|⟨h,h2⟩
  all_goals first|exact h2|exact absurd h (by decide),fun h=>by unfold fitD;exact .inr (.inr (.inr (.inr (.inr ⟨rfl,h⟩))))⟩
 simp only[Tm.val,qbg]at IS;have IS:=hdzz IS;obtain⟨res,hres⟩:∃r,r=qau qc1 [a]:=⟨_,rfl⟩;rw[←hres];have HRES:=hdzz hres;clear hres;simp only[Tm.val,Tm.kind,Tm.name,Tm.sort,Tm.kids,qc1,List.length_cons,List.length_nil,Nat.zero_add,Nat.reduceAdd];go_enter Tryz.func104,Tryz.ntmps104
 go_wp2_with fail
 rw[←HV.out];clear HV a0 a1 a2 a3;refine IS.out.mono ?_;clear IS;rintro e w5 ⟨rfl,hl5⟩;have D5:=hdzz (DB.out.go hl5.below);clear DB hl5;by_cases hf:a.isA qbg
 ·have hfit:=hiff.2 hf;have hal:a.kids.length=2:=(hka.num hf).2.1 (by decide);have hdec:decide (a.isA qbg)=true:=decide_eq_true hf;simp only[qbg]at hdec;rw[hdec];clear hdec hf hiff;obtain⟨kb,ko,Ar,cr,hke,hkb,k0,k1,k2,k3,kr⟩:=qal D5.out.ra 0 (by omega);rw[Nat.zero_mul,Nat.add_zero]at k0 k1 k2 k3;subst hke;obtain⟨y0,y1,y2,y3,yf⟩:=qaa D5.out.b3;obtain⟨z0,z1,z2,z3,zf⟩:=qaa D5.out.b2;have hsz:=D5.out.size;have hd:qau qc1 [a]=kidT a.kids 0:=by unfold qau;rw[if_pos hfit];rfl
  have HD:=hdzz hd;have HKR:=hdzz kr;have hal2:(2:Int)=(a.kids.length:Int):=by omega
  rw[hal]at y3;obtain⟨r,hr⟩:∃r,r=kidT a.kids 0:=⟨_,rfl⟩;rw[←hr]at k0 k1 k2 k3 HKR HD;clear hd kr hr hal2 hal hfit;go_wp2_with fail
  refine bodyPost_ret (v:=r.val Ar cr) ?_ rfl ?_
  ·simp[results,Tryz.results104,go_sem,z0,z1,z2,z3,Tm.val]
  refine⟨Ar,cr,by rw[HRES.out,HD.out],?_,?_⟩
  ·rw[HRES.out,HD.out];exact RepP.mono (fun b h=>.inl h) (fun p hp=>qaq (by have:=hPb _ hp;omega)) _ _ _ HKR.out
  ·iterate 4 refine Below.setCell ?_ (by show _≤w.heap.size+1;omega) _
   exact D5.out.bel
 ·have hfit:¬fitD qc1 [a]:=fun h=>hf (hiff.1 h);have hdec:decide (a.isA qbg)=false:=decide_eq_false hf;simp only[qbg]at hdec;rw[hdec];clear hdec hf hiff;obtain⟨x0,x1,x2,x3,xf⟩:=qaa D5.out.b1;obtain⟨z0,z1,z2,z3,zf⟩:=qaa D5.out.b2;have hsz:=D5.out.size;have hd:qau qc1 [a]=.mk 3 qc1 0 [a]:=by unfold qau;rw[if_neg hfit]
  have HD:=hdzz hd;have HKR:=hdzz D5.out.rt;clear hd hfit;simp only[Tm.kind,Tm.name,Tm.sort,Tm.kids,qc1,List.length_cons,List.length_nil,Nat.zero_add,Nat.reduceAdd]at x0 x1 x2 x3;go_wp2_with fail
  refine bodyPost_ret (v:=Tm.val (.mk 3 qc1 0 [a]) (some ⟨b,off,none⟩) c) ?_ rfl ?_
  ·simp[results,Tryz.results104,go_sem,z0,z1,z2,z3,Tm.val,Tm.kind,Tm.name,Tm.sort,Tm.kids,qc1]
  refine⟨some ⟨b,off,none⟩,c,by rw[HRES.out,HD.out],?_,?_⟩
  ·rw[HRES.out,HD.out];exact RepP.mono (fun b h=>.inl h) (fun p hp=>qaq (by have:=hPb _ hp;omega)) _ _ _ HKR.out
  ·iterate 4 refine Below.setCell ?_ (by show _≤w.heap.size+1;omega) _
   exact D5.out.bel
attribute [local irreducible] qax
theorem des_dec (a k:Tm) (A:Option Addr) (c:Nat) (w:World) (Pb:Nat→Prop) (hPb:∀b,Pb b→b<w.heap.size) (hka:ArT a) (hkk:ArT k) (hsa:a.size≤900000) (hsk:k.size≤900000) (hrep:RepP w Pb (.mk 3 nDec 0 [a,k]) A c) :
  Calls Tryz.prog 104 #[(Tm.mk 3 nDec 0 [a,k]).val A c] w (OkR Pb (qau nDec [a,k]) w):=by
 have mixed:=mixz;obtain⟨b,off,Aa,ca,rfl,hbw,p0,p1,p2,p3,pa⟩:=qal hrep 0 (by show 0<[a,k].length;exact Nat.succ_pos _);have hbw:b<w.heap.size:=hPb _ hbw;rw[Nat.zero_mul,Nat.add_zero]at p0 p1 p2 p3;have ek0:kidT (Tm.mk 3 nDec 0 [a,k]).kids 0=a:=rfl;rw[ek0]at p0 p1 p2 p3 pa;clear ek0;obtain⟨b',off',Ak,ck,hAe,-,q0,q1,q2,q3,pk⟩:=qal hrep 1 (by show 1<[a,k].length;exact Nat.le_refl _);injection hAe with hAe;injection hAe with e1 e2;subst e1 e2;rw[Nat.one_mul]at q0 q1 q2 q3;have ek1:kidT (Tm.mk 3 nDec 0 [a,k]).kids 1=k:=rfl;rw[ek1]at q0 q1 q2 q3 pk;clear ek1;have HREP:=hdzz hrep
 obtain⟨V,hV⟩:∃V,V=((((w.alloc (.cells #[.int .i64 3,.string ⟨#[100,101,99]⟩,.int .i64 0,.slice (some ⟨b,off,none⟩) 2 c] 24)).alloc (.cells #[.int .i64 0,.string ⟨#[]⟩,.int .i64 0,.slice none 0 0] 24)).alloc (.cells #[.int .i64 a.kind,.string a.name,.int .i64 a.sort,.slice Aa a.kids.length ca] 24)).alloc (.cells #[.int .i64 k.kind,.string k.name,.int .i64 k.sort,.slice Ak k.kids.length ck] 24)):=⟨_,rfl⟩;have s1:(w.alloc (.cells #[.int .i64 3,.string ⟨#[100,101,99]⟩,.int .i64 0,.slice (some ⟨b,off,none⟩) 2 c] 24)).heap.size=w.heap.size+1:=by simp
 have s2:((w.alloc (.cells #[.int .i64 3,.string ⟨#[100,101,99]⟩,.int .i64 0,.slice (some ⟨b,off,none⟩) 2 c] 24)).alloc (.cells #[.int .i64 0,.string ⟨#[]⟩,.int .i64 0,.slice none 0 0] 24)).heap.size=w.heap.size+1+1:=by simp
 have s3:(((w.alloc (.cells #[.int .i64 3,.string ⟨#[100,101,99]⟩,.int .i64 0,.slice (some ⟨b,off,none⟩) 2 c] 24)).alloc (.cells #[.int .i64 0,.string ⟨#[]⟩,.int .i64 0,.slice none 0 0] 24)).alloc (.cells #[.int .i64 a.kind,.string a.name,.int .i64 a.sort,.slice Aa a.kids.length ca] 24)).heap.size=w.heap.size+1+1+1:=by simp
 have hb2:Below w.heap.size w ((w.alloc (.cells #[.int .i64 3,.string ⟨#[100,101,99]⟩,.int .i64 0,.slice (some ⟨b,off,none⟩) 2 c] 24)).alloc (.cells #[.int .i64 0,.string ⟨#[]⟩,.int .i64 0,.slice none 0 0] 24)):=((Below.refl _ _).alloc (Nat.le_refl _) _).alloc (by simp) _;have hb3:Below w.heap.size w (((w.alloc (.cells #[.int .i64 3,.string ⟨#[100,101,99]⟩,.int .i64 0,.slice (some ⟨b,off,none⟩) 2 c] 24)).alloc (.cells #[.int .i64 0,.string ⟨#[]⟩,.int .i64 0,.slice none 0 0] 24)).alloc (.cells #[.int .i64 a.kind,.string a.name,.int .i64 a.sort,.slice Aa a.kids.length ca] 24)):=hb2.alloc (by simp;omega) _;have hbV:Below w.heap.size w V:=by rw[hV];exact hb3.alloc (by simp;omega) _
 have hb4:Below w.heap.size w ((((w.alloc (.cells #[.int .i64 3,.string ⟨#[100,101,99]⟩,.int .i64 0,.slice (some ⟨b,off,none⟩) 2 c] 24)).alloc (.cells #[.int .i64 0,.string ⟨#[]⟩,.int .i64 0,.slice none 0 0] 24)).alloc (.cells #[.int .i64 a.kind,.string a.name,.int .i64 a.sort,.slice Aa a.kids.length ca] 24)).alloc (.cells #[.int .i64 0,.string ⟨#[]⟩,.int .i64 0,.slice none 0 0] 24)):=hb3.alloc (by simp;omega) _;have DB:Hid (DstB Pb w nDec [a,k] (some ⟨b,off,none⟩) c a k Aa Ak ca ck V):=hdzz (by
  refine⟨?_,?_,?_,?_,hbV,RepP.mono (fun _ h=>h) (fun p h=>hbV.cell (hPb _ h)) _ _ _ pa,RepP.mono (fun _ h=>h) (fun p h=>hbV.cell (hPb _ h)) _ _ _ pk,RepP.mono (fun _ h=>h) (fun p h=>hbV.cell (hPb _ h)) _ _ _ HREP.out,hPb⟩
  ·rw[hV,Below.heap_alloc _ _ _ (by rw[s3];omega),Below.heap_alloc _ _ _ (by rw[s2];omega),Below.heap_alloc _ _ _ (by rw[s1];omega)];exact heap_alloc_new w _
  ·rw[hV,Below.heap_alloc _ _ _ (by rw[s3];omega),Below.heap_alloc _ _ _ (by rw[s2];omega)];have h:=heap_alloc_new (w.alloc (.cells #[.int .i64 3,.string ⟨#[100,101,99]⟩,.int .i64 0,.slice (some ⟨b,off,none⟩) 2 c] 24)) (.cells #[.int .i64 0,.string ⟨#[]⟩,.int .i64 0,.slice none 0 0] 24);rw[s1]at h;exact h
  ·rw[hV,Below.heap_alloc _ _ _ (by rw[s3];omega)];have h:=heap_alloc_new ((w.alloc (.cells #[.int .i64 3,.string ⟨#[100,101,99]⟩,.int .i64 0,.slice (some ⟨b,off,none⟩) 2 c] 24)).alloc (.cells #[.int .i64 0,.string ⟨#[]⟩,.int .i64 0,.slice none 0 0] 24)) (.cells #[.int .i64 a.kind,.string a.name,.int .i64 a.sort,.slice Aa a.kids.length ca] 24);rw[s2]at h;exact h
  ·rw[hV];have h:=heap_alloc_new (((w.alloc (.cells #[.int .i64 3,.string ⟨#[100,101,99]⟩,.int .i64 0,.slice (some ⟨b,off,none⟩) 2 c] 24)).alloc (.cells #[.int .i64 0,.string ⟨#[]⟩,.int .i64 0,.slice none 0 0] 24)).alloc (.cells #[.int .i64 a.kind,.string a.name,.int .i64 a.sort,.slice Aa a.kids.length ca] 24)) (.cells #[.int .i64 k.kind,.string k.name,.int .i64 k.sort,.slice Ak k.kids.length ck] 24);rw[s3]at h;exact h)
 have a0:=(hb2.cell (p:=⟨b,off,none⟩) hbw).trans p0;have a1:=(hb2.cell (p:=⟨b,off+1,none⟩) hbw).trans p1;have a2:=(hb2.cell (p:=⟨b,off+2,none⟩) hbw).trans p2;have a3:=(hb2.cell (p:=⟨b,off+3,none⟩) hbw).trans p3;have d0:=(hb4.cell (p:=⟨b,off+4,none⟩) hbw).trans q0;have d1:=(hb4.cell (p:=⟨b,off+4+1,none⟩) hbw).trans q1;have d2:=(hb4.cell (p:=⟨b,off+4+2,none⟩) hbw).trans q2;have d3:=(hb4.cell (p:=⟨b,off+4+3,none⟩) hbw).trans q3;clear s1 s2 s3 hb2 hb3 hb4 hbV p0 p1 p2 p3 pa q0 q1 q2 q3 pk hrep;have HV:=hdzz hV;clear hV;have nyes:((⟨#[100,101,99]⟩:ByteArray).toList==[100,101,99])=true:=(qat (n:=⟨#[100,101,99]⟩) (c:=⟨#[100,101,99]⟩) (L:=[100,101,99]) rfl).1 rfl
 have nfst:((⟨#[100,101,99]⟩:ByteArray).toList==[102,115,116])=false:=by rw[beq_eq_false_iff_ne];rw[beq_iff_eq]at nyes;rw[nyes];decide
 have nsnd:((⟨#[100,101,99]⟩:ByteArray).toList==[115,110,100])=false:=by rw[beq_eq_false_iff_ne];rw[beq_iff_eq]at nyes;rw[nyes];decide
 obtain⟨res,hres⟩:∃r,r=qau nDec [a,k]:=⟨_,rfl⟩;rw[←hres];have HRES:=hdzz hres;clear hres;simp only[Tm.val,Tm.kind,Tm.name,Tm.sort,Tm.kids,nDec,List.length_cons,List.length_nil,Nat.zero_add,Nat.reduceAdd];have hiff:fitD nDec [a,k]↔(a.isA nEnc∧kidT a.kids 1=k):=⟨fun h=>by
  rcases h with⟨h,h2⟩|⟨h,h2⟩|⟨h,h2⟩|⟨h,h2⟩|⟨h,h2⟩|⟨h,h2⟩
  all_goals first|exact h2|exact absurd h (by decide),fun h=>by unfold fitD;exact .inr (.inr (.inl ⟨rfl,h⟩))⟩
 go_enter Tryz.func104,Tryz.ntmps104
 go_wp2_with fail
 rw[←HV.out];clear HV a0 a1 a2 a3 d0 d1 d2 d3 nyes nfst nsnd;by_cases hf:a.isA nEnc
 ·have hdec:decide (a.isA nEnc)=true:=decide_eq_true hf;have hal:a.kids.length=2:=(hka.num hf).2.1 (by decide);refine qaf (fun Y=>Below V.drew.heap.size V.drew Y) (fun _=>True) [] (.held 0 (.op 1 (.held 2 (.held 3 (.held 4 (.held 5 (.held 6 (.held 7 (.op 8 (.held 9 (.held 10 .nil))))))))))) mixed (by kernel_rfl) ?_;have DBD:=hdzz (DB.out.go (Below.refl _ _).drew);clear DB;generalize V.drew=D at *;have hszD:=DBD.out.size;obtain⟨ya0,ya1,ya2,ya3,yaf⟩:=qaa DBD.out.b3;obtain⟨yk0,yk1,yk2,yk3,ykf⟩:=qaa DBD.out.b4;obtain⟨kb,ko,Ar,cr,hke,hkb,k0,k1,k2,k3,kr⟩:=qal DBD.out.ra 1 (by omega);have hkb:=hPb _ hkb;rw[Nat.one_mul]at k0 k1 k2 k3;subst hke;rw[hal]at ya3;have husz:=qee (i:=1) hsa;obtain⟨u,hu⟩:∃u,u=kidT a.kids 1:=⟨_,rfl⟩;rw[←hu]at k0 k1 k2 k3 kr hiff husz;have HU:=hdzz hu;have HKR:=hdzz kr
  clear hu kr;obtain⟨z,hz⟩:∃z,z=u.same k:=⟨_,rfl⟩;have HAL:=hdzz hal;clear hal;refine stkz (.agg #[.int .i64 a.kind,.string a.name,.int .i64 a.sort,.slice (some ⟨kb,ko,none⟩) 2 ca]) rfl rfl rfl (fun _ _ _ h=>h) (Below.refl _ _) (fun Y hY=>by
    have z0:=sclz hY ya0 (by omega);have z1:=sclz hY ya1 (by omega);have z2:=sclz hY ya2 (by omega);have z3:=sclz hY ya3 (by omega)
    (try simp only[Act.put]);go_simp) ?_
  have CN:=qcc a nEnc (some ⟨kb,ko,none⟩) ca D;rw[hdec]at CN;simp only[Tm.val,nEnc,HAL.out]at CN;have CN:=hdzz CN;refine qae rfl rfl (fun K hK=>?_);go_wp2_with fail
  refine CN.out.mono ?_;clear CN;rintro e w5 ⟨rfl,hl5⟩;have H5:=hdzz (hl5.below);refine hK _ _ ⟨⟨fun _=>H5.out,trivial⟩,?_⟩;clear hK K hl5;refine stkz (.bool true) rfl rfl rfl (fun _ _ _ h=>h) H5.out (fun Y hY=>by
    (try simp only[Act.put]);go_simp) ?_
  refine qac (v:=.pointer (some ⟨w.heap.size+1+1,3,none⟩)) rfl (by kernel_rfl) rfl (fun _ _ _ h=>h) H5.out trivial (fun Y hY hY2=>by
    (try simp only[Act.put]);go_simp) ?_
  refine qac (v:=.slice (some ⟨kb,ko,none⟩) 2 ca) rfl (by kernel_rfl) rfl (fun _ _ _ h=>h) H5.out trivial (fun Y hY hY2=>by
    have z3:=sclz hY ya3 (by omega)
    (try simp only[Act.put]);go_simp) ?_
  refine qac (v:=.pointer (some ⟨kb,ko+4,none⟩)) rfl (by kernel_rfl) rfl (fun _ _ _ h=>h) H5.out trivial (fun Y hY hY2=>by
    (try simp only[Act.put]);go_simp) ?_
  simp only[Act.put,fsa,fsb,fsc,fsd,fse,fsf];refine qac (v:=.agg #[.int .i64 u.kind,.string u.name,.int .i64 u.sort,.slice Ar u.kids.length cr]) rfl (by kernel_rfl) rfl (fun _ _ _ h=>h) H5.out trivial (fun Y hY hY2=>by
    have z0:=sclz hY k0 (by omega);have z1:=sclz hY k1 (by omega);have z2:=sclz hY k2 (by omega);have z3:=sclz hY k3 (by omega)
    (try simp only[Act.put]);go_simp) ?_
  refine qac (v:=.agg #[.int .i64 k.kind,.string k.name,.int .i64 k.sort,.slice Ak k.kids.length ck]) rfl (by kernel_rfl) rfl (fun _ _ _ h=>h) H5.out trivial (fun Y hY hY2=>by
    have z0:=sclz hY yk0 (by omega);have z1:=sclz hY yk1 (by omega);have z2:=sclz hY yk2 (by omega);have z3:=sclz hY yk3 (by omega)
    (try simp only[Act.put]);go_simp) ?_
  simp only[Act.put,fsa,fsb,fsc,fsd,fse,fsf];have CN:=qft u k Ar Ak cr ck w5 (by omega) (by omega) (RepP.mono (w:=D) (fun b (h:Pb b)=>by have:=hPb _ h;have:=H5.out.size;omega) (fun p (h:Pb p.block)=>H5.out.cell (by have:=hPb _ h;omega)) _ _ _ HKR.out) (RepP.mono (w:=D) (fun b (h:Pb b)=>by have:=hPb _ h;have:=H5.out.size;omega) (fun p (h:Pb p.block)=>H5.out.cell (by have:=hPb _ h;omega)) _ _ _ DBD.out.rk);rw[←hz]at CN;simp only[Tm.val]at CN;have CN:=hdzz CN;refine qaz rfl (by kernel_rfl) (fun K hK=>?_);go_wp2_with fail
  refine CN.out.mono ?_;clear CN;rintro e w6 ⟨rfl,hl6⟩;have H6:=hdzz (H5.out.trans (hl6.below.mono (by have:=H5.out.size;omega)));refine hK _ _ ⟨⟨fun _=>H6.out,trivial⟩,?_⟩;clear hK K hl6;refine stkz (.bool z) rfl rfl rfl (fun _ _ _ h=>h) H6.out (fun Y hY=>by
    (try simp only[Act.put]);go_simp) ?_
  refine stkz (.bool z) rfl rfl rfl (fun _ _ _ h=>h) H6.out (fun Y hY=>by
    (try simp only[Act.put]);go_simp) ?_
  refine qar ?_;simp only[Act.put,fsa,fsb,fsc,fsd,fse,fsf];have D5:=hdzz (DBD.out.go H6.out);clear H5 H6 DBD ya0 ya1 ya2 ya3 yk0 yk1 yk2 yk3 k0 k1 k2 k3 HKR hkb;rw[HU.out]at hiff hz;have hal:=HAL.out;clear HU HAL hdec
  cases z with
  | true=>
   have hfit:=hiff.2 ⟨hf,Tm.same_iff.1 hz.symm⟩;clear hiff hf hz;obtain⟨kb,ko,Ar,cr,hke,hkb,k0,k1,k2,k3,kr⟩:=qal D5.out.ra 0 (by omega);have hkb:=hPb _ hkb;rw[Nat.zero_mul,Nat.add_zero]at k0 k1 k2 k3;injection hke with hke;injection hke with e1 e2;subst e1 e2;obtain⟨y0,y1,y2,y3,yf⟩:=qaa D5.out.b3;obtain⟨z0,z1,z2,z3,zf⟩:=qaa D5.out.b2;have hsz:=D5.out.size;have hd:qau nDec [a,k]=kidT a.kids 0:=by unfold qau;rw[if_pos hfit];rfl
   have HD:=hdzz hd;have HKR:=hdzz kr;have hal2:(2:Int)=(a.kids.length:Int):=by omega
   rw[hal]at y3;obtain⟨r,hr⟩:∃r,r=kidT a.kids 0:=⟨_,rfl⟩;rw[←hr]at k0 k1 k2 k3 HKR HD;clear hd kr hr hal2 hal hfit;go_wp2_with fail
   refine bodyPost_ret (v:=r.val Ar cr) ?_ rfl ?_
   ·simp[results,Tryz.results104,go_sem,z0,z1,z2,z3,Tm.val]
   refine⟨Ar,cr,by rw[HRES.out,HD.out],?_,?_⟩
   ·rw[HRES.out,HD.out];exact RepP.mono (fun b h=>.inl h) (fun p hp=>qaq (by have:=hPb _ hp;omega)) _ _ _ HKR.out
   ·iterate 4 refine Below.setCell ?_ (by show _≤w.heap.size+1;omega) _
    exact D5.out.bel
  | false=>
   have hfit:¬fitD nDec [a,k]:=fun h=>Tm.same_false.1 hz.symm (hiff.1 h).2;clear hiff hf hz hal;obtain⟨x0,x1,x2,x3,xf⟩:=qaa D5.out.b1;obtain⟨z0,z1,z2,z3,zf⟩:=qaa D5.out.b2;have hsz:=D5.out.size;have hd:qau nDec [a,k]=.mk 3 nDec 0 [a,k]:=by unfold qau;rw[if_neg hfit]
   have HD:=hdzz hd;have HKR:=hdzz D5.out.rt;clear hd hfit;simp only[Tm.kind,Tm.name,Tm.sort,Tm.kids,nDec,List.length_cons,List.length_nil,Nat.zero_add,Nat.reduceAdd]at x0 x1 x2 x3;go_wp2_with fail
   refine bodyPost_ret (v:=Tm.val (.mk 3 nDec 0 [a,k]) (some ⟨b,off,none⟩) c) ?_ rfl ?_
   ·simp[results,Tryz.results104,go_sem,z0,z1,z2,z3,Tm.val,Tm.kind,Tm.name,Tm.sort,Tm.kids,nDec]
   refine⟨some ⟨b,off,none⟩,c,by rw[HRES.out,HD.out],?_,?_⟩
   ·rw[HRES.out,HD.out];exact RepP.mono (fun b h=>.inl h) (fun p hp=>qaq (by have:=hPb _ hp;omega)) _ _ _ HKR.out
   ·iterate 4 refine Below.setCell ?_ (by show _≤w.heap.size+1;omega) _
    exact D5.out.bel
 ·have hdec:decide (a.isA nEnc)=false:=decide_eq_false hf;have hfit:¬fitD nDec [a,k]:=fun h=>hf (hiff.1 h).1;clear hiff hf;refine qaf (fun Y=>Below V.drew.heap.size V.drew Y) (fun _=>True) [] (.held 0 (.op 1 (.held 2 (.held 3 (.held 4 (.held 5 (.held 6 (.held 7 (.held 8 (.held 9 (.held 10 .nil))))))))))) mixed (by kernel_rfl) ?_;have DBD:=hdzz (DB.out.go (Below.refl _ _).drew);clear DB;generalize V.drew=D at *;have hszD:=DBD.out.size;obtain⟨ya0,ya1,ya2,ya3,yaf⟩:=qaa DBD.out.b3;obtain⟨yk0,yk1,yk2,yk3,ykf⟩:=qaa DBD.out.b4;refine stkz (.agg #[.int .i64 a.kind,.string a.name,.int .i64 a.sort,.slice Aa a.kids.length ca]) rfl rfl rfl (fun _ _ _ h=>h) (Below.refl _ _) (fun Y hY=>by
    have z0:=sclz hY ya0 (by omega);have z1:=sclz hY ya1 (by omega);have z2:=sclz hY ya2 (by omega);have z3:=sclz hY ya3 (by omega)
    (try simp only[Act.put]);go_simp) ?_
  have CN:=qcc a nEnc Aa ca D;rw[hdec]at CN;simp only[Tm.val,nEnc]at CN;have CN:=hdzz CN;refine qae rfl rfl (fun K hK=>?_);go_wp2_with fail
  refine CN.out.mono ?_;clear CN;rintro e w5 ⟨rfl,hl5⟩;have H5:=hdzz (hl5.below);refine hK _ _ ⟨⟨fun _=>H5.out,trivial⟩,?_⟩;clear hK K hl5;refine stkz (.bool false) rfl rfl rfl (fun _ _ _ h=>h) H5.out (fun Y hY=>by
    (try simp only[Act.put]);go_simp) ?_
  refine qah rfl (by kernel_rfl) rfl (fun _ _ _ h=>h) H5.out trivial ?_;refine qah rfl (by kernel_rfl) rfl (fun _ _ _ h=>h) H5.out trivial ?_;refine qah rfl (by kernel_rfl) rfl (fun _ _ _ h=>h) H5.out trivial ?_;refine qah rfl (by kernel_rfl) rfl (fun _ _ _ h=>h) H5.out trivial ?_;refine qah rfl (by kernel_rfl) rfl (fun _ _ _ h=>h) H5.out trivial ?_;refine qah rfl (by kernel_rfl) rfl (fun _ _ _ h=>h) H5.out trivial ?_;refine stkz (.bool false) rfl rfl rfl (fun _ _ _ h=>h) H5.out (fun Y hY=>by
    (try simp only[Act.put]);go_simp) ?_
  refine stkz (.bool false) rfl rfl rfl (fun _ _ _ h=>h) H5.out (fun Y hY=>by
    (try simp only[Act.put]);go_simp) ?_
  refine qar ?_;simp only[Act.put,fsa,fsb,fsc,fsd,fse,fsf];have D5:=hdzz (DBD.out.go H5.out);clear H5 DBD ya0 ya1 ya2 ya3 yk0 yk1 yk2 yk3 hdec;obtain⟨x0,x1,x2,x3,xf⟩:=qaa D5.out.b1;obtain⟨z0,z1,z2,z3,zf⟩:=qaa D5.out.b2;have hsz:=D5.out.size;have hd:qau nDec [a,k]=.mk 3 nDec 0 [a,k]:=by unfold qau;rw[if_neg hfit]
  have HD:=hdzz hd;have HKR:=hdzz D5.out.rt;clear hd hfit;simp only[Tm.kind,Tm.name,Tm.sort,Tm.kids,nDec,List.length_cons,List.length_nil,Nat.zero_add,Nat.reduceAdd]at x0 x1 x2 x3;go_wp2_with fail
  refine bodyPost_ret (v:=Tm.val (.mk 3 nDec 0 [a,k]) (some ⟨b,off,none⟩) c) ?_ rfl ?_
  ·simp[results,Tryz.results104,go_sem,z0,z1,z2,z3,Tm.val,Tm.kind,Tm.name,Tm.sort,Tm.kids,nDec]
  refine⟨some ⟨b,off,none⟩,c,by rw[HRES.out,HD.out],?_,?_⟩
  ·rw[HRES.out,HD.out];exact RepP.mono (fun b h=>.inl h) (fun p hp=>qaq (by have:=hPb _ hp;omega)) _ _ _ HKR.out
  ·iterate 4 refine Below.setCell ?_ (by show _≤w.heap.size+1;omega) _
   exact D5.out.bel
end Go.Proofs.YtjhjoiplpmjepaaGreat
