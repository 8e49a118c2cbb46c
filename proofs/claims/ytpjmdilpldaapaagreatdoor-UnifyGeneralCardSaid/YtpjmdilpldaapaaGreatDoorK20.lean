/- Umatp (joined by shake.py). -/
import Derived.Test.YtpjmdilpldaapaaGreatDoorK15
import Derived.Test.YtpjmdilpldaapaaGreatDoorK19
set_option maxRecDepth 100000
namespace Go.Proofs.YtpjmdilpldaapaaGreatDoor
open Go.RowKit Go.Sort Go.Maps
theorem qba.look0 {w : World} {b n : Nat} {F : Tm → Option Value} (h : qba w b n F) {x : Tm} (hx : qbl x) {v : Value} (hF : F x = some v) :
  (Instr.lookup 62 (.map (some b)) (keyV x) false).run Tryz.prog w = .ok v w := by
 obtain ⟨D, h1, h2⟩ := h;obtain ⟨u, ps, hr, hv⟩ := h1.lookup qjh Tryz.underlying62 (qkz w) (zd := .held qh6) (zp := []) rfl (qea hx);obtain ⟨h3, h4⟩ := h2 x hx;rw [hr];simp only [RV, Option.some.injEq, Prod.mk.injEq] at hv;rw [h4 v _ hF] at hv;have e := DataW.held.inj hv.1;rw [e]
theorem MapT.look0 {w : World} {b n : Nat} {G : Nat → Prop} {s : List Bd} (h : MapT w b n G s) {x : Tm} (k1 : x.kind = 1) (k2 : x.kids = []) (k3 : qbl x) (hh : hasS s x = true) :
  ∃ A c, RepP w G (getS s x) A c ∧ (Instr.lookup 62 (.map (some b)) (keyV x) false).run Tryz.prog w = .ok ((getS s x).val A c) w := by
 obtain ⟨F, h1, h2⟩ := h;rcases h2 x k1 k2 k3 with ⟨e1, -⟩ | ⟨-, A, c, e2, r⟩
 ·rw [hh] at e1; cases e1
 ·exact ⟨A, c, r, h1.look0 k3 e2⟩
def qj6 (m : List Bd) (L : List Tm) : List Bd := (L.filter fun x => decide (getS m x ≠ x)).map fun x => (x, getS m x)
def qcq (p t : Tm) : List Bd × Int := if qbd p t ≠ 0 then ([], qbd p t) else if (p.mat t []).2 = true then (qj6 (p.mat t []).1 (varsOf p), 0) else ([], 11)
theorem qm4 (m : List Bd) (L : List Tm) (k : Nat) (h : k < L.length) : qj6 m (L.take (k + 1)) = qj6 m (L.take k) ++ (if getS m L[k] = L[k] then [] else [(L[k], getS m L[k])]) := by
 unfold qj6;rw [List.take_succ_eq_append_getElem h, List.filter_append, List.map_append];by_cases e : getS m L[k] = L[k]
 ·rw [if_pos e]; simp [e]
 ·rw [if_neg e]; simp [e]
def qiv (r : List Bd × Int) (w : World) (e : Ending) (w' : World) : Prop := ∃ A c, e = .returned (.tuple #[.slice A r.1.length c, .int .i64 r.2]) ∧ RepB w' (fun b => b < w'.heap.size) r.1 A c ∧ Below w.heap.size w w'
theorem qgn {w w' : World} {n : Int} (h : Below w.heap.size w w') : qiv ([], n) w (.returned (.tuple #[.slice none 0 0, .int .i64 n])) w' :=
 ⟨none, 0, rfl, ⟨Nat.le_refl _, by simp [maxLen], .inl rfl⟩, h⟩
structure MtAt (w : World) (mb n : Nat) (m : List Bd) (base lb : Nat) (L : List Tm) (AL : Option Addr) (cL : Nat) (itsL : List It) (Z : World) : Prop where
 map : MapT Z mb n (fun b => b < w.heap.size) m
 row : RowT Z lb (fun _ => False) (.slice AL L.length cL) itsL
 is : itsL.map (·.1) = L
 bel : Below w.heap.size w Z
 own : ∀ k, (Value.slice AL L.length cL).ownBlock = some k → k < base
 mlt : mb < base
theorem MtAt.keep {w : World} {mb n base lb cL : Nat} {m : List Bd} {L : List Tm} {AL : Option Addr} {itsL : List It} {Z Z' : World} (h : MtAt w mb n m base lb L AL cL itsL Z) (hk : ∀ k, k < base → Z'.heap[k]? = Z.heap[k]?) (hs : Z.heap.size ≤ Z'.heap.size) (hb : Below w.heap.size w Z') : MtAt w mb n m base lb L AL cL itsL Z' :=
 ⟨h.map.keep (hk _ h.mlt) (fun _ hp => (hb.cell hp).trans (h.bel.cell hp).symm), qbb h.row hs (fun k e => hk k (h.own k e)) (fun _ hf => False.elim hf), h.is, hb, h.own, h.mlt⟩
set_option maxHeartbeats 4000000 in
theorem qka (p t : Tm) (P T : Option Addr) (cp ct : Nat) (w : World) (hp : p.size ≤ 1000000) (ht : t.size ≤ 1000000) (hrp : RepT w w.heap.size p P cp) (hrt : RepT w w.heap.size t T ct) :
  Calls Tryz.prog 21 #[p.val P cp, t.val T ct] w (qiv (qcq p t) w) := by
 have hmm := @run_makeMap Tryz.prog;obtain ⟨V, hV⟩ : ∃ V, V = (w.alloc (boxT p P cp)).alloc (boxT t T ct) := ⟨_, rfl⟩;have h2 : Two w p t P T cp ct V := by rw [hV]; exact Two.new _ _ _ _ _ _ _
 have VV := qff p t P T cp ct V hp ht (hrp.go h2.lay.below h2.lay.size) (hrt.go h2.lay.below h2.lay.size);obtain ⟨v2, hv2⟩ : ∃ v, v = qbd p t := ⟨_, rfl⟩;obtain ⟨r, hr⟩ : ∃ r, r = qcq p t := ⟨_, rfl⟩;rw [← hr];unfold qcq at hr;rw [← hv2] at VV hr;have HR := Lib.hid hr; clear hr;have HV2 := Lib.hid hv2; clear hv2;have H2 := Lib.hid h2;have HRP := Lib.hid hrp; clear hrp;have HRT := Lib.hid hrt; clear hrt;obtain ⟨a0, a1, a2, a3, -⟩ := qad h2.one;obtain ⟨b0, b1, b2, b3, -⟩ := qad h2.two;clear h2;simp only [boxT] at hV;have HV := Lib.hid hV; clear hV;simp only [Tm.val] at VV ⊢;have VV := Lib.hid VV;go_enter Tryz.func21, Tryz.ntmps21
 go_wp2_with fail
 rw [← HV.out];go_wp2_with fail
 refine VV.out.mono ?_; clear VV a0 a1 a2 a3 b0 b1 b2 b3;rintro e w1 ⟨rfl, hl1⟩;have H3 := Lib.hid (H2.out.go hl1); clear H2 hl1;rcases eq_facts v2 0 with ⟨e0, e1, n1⟩ | ⟨e0, e1, n1⟩
 rotate_left
 ·have hr := HR.out.trans (if_pos e0);subst hr;clear HR;go_wp2_with fail
  go_ret2
  exact qgn H3.out.lay.below
 have HR2 := Lib.hid (HR.out.trans (if_neg (by simpa using e0))); clear HR;have hvt := qdf (HV2.out.symm.trans e0);clear e0;have hlt3 := H3.out.lt;obtain ⟨W1, hW1⟩ : ∃ W1, W1 = w1.alloc (.map #[] 0) := ⟨_, rfl⟩;have bW1 : Below w1.heap.size w1 W1 := by rw [hW1]; exact qaf (Nat.le_refl _) _
 have hm0 : MapT W1 w1.heap.size 0 (fun b => b < w.heap.size) [] := by
  rw [hW1]; exact ⟨fun _ => none, qba.made w1, fun x _ _ _ => .inl ⟨rfl, rfl⟩⟩
 have hbw1 : Below w.heap.size w W1 := H3.out.lay.below.trans (bW1.mono (by omega));have MT := ql1 w1.heap.size w.heap.size (by omega) p.size p t P T cp ct [] 0 W1 (Nat.le_refl _) hvt.1 hvt.2 (by omega) (by simp) hm0 (RepP.mono (fun _ h => h) (fun q (hq : q.block < w.heap.size) => hbw1.cell hq) _ _ _ HRP.out) (RepP.mono (fun _ h => h) (fun q (hq : q.block < w.heap.size) => hbw1.cell hq) _ _ _ HRT.out);obtain ⟨q, hq⟩ : ∃ q, q = p.mat t [] := ⟨_, rfl⟩;rw [← hq] at MT HR2;have HQ := Lib.hid hq; clear hq;simp only [Tm.val] at MT;have MT := Lib.hid MT;obtain ⟨a0, a1, a2, a3, -⟩ := qad ((bW1.block _ (by omega)).trans H3.out.one);obtain ⟨b0, b1, b2, b3, -⟩ := qad ((bW1.block _ (by omega)).trans H3.out.two);have HB1 := Lib.hid hbw1;have hone := (bW1.block w.heap.size (by omega)).trans H3.out.one;have HONE := Lib.hid hone;have hmbw : w.heap.size + 2 ≤ w1.heap.size := hlt3
 rw [hW1] at a0 a1 a2 a3 b0 b1 b2 b3;have HW1 := Lib.hid hW1;clear hW1 bW1 hm0 hbw1 hone H3 hlt3;go_wp2_with fail
 rw [← HW1.out];refine MT.out.mono ?_; clear MT a0 a1 a2 a3 b0 b1 b2 b3;rintro e w3 ⟨rfl, nn, hnn, hm3, hb3, ho3⟩;have hW1s : W1.heap.size = w1.heap.size + 1 := by rw [HW1.out]; simp
 obtain ⟨mb, hmb⟩ : ∃ mb, mb = w1.heap.size := ⟨_, rfl⟩;rw [← hmb] at hm3 hb3 ho3 hmbw hW1s ⊢;clear hmb;have HB3 := Lib.hid (HB1.out.trans (hb3.mono (by omega)));have HONE3 := Lib.hid ((ho3 w.heap.size (by omega) (by omega)).trans HONE.out);have HM3 := Lib.hid hm3;clear HB1 HONE HW1 hm3 hb3 ho3;obtain ⟨q1, q2⟩ := q
 cases q2 with
 | false =>
  have hr := HR2.out.trans (if_neg (by simp));subst hr;clear HR2;go_wp2_with fail
  go_ret2
  exact qgn HB3.out
 | true =>
 have HR3 := Lib.hid (HR2.out.trans (if_pos rfl)); clear HR2;have hmat : (p.mat t []).2 = true := by rw [← HQ.out]
 obtain ⟨L, hL⟩ : ∃ L, L = varsOf p := ⟨_, rfl⟩;have hbv : ∀ x ∈ L, hasS q1 x = true := fun x hx => by
  have h := (qgo p t [] hvt.1 hvt.2 ⟨by simp, List.Pairwise.nil⟩ hmat).2.1;rw [← HQ.out] at h;rw [hL] at hx;unfold varsOf at hx;rw [Tm.mem_set, List.mem_filter] at hx;exact h x hx.1 (by simpa using hx.2)
 have hlf : ∀ x ∈ L, x.kind = 1 ∧ x.kids = [] ∧ qbl x := fun x hx => by
  rw [hL] at hx;have hk : x.kind = 1 := by
   unfold varsOf at hx;rw [Tm.mem_set, List.mem_filter] at hx;simpa using hx.2
  exact ⟨hk, qel hvt.1 x hx⟩
 have hqv : ∀ b ∈ q1, b.2.size ≤ 400 := fun b hb => qah (qif p t [] hvt.2 (by simp) b (by rw [← HQ.out]; exact hb));have hLl : L.length ≤ 400 := by rw [hL]; have := qce p; have := qah hvt.1; omega
 have VS := qia p P cp w3 hp (HRP.out.go HB3.out HB3.out.size);rw [show (p.all.filter fun u => u.kind == 1) = (p.all.filter fun u => u.kind == 1) from rfl] at VS;simp only [Tm.val] at VS;have VS := Lib.hid VS;have HBV := Lib.hid hbv;have HLF := Lib.hid hlf;have HQV := Lib.hid hqv;have HL := Lib.hid hL;have HVT := Lib.hid hvt;clear hmat hbv hlf hqv hL hvt HQ;obtain ⟨a0, a1, a2, a3, -⟩ := qad HONE3.out;go_wp2_with fail
 refine VS.out.mono ?_; clear VS a0 a1 a2 a3;rintro e w4 ⟨v4, its4, rfl, hrow4, hb4, his4⟩;obtain ⟨A4, c4, hv4, -⟩ := hrow4.toS (P := fun b => b < w4.heap.size) (fun b _ h => h) (fun b _ h => h);have his4' : its4.map (·.1) = L := by rw [his4, HL.out]; rfl
 have hl4 : its4.length = L.length := by rw [← his4', List.length_map]
 rw [hl4] at hv4;subst hv4;have hrowL := qgj hrow4 (fun x hx => (HLF.out x.1 (by rw [← his4']; exact List.mem_map_of_mem hx)).2.1);have hmbl := HM3.out.lt;have hMA : MtAt w mb nn q1 w4.heap.size w3.heap.size L A4 c4 its4 w4 :=
  ⟨HM3.out.keep (hb4.block _ hmbl) (fun p (hp : p.block < w.heap.size) => hb4.cell (by have := HB3.out.size; omega)), hrowL, his4', HB3.out.trans (hb4.mono HB3.out.size), fun k e => (hrowL.lt k e).2, Nat.lt_of_lt_of_le hmbl hb4.size⟩
 have HMA := Lib.hid hMA;have hw4 : w.heap.size ≤ w4.heap.size := HMA.out.bel.size;obtain ⟨base, hbase⟩ : ∃ base, base = w4.heap.size := ⟨_, rfl⟩;rw [← hbase] at HMA hw4;have hb4b : base ≤ w4.heap.size := by omega
 clear hMA hrowL hrow4 his4 his4' hb4 HM3 HB3 HONE3 hmbl hl4 hbase;go_wp2_with fail
 go_loopw [8, 27] (fun v i wr => ∃ (k c0 : Nat) (A0 : Option Addr) (its : List IB), k ≤ L.length ∧ i = .int .i64 k ∧ v = .slice A0 its.length c0 ∧ base ≤ wr.heap.size ∧ Hid (its.map IB.bd = qj6 q1 (L.take k)) ∧ Hid (MtAt w mb nn q1 base w3.heap.size L A4 c4 its4 wr) ∧ Hid (RowG 48 wr base (fun b => b < w.heap.size) (.slice A0 its.length c0) its)) (fun _ i _ => L.length - (intOf i).toNat)
 case atStart => exact ⟨0, 0, none, [], Nat.zero_le _, rfl, rfl, hb4b, rfl, HMA.out, RowG.nil _ _ _ _⟩
 case round =>
  clear HMA hb4b;obtain ⟨k, c0, A0, its, hk, rfl, rfl, hbs, HIT, HMA, HROW⟩ := hrel;have i1 : (0 : Int) ≤ (k : Int) := Int.natCast_nonneg _;by_cases hlt : k < L.length
  ·have i2 : (k : Int) < (L.length : Int) := by omega
   have hil : its4.length = L.length := by rw [← HMA.out.is, List.length_map]
   obtain ⟨gA, rfl⟩ : ∃ gA, A4 = some ⟨gA, 0, none⟩ := by
    rcases HMA.out.row.own.2 with ⟨h, h2⟩ | ⟨vb, cap, cur, h, -⟩
    ·omega
    ·injection h with h; exact ⟨vb, h⟩
   obtain ⟨m0, m1, m2, m3, -⟩ := HMA.out.row.slot hil.symm k (by omega);have hrx := HMA.out.row.reps (its4[k]'(by omega)) (List.getElem_mem _);have hx1 : (its4[k]'(by omega)).1 = L[k] := by
    have h := congrArg (·[k]?) HMA.out.is;simpa [List.getElem?_eq_getElem (show k < its4.length by omega), List.getElem?_eq_getElem hlt] using h
   obtain ⟨hxk, hxi, hxy⟩ := HLF.out L[k] (List.getElem_mem hlt);have hxb := HBV.out L[k] (List.getElem_mem hlt);have hnx := qm4 q1 L k hlt;rw [← HIT.out] at hnx;have hxs : L[k].size ≤ 1000000 := by
    have h1 : L[k].size = 1 := by rw [size3, hxi]; rfl
    omega
   obtain ⟨it, hit⟩ : ∃ it, it = its4[k]'(by omega) := ⟨_, rfl⟩;rw [← hit] at m0 m1 m2 m3 hrx hx1;obtain ⟨x, Ax, cx⟩ := it;dsimp only at m0 m1 m2 m3 hrx hx1;rw [← hx1] at hxk hxi hxy hxb hnx hxs;clear hit hx1 HIT;obtain ⟨X, hX⟩ : ∃ X, X = wr.alloc (.cells #[.int .i64 x.kind, .string x.name, .int .i64 x.sort, .slice Ax x.kids.length cx] 24) := ⟨_, rfl⟩;have bX : Below wr.heap.size wr X := by rw [hX]; exact qaf (Nat.le_refl _) _
   have cX : X.heap[wr.heap.size]? = some (.cells #[.int .i64 x.kind, .string x.name, .int .i64 x.sort, .slice Ax x.kids.length cx] 24 (0, 0)) := by rw [hX]; exact heap_alloc_new _ _
   have sX := bX.size;have HMX := Lib.hid (HMA.out.keep (fun j hj => bX.block j (by omega)) bX.size (HMA.out.bel.trans (bX.mono (by have := HMA.out.bel.size; omega))));have hRX := HROW.out.below bX;have KE := Lib.hid (qii x Ax cx X);obtain ⟨d0, d1, d2, d3, -⟩ := qad cX;rw [hX] at d0 d1 d2 d3;have HX := Lib.hid hX;have HCX := Lib.hid cX;have HRX := Lib.hid hRX;have HNX := Lib.hid hnx;have HXP : Hid (x.kind = 1 ∧ x.kids = [] ∧ qbl x ∧ hasS q1 x = true ∧ x.size ≤ 1000000) := ⟨hxk, hxi, hxy, hxb, hxs⟩;have HREPX : Hid (∀ (Z : World) (G : Nat → Prop), RepP Z G x Ax cx) := Lib.hid fun Z G => RepP.mono (fun b hb => False.elim hb.1) (fun p hp => False.elim hp.1) _ _ _ hrx;have hxlt : wr.heap.size < X.heap.size := (Array.getElem?_eq_some_iff.1 cX).1;clear hX bX cX hRX hnx hxk hxi hxy hxb hxs hrx HMA HROW;simp only [Tm.val] at KE;go_wp2_with fail
   rw [← HX.out]
   try go_wp2_with fail
   refine KE.out.mono ?_; clear KE d0 d1 d2 d3 m0 m1 m2 m3;rintro e w5 ⟨rfl, hl5⟩;have s5 := hl5.size;have hM5 := HMX.out.keep (fun j hj => hl5.below.block j (by omega)) hl5.size (HMX.out.bel.trans (hl5.below.mono (by have := HMX.out.bel.size; omega)));obtain ⟨Au, cu, hru, hrun⟩ := hM5.map.look0 HXP.out.1 HXP.out.2.1 HXP.out.2.2.1 HXP.out.2.2.2.1;have hus : (getS q1 x).size ≤ 1000000 := by
    rcases qc2 x q1 with ⟨b', hb', -, e2⟩ | ⟨e1, -⟩
    ·rw [e2]; have := HQV.out b' hb'; omega
    ·rw [e1]; exact HXP.out.2.2.2.2
   obtain ⟨u, hu⟩ : ∃ u, u = getS q1 x := ⟨_, rfl⟩;rw [← hu] at hru hrun hus HNX;clear hu;simp only [Tm.val] at hrun;obtain ⟨Y, hY⟩ : ∃ Y, Y = w5.alloc (.cells #[.int .i64 u.kind, .string u.name, .int .i64 u.sort, .slice Au u.kids.length cu] 24) := ⟨_, rfl⟩;have bY : Below w5.heap.size w5 Y := by rw [hY]; exact qaf (Nat.le_refl _) _
   have cY : Y.heap[w5.heap.size]? = some (.cells #[.int .i64 u.kind, .string u.name, .int .i64 u.sort, .slice Au u.kids.length cu] 24 (0, 0)) := by rw [hY]; exact heap_alloc_new _ _
   have cX5 := (hl5.below.block _ hxlt).trans HCX.out;have cXY := (bY.block _ (by omega)).trans cX5;have sY := bY.size;have HMY := Lib.hid (hM5.keep (fun j hj => bY.block j (by omega)) bY.size (hM5.bel.trans (bY.mono (by have := hM5.bel.size; omega))));have HRY := Lib.hid ((HRX.out.below hl5.below).below bY);have hruY : RepP Y (fun b => b < w.heap.size) u Au cu := RepP.mono (fun _ h => h) (fun p hp => (HMY.out.bel.cell hp).trans (hM5.bel.cell hp).symm) _ _ _ hru;have hwY := HMY.out.bel.size;have SM := qck u x Au Ax cu cx Y hus HXP.out.2.2.2.2 (RepP.mono (fun b (h : b < w.heap.size) => by show b < _; omega) (fun _ _ => rfl) _ _ _ hruY) (HREPX.out Y _);obtain ⟨qs, hqs⟩ : ∃ q, q = decide (u = x) := ⟨_, rfl⟩;rw [← hqs] at SM;simp only [Tm.val] at SM;have SM := Lib.hid SM;have HQS := Lib.hid hqs;obtain ⟨f0, f1, f2, f3, -⟩ := qad cY;obtain ⟨g0, g1, g2, g3, -⟩ := qad cXY
   obtain ⟨h0, h1, h2, h3, -⟩ := qad cX5;rw [hY] at f0 f1 f2 f3 g0 g1 g2 g3;have HY := Lib.hid hY;have HCY := Lib.hid cY;have HCXY := Lib.hid cXY;have HRUY := Lib.hid hruY;have hylt : w5.heap.size < Y.heap.size := (Array.getElem?_eq_some_iff.1 cY).1;clear hY bY cY cX5 cXY hru hruY hM5 hl5 HMX HRX HCX hqs hus;go_wp2_with (at_lookup; refine qb9 rfl _ _ rfl rfl rfl hrun ?_)
   rw [← HY.out]
   try go_wp2_with fail
   refine SM.out.mono ?_; clear SM f0 f1 f2 f3 g0 g1 g2 g3 h0 h1 h2 h3;rintro e w6 ⟨rfl, hl6⟩;have s6 := hl6.size;have HM6 := Lib.hid (HMY.out.keep (fun j hj => hl6.below.block j (by omega)) hl6.size (HMY.out.bel.trans (hl6.below.mono (by omega))));have HR6 := Lib.hid (HRY.out.below hl6.below)
   cases qs with
   | true =>
    have he : u = x := of_decide_eq_true HQS.out.symm;have HN2 := Lib.hid (HNX.out.trans (by rw [if_pos he, List.append_nil]));clear he HNX HQS HMY HRY hl6;go_wp2_with fail
    go_roundw
    case rel => exact ⟨k + 1, c0, A0, its, by omega, by go_num, rfl, by omega, HN2.out.symm, HM6.out, HR6.out⟩
    case measure => simp [intOf]; omega
   | false =>
    have he : u ≠ x := of_decide_eq_false HQS.out.symm;have HN2 := Lib.hid (HNX.out.trans (by rw [if_neg he]));have hlen : its.length + 1 ≤ 100000000 := by
     have h := congrArg List.length HNX.out;rw [if_neg he, List.length_append, List.length_map] at h;have h5 : (qj6 q1 (L.take (k + 1))).length ≤ (L.take (k + 1)).length := by
      unfold qj6; rw [List.length_map]; exact List.length_filter_le _ _
     rw [List.length_take] at h5;simp only [List.length_singleton] at h;omega
    have own : ∀ j, (Value.slice A0 its.length c0).ownBlock = some j → base ≤ j := fun j e => (HR6.out.lt j e).1;have hru6 : RepP w6 (fun b => b < w.heap.size ∧ b < w6.heap.size ∧ (Value.slice A0 its.length c0).ownBlock ≠ some b) u Au cu := RepP.mono (fun b (h : b < w.heap.size) => ⟨h, by omega, fun e => by have := own b e; omega⟩) (fun p (hp : p.block < w.heap.size) => hl6.below.cell (by omega)) _ _ _ HRUY.out;obtain ⟨g, c9, W9, hap, hrow9, hbel9, hk9, hs9, -⟩ := HR6.out.more1 qls (by omega) ((x, Ax, cx), (u, Au, cu)) (HREPX.out _ _) hru6 hlen;have HB9 := Lib.hid (hbel9 _ _ HM6.out.bel hw4);have HM9 := Lib.hid (HM6.out.keep (fun j hj => hk9 j (by omega) (fun e => by have := own j e; omega)) hs9 HB9.out);have HROW9 := Lib.hid hrow9;obtain ⟨f0, f1, f2, f3, -⟩ := qad ((hl6.below.block _ hylt).trans HCY.out)
    obtain ⟨g0, g1, g2, g3, -⟩ := qad ((hl6.below.block _ (by omega)).trans HCXY.out);dsimp only at hap;clear hrow9 hbel9 hk9 own hru6 he HNX HQS HMY HRY hl6;go_wp2_with (at_builtin; refine qak rfl _ _ rfl rfl rfl hap ?_)
    go_roundw
    case rel => exact ⟨k + 1, c9, some ⟨g, 0, none⟩, its ++ [((x, Ax, cx), (u, Au, cu))], by omega, by go_num, by rw [List.length_append]; rfl, by omega, by show _ = _; rw [HN2.out, List.map_append]; rfl, HM9.out, by rw [List.length_append]; exact HROW9.out⟩
    case measure => simp [intOf]; omega
  ·obtain rfl : k = L.length := by omega
   have hit := HIT.out;rw [List.take_length] at hit;obtain ⟨A7, c7, hv7, hrep7⟩ := HROW.out.toB (P := fun b => b < wr.heap.size) (fun b _ h _ => h) (fun b h => (HROW.out.lt b h).2);injection hv7 with g1 g2 g3;clear g2;subst g1 g3;rw [hit] at hrep7;have hlb : its.length = (qj6 q1 L).length := by rw [← hit, List.length_map]
   have hr := HR3.out;rw [← HL.out] at hr;subst hr;have HREP7 := Lib.hid hrep7;have HLB := Lib.hid hlb;clear hrep7 hlb hit HIT HR3;go_wp2_with fail
   go_ret2
   exact ⟨A0, c0, by rw [HLB.out]; rfl, HREP7.out, HMA.out.bel⟩
set_option maxHeartbeats 1000000 in
theorem qdt (t u : Tm) (T U : Option Addr) (ct cu : Nat) (w : World) (ht : t.size ≤ 1000000) (hu : u.size ≤ 1000000) (hrt : RepT w w.heap.size t T ct) (hru : RepT w w.heap.size u U cu) :
  Calls Tryz.prog 23 #[t.val T ct, u.val U cu] w fun e w' => e = .returned (.bool ((qcq u t).2 == 0)) ∧ Below w.heap.size w w' := by
 obtain ⟨V, hV⟩ : ∃ V, V = (w.alloc (boxT t T ct)).alloc (boxT u U cu) := ⟨_, rfl⟩;have h2 : Two w t u T U ct cu V := by rw [hV]; exact Two.new _ _ _ _ _ _ _
 have ME := qka u t U T cu ct V hu ht (hru.go h2.lay.below h2.lay.size) (hrt.go h2.lay.below h2.lay.size);obtain ⟨r, hr⟩ : ∃ r, r = qcq u t := ⟨_, rfl⟩;rw [← hr] at ME ⊢;clear hr;have HL := Lib.hid h2.lay;obtain ⟨a0, a1, a2, a3, -⟩ := qad h2.one;obtain ⟨b0, b1, b2, b3, -⟩ := qad h2.two;obtain ⟨r1, r2⟩ := r;clear h2 hrt hru;simp only [boxT] at hV;have HV := Lib.hid hV; clear hV;unfold qiv at ME;simp only [Tm.val] at ME ⊢;have ME := Lib.hid ME;go_enter Tryz.func23, Tryz.ntmps23
 go_wp2_with fail
 rw [← HV.out];go_wp2_with fail
 refine ME.out.mono ?_; clear ME a0 a1 a2 a3 b0 b1 b2 b3;rintro e w1 ⟨A, c, rfl, -, hb⟩;go_wp2_with fail
 go_ret
 exact ⟨rfl, qae HL.out.below hb HL.out.size⟩
end Go.Proofs.YtpjmdilpldaapaaGreatDoor
