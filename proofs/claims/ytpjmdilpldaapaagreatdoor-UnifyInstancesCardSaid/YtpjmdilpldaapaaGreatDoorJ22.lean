/- Uapart (joined by shake.py). -/
import Derived.Test.YtpjmdilpldaapaaGreatDoorJ5
import Derived.Test.YtpjmdilpldaapaaGreatDoorJ20
import Derived.Test.YtpjmdilpldaapaaGreatDoorJ21
set_option maxRecDepth 100000
namespace Go.Proofs.YtpjmdilpldaapaaGreatDoor
open Go.RowKit Go.Sort Go.Maps
def newU (nm : ByteArray) (i : Nat) (s : Int) : Tm := .mk 1 (nm ++ ⟨(Lib.decDigits i).toArray⟩) s []
def apUL (nm : ByteArray) : List Tm → Nat → List Bd
 | [], _ => []
 | x :: r, i => (x, newU nm i x.sort) :: apUL nm r (i + 1)
theorem qll (nm : ByteArray) : ∀ (L : List Tm) (x : Tm) (i : Nat), apUL nm (L ++ [x]) i = apUL nm L i ++ [(x, newU nm (i + L.length) x.sort)]
 | [], _, _ => rfl
 | y :: L, x, i => by rw [List.cons_append, apUL, qll nm L x, apUL, List.cons_append, List.length_cons, show i + 1 + L.length = i + (L.length + 1) by omega]
theorem qj4 {nm : ByteArray} {y : Tm} : ∀ {L : List Tm} {i : Nat}, y ∉ L → hasS (apUL nm L i) y = false
 | [], _, _ => rfl
 | x :: L, i, h => by
  rw [apUL, hasS, if_neg (fun e => h (by rw [← e]; exact List.mem_cons_self ..))];exact qj4 (fun hm => h (List.mem_cons_of_mem _ hm))
theorem asc_fresh {L : List Tm} (h : Asc L) {k : Nat} (hk : k < L.length) : L[k] ∉ L.take k := by
 intro hm;obtain ⟨j, hj, e⟩ := List.getElem_of_mem hm;rw [List.length_take] at hj;rw [List.getElem_take] at e;have h1 := List.pairwise_iff_getElem.1 h j k (by omega) hk (by omega);rw [e, Tm.cmp_self] at h1;omega
structure ApAt (w : World) (mb nn base lb : Nat) (m : List Bd) (o1 o2 : Obj) (L : List Tm) (AL : Option Addr) (cL : Nat) (itsL : List It) (Z : World) : Prop where
 map : MapT Z mb nn (fun b => b < w.heap.size) m
 b1 : Z.heap[w.heap.size]? = some o1
 b2 : Z.heap[w.heap.size + 1]? = some o2
 row : RowT Z lb (fun _ => False) (.slice AL L.length cL) itsL
 is : itsL.map (·.1) = L
 bel : Below w.heap.size w Z
 own : ∀ k, (Value.slice AL L.length cL).ownBlock = some k → k < base ∧ k ≠ mb
 mlt : mb < base
 mw : w.heap.size + 2 ≤ mb
 bs : base ≤ Z.heap.size
section
variable {w Z Z' : World} {mb nn nn' base lb cL : Nat} {m m' : List Bd} {o1 o2 : Obj} {L : List Tm} {AL : Option Addr} {itsL : List It}
theorem ApAt.go (h : ApAt w mb nn base lb m o1 o2 L AL cL itsL Z) (hb : Below Z.heap.size Z Z') : ApAt w mb nn base lb m o1 o2 L AL cL itsL Z' := by
 have hm := h.map.lt;have h1 := h.mw;have h2 := h.mlt;have h3 := h.bs;have h4 := hb.size;exact ⟨h.map.keep (hb.block _ hm) (fun p (hp : p.block < w.heap.size) => hb.cell (by omega)), (hb.block _ (by omega)).trans h.b1, (hb.block _ (by omega)).trans h.b2, qb7 h.row hb.size (fun k e => hb.block _ (by have := (h.own k e).1; omega)) (fun _ hf => False.elim hf), h.is, h.bel.trans (hb.mono (by omega)), h.own, h.mlt, h.mw, by omega⟩
theorem ApAt.turn (h : ApAt w mb nn base lb m o1 o2 L AL cL itsL Z) (hm : MapT Z' mb nn' (fun b => b < w.heap.size) m') (ht : Z.mapTurned Z' mb) : ApAt w mb nn' base lb m' o1 o2 L AL cL itsL Z' := by
 have hk : ∀ j, j < Z.heap.size → j ≠ mb → Z'.heap[j]? = Z.heap[j]? := fun j hj hne => ht.grown.block j hj (fun e => by injection e with e; exact hne e);have h1 := h.mw;have h2 := h.mlt;have h3 := h.bs;have h4 := ht.grown.size;exact ⟨hm, (hk _ (by omega) (by omega)).trans h.b1, (hk _ (by omega) (by omega)).trans h.b2, qb7 h.row h4 (fun k e => hk k (by have := (h.own k e).1; omega) (h.own k e).2) (fun _ hf => False.elim hf), h.is, h.bel.grown ht.grown (by omega) (fun j e => by injection e with e; omega), h.own, h.mlt, h.mw, by omega⟩
end
attribute [local irreducible] qa0
set_option linter.unusedSimpArgs false in
set_option linter.unusedVariables false in
set_option maxHeartbeats 8000000 in
theorem qir (t : Tm) (nm : ByteArray) (A : Option Addr) (c : Nat) (w0 w : World) (HI : qbj 400 w0) (hw0 : Below w0.heap.size w0 w) (hnm : nm.size ≤ 10) (hvt : t.valid = 0) (hrep : RepT w w.heap.size t A c) :
  Calls Tryz.prog 42 #[t.val A c, .string nm] w fun e w' => ∃ A' c', e = .returned ((t.put (apUL nm (varsOf t) 0)).val A' c') ∧ RepT w' w'.heap.size (t.put (apUL nm (varsOf t) 0)) A' c' ∧ Below w.heap.size w w' := by
 have mixed : Tryz.prog.follows .mixedOrders = true := by kernel_rfl
 have hmm := @run_makeMap Tryz.prog;have st := qai hvt;obtain ⟨L, hL⟩ : ∃ L, L = varsOf t := ⟨_, rfl⟩;obtain ⟨r, hr⟩ : ∃ r, r = t.put (apUL nm (varsOf t) 0) := ⟨_, rfl⟩;rw [← hr];rw [← hL] at hr;have HR := Lib.hid hr; clear hr;have hasc : Asc L := by rw [hL]; exact Tm.set_asc _
 have hLl : L.length ≤ 400 := by rw [hL]; have := qbu t; omega
 have hlf : ∀ x ∈ L, x.kind = 1 ∧ x.kids = [] ∧ qbm x := fun x hx => by
  rw [hL] at hx;have hk : x.kind = 1 := by
   unfold varsOf at hx;rw [Tm.mem_set, List.mem_filter] at hx;simpa using hx.2
  exact ⟨hk, qcq hvt x hx⟩
 have hck : t.check = 0 := check_valid hvt;obtain ⟨V, hV⟩ : ∃ V, V = (w.alloc (qa5 t A c)).alloc (.cells #[.int .i64 0, .string ⟨#[]⟩, .int .i64 0, .slice none 0 0] 24) := ⟨_, rfl⟩;have hbV : Below w.heap.size w V := by rw [hV]; exact (qaf (Nat.le_refl _) _).alloc (by simp) _
 have hVs : V.heap.size = w.heap.size + 1 + 1 := by rw [hV, World.size_alloc, World.size_alloc]
 have h1 : V.heap[w.heap.size]? = some (qa5 t A c) := by
  rw [hV, Below.heap_alloc _ _ _ (by simp)]; exact heap_alloc_new _ _
 have h2 : V.heap[w.heap.size + 1]? = some (.cells #[.int .i64 0, .string ⟨#[]⟩, .int .i64 0, .slice none 0 0] 24 (0, 0)) := by
  rw [hV, ← World.size_alloc w (qa5 t A c)]; exact heap_alloc_new _ _
 obtain ⟨W1, hW1⟩ : ∃ W1, W1 = V.alloc (.map #[] 0) := ⟨_, rfl⟩;have hb1 : Below V.heap.size V W1 := by rw [hW1]; exact qaf (Nat.le_refl _) _
 have hm0 : MapT W1 V.heap.size 0 (fun b => b < w.heap.size) [] := by
  rw [hW1]; exact ⟨fun _ => none, qa9.made V, fun x _ _ _ => .inl ⟨rfl, rfl⟩⟩
 obtain ⟨mb, hmb⟩ : ∃ mb, mb = V.heap.size := ⟨_, rfl⟩;have hbW : Below w.heap.size w W1 := hbV.trans (hb1.mono (by omega));have hW1s : W1.heap.size = mb + 1 := by rw [hW1, World.size_alloc, hmb]
 have g1 := (hb1.block w.heap.size (by omega)).trans h1;have g2 := (hb1.block (w.heap.size + 1) (by omega)).trans h2;rw [← hmb] at hm0;have hmbs : mb = w.heap.size + 1 + 1 := hmb.trans hVs;have VS := qgv t A c W1 (by omega) (hrep.go hbW hbW.size);obtain ⟨a0, a1, a2, a3, -⟩ := qae g1;rw [hV] at hW1;simp only [qa5] at hW1;rw [hW1] at a0 a1 a2 a3;have HW1 := Lib.hid hW1;have HM0 := Lib.hid hm0;have HG1 := Lib.hid g1;have HG2 := Lib.hid g2;have HBW := Lib.hid hbW;have HREP := Lib.hid hrep;have HL := Lib.hid hL;have HAS := Lib.hid hasc;have HLF := Lib.hid hlf;have HII := Lib.hid HI;have HW0 := Lib.hid hw0;have hws := hbW.size;simp only [Tm.val] at VS;have VS := Lib.hid VS;clear hV hbV hVs h1 h2 hb1 hW1 hm0 hmb g1 g2 hbW hrep hL hasc hlf HI hw0;simp only [Tm.val];go_enter Tryz.func42, Tryz.ntmps42
 go_wp2_with fail
 rw [← HW1.out, ← hmbs];have hmb1 : w.heap.size + 2 ≤ mb := by omega
 have hws1 : mb < W1.heap.size := by omega
 clear hmbs hW1s
 try go_wp2_with fail
 refine VS.out.mono ?_; clear VS a0 a1 a2 a3;rintro e w4 ⟨v4, its4, rfl, hrow4, hb4, his4⟩;obtain ⟨A4, c4, hv4, -⟩ := hrow4.toS (P := fun b => b < w4.heap.size) (fun b _ h => h) (fun b _ h => h);have his4' : its4.map (·.1) = L := by rw [his4, HL.out]; rfl
 have hl4 : its4.length = L.length := by rw [← his4', List.length_map]
 rw [hl4] at hv4;subst hv4;have hrowL := qe5 hrow4 (fun x hx => (HLF.out x.1 (by rw [← his4']; exact List.mem_map_of_mem hx)).2.1);have h4s := hb4.size;have hMA : ApAt w mb 0 w4.heap.size W1.heap.size [] (qa5 t A c) (.cells #[.int .i64 0, .string ⟨#[]⟩, .int .i64 0, .slice none 0 0] 24 (0, 0)) L A4 c4 its4 w4 :=
  ⟨HM0.out.keep (hb4.block _ (by omega)) (fun p (hp : p.block < w.heap.size) => hb4.cell (by omega)), (hb4.block _ (by omega)).trans HG1.out, (hb4.block _ (by omega)).trans HG2.out, hrowL, his4', HBW.out.trans (hb4.mono HBW.out.size), fun k e => ⟨(hrowL.lt k e).2, by have := (hrowL.lt k e).1; omega⟩, by omega, by omega, Nat.le_refl _⟩
 have HMA := Lib.hid hMA;obtain ⟨base, hbase⟩ : ∃ base, base = w4.heap.size := ⟨_, rfl⟩;rw [← hbase] at HMA;obtain ⟨lb, hlb⟩ : ∃ lb, lb = W1.heap.size := ⟨_, rfl⟩;rw [← hlb] at HMA;clear hMA hrowL hrow4 his4 his4' hb4 HM0 HG1 HG2 HBW hl4 hbase h4s hlb HW1;go_wp2_with fail
 go_loopw [12] (fun i wr => ∃ (k nn : Nat), k ≤ L.length ∧ i = .int .i64 k ∧ nn ≤ k ∧ Hid (ApAt w mb nn base lb (apUL nm (L.take k) 0) (qa5 t A c) (.cells #[.int .i64 0, .string ⟨#[]⟩, .int .i64 0, .slice none 0 0] 24 (0, 0)) L A4 c4 its4 wr)) (fun i _ => L.length - (intOf i).toNat)
 case atStart => exact ⟨0, 0, Nat.zero_le _, rfl, Nat.le_refl _, HMA.out⟩
 case round =>
  clear HMA;obtain ⟨k, nn, hk, rfl, hnk, HMA⟩ := hrel;have i1 : (0 : Int) ≤ (k : Int) := Int.natCast_nonneg _;by_cases hlt : k < L.length
  ·have i2 : (k : Int) < (L.length : Int) := by omega
   have hil : its4.length = L.length := by rw [← HMA.out.is, List.length_map]
   obtain ⟨gA, rfl⟩ : ∃ gA, A4 = some ⟨gA, 0, none⟩ := by
    rcases HMA.out.row.own.2 with ⟨h, h2⟩ | ⟨vb, cap, cur, h, -⟩
    ·omega
    ·injection h with h; exact ⟨vb, h⟩
   obtain ⟨m0, m1, m2, m3, -⟩ := HMA.out.row.slot hil.symm k (by omega);have hx1 : (its4[k]'(by omega)).1 = L[k] := by
    have h := congrArg (·[k]?) HMA.out.is;simpa [List.getElem?_eq_getElem (show k < its4.length by omega), List.getElem?_eq_getElem hlt] using h
   obtain ⟨hxk, hxi, hxy⟩ := HLF.out L[k] (List.getElem_mem hlt);have hno : hasS (apUL nm (L.take k) 0) L[k] = false := qj4 (asc_fresh HAS.out hlt);have hnx := qll nm (L.take k) L[k] 0;rw [← List.take_succ_eq_append_getElem hlt, List.length_take, Nat.min_eq_left hk, Nat.zero_add] at hnx;obtain ⟨it, hit⟩ : ∃ it, it = its4[k]'(by omega) := ⟨_, rfl⟩;rw [← hit] at m0 m1 m2 m3 hx1;obtain ⟨x, Ax, cx⟩ := it;dsimp only at m0 m1 m2 m3 hx1;rw [← hx1] at hxk hxi hxy hno hnx;clear hit hx1;obtain ⟨X, hX⟩ : ∃ X, X = wr.alloc (.cells #[.int .i64 x.kind, .string x.name, .int .i64 x.sort, .slice Ax x.kids.length cx] 24) := ⟨_, rfl⟩;have bX : Below wr.heap.size wr X := by rw [hX]; exact qaf (Nat.le_refl _) _
   have cX : X.drew.heap[wr.heap.size]? = some (.cells #[.int .i64 x.kind, .string x.name, .int .i64 x.sort, .slice Ax x.kids.length cx] 24 (0, 0)) := by rw [hX]; exact heap_alloc_new _ _
   have HMX := Lib.hid ((HMA.out.go bX).go (Z' := X.drew) (Below.refl _ _).drew);have HX := Lib.hid hX;have HCX := Lib.hid cX;have HXP : Hid (x.kind = 1 ∧ x.kids = [] ∧ qbm x) := ⟨hxk, hxi, hxy⟩;have HNO := Lib.hid hno;have HNX := Lib.hid hnx;have hwrb : base ≤ wr.heap.size := HMA.out.bs;clear hX bX cX hxk hxi hxy hno hnx HMA;obtain ⟨dg, hdg⟩ : ∃ dg : ByteArray, dg = ⟨(Lib.decDigits k).toArray⟩ := ⟨_, rfl⟩;have hds : dg.size ≤ 6 := by rw [hdg]; exact qjx (by omega)
   have hcat : nm.size + dg.size ≤ 9223372036854775807 := by omega
   have hcat2 : ¬ 9223372036854775807 < nm.size + dg.size := by omega
   have HDG := Lib.hid hdg;clear hdg;go_wp2_with fail
   rw [← HX.out];clear HX m0 m1 m2 m3;refine qam (fun Y => ∀ p : Addr, p.block < X.drew.heap.size → p.block ≠ mb → Y.cell? p = X.drew.cell? p) (fun _ => True) [10] (.held 0 (.held 1 (.held 3 (.held 4 (.held 7 (.held 8 (.op 2 (.op 5 (.held 6 (.held 9 (.op 10 .nil))))))))))) mixed (by kernel_rfl) ?_;generalize X.drew = D at *;have hwD : wr.heap.size < D.heap.size := (Array.getElem?_eq_some_iff.1 HCX.out).1;have hmbb : mb < base := HMX.out.mlt;obtain ⟨d0, d1, d2, d3, -⟩ := qae HCX.out;have sD : ∀ p : Addr, p.block < D.heap.size → p.block ≠ mb → D.cell? p = D.cell? p := fun _ _ _ => rfl;refine qaa (v := .map (some mb)) rfl rfl rfl (fun _ _ _ h => h) sD trivial (fun Y hY _ => by
    (try simp only [Act.put]); go_simp) ?_
   refine qaa (v := .agg #[.int .i64 x.kind, .string x.name, .int .i64 x.sort, .slice Ax x.kids.length cx]) rfl rfl rfl (fun _ _ _ h => h) sD trivial (fun Y hY _ => by
    have z0 := (hY ⟨wr.heap.size, 0, none⟩ (by show wr.heap.size < _; omega) (by show wr.heap.size ≠ _; omega)).trans d0;have z1 := (hY ⟨wr.heap.size, 1, none⟩ (by show wr.heap.size < _; omega) (by show wr.heap.size ≠ _; omega)).trans d1;have z2 := (hY ⟨wr.heap.size, 2, none⟩ (by show wr.heap.size < _; omega) (by show wr.heap.size ≠ _; omega)).trans d2;have z3 := (hY ⟨wr.heap.size, 3, none⟩ (by show wr.heap.size < _; omega) (by show wr.heap.size ≠ _; omega)).trans d3;clear hY
    (try simp only [Act.put]); go_simp) ?_
   refine qaa (v := .string nm) rfl rfl rfl (fun _ _ _ h => h) sD trivial (fun Y hY _ => by
    (try simp only [Act.put]); go_simp) ?_
   refine qaa (v := .int .i64 k) rfl rfl rfl (fun _ _ _ h => h) sD trivial (fun Y hY _ => by
    (try simp only [Act.put]); go_simp) ?_
   simp only [Act.put, List.setIfInBounds_toArray, List.set_cons_succ, List.set_cons_zero, List.getElem_toArray, List.getElem_cons_succ, List.getElem_cons_zero];refine qaa (v := .pointer (some ⟨wr.heap.size, 2, none⟩)) rfl rfl rfl (fun _ _ _ h => h) sD trivial (fun Y hY _ => by
    (try simp only [Act.put]); go_simp) ?_
   refine qaa (v := .int .i64 x.sort) rfl rfl rfl (fun _ _ _ h => h) sD trivial (fun Y hY _ => by
    have z2 := (hY ⟨wr.heap.size, 2, none⟩ (by show wr.heap.size < _; omega) (by show wr.heap.size ≠ _; omega)).trans d2;clear hY
    (try simp only [Act.put]); go_simp) ?_
   simp only [Act.put, List.setIfInBounds_toArray, List.set_cons_succ, List.set_cons_zero, List.getElem_toArray, List.getElem_cons_succ, List.getElem_cons_zero];have KE := qht x Ax cx D;simp only [Tm.val] at KE;have KE := Lib.hid KE;refine qac rfl rfl (fun K hK => ?_);go_wp2_with fail
   refine KE.out.mono ?_; clear KE;rintro e w5 ⟨rfl, hl5⟩;have s5 : ∀ p : Addr, p.block < D.heap.size → p.block ≠ mb → w5.cell? p = D.cell? p := fun p hp _ => hl5.below.cell hp;refine hK _ _ ⟨⟨fun _ => s5, trivial⟩, ?_⟩;clear hK K;have HM5 := Lib.hid (HMX.out.go hl5.below);have h5s := hl5.below.size;clear HMX hl5;have IT := HII.out k w5 (by omega) (HW0.out.trans (HM5.out.bel.mono (Below.size HW0.out)));rw [← HDG.out] at IT;have IT := Lib.hid IT;refine qac rfl rfl (fun K hK => ?_);go_wp2_with fail
   refine IT.out.mono ?_; clear IT;rintro e w6 ⟨rfl, hl6⟩;have s6 : ∀ p : Addr, p.block < D.heap.size → p.block ≠ mb → w6.cell? p = D.cell? p := fun p hp hne => (hl6.below.cell (by omega)).trans (s5 p hp hne);refine hK _ _ ⟨⟨fun _ => s6, trivial⟩, ?_⟩;clear hK K;have HM6 := Lib.hid (HM5.out.go hl6.below);clear HM5 hl6;refine qaa (v := .string (nm ++ dg)) rfl rfl rfl (fun _ _ _ h => h) s6 trivial (fun Y hY _ => by
    (try simp only [Act.put]); go_simp) ?_
   refine qaa (v := .agg #[.int .i64 1, .string (nm ++ dg), .int .i64 x.sort, .slice none 0 0]) rfl rfl rfl (fun _ _ _ h => h) s6 trivial (fun Y hY _ => by
    (try simp only [Act.put]); go_simp) ?_
   simp only [Act.put, List.setIfInBounds_toArray, List.set_cons_succ, List.set_cons_zero, List.getElem_toArray, List.getElem_cons_succ, List.getElem_cons_zero];have hsz6 : w.heap.size ≤ w6.heap.size := Below.size HM6.out.bel;have hm6 := HM6.out.mw;obtain ⟨N4, hrun4, hm4, ht4⟩ := HM6.out.map.store (by unfold maxLen; omega) HXP.out.1 HXP.out.2.1 HXP.out.2.2 HNO.out (t := .mk 1 (nm ++ dg) x.sort []) (A := none) (c := 0) (by
    rw [qbf]; exact ⟨by rw [ByteArray.size_append]; unfold maxLen; omega, Nat.zero_le _, Nat.zero_le _, .inl rfl⟩) (fun k (hk : k < w.heap.size) => ⟨by omega, by omega⟩)
   have HM7 := Lib.hid (HM6.out.turn hm4 ht4); clear HM6 hm4 ht4;have hrun4 : (Instr.mapUpdate 62 (.map (some mb)) (keyV x) (.agg #[.int .i64 1, .string (nm ++ dg), .int .i64 x.sort, .slice none 0 0])).run Tryz.prog w6 = .ok () N4 := hrun4;refine qac rfl rfl (fun K hK => ?_);refine qe9 (by rfl) 62 (.tmp 17) (.tmp 19) (.tmp 26) (by rfl) (by rfl) (by rfl) (by rfl) hrun4 ?_;refine hK _ _ ⟨⟨fun h => absurd h (by decide), trivial⟩, qao ?_⟩;clear hK K hrun4;have HNX2 : Hid (apUL nm (L.take (k + 1)) 0 = apUL nm (L.take k) 0 ++ [(x, .mk 1 (nm ++ dg) x.sort [])]) := by
    show _ = _;rw [HNX.out, HDG.out]; rfl
   clear sD s5 s6 d0 d1 d2 d3;go_wp2_with fail
   go_roundw
   case rel => exact ⟨k + 1, nn + 1, by omega, by go_num, by omega, by rw [HNX2.out]; exact HM7.out⟩
   case measure => simp [intOf]; omega
  ·obtain rfl : k = L.length := by omega
   have hA := HMA.out;rw [List.take_length] at hA;have hma := hA.mw;have hml := hA.mlt;have hbsz := hA.bs;have UP := qml mb nn (fun b => b < w.heap.size) (apUL nm L 0) t.size t A c wr (Nat.le_refl _) (by omega) hck (fun b (hb : b < w.heap.size) => by omega) hA.map (RepP.mono (fun _ h => h) (fun p (hp : p.block < w.heap.size) => hA.bel.cell hp) _ _ _ HREP.out);rw [← HR.out] at UP;obtain ⟨a0, a1, a2, a3, -⟩ := qaq t (hA.b1);simp only [Tm.val] at UP;have UP := Lib.hid UP;have HA := Lib.hid hA;clear hA HMA;go_wp2_with fail
   refine UP.out.mono ?_; clear UP a0 a1 a2 a3;rintro e w9 ⟨A9, c9, rfl, hr9, hb9⟩;have h9s := hb9.size;have hz : w9.heap[w.heap.size + 1]? = some (.cells #[.int .i64 0, .string ⟨#[]⟩, .int .i64 0, .slice none 0 0] 24 (0, 0)) := (hb9.block _ (by omega)).trans HA.out.b2;have HBW := Lib.hid (qad HA.out.bel hb9 (Below.size HA.out.bel));have HR9 := Lib.hid hr9;obtain ⟨f0, f1, f2, f3, ff⟩ := qae hz;clear hz hr9 hb9;simp only [Tm.val];go_wp2_with fail
   refine bodyPost_ret (v := .agg #[.int .i64 r.kind, .string r.name, .int .i64 r.sort, .slice A9 r.kids.length c9]) ?_ rfl ?_
   ·simp [results, Tryz.results42, go_sem, f0, f1, f2, f3]
   have hne : ∀ p : Addr, (p.block < w.heap.size ∨ (wr.heap.size ≤ p.block ∧ p.block < w9.heap.size)) → ∀ o, (⟨w.heap.size + 1, o, none⟩ : Addr) ≠ p := fun p hp o e => by rw [← e] at hp; simp at hp; omega
   refine ⟨A9, c9, rfl, ?_, ?_⟩
   ·refine RepP.mono ?_ ?_ _ _ _ HR9.out
    ·rintro b (h | ⟨h, h'⟩)
     ·simp [World.setCell]; omega
     ·simpa [World.setCell] using h'
    ·intro p hp;have hne := hne p hp;rw [World.cell?_setCell_other _ _ _ _ (hne _), World.cell?_setCell_other _ _ _ _ (hne _), World.cell?_setCell_other _ _ _ _ (hne _), World.cell?_setCell_other _ _ _ _ (hne _)]
   ·iterate 4 refine Below.setCell ?_ (by show w.heap.size ≤ w.heap.size + 1; omega) _
    exact HBW.out
end Go.Proofs.YtpjmdilpldaapaaGreatDoor
