/- Urapart (joined by shake.py). -/
import Derived.Test.YtpjmdilpldaapaaGreatDoorJ12
import Derived.Test.YtpjmdilpldaapaaGreatDoorJ14
import Derived.Test.YtpjmdilpldaapaaGreatDoorJ15
import Derived.Test.YtpjmdilpldaapaaGreatDoorJ23
set_option maxRecDepth 100000
namespace Go.Proofs.YtpjmdilpldaapaaGreatDoor
open Go.RowKit Go.Sort
def qbo (N : List ByteArray) : List Tm → Nat → List Bd
 | [], _ => []
 | x :: r, n => (x, .mk 1 (qaw (qay N n)) x.sort []) :: qbo N r (qay N n + 1)
def qc4 (N : List ByteArray) : List Tm → Nat → Nat
 | [], n => n
 | _ :: r, n => qc4 N r (qay N n + 1)
theorem qh9 (N : List ByteArray) : ∀ (L : List Tm) (x : Tm) (n : Nat), qc4 N (L ++ [x]) n = qay N (qc4 N L n) + 1
 | [], _, _ => rfl
 | _ :: L, x, n => by rw [List.cons_append, qc4, qh9 N L x, qc4]
theorem qib (N : List ByteArray) : ∀ (L : List Tm) (x : Tm) (n : Nat), qbo N (L ++ [x]) n = qbo N L n ++ [(x, .mk 1 (qaw (qay N (qc4 N L n))) x.sort [])]
 | [], _, _ => rfl
 | y :: L, x, n => by rw [List.cons_append, qbo, qib N L x, qbo, qc4, List.cons_append]
theorem qia (N : List ByteArray) : ∀ (L : List Tm) (n : Nat), qc4 N L n ≤ n + L.length * (N.length + 1)
 | [], n => by rw [qc4]; simp
 | _ :: L, n => by
  rw [qc4];have h1 := (qbl N n).2.1;have h2 := qia N L (qay N n + 1);rw [List.length_cons, Nat.add_mul];omega
theorem qd5 (N : List ByteArray) : ∀ (L : List Tm) (n : Nat), (qbo N L n).length = L.length
 | [], _ => rfl
 | _ :: L, n => by rw [qbo, List.length_cons, List.length_cons, qd5 N L]
theorem qev {N : List ByteArray} : ∀ {L : List Tm} {n : Nat} {b : Bd}, b ∈ qbo N L n → b.1 ∈ L ∧ b.2.kind = 1 ∧ b.2.kids = [] ∧ b.2.sort = b.1.sort
 | x :: L, n, b, h => by
  rw [qbo] at h;rcases List.mem_cons.1 h with rfl | h
  ·exact ⟨List.mem_cons_self .., rfl, rfl, rfl⟩
  ·obtain ⟨h1, h2⟩ := qev h;exact ⟨List.mem_cons_of_mem _ h1, h2⟩
def qdp (t u : Tm) : List ByteArray := (Tm.set (varsL [t, u])).map Tm.name
def qbw (t u : Tm) : List Bd := qbo (qdp t u) (varsOf t) 0
theorem rapplyG (s : List Bd) (t : Tm) (S0 A : Option Addr) (sc c : Nat) (w : World) (hs : qfy s) (ht : t.size ≤ 1000000) (hrs : RepB w (fun b => b < w.heap.size) s S0 sc) (hrt : RepT w w.heap.size t A c) :
  Calls Tryz.prog 16 #[.slice S0 s.length sc, t.val A c] w fun e w' => ∃ A' c', e = .returned ((t.rap s).val A' c') ∧ RepT w' w'.heap.size (t.rap s) A' c' ∧ Below w.heap.size w w' :=
 (qdz w.heap.size s S0 sc hs t.size t A c w (Nat.le_refl _) ht (Nat.le_refl _) hrs hrt).mono fun _ w' ⟨A', c', e, hr, hb⟩ =>
  ⟨A', c', e, RepP.mono (fun b h => by have := hb.size; show b < w'.heap.size; omega) (fun _ _ => rfl) _ _ _ hr, hb⟩
attribute [local irreducible] qa0
set_option linter.unusedSimpArgs false in
set_option linter.unusedVariables false in
set_option maxHeartbeats 8000000 in
theorem qny (t u : Tm) (A U : Option Addr) (ct cu : Nat) (w : World) (hvt : t.valid = 0) (hvu : u.valid = 0) (hrt : RepT w w.heap.size t A ct) (hru : RepT w w.heap.size u U cu) (hfin : (t.rap (qbw t u)).check = 0) :
  Calls Tryz.prog 30 #[t.val A ct, u.val U cu] w fun e w' => ∃ A' c', e = .returned ((t.rap (qbw t u)).val A' c') ∧ RepT w' w'.heap.size (t.rap (qbw t u)) A' c' ∧ Below w.heap.size w w' := by
 have mixed : Tryz.prog.follows .mixedOrders = true := by kernel_rfl
 have st := qai hvt;have su := qai hvu;have HF := Lib.hid (show qab w [] w from Below.refl _ _);obtain ⟨V, hV⟩ : ∃ V, V = ((w.alloc (qa5 t A ct)).alloc (qa5 u U cu)).alloc (qa5 (.mk 0 ⟨#[]⟩ 0 []) none 0) := ⟨_, rfl⟩;have hA := HF.out.boxes3 hrt hru (t3 := (.mk 0 ⟨#[]⟩ 0 [])) (A3 := none) (c3 := 0) (qas _ _ _ _ _ (by decide));rw [← hV] at hA;obtain ⟨b0, hb0⟩ : ∃ b, b = w.heap.size := ⟨_, rfl⟩;rw [show qa5 (.mk 0 ⟨#[]⟩ 0 []) none 0 = .cells #[.int .i64 0, .string ⟨#[]⟩, .int .i64 0, .slice none 0 0] 24 from rfl] at hV;simp only [qa5] at hV;have hVs : V.heap.size = b0 + 1 + 1 + 1 := by rw [hV, hb0, World.size_alloc, World.size_alloc, World.size_alloc]
 have HV := Lib.hid hV;rw [← hb0] at hA;have HA := Lib.hid hA;have hbw : w.heap.size ≤ b0 := by omega
 obtain ⟨S, hS⟩ : ∃ S, S = qbw t u := ⟨_, rfl⟩;rw [← hS] at hfin ⊢;unfold qbw at hS;obtain ⟨y, hy⟩ : ∃ y, y = t.rap S := ⟨_, rfl⟩;rw [← hy] at hfin ⊢;have HY := Lib.hid hy;clear hy;have HFI := Lib.hid hfin;obtain ⟨TL, hTL⟩ : ∃ TL, TL = Tm.set (varsL [t, u]) := ⟨_, rfl⟩;have hTLl : TL.length ≤ 800 := by
  rw [hTL];have h1 := Tm.set_length (varsL [t, u]);have h2 := qfb [t, u];simp only [Tm.sizes] at h2;omega
 obtain ⟨L, hL⟩ : ∃ L, L = varsOf t := ⟨_, rfl⟩;have hLl : L.length ≤ 400 := by rw [hL]; have := qbu t; omega
 have hLf : ∀ x ∈ L, x.kids = [] := fun x hx => (qcq hvt x (by rw [← hL]; exact hx)).1;obtain ⟨N, hN⟩ : ∃ N, N = TL.map Tm.name := ⟨_, rfl⟩;have hS2 : S = qbo N L 0 := by rw [hS, hN, hTL, hL]; rfl
 have hNl : N.length ≤ 800 := by rw [hN, List.length_map]; exact hTLl
 have hnb : ∀ i, i ≤ L.length → qc4 N (L.take i) 0 ≤ 400000 := fun i hi => by
  have h1 := qia N (L.take i) 0;rw [List.length_take, Nat.min_eq_left hi] at h1;have h2 : i * (N.length + 1) ≤ 400 * 801 := Nat.mul_le_mul (by omega) (by omega);omega
 have HTL := Lib.hid hTL;have HLF := Lib.hid hLf;have HL := Lib.hid hL;have HN := Lib.hid hN;have HS := Lib.hid hS2;have HNB := Lib.hid hnb;have hsz : qfy S := fun b hb => by
  rw [hS2] at hb;obtain ⟨h1, h2, h3, h4⟩ := qev hb;have e1 : b.1.size = 1 := by rw [qkh, hLf b.1 h1]; rfl
  have e2 : b.2.size = 1 := by rw [qkh, h3]; rfl
  exact ⟨by omega, by omega⟩
 have HSZ := Lib.hid hsz;obtain ⟨a0, a1, a2, a3, -⟩ := BoxT.cells HA.out.2.2.1;obtain ⟨c0, c1, c2, c3, -⟩ := BoxT.cells HA.out.2.1;clear hV hA HF hS hS2 hTL hL hN hnb hsz hLf hfin hrt hru;simp only [Tm.val];go_enter Tryz.func30, Tryz.ntmps30
 go_wp2_with fail
 rw [← HV.out, ← hb0];clear HV hb0;obtain ⟨Z, hZ⟩ : ∃ Z, Z = V.alloc (.cells (itCells [(t, A, ct), (u, U, cu)]).toArray 24) := ⟨_, rfl⟩;have HC := Lib.hid (HA.out.slice _ hZ (by simp) (fun x hx => by
  simp only [List.mem_cons, List.not_mem_nil, or_false] at hx;rcases hx with rfl | rfl
  ·exact HA.out.2.2.1.2
  ·exact HA.out.2.1.2))
 simp only [itCells, Tm.cells, List.cons_append, List.nil_append] at hZ;have HZ := Lib.hid hZ;clear hZ HA;have hsz2 : Tm.sizes [t, u] ≤ 1000000 := by simp only [Tm.sizes]; omega
 have VO := qlu [t, u] (some ⟨V.heap.size, 0, none⟩) 2 Z Z.heap.size (Nat.le_refl _) hsz2 HC.out.1;rw [← HTL.out, hVs] at VO;simp only [List.length_cons, List.length_nil, Nat.zero_add, Nat.reduceAdd] at VO;have VO := Lib.hid VO
 try go_wp2_with fail
 rw [← HZ.out];refine VO.out.mono ?_;clear VO HZ a0 a1 a2 a3 c0 c1 c2 c3;rintro e w1 ⟨A1, c1, n1, its1, rfl, hn1, hrow1, hb1, his1⟩;subst hn1;obtain ⟨A1', c1', hv1, hS1⟩ := hrow1.toS (P := fun b => b < w1.heap.size) (fun b h _ => Nat.lt_of_lt_of_le h hb1.size) (fun b _ h => h);injection hv1 with g1 g2 g3;clear g2;subst g1 g3;rw [his1] at hS1;have HD := Lib.hid ((qab.below hb1 HC.out.2).add (.terms TL A1 c1) hS1);clear HC hrow1 hb1 his1 hS1 HTL;have VS := qki t A ct w1 w1.heap.size (Nat.le_refl _) (by omega) HD.out.2.2.2.1.2;rw [show Tm.set (t.all.filter fun u => u.kind == 1) = L from HL.out.symm] at VS;obtain ⟨a0, a1, a2, a3, -⟩ := BoxT.cells HD.out.2.2.2.1;simp only [Tm.val] at VS;have VS := Lib.hid VS;go_wp2_with fail
 refine VS.out.mono ?_; clear VS a0 a1 a2 a3;rintro e w4 ⟨A4, c4, n4, its4, rfl, hn4, hrow4, hb4, his4⟩;subst hn4;obtain ⟨A4', c4', hv4, hS4⟩ := hrow4.toS (P := fun b => b < w4.heap.size) (fun b h _ => Nat.lt_of_lt_of_le h hb4.size) (fun b _ h => h);injection hv4 with g1 g2 g3;clear g2;subst g1 g3;rw [his4] at hS4;have HF4 := Lib.hid (qab.below hb4 HD.out);have HW4 : Hid (Below w.heap.size w w4) := qab.bel HF4.out;have hT4 : RepS w4 (fun b => b < w4.heap.size) TL A1 c1 := HF4.out.1;have HBX : Hid (BoxT w4 b0 t A ct ∧ BoxT w4 (b0 + 1 + 1) (.mk 0 ⟨#[]⟩ 0 []) none 0) := ⟨HF4.out.2.2.2.1, HF4.out.2.1⟩;obtain ⟨base, hbase⟩ : ∃ b, b = w4.heap.size := ⟨_, rfl⟩;rw [← hbase] at hS4 hT4;have HBS : Hid (w.heap.size ≤ base) := by rw [hbase]; exact HW4.out.size
 have HBE : Hid (base = w4.heap.size) := hbase;have HB4 : Hid (Below base w4 w4) := Below.refl _ _;have HT4 := Lib.hid hT4;have HS4 := Lib.hid hS4;have hb4s : base ≤ w4.heap.size := by omega
 clear hS4 hT4 hrow4 hb4 his4 HD HF4 hbase HL;go_wp2_with fail
 go_loopw [7, 8, 9] (fun v nv iv wr => ∃ (i c0 nn : Nat) (A0 : Option Addr) (its : List IB), i ≤ L.length ∧ iv = .int .i64 i ∧ nv = .int .i64 nn ∧ v = .slice A0 its.length c0 ∧ base ≤ wr.heap.size ∧ Hid (nn = qc4 N (L.take i) 0) ∧ Hid (its.map IB.bd = qbo N (L.take i) 0) ∧ Hid (Below base w4 wr) ∧ Hid (RowG 48 wr base (fun b => b < base) (.slice A0 its.length c0) its)) (fun _ _ iv _ => L.length - (intOf iv).toNat)
 case atStart => exact ⟨0, 0, 0, none, [], Nat.zero_le _, rfl, rfl, rfl, hb4s, rfl, rfl, HB4.out, RowG.nil _ _ _ _⟩
 case round =>
  clear HB4 hb4s;obtain ⟨i, c0, nn, A0, its, hi, rfl, rfl, rfl, hbs, HNN, HIT, HB, HROW⟩ := hrel;have i1 : (0 : Int) ≤ (i : Int) := Int.natCast_nonneg _;by_cases hlt : i < L.length
  ·have i2 : (i : Int) < (L.length : Int) := by omega
   rcases HS4.out.2.2 with h | ⟨lb, loff, hA4, hlb, hLP⟩
   ·rw [h] at hlt; simp at hlt
   subst hA4;obtain ⟨Ax, cx, x0, x1, x2, x3, hrx⟩ := hLP.get i hlt;have hnn : nn ≤ 400000 := by rw [HNN.out]; exact HNB.out i hi
   have htk : L.take (i + 1) = L.take i ++ [L[i]] := List.take_succ_eq_append_getElem hlt;have hnx := qib N (L.take i) L[i] 0;have hny := qh9 N (L.take i) L[i] 0;rw [← htk, ← HNN.out, ← HIT.out] at hnx;rw [← htk, ← HNN.out] at hny;have hlen : its.length + 1 ≤ 100000000 := by
    have h := congrArg List.length HIT.out;rw [List.length_map, qd5, List.length_take] at h;omega
   obtain ⟨x, hx⟩ : ∃ x, x = L[i] := ⟨_, rfl⟩;rw [← hx] at x0 x1 x2 x3 hrx hnx;obtain ⟨F, hF⟩ : ∃ F, F = qay N nn := ⟨_, rfl⟩;have FR := qns TL A1 c1 nn wr (by omega) (RepS.mono (fun b hb => Nat.lt_of_lt_of_le hb hbs) (fun p hp => HB.out.cell hp) HT4.out);rw [← HN.out, ← hF] at FR;have hFl : F ≤ 500000 := by rw [hF]; have := (qbl N nn).2.1; omega
   have hns := qf9 F (by omega);rw [← hF] at hnx hny;obtain ⟨nm, hnm⟩ : ∃ nm, nm = qaw F := ⟨_, rfl⟩;rw [← hnm] at FR hnx hns;have HNX := Lib.hid hnx;have HNY := Lib.hid hny;have HRX := Lib.hid hrx;have HX : Hid (w4.cell? ⟨lb, loff + i * 4, none⟩ = some (.int .i64 x.kind) ∧ w4.cell? ⟨lb, loff + i * 4 + 1, none⟩ = some (.string x.name) ∧ w4.cell? ⟨lb, loff + i * 4 + 2, none⟩ = some (.int .i64 x.sort) ∧ w4.cell? ⟨lb, loff + i * 4 + 3, none⟩ = some (.slice Ax x.kids.length cx)) := ⟨x0, x1, x2, x3⟩;have FR := Lib.hid FR;clear hx hLP HIT HNN htk hnx hny hrx x0 x1 x2 x3 hF hnm;go_wp2_with fail
   refine FR.out.mono ?_; clear FR;rintro e w5 ⟨rfl, hb5⟩;have hbs5 : base ≤ w5.heap.size := Nat.le_trans hbs hb5.size;have HB5 := Lib.hid (HB.out.trans (hb5.mono hbs));have HROW5 := Lib.hid (HROW.out.below hb5);clear HB HROW hb5 hbs;go_wp2_with fail
   refine qam (fun _ => True) (fun Y => ∀ q : Addr, q.block < base → Y.cell? q = w4.cell? q) [] (.held 0 (.held 1 (.held 2 (.held 3 (.held 4 (.held 5 (.held 6 (.held 7 (.held 8 (.held 9 (.held 10 (.held 11 (.held 12 (.op 13 (.op 14 (.held 15 .nil)))))))))))))))) mixed (by kernel_rfl) ?_;have HBD : Hid (Below base w4 w5.drew) := HB5.out.drew;have HROWD : Hid (RowG 48 w5.drew base (fun b => b < base) (.slice A0 its.length c0) its) := HROW5.out.below (Below.refl _ _).drew;have hbD6 : base ≤ w5.drew.heap.size := hbs5;clear HB5 HROW5 hbs5;generalize w5.drew = D at *;have own : ∀ j, (Value.slice A0 its.length c0).ownBlock = some j → base ≤ j := fun j e => (HROWD.out.lt j e).1;have low : ∀ b, b < base → b < base ∧ b < D.heap.size ∧ (Value.slice A0 its.length c0).ownBlock ≠ some b := fun b hb => ⟨hb, by omega, fun e => by have := own b e; omega⟩
   have hrxD : RepP D (fun b => b < base ∧ b < D.heap.size ∧ (Value.slice A0 its.length c0).ownBlock ≠ some b) x Ax cx := RepP.mono low (fun p hp => HBD.out.cell hp) _ _ _ HRX.out;have hruD : RepP D (fun b => b < base ∧ b < D.heap.size ∧ (Value.slice A0 its.length c0).ownBlock ≠ some b) (.mk 1 nm x.sort []) none 0 := by
    rw [qbf]; exact ⟨by unfold maxLen; omega, Nat.zero_le _, Nat.zero_le _, .inl rfl⟩
   obtain ⟨g, c9, W9, hap, hrow9, hbel9, hk9, hs9, -⟩ := HROWD.out.more1 qg5 (by omega) ((x, Ax, cx), (.mk 1 nm x.sort [], none, 0)) hrxD hruD hlen;have HB9 : Hid (Below base w4 W9) := hbel9 _ _ HBD.out (Nat.le_refl _);have HROW9 := Lib.hid hrow9;have sD : ∀ q : Addr, q.block < base → D.cell? q = w4.cell? q := fun q hq => HBD.out.cell hq;have s9 : ∀ q : Addr, q.block < base → W9.cell? q = w4.cell? q := fun q hq => HB9.out.cell hq;have hs9b : base ≤ W9.heap.size := by omega
   dsimp only at hap;rw [show (Tm.mk 1 nm x.sort []).kind = 1 from rfl, show (Tm.mk 1 nm x.sort []).name = nm from rfl, show (Tm.mk 1 nm x.sort []).sort = x.sort from rfl, show (Tm.mk 1 nm x.sort []).kids.length = 0 from rfl] at hap;clear hrow9 hbel9 hk9 hs9 own low hrxD hruD;refine qaa (v := .slice A0 its.length c0) rfl rfl rfl (fun _ _ _ h => h) trivial sD (fun Y _ hY => by
    (try simp only [Act.put]); go_simp) ?_
   refine qaa (v := .slice (some ⟨lb, loff, none⟩) L.length c4) rfl rfl rfl (fun _ _ _ h => h) trivial sD (fun Y _ hY => by
    (try simp only [Act.put]); go_simp) ?_
   refine qaa (v := .int .i64 i) rfl rfl rfl (fun _ _ _ h => h) trivial sD (fun Y _ hY => by
    (try simp only [Act.put]); go_simp) ?_
   refine qaa (v := .pointer (some ⟨lb, loff + i * 4, none⟩)) rfl rfl rfl (fun _ _ _ h => h) trivial sD (fun Y _ hY => by
    (try simp only [Act.put]); go_simp) ?_
   simp only [Act.put, List.setIfInBounds_toArray, List.set_cons_succ, List.set_cons_zero, List.getElem_toArray, List.getElem_cons_succ, List.getElem_cons_zero];refine qaa (v := .agg #[.int .i64 x.kind, .string x.name, .int .i64 x.sort, .slice Ax x.kids.length cx]) rfl rfl rfl (fun _ _ _ h => h) trivial sD (fun Y _ hY => by
    have z0 := (hY ⟨lb, loff + i * 4, none⟩ hlb).trans HX.out.1;have z1 := (hY ⟨lb, loff + i * 4 + 1, none⟩ hlb).trans HX.out.2.1;have z2 := (hY ⟨lb, loff + i * 4 + 2, none⟩ hlb).trans HX.out.2.2.1;have z3 := (hY ⟨lb, loff + i * 4 + 3, none⟩ hlb).trans HX.out.2.2.2;clear hY
    (try simp only [Act.put]); go_simp) ?_
   refine qaa (v := .string nm) rfl rfl rfl (fun _ _ _ h => h) trivial sD (fun Y _ hY => by
    (try simp only [Act.put]); go_simp) ?_
   refine qaa (v := .slice (some ⟨lb, loff, none⟩) L.length c4) rfl rfl rfl (fun _ _ _ h => h) trivial sD (fun Y _ hY => by
    (try simp only [Act.put]); go_simp) ?_
   refine qaa (v := .int .i64 i) rfl rfl rfl (fun _ _ _ h => h) trivial sD (fun Y _ hY => by
    (try simp only [Act.put]); go_simp) ?_
   simp only [Act.put, List.setIfInBounds_toArray, List.set_cons_succ, List.set_cons_zero, List.getElem_toArray, List.getElem_cons_succ, List.getElem_cons_zero];refine qaa (v := .pointer (some ⟨lb, loff + i * 4, none⟩)) rfl rfl rfl (fun _ _ _ h => h) trivial sD (fun Y _ hY => by
    (try simp only [Act.put]); go_simp) ?_
   refine qaa (v := .pointer (some ⟨lb, loff + i * 4 + 2, none⟩)) rfl rfl rfl (fun _ _ _ h => h) trivial sD (fun Y _ hY => by
    (try simp only [Act.put]); go_simp) ?_
   refine qaa (v := .int .i64 x.sort) rfl rfl rfl (fun _ _ _ h => h) trivial sD (fun Y _ hY => by
    have z2 := (hY ⟨lb, loff + i * 4 + 2, none⟩ hlb).trans HX.out.2.2.1;clear hY
    (try simp only [Act.put]); go_simp) ?_
   refine qaa (v := .agg #[.int .i64 1, .string nm, .int .i64 x.sort, .slice none 0 0]) rfl rfl rfl (fun _ _ _ h => h) trivial sD (fun Y _ hY => by
    (try simp only [Act.put]); go_simp) ?_
   simp only [Act.put, List.setIfInBounds_toArray, List.set_cons_succ, List.set_cons_zero, List.getElem_toArray, List.getElem_cons_succ, List.getElem_cons_zero];refine qaa (v := .agg #[.int .i64 x.kind, .string x.name, .int .i64 x.sort, .slice Ax x.kids.length cx, .int .i64 1, .string nm, .int .i64 x.sort, .slice none 0 0]) rfl rfl rfl (fun _ _ _ h => h) trivial sD (fun Y _ hY => by
    (try simp only [Act.put]); go_simp) ?_
   simp only [Act.put, List.setIfInBounds_toArray, List.set_cons_succ, List.set_cons_zero, List.getElem_toArray, List.getElem_cons_succ, List.getElem_cons_zero];refine qac rfl rfl (fun K hK => ?_);go_wp2_with fail
   refine ⟨⟨fun _ => trivial, fun q hq => ((qaf (Nat.le_refl D.heap.size) _).cell (Nat.lt_of_lt_of_le hq hbD6)).trans (sD q hq)⟩, ?_⟩;refine qac rfl rfl (fun K hK => ?_);refine qap (by rfl) (.tmp 31) (.tmp 44) (by rfl) (by rfl) (by rfl) hap ?_;refine hK _ _ ⟨⟨fun _ => trivial, s9⟩, ?_⟩;clear hK K hap;refine qaa (v := .slice (some ⟨g, 0, none⟩) (its.length + 1) c9) rfl rfl rfl (fun _ _ _ h => h) trivial s9 (fun Y _ hY => by
    (try simp only [Act.put]); go_simp) ?_
   simp only [Act.put, List.setIfInBounds_toArray, List.set_cons_succ, List.set_cons_zero];refine qao ?_;clear sD s9;go_wp2_with fail
   go_roundw
   case rel => exact ⟨i + 1, c9, F + 1, some ⟨g, 0, none⟩, its ++ [((x, Ax, cx), (.mk 1 nm x.sort [], none, 0))], by omega, by go_num, by go_num, by rw [List.length_append]; rfl, hs9b, HNY.out.symm, by show _ = _; rw [HNX.out, List.map_append]; rfl, HB9.out, by rw [List.length_append]; exact HROW9.out⟩
   case measure => simp [intOf]; omega
  ·obtain rfl : i = L.length := by omega
   have hit := HIT.out;rw [List.take_length, ← HS.out] at hit;obtain ⟨A7, c7, hv7, hrep7⟩ := HROW.out.toB (P := fun b => b < wr.heap.size) (fun b _ h _ => h) (fun b h => (HROW.out.lt b h).2);injection hv7 with g1 g2 g3;clear g2;subst g1 g3;rw [hit] at hrep7;have hlS : its.length = S.length := by rw [← hit, List.length_map]
   rw [hlS];have hbw4 : Below w4.heap.size w4 wr := by rw [← HBE.out]; exact HB.out
   have HX1 := Lib.hid (BoxT.below HBX.out.1 hbw4);have HX2 := Lib.hid (BoxT.below HBX.out.2 hbw4);have HBW := Lib.hid (qad HW4.out hbw4 HW4.out.size);have AP := rapplyG S t A0 A c0 ct wr HSZ.out (by omega) hrep7 HX1.out.2;rw [← HY.out] at AP;obtain ⟨a0, a1, a2, a3, -⟩ := BoxT.cells HX1.out;simp only [Tm.val] at AP;have AP := Lib.hid AP;clear hit hlS hrep7 HROW HB HIT HNN hbw4 HY HBX HSZ HS;go_wp2_with fail
   refine AP.out.mono ?_; clear AP a0 a1 a2 a3;rintro e w9 ⟨A9, c9, rfl, hr9, hb9⟩;have HX3 := Lib.hid (BoxT.below HX2.out hb9);have hz : w9.heap[b0 + 1 + 1]? = some (.cells #[.int .i64 0, .string ⟨#[]⟩, .int .i64 0, .slice none 0 0] 24 (0, 0)) := HX3.out.1;have hbw9 := qad HBW.out hb9 HBW.out.size;have HST := Lib.hid (qab.stored hz (by omega) (fs := []) trivial (show qab w [] w9 from hbw9) HFI.out hr9);obtain ⟨f0, f1, f2, f3, ff⟩ := qae hz;clear HX1 HX2 HX3 hz hr9 hb9 hbw9 HBW;go_wp2_with fail
   refine bodyPost_ret (v := .agg #[.int .i64 y.kind, .string y.name, .int .i64 y.sort, .slice A9 y.kids.length c9]) ?_ rfl ?_
   ·simp [results, Tryz.results30, go_sem, f0, f1, f2, f3]
   exact ⟨A9, c9, rfl, HST.out.1.2, HST.out.2⟩
end Go.Proofs.YtpjmdilpldaapaaGreatDoor
