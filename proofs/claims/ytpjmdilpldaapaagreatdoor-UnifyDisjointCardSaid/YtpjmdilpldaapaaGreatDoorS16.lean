/- Urbind3 (joined by shake.py). -/
import Derived.Test.YtpjmdilpldaapaaGreatDoorS11
import Derived.Test.YtpjmdilpldaapaaGreatDoorS12
set_option maxRecDepth 100000
namespace Go.Proofs.YtpjmdilpldaapaaGreatDoor
open Go.RowKit Go.Sort
theorem qds : Elem8 58 57 := ⟨Tryz.underlying58, by kernel_rfl⟩
theorem qbx {W : World} {B : Nat} {a b c d e f g h a' b' c' d' e' f' g' h' : Value} {T : TypeId} (hh : W.heap[B]? = some (.cells #[a, b, c, d, e, f, g, h] T (0, 0))) :
  ((((((((W.setCell ⟨B, 0, none⟩ a').setCell ⟨B, 1, none⟩ b').setCell ⟨B, 2, none⟩ c').setCell ⟨B, 3, none⟩ d').setCell ⟨B, 4, none⟩ e').setCell ⟨B, 5, none⟩ f').setCell ⟨B, 6, none⟩ g').setCell ⟨B, 7, none⟩ h').heap[B]? = some (.cells #[a', b', c', d', e', f', g', h'] T (0, 0)) := by
 simp [World.setCell, Array.getElem?_modify, hh]
theorem qbz {W : World} {B : Nat} {l : Array Value} {T : TypeId} (hh : W.heap[B]? = some (.cells l T (0, 0))) : ∀ o, W.frozen? ⟨B, o, none⟩ = false := fun o => by
 simp [World.frozen?, hh]
def BoundR (L S : List Bd) (ok : Bool) (w : World) (e : Ending) (w' : World) : Prop :=
 ∃ A c A' c', e = .returned (.tuple #[.slice A L.length c, .slice A' S.length c', .bool ok]) ∧ RepB w' (fun b => b < w'.heap.size) L A c ∧ RepB w' (fun b => b < w'.heap.size) S A' c' ∧ Below w.heap.size w w'
def qhv (l : List Bd) : Bool := l.all fun b => decide (b.2.valid = 0)
def qcn (X : Bd) (s cur : List Bd) (d : Bool) (k : Nat) : Prop := insB X s = cur ++ (if d = true then s.drop k else insB X (s.drop k))
theorem insB_lt3 {X b : Bd} {r : List Bd} (h : X.1.cmp b.1 < 0) : insB X (b :: r) = X :: b :: r := if_pos h
theorem insB_ge3 {X b : Bd} {r : List Bd} (h : 0 ≤ X.1.cmp b.1) : insB X (b :: r) = b :: insB X r := if_neg (by omega)
theorem qfg {f : Bd → Bd} (l : List Bd) (k : Nat) (h : k < l.length) : (l.take (k + 1)).map f = (l.take k).map f ++ [f l[k]] := by
 rw [List.take_succ_eq_append_getElem h, List.map_append]; rfl
theorem okP_snoc (l : List Bd) (p : Bd) : okP (l ++ [p]) = (okP l && (decide (p.1.valid = 0) && decide (p.2.valid = 0))) := by
 unfold okP; rw [List.all_append]; simp
theorem qki (l : List Bd) (p : Bd) : qhv (l ++ [p]) = (qhv l && decide (p.2.valid = 0)) := by
 unfold qhv; rw [List.all_append]; simp
theorem qg2 {x t y : Tm} (ht : t.size ≤ 400) (hy : y.size ≤ 400) : (y.put [(x, t)]).size ≤ 1000000 := by
 have h := qel (s := [(x, t)]) (m := 400) (fun b hb => by rw [List.mem_singleton] at hb; subst hb; exact ht) (by omega) y;have : 400 * y.size ≤ 400 * 400 := Nat.mul_le_mul_left _ hy;omega
set_option maxHeartbeats 8000000 in
theorem qmw (x t : Tm) (ps s : List Bd) (A A' PA SA : Option Addr) (c c' Pc Sc : Nat) (w : World) (hxk : x.kind = 1) (hvx : x.valid = 0) (hvt : t.valid = 0) (hps : ∀ p ∈ ps, p.1.valid = 0 ∧ p.2.valid = 0) (hss : ∀ b ∈ s, b.1.valid = 0 ∧ b.2.valid = 0)
  (hpl : ps.length ≤ 1000000) (hsl : s.length ≤ 1000000) (hrx : RepT w w.heap.size x A c) (hrt : RepT w w.heap.size t A' c') (hrp : RepB w (fun b => b < w.heap.size) ps PA Pc) (hrs : RepB w (fun b => b < w.heap.size) s SA Sc) :
  Calls Tryz.prog 65 #[x.val A c, t.val A' c', .slice PA ps.length Pc, .slice SA s.length Sc] w (BoundR (ps.map (putP x t)) (insB (x, t) (s.map (putB x t))) (qbn x t ps s) w) := by
 have mixed : Tryz.prog.follows .mixedOrders = true := by kernel_rfl
 have hx4 := qak hvx;have ht4 := qak hvt;obtain ⟨V, hV⟩ : ∃ V, V = (w.alloc (boxT x A c)).alloc (boxT t A' c') := ⟨_, rfl⟩;have h2 : TwoA w (boxT x A c) (boxT t A' c') V := by
  have hh := Two.new w x t A A' c c';rw [hV];exact ⟨hh.one, hh.two, hh.lay.below⟩
 have CP : Hid (∀ (y : Tm) (Y : Option Addr) (cy : Nat) (X : World), y.valid = 0 → Below w.heap.size w X → RepP w (fun b => b < w.heap.size) y Y cy → Calls Tryz.prog 90 #[y.val Y cy, x.val A c, t.val A' c'] X (Put w.heap.size (y.put [(x, t)]) X)) := Lib.hid fun y Y cy X hv hX hr =>
  rput3_any w.heap.size x t hxk (by omega) (by omega) A A' c c' 1000000 y Y cy X (by have := qak hv; omega) (Nat.le_refl _) (qay.1 hv).1 hX.size (RepP.mono (fun _ h => h) (fun p hp => hX.cell hp) _ _ _ hrx) (RepP.mono (fun _ h => h) (fun p hp => hX.cell hp) _ _ _ hrt) (RepP.mono (fun _ h => h) (fun p hp => hX.cell hp) _ _ _ hr)
 simp only [Tm.val] at CP;obtain ⟨L, hL⟩ : ∃ L, L = ps.map (putP x t) := ⟨_, rfl⟩;obtain ⟨S, hS⟩ : ∃ S, S = s.map (putB x t) := ⟨_, rfl⟩;obtain ⟨R, hR⟩ : ∃ R, R = qbn x t ps s := ⟨_, rfl⟩;have hR2 : R = (okP L && qhv S) := by rw [hR, hL, hS]; rfl
 have HR := Lib.hid hR2; clear hR2;rw [← hL, ← hS, ← hR];clear hR;have HL := Lib.hid hL; clear hL;have HS := Lib.hid hS; clear hS;obtain ⟨pg0, pg1, pg3⟩ := hrp;obtain ⟨sg0, sg1, sg3⟩ := hrs;unfold maxLen at pg1 sg1;have HRX := Lib.hid hrx; clear hrx;have HRT := Lib.hid hrt; clear hrt;have HPS := Lib.hid hps; clear hps;have HSS := Lib.hid hss; clear hss;have HXK := Lib.hid hxk; clear hxk hvx;have HVT := Lib.hid hvt; clear hvt;have H2 := Lib.hid h2; clear h2;simp only [boxT] at hV;have HV := Lib.hid hV; clear hV;simp only [Tm.val];go_enter Tryz.func65, Tryz.ntmps65
 go_wp2_with fail
 rw [← HV.out];go_loopw [11, 12, 13] (fun lv okv iv wr => ∃ (k c0 : Nat) (A0 : Option Addr) (its : List IB) (q : Bool), k ≤ ps.length ∧ iv = .int .i64 k ∧ lv = .slice A0 its.length c0 ∧ okv = .bool q ∧ Hid (its.length = k) ∧ Hid (its.map IB.bd = (ps.take k).map (putP x t)) ∧ Hid (q = okP ((ps.take k).map (putP x t))) ∧
   Hid (TwoA w (boxT x A c) (boxT t A' c') wr) ∧ Hid (RowG 57 wr (w.heap.size + 2) (fun b => b < w.heap.size ∨ w.heap.size + 2 ≤ b) (.slice A0 its.length c0) its)) (fun _ _ iv _ => ps.length - (intOf iv).toNat)
 case atStart => exact ⟨0, 0, none, [], true, Nat.zero_le _, rfl, rfl, rfl, rfl, rfl, rfl, H2.out, RowG.nil _ _ _ _⟩
 case round =>
  obtain ⟨k, c0, A0, its, q, hk, rfl, rfl, rfl, HLEN, HITS, HQ, HT, HROW⟩ := hrel;have i1 : (0 : Int) ≤ (k : Int) := Int.natCast_nonneg _;have hlt2 := HT.out.lt;by_cases hlt : k < ps.length
  ·have i2 : (k : Int) < (ps.length : Int) := by omega
   rcases pg3 with h0 | ⟨kb, off, rfl, hbB, hl⟩
   ·rw [h0] at hlt; simp at hlt
   obtain ⟨A1, c1, A2, c2, h8w⟩ := hl.get8 k hlt;obtain ⟨hv1, hv2⟩ := HPS.out ps[k] (List.getElem_mem hlt);have HSN := Lib.hid (qfg (f := putP x t) ps k hlt);have HOK := Lib.hid (okP_snoc ((ps.take k).map (putP x t)) (putP x t ps[k]));have tr : ∀ o, wr.cell? ⟨kb, o, none⟩ = w.cell? ⟨kb, o, none⟩ := fun o => HT.out.bel.cell (show kb < _ from hbB);have k0 := (tr _).trans h8w.c0;have k1 := (tr _).trans h8w.c1;have k2 := (tr _).trans h8w.c2;have k3 := (tr _).trans h8w.c3;have k4 := (tr _).trans h8w.c4;have k5 := (tr _).trans h8w.c5;have k6 := (tr _).trans h8w.c6;have k7 := (tr _).trans h8w.c7;have r1w := h8w.r1;have r2w := h8w.r2;clear h8w tr hl;obtain ⟨p, hp⟩ : ∃ p, p = ps[k] := ⟨_, rfl⟩;rw [← hp] at k0 k1 k2 k3 k4 k5 k6 k7 r1w r2w hv1 hv2 HSN HOK;clear hp;obtain ⟨p1, p2⟩ := p;dsimp only at k0 k1 k2 k3 k4 k5 k6 k7 r1w r2w hv1 hv2
   have hz1 := qg2 (x := x) ht4 (qak hv1);have hz2 := qg2 (x := x) ht4 (qak hv2);have HR1 := Lib.hid r1w; clear r1w;have HR2 := Lib.hid r2w; clear r2w;have HV1 := Lib.hid hv1; clear hv1;have HV2 := Lib.hid hv2; clear hv2;obtain ⟨u1, hu1⟩ : ∃ u, u = p1.put [(x, t)] := ⟨_, rfl⟩;obtain ⟨u2, hu2⟩ : ∃ u, u = p2.put [(x, t)] := ⟨_, rfl⟩;rw [← hu1] at hz1;rw [← hu2] at hz2;have HU1 := Lib.hid hu1; clear hu1;have HU2 := Lib.hid hu2; clear hu2;obtain ⟨x0, x1, x2, x3, xf⟩ := qao x (HT.out.one);obtain ⟨t0, t1, t2, t3, tf⟩ := qao t (HT.out.two);have HBW0 : Hid (Below w.heap.size w wr.drew) := HT.out.bel.drew;have HB0 : Hid (Below wr.heap.size wr wr.drew) := (Below.refl _ _).drew;have HSD : Hid (wr.drew.heap.size = wr.heap.size) := rfl;go_wp2_with fail
   refine qa0 (fun a0 a' w' => ∃ pb Az7 cz7 Az15 cz15, a' = ((((((((((((((((((a0.put (some 25) (.slice (some ⟨kb, off, none⟩) ps.length Pc)).put (some 26) (.int .i64 k)).put (some 27) (.pointer (some ⟨kb, off + k * 8, none⟩))).put (some 28) (.pointer (some ⟨kb, off + k * 8, none⟩))).put (some 29) (.agg #[.int .i64 p1.kind, .string p1.name, .int .i64 p1.sort, .slice A1 p1.kids.length c1])).put (some 30) (.agg #[.int .i64 x.kind, .string x.name, .int .i64 x.sort, .slice A x.kids.length c])).put (some 31) (.agg #[.int .i64 t.kind, .string t.name, .int .i64 t.sort, .slice A' t.kids.length c'])).put (some 33) (.slice (some ⟨kb, off, none⟩) ps.length Pc)).put (some 34) (.int .i64 k)).put (some 35) (.pointer (some ⟨kb, off + k * 8, none⟩))).put (some 36) (.pointer (some ⟨kb, off + k * 8 + 4, none⟩))).put (some 37) (.agg #[.int .i64 p2.kind, .string p2.name, .int .i64 p2.sort, .slice A2 p2.kids.length c2])).put (some 38) (.agg #[.int .i64 x.kind, .string x.name, .int .i64 x.sort, .slice A x.kids.length c])).put (some 39) (.agg #[.int .i64 t.kind, .string t.name, .int .i64 t.sort, .slice A' t.kids.length c'])).put (some 32) (.agg #[.int .i64 u1.kind, .string u1.name, .int .i64 u1.sort, .slice Az7 u1.kids.length cz7])).put (some 40) (.agg #[.int .i64 u2.kind, .string u2.name, .int .i64 u2.sort, .slice Az15 u2.kids.length cz15])).put (some 41) (.agg #[.int .i64 u1.kind, .string u1.name, .int .i64 u1.sort, .slice Az7 u1.kids.length cz7, .int .i64 u2.kind, .string u2.name, .int .i64 u2.sort, .slice Az15 u2.kids.length cz15])).put (some 14) (.pointer (some ⟨pb, 0, none⟩))) ∧
    w'.heap[pb]? = some (.cells #[.int .i64 u1.kind, .string u1.name, .int .i64 u1.sort, .slice Az7 u1.kids.length cz7, .int .i64 u2.kind, .string u2.name, .int .i64 u2.sort, .slice Az15 u2.kids.length cz15] 57 (0, 0)) ∧ RepP w' (fun b => b < w.heap.size ∨ (wr.heap.size ≤ b ∧ b < w'.heap.size ∧ b ≠ pb)) u1 Az7 cz7 ∧ RepP w' (fun b => b < w.heap.size ∨ (wr.heap.size ≤ b ∧ b < w'.heap.size ∧ b ≠ pb)) u2 Az15 cz15 ∧ Below wr.heap.size wr w' ∧ wr.heap.size ≤ pb) ?_ ?_
   ·skip
    refine qai (fun Y => Below wr.drew.heap.size wr.drew Y) 18 (.held 0 (.held 1 (.held 2 (.held 3 (.held 4 (.held 5 (.held 6 (.held 8 (.held 9 (.held 10 (.held 11 (.held 12 (.held 13 (.held 14 (.two 7 17 (.two 15 17 (.held 16 (.op 17 (.op 18 .nil))) (.op 15 (.held 16 (.op 18 .nil)))) (.op 7 (.op 15 (.held 16 (.op 18 .nil))))))))))))))))))) mixed (by kernel_rfl) ?_;have k0 : wr.drew.cell? _ = _ := k0;have k1 : wr.drew.cell? _ = _ := k1;have k2 : wr.drew.cell? _ = _ := k2;have k3 : wr.drew.cell? _ = _ := k3;have k4 : wr.drew.cell? _ = _ := k4;have k5 : wr.drew.cell? _ = _ := k5;have k6 : wr.drew.cell? _ = _ := k6;have k7 : wr.drew.cell? _ = _ := k7;have x0 : wr.drew.cell? _ = _ := x0;have x1 : wr.drew.cell? _ = _ := x1;have x2 : wr.drew.cell? _ = _ := x2;have x3 : wr.drew.cell? _ = _ := x3;have t0 : wr.drew.cell? _ = _ := t0;have t1 : wr.drew.cell? _ = _ := t1
    have t2 : wr.drew.cell? _ = _ := t2;have t3 : wr.drew.cell? _ = _ := t3;generalize wr.drew = D at *;have hbD0 : Below D.heap.size D D := Below.refl _ _;refine qab (v := .slice (some ⟨kb, off, none⟩) ps.length Pc) rfl rfl (fun _ _ _ h => nomatch h.1) (Below.refl _ _) (fun Y hY => by
     (try simp only [Act.put]); go_simp) ?_
    refine qab (v := .int .i64 k) rfl rfl (fun _ _ _ h => nomatch h.1) (Below.refl _ _) (fun Y hY => by
     (try simp only [Act.put]); go_simp) ?_
    refine qab (v := .pointer (some ⟨kb, off + k * 8, none⟩)) rfl rfl (fun _ _ _ h => nomatch h.1) (Below.refl _ _) (fun Y hY => by
     (try simp only [Act.put]); go_simp) ?_
    refine qab (v := .pointer (some ⟨kb, off + k * 8, none⟩)) rfl rfl (fun _ _ _ h => nomatch h.1) (Below.refl _ _) (fun Y hY => by
     (try simp only [Act.put]); go_simp) ?_
    refine qab (v := .agg #[.int .i64 p1.kind, .string p1.name, .int .i64 p1.sort, .slice A1 p1.kids.length c1]) rfl rfl (fun _ _ _ h => nomatch h.1) (Below.refl _ _) (fun Y hY => by
     have z0 := (hY.cell (p := ⟨kb, off + k * 8, none⟩) (by show kb < _; have := HSD.out; omega)).trans k0;have z1 := (hY.cell (p := ⟨kb, off + k * 8 + 1, none⟩) (by show kb < _; have := HSD.out; omega)).trans k1;have z2 := (hY.cell (p := ⟨kb, off + k * 8 + 2, none⟩) (by show kb < _; have := HSD.out; omega)).trans k2;have z3 := (hY.cell (p := ⟨kb, off + k * 8 + 3, none⟩) (by show kb < _; have := HSD.out; omega)).trans k3
     (try simp only [Act.put]); go_simp) ?_
    refine qab (v := .agg #[.int .i64 x.kind, .string x.name, .int .i64 x.sort, .slice A x.kids.length c]) rfl rfl (fun _ _ _ h => nomatch h.1) (Below.refl _ _) (fun Y hY => by
     have z0 := (hY.cell (p := ⟨w.heap.size, 0, none⟩) (by show w.heap.size < _; have := HSD.out; omega)).trans x0;have z1 := (hY.cell (p := ⟨w.heap.size, 1, none⟩) (by show w.heap.size < _; have := HSD.out; omega)).trans x1;have z2 := (hY.cell (p := ⟨w.heap.size, 2, none⟩) (by show w.heap.size < _; have := HSD.out; omega)).trans x2;have z3 := (hY.cell (p := ⟨w.heap.size, 3, none⟩) (by show w.heap.size < _; have := HSD.out; omega)).trans x3
     (try simp only [Act.put]); go_simp) ?_
    refine qab (v := .agg #[.int .i64 t.kind, .string t.name, .int .i64 t.sort, .slice A' t.kids.length c']) rfl rfl (fun _ _ _ h => nomatch h.1) (Below.refl _ _) (fun Y hY => by
     have z0 := (hY.cell (p := ⟨w.heap.size + 1, 0, none⟩) (by show w.heap.size + 1 < _; have := HSD.out; omega)).trans t0;have z1 := (hY.cell (p := ⟨w.heap.size + 1, 1, none⟩) (by show w.heap.size + 1 < _; have := HSD.out; omega)).trans t1;have z2 := (hY.cell (p := ⟨w.heap.size + 1, 2, none⟩) (by show w.heap.size + 1 < _; have := HSD.out; omega)).trans t2;have z3 := (hY.cell (p := ⟨w.heap.size + 1, 3, none⟩) (by show w.heap.size + 1 < _; have := HSD.out; omega)).trans t3
     (try simp only [Act.put]); go_simp) ?_
    refine qab (v := .slice (some ⟨kb, off, none⟩) ps.length Pc) rfl rfl (fun _ _ _ h => nomatch h.1) (Below.refl _ _) (fun Y hY => by
     (try simp only [Act.put]); go_simp) ?_
    refine qab (v := .int .i64 k) rfl rfl (fun _ _ _ h => nomatch h.1) (Below.refl _ _) (fun Y hY => by
     (try simp only [Act.put]); go_simp) ?_
    refine qab (v := .pointer (some ⟨kb, off + k * 8, none⟩)) rfl rfl (fun _ _ _ h => nomatch h.1) (Below.refl _ _) (fun Y hY => by
     (try simp only [Act.put]); go_simp) ?_
    refine qab (v := .pointer (some ⟨kb, off + k * 8 + 4, none⟩)) rfl rfl (fun _ _ _ h => nomatch h.1) (Below.refl _ _) (fun Y hY => by
     (try simp only [Act.put]); go_simp) ?_
    refine qab (v := .agg #[.int .i64 p2.kind, .string p2.name, .int .i64 p2.sort, .slice A2 p2.kids.length c2]) rfl rfl (fun _ _ _ h => nomatch h.1) (Below.refl _ _) (fun Y hY => by
     have z0 := (hY.cell (p := ⟨kb, off + k * 8 + 4, none⟩) (by show kb < _; have := HSD.out; omega)).trans k4;have z1 := (hY.cell (p := ⟨kb, off + k * 8 + 4 + 1, none⟩) (by show kb < _; have := HSD.out; omega)).trans k5;have z2 := (hY.cell (p := ⟨kb, off + k * 8 + 4 + 2, none⟩) (by show kb < _; have := HSD.out; omega)).trans k6;have z3 := (hY.cell (p := ⟨kb, off + k * 8 + 4 + 3, none⟩) (by show kb < _; have := HSD.out; omega)).trans k7
     (try simp only [Act.put]); go_simp) ?_
    refine qab (v := .agg #[.int .i64 x.kind, .string x.name, .int .i64 x.sort, .slice A x.kids.length c]) rfl rfl (fun _ _ _ h => nomatch h.1) (Below.refl _ _) (fun Y hY => by
     have z0 := (hY.cell (p := ⟨w.heap.size, 0, none⟩) (by show w.heap.size < _; have := HSD.out; omega)).trans x0;have z1 := (hY.cell (p := ⟨w.heap.size, 1, none⟩) (by show w.heap.size < _; have := HSD.out; omega)).trans x1;have z2 := (hY.cell (p := ⟨w.heap.size, 2, none⟩) (by show w.heap.size < _; have := HSD.out; omega)).trans x2;have z3 := (hY.cell (p := ⟨w.heap.size, 3, none⟩) (by show w.heap.size < _; have := HSD.out; omega)).trans x3
     (try simp only [Act.put]); go_simp) ?_
    refine qab (v := .agg #[.int .i64 t.kind, .string t.name, .int .i64 t.sort, .slice A' t.kids.length c']) rfl rfl (fun _ _ _ h => nomatch h.1) (Below.refl _ _) (fun Y hY => by
     have z0 := (hY.cell (p := ⟨w.heap.size + 1, 0, none⟩) (by show w.heap.size + 1 < _; have := HSD.out; omega)).trans t0;have z1 := (hY.cell (p := ⟨w.heap.size + 1, 1, none⟩) (by show w.heap.size + 1 < _; have := HSD.out; omega)).trans t1;have z2 := (hY.cell (p := ⟨w.heap.size + 1, 2, none⟩) (by show w.heap.size + 1 < _; have := HSD.out; omega)).trans t2;have z3 := (hY.cell (p := ⟨w.heap.size + 1, 3, none⟩) (by show w.heap.size + 1 < _; have := HSD.out; omega)).trans t3
     (try simp only [Act.put]); go_simp) ?_
    simp only [Act.put, List.setIfInBounds_toArray];clear k0 k1 k2 k3 k4 k5 k6 k7 x0 x1 x2 x3 xf t0 t1 t2 t3 tf;refine mix_two ?_ ?_
    ·skip
     refine mix_op rfl rfl (fun K hK => ?_);go_wp2_with fail
     refine (CP.out p1 A1 c1 D HV1.out (qac HBW0.out hbD0 HBW0.out.size) HR1.out).mono ?_;rw [← HU1.out];rintro e W1 ⟨Az7, cz7, rfl, hre7, hbc⟩;have hsz1 : D.heap.size ≤ W1.heap.size := hbc.size;have hb1 := qac hbD0 hbc hbD0.size;refine hK _ _ ⟨fun _ => hb1, ?_⟩; clear hK K hbc;simp only [Tm.val];refine mix_two ?_ ?_
     ·skip
      refine mix_op rfl rfl (fun K hK => ?_);go_wp2_with fail
      refine (CP.out p2 A2 c2 W1 HV2.out (qac HBW0.out hb1 HBW0.out.size) HR2.out).mono ?_;rw [← HU2.out];rintro e W2 ⟨Az15, cz15, rfl, hre15, hbc⟩;have hsz2 : W1.heap.size ≤ W2.heap.size := hbc.size;have hb2 := qac hb1 hbc hb1.size;have hre7 := RepP.mono (fun _ h => h) (fun p hp => hbc.cell (by rcases hp with hp | hp <;> (have := HBW0.out.size; omega))) _ _ _ hre7;refine hK _ _ ⟨fun _ => hb2, ?_⟩; clear hK K hbc;simp only [Tm.val];refine qab (v := .agg #[.int .i64 u1.kind, .string u1.name, .int .i64 u1.sort, .slice Az7 u1.kids.length cz7, .int .i64 u2.kind, .string u2.name, .int .i64 u2.sort, .slice Az15 u2.kids.length cz15]) rfl rfl (fun _ _ _ h => nomatch h.1) hb2 (fun Y hY => by (try simp only [Act.put]); go_simp) ?_;simp only [Act.put, List.setIfInBounds_toArray];refine mix_op rfl rfl (fun K hK => ?_);go_wp2_with fail
      obtain ⟨W3, hM⟩ : ∃ M, M = W2.alloc (.cells #[.int .i64 0, .string ⟨#[]⟩, .int .i64 0, .slice none 0 0, .int .i64 0, .string ⟨#[]⟩, .int .i64 0, .slice none 0 0] 57) := ⟨_, rfl⟩;have hbc : Below W2.heap.size W2 W3 := by rw [hM]; exact qah (Nat.le_refl _) _
      have hsz3 : W2.heap.size < W3.heap.size := by rw [hM]; simp
      have hzb : W3.heap[W2.heap.size]? = some (.cells #[.int .i64 0, .string ⟨#[]⟩, .int .i64 0, .slice none 0 0, .int .i64 0, .string ⟨#[]⟩, .int .i64 0, .slice none 0 0] 57 (0, 0)) := by rw [hM]; exact heap_alloc_new _ _
      rw [← hM];clear hM;have hb3 := qac hb2 hbc hb2.size;have hre7 := RepP.mono (fun _ h => h) (fun p hp => hbc.cell (by rcases hp with hp | hp <;> (have := HBW0.out.size; omega))) _ _ _ hre7;have hre15 := RepP.mono (fun _ h => h) (fun p hp => hbc.cell (by rcases hp with hp | hp <;> (have := HBW0.out.size; omega))) _ _ _ hre15;refine ⟨fun _ => hb3, ?_⟩;clear hbc;obtain ⟨y0, y1, y2, y3, y4, y5, y6, y7⟩ := qar hzb;have yf := qbz hzb;refine mix_op rfl rfl (fun K hK => ?_);go_wp2_with fail
      refine ⟨fun h => absurd h (by decide), qas ?_⟩;clear y0 y1 y2 y3 y4 y5 y6 y7 yf;have hsd := HSD.out;have hsw := HBW0.out.size;refine ⟨rfl, W2.heap.size, Az7, cz7, Az15, cz15, (by kernel_rfl), qbx hzb, ?_, ?_, ?_, by omega⟩
      ·refine RepP.mono ?_ ?_ _ _ _ hre7
       ·rintro b (h | ⟨h1, h2⟩)
        ·exact .inl h
        ·exact .inr ⟨by omega, by simp [World.setCell]; omega, by omega⟩
       ·intro p hp;have hne : p.block ≠ W2.heap.size := by rcases hp with hp | hp <;> omega
        have hq : ∀ o, (⟨W2.heap.size, o, none⟩ : Addr) ≠ p := fun o e => hne (by rw [← e])
        iterate 8 rw [World.cell?_setCell_other _ _ _ _ (hq _)]
      ·refine RepP.mono ?_ ?_ _ _ _ hre15
       ·rintro b (h | ⟨h1, h2⟩)
        ·exact .inl h
        ·exact .inr ⟨by omega, by simp [World.setCell]; omega, by omega⟩
       ·intro p hp;have hne : p.block ≠ W2.heap.size := by rcases hp with hp | hp <;> omega
        have hq : ∀ o, (⟨W2.heap.size, o, none⟩ : Addr) ≠ p := fun o e => hne (by rw [← e])
        iterate 8 rw [World.cell?_setCell_other _ _ _ _ (hq _)]
      ·refine qac HB0.out ?_ HB0.out.size
       iterate 8 refine Below.setCell ?_ (by show D.heap.size ≤ W2.heap.size; omega) _
       exact hb3
     ·skip
      refine mix_op rfl rfl (fun K hK => ?_);go_wp2_with fail
      obtain ⟨W2, hM⟩ : ∃ M, M = W1.alloc (.cells #[.int .i64 0, .string ⟨#[]⟩, .int .i64 0, .slice none 0 0, .int .i64 0, .string ⟨#[]⟩, .int .i64 0, .slice none 0 0] 57) := ⟨_, rfl⟩;have hbc : Below W1.heap.size W1 W2 := by rw [hM]; exact qah (Nat.le_refl _) _
      have hsz2 : W1.heap.size < W2.heap.size := by rw [hM]; simp
      have hzb : W2.heap[W1.heap.size]? = some (.cells #[.int .i64 0, .string ⟨#[]⟩, .int .i64 0, .slice none 0 0, .int .i64 0, .string ⟨#[]⟩, .int .i64 0, .slice none 0 0] 57 (0, 0)) := by rw [hM]; exact heap_alloc_new _ _
      rw [← hM];clear hM;have hb2 := qac hb1 hbc hb1.size;have hre7 := RepP.mono (fun _ h => h) (fun p hp => hbc.cell (by rcases hp with hp | hp <;> (have := HBW0.out.size; omega))) _ _ _ hre7;refine ⟨fun _ => hb2, ?_⟩;clear hbc;refine mix_op rfl rfl (fun K hK => ?_);go_wp2_with fail
      refine (CP.out p2 A2 c2 W2 HV2.out (qac HBW0.out hb2 HBW0.out.size) HR2.out).mono ?_;rw [← HU2.out];rintro e W3 ⟨Az15, cz15, rfl, hre15, hbc⟩;have hsz3 : W2.heap.size ≤ W3.heap.size := hbc.size;have hb3 := qac hb2 hbc hb2.size;have hre7 := RepP.mono (fun _ h => h) (fun p hp => hbc.cell (by rcases hp with hp | hp <;> (have := HBW0.out.size; omega))) _ _ _ hre7;have hzb := (hbc.block _ (by omega)).trans hzb;refine hK _ _ ⟨fun _ => hb3, ?_⟩; clear hK K hbc;simp only [Tm.val];refine qab (v := .agg #[.int .i64 u1.kind, .string u1.name, .int .i64 u1.sort, .slice Az7 u1.kids.length cz7, .int .i64 u2.kind, .string u2.name, .int .i64 u2.sort, .slice Az15 u2.kids.length cz15]) rfl rfl (fun _ _ _ h => nomatch h.1) hb3 (fun Y hY => by (try simp only [Act.put]); go_simp) ?_;simp only [Act.put, List.setIfInBounds_toArray]
      obtain ⟨y0, y1, y2, y3, y4, y5, y6, y7⟩ := qar hzb;have yf := qbz hzb;refine mix_op rfl rfl (fun K hK => ?_);go_wp2_with fail
      refine ⟨fun h => absurd h (by decide), qas ?_⟩;clear y0 y1 y2 y3 y4 y5 y6 y7 yf;have hsd := HSD.out;have hsw := HBW0.out.size;refine ⟨rfl, W1.heap.size, Az7, cz7, Az15, cz15, (by kernel_rfl), qbx hzb, ?_, ?_, ?_, by omega⟩
      ·refine RepP.mono ?_ ?_ _ _ _ hre7
       ·rintro b (h | ⟨h1, h2⟩)
        ·exact .inl h
        ·exact .inr ⟨by omega, by simp [World.setCell]; omega, by omega⟩
       ·intro p hp;have hne : p.block ≠ W1.heap.size := by rcases hp with hp | hp <;> omega
        have hq : ∀ o, (⟨W1.heap.size, o, none⟩ : Addr) ≠ p := fun o e => hne (by rw [← e])
        iterate 8 rw [World.cell?_setCell_other _ _ _ _ (hq _)]
      ·refine RepP.mono ?_ ?_ _ _ _ hre15
       ·rintro b (h | ⟨h1, h2⟩)
        ·exact .inl h
        ·exact .inr ⟨by omega, by simp [World.setCell]; omega, by omega⟩
       ·intro p hp;have hne : p.block ≠ W1.heap.size := by rcases hp with hp | hp <;> omega
        have hq : ∀ o, (⟨W1.heap.size, o, none⟩ : Addr) ≠ p := fun o e => hne (by rw [← e])
        iterate 8 rw [World.cell?_setCell_other _ _ _ _ (hq _)]
      ·refine qac HB0.out ?_ HB0.out.size
       iterate 8 refine Below.setCell ?_ (by show D.heap.size ≤ W1.heap.size; omega) _
       exact hb3
    ·skip
     refine mix_op rfl rfl (fun K hK => ?_);go_wp2_with fail
     obtain ⟨W1, hM⟩ : ∃ M, M = D.alloc (.cells #[.int .i64 0, .string ⟨#[]⟩, .int .i64 0, .slice none 0 0, .int .i64 0, .string ⟨#[]⟩, .int .i64 0, .slice none 0 0] 57) := ⟨_, rfl⟩;have hbc : Below D.heap.size D W1 := by rw [hM]; exact qah (Nat.le_refl _) _
     have hsz1 : D.heap.size < W1.heap.size := by rw [hM]; simp
     have hzb : W1.heap[D.heap.size]? = some (.cells #[.int .i64 0, .string ⟨#[]⟩, .int .i64 0, .slice none 0 0, .int .i64 0, .string ⟨#[]⟩, .int .i64 0, .slice none 0 0] 57 (0, 0)) := by rw [hM]; exact heap_alloc_new _ _
     rw [← hM];clear hM;have hb1 := qac hbD0 hbc hbD0.size;refine ⟨fun _ => hb1, ?_⟩;clear hbc;refine mix_op rfl rfl (fun K hK => ?_);go_wp2_with fail
     refine (CP.out p1 A1 c1 W1 HV1.out (qac HBW0.out hb1 HBW0.out.size) HR1.out).mono ?_;rw [← HU1.out];rintro e W2 ⟨Az7, cz7, rfl, hre7, hbc⟩;have hsz2 : W1.heap.size ≤ W2.heap.size := hbc.size;have hb2 := qac hb1 hbc hb1.size;have hzb := (hbc.block _ (by omega)).trans hzb;refine hK _ _ ⟨fun _ => hb2, ?_⟩; clear hK K hbc;simp only [Tm.val];refine mix_op rfl rfl (fun K hK => ?_);go_wp2_with fail
     refine (CP.out p2 A2 c2 W2 HV2.out (qac HBW0.out hb2 HBW0.out.size) HR2.out).mono ?_;rw [← HU2.out];rintro e W3 ⟨Az15, cz15, rfl, hre15, hbc⟩;have hsz3 : W2.heap.size ≤ W3.heap.size := hbc.size;have hb3 := qac hb2 hbc hb2.size;have hre7 := RepP.mono (fun _ h => h) (fun p hp => hbc.cell (by rcases hp with hp | hp <;> (have := HBW0.out.size; omega))) _ _ _ hre7;have hzb := (hbc.block _ (by omega)).trans hzb;refine hK _ _ ⟨fun _ => hb3, ?_⟩; clear hK K hbc;simp only [Tm.val];refine qab (v := .agg #[.int .i64 u1.kind, .string u1.name, .int .i64 u1.sort, .slice Az7 u1.kids.length cz7, .int .i64 u2.kind, .string u2.name, .int .i64 u2.sort, .slice Az15 u2.kids.length cz15]) rfl rfl (fun _ _ _ h => nomatch h.1) hb3 (fun Y hY => by (try simp only [Act.put]); go_simp) ?_;simp only [Act.put, List.setIfInBounds_toArray]
     obtain ⟨y0, y1, y2, y3, y4, y5, y6, y7⟩ := qar hzb;have yf := qbz hzb;refine mix_op rfl rfl (fun K hK => ?_);go_wp2_with fail
     refine ⟨fun h => absurd h (by decide), qas ?_⟩;clear y0 y1 y2 y3 y4 y5 y6 y7 yf;have hsd := HSD.out;have hsw := HBW0.out.size;refine ⟨rfl, D.heap.size, Az7, cz7, Az15, cz15, (by kernel_rfl), qbx hzb, ?_, ?_, ?_, by omega⟩
     ·refine RepP.mono ?_ ?_ _ _ _ hre7
      ·rintro b (h | ⟨h1, h2⟩)
       ·exact .inl h
       ·exact .inr ⟨by omega, by simp [World.setCell]; omega, by omega⟩
      ·intro p hp;have hne : p.block ≠ D.heap.size := by rcases hp with hp | hp <;> omega
       have hq : ∀ o, (⟨D.heap.size, o, none⟩ : Addr) ≠ p := fun o e => hne (by rw [← e])
       iterate 8 rw [World.cell?_setCell_other _ _ _ _ (hq _)]
     ·refine RepP.mono ?_ ?_ _ _ _ hre15
      ·rintro b (h | ⟨h1, h2⟩)
       ·exact .inl h
       ·exact .inr ⟨by omega, by simp [World.setCell]; omega, by omega⟩
      ·intro p hp;have hne : p.block ≠ D.heap.size := by rcases hp with hp | hp <;> omega
       have hq : ∀ o, (⟨D.heap.size, o, none⟩ : Addr) ≠ p := fun o e => hne (by rw [← e])
       iterate 8 rw [World.cell?_setCell_other _ _ _ _ (hq _)]
     ·refine qac HB0.out ?_ HB0.out.size
      iterate 8 refine Below.setCell ?_ (by show D.heap.size ≤ D.heap.size; omega) _
      exact hb3
   rintro a' W3 ⟨pb, Az7, cz7, Az15, cz15, rfl, hpb, hr7, hr15, hbW, hpbl⟩
   rename_i K hK
   show K _ _;refine hK _ _ ?_;clear hK K k0 k1 k2 k3 k4 k5 k6 k7 x0 x1 x2 x3 xf t0 t1 t2 t3 tf HB0 HSD HBW0;have hpl3 := (Array.getElem?_eq_some_iff.1 hpb).1;have hs3 := hbW.size;have HT3 := Lib.hid (HT.out.go hbW);have HROW3 := Lib.hid (HROW.out.below hbW);have HOWN := Lib.hid HROW.out.lt;have HPB := Lib.hid hpb; clear hpb;have HR7 := Lib.hid hr7; clear hr7;have HR15 := Lib.hid hr15; clear hr15;have HE : Hid (putP x t (p1, p2) = (u1, u2)) := by show (_, _) = _; rw [HU1.out, HU2.out]
   clear HT HROW hbW;cases q with
   | false =>
    obtain ⟨y0, y1, y2, y3, y4, y5, y6, y7⟩ := qar HPB.out;have hlw := HT3.out.lt;obtain ⟨g, cn, w5, hap, hrow5, hbel5, hblk5, hsz5, -⟩ := HROW3.out.more1 qds (by omega) ((u1, Az7, cz7), (u2, Az15, cz15)) (RepP.mono (fun b hb => ⟨by rcases hb with h | h <;> omega, by rcases hb with h | h <;> omega, fun e => by have h1 := HOWN.out b e; rcases hb with h | h <;> omega⟩) (fun _ _ => rfl) _ _ _ HR7.out)
     (RepP.mono (fun b hb => ⟨by rcases hb with h | h <;> omega, by rcases hb with h | h <;> omega, fun e => by have h1 := HOWN.out b e; rcases hb with h | h <;> omega⟩) (fun _ _ => rfl) _ _ _ HR15.out) (by have := HLEN.out; omega)
    have HT5 := Lib.hid (HT3.out.keep (fun q hq1 hq2 => hblk5 q (by omega) (fun e => by have h1 := HOWN.out q e; omega)) (hbel5 _ _ HT3.out.bel (by omega)));have HROW5 := Lib.hid hrow5; clear hrow5 hbel5 hblk5 hsz5;dsimp only at hap;go_wp2_with (at_builtin; refine qag rfl _ _ rfl rfl rfl hap ?_)
    go_roundw
    case rel => exact ⟨k + 1, cn, some ⟨g, 0, none⟩, its ++ [((u1, Az7, cz7), (u2, Az15, cz15))], false, by omega, by go_num, by rw [List.length_append]; rfl, rfl, (by show _ = _; rw [List.length_append, HLEN.out]; rfl), (by show _ = _; rw [HSN.out, List.map_append, HITS.out, HE.out]; rfl), (by show _ = _; rw [HSN.out, HOK.out, ← HQ.out]; rfl), HT5.out, by rw [List.length_append]; exact HROW5.out⟩
    case measure => simp [intOf]; omega
   | true =>
    have VA := qcr u1 Az7 cz7 W3 hz1 (RepP.mono (fun b hb => by rcases hb with h | h <;> (show b < _; have := HT3.out.lt; omega)) (fun _ _ => rfl) _ _ _ HR7.out);obtain ⟨va, hva⟩ : ∃ v, v = u1.valid := ⟨_, rfl⟩;rw [← hva] at VA;have HVA := Lib.hid hva; clear hva;simp only [Tm.val] at VA;have VA := Lib.hid VA;obtain ⟨y0, y1, y2, y3, y4, y5, y6, y7⟩ := qar HPB.out;go_wp2_with fail
    refine VA.out.mono ?_; clear VA y0 y1 y2 y3 y4 y5 y6 y7;rintro e W4 ⟨rfl, hl4⟩;have hs4 := hl4.below.size;have HPB4 := Lib.hid ((hl4.below.block _ (by omega)).trans HPB.out);have HT4 := Lib.hid (HT3.out.go hl4.below);have HROW4 := Lib.hid (HROW3.out.below hl4.below);have HR74 : Hid (RepP W4 (fun b => b < w.heap.size ∨ (wr.heap.size ≤ b ∧ b < W3.heap.size ∧ b ≠ pb)) u1 Az7 cz7) := RepP.mono (fun _ h => h) (fun p hp => hl4.below.cell (by rcases hp with h | h <;> (have := HT3.out.lt; omega))) _ _ _ HR7.out;have HR154 : Hid (RepP W4 (fun b => b < w.heap.size ∨ (wr.heap.size ≤ b ∧ b < W3.heap.size ∧ b ≠ pb)) u2 Az15 cz15) := RepP.mono (fun _ h => h) (fun p hp => hl4.below.cell (by rcases hp with h | h <;> (have := HT3.out.lt; omega))) _ _ _ HR15.out;have hlt3 := HT3.out.lt;clear HPB HT3 HROW3 HR7 HR15 hl4;obtain ⟨y0, y1, y2, y3, y4, y5, y6, y7⟩ := qar HPB4.out
    rcases eq_facts va 0 with ⟨v0, v1, v2⟩ | ⟨v0, v1, v2⟩
    ·subst v0;have VB := qcr u2 Az15 cz15 W4 hz2 (RepP.mono (fun b hb => by rcases hb with h | h <;> (show b < _; omega)) (fun _ _ => rfl) _ _ _ HR154.out);obtain ⟨vb, hvb⟩ : ∃ v, v = u2.valid := ⟨_, rfl⟩;rw [← hvb] at VB;have HVB := Lib.hid hvb; clear hvb;simp only [Tm.val] at VB;have VB := Lib.hid VB;go_wp2_with fail
     refine VB.out.mono ?_; clear VB y0 y1 y2 y3 y4 y5 y6 y7;rintro e W5 ⟨rfl, hl5⟩;have hs5 := hl5.below.size;have HPB5 := Lib.hid ((hl5.below.block _ (by omega)).trans HPB4.out);have HT5' := Lib.hid (HT4.out.go hl5.below);have HROW5' := Lib.hid (HROW4.out.below hl5.below);have HR75 : Hid (RepP W5 (fun b => b < w.heap.size ∨ (wr.heap.size ≤ b ∧ b < W3.heap.size ∧ b ≠ pb)) u1 Az7 cz7) := RepP.mono (fun _ h => h) (fun p hp => hl5.below.cell (by rcases hp with h | h <;> omega)) _ _ _ HR74.out;have HR155 : Hid (RepP W5 (fun b => b < w.heap.size ∨ (wr.heap.size ≤ b ∧ b < W3.heap.size ∧ b ≠ pb)) u2 Az15 cz15) := RepP.mono (fun _ h => h) (fun p hp => hl5.below.cell (by rcases hp with h | h <;> omega)) _ _ _ HR154.out;clear HPB4 HT4 HROW4 HR74 HR154 hl5;have HPB := HPB5; have HT3 := HT5'; have HROW3 := HROW5'; have HR7 := HR75; have HR15 := HR155
     obtain ⟨y0, y1, y2, y3, y4, y5, y6, y7⟩ := qar HPB.out;rcases eq_facts vb 0 with ⟨v3, v4, v5⟩ | ⟨v3, v4, v5⟩
     ·subst v3;obtain ⟨y0, y1, y2, y3, y4, y5, y6, y7⟩ := qar HPB.out;have hlw := HT3.out.lt;obtain ⟨g, cn, w5, hap, hrow5, hbel5, hblk5, hsz5, -⟩ := HROW3.out.more1 qds (by omega) ((u1, Az7, cz7), (u2, Az15, cz15)) (RepP.mono (fun b hb => ⟨by rcases hb with h | h <;> omega, by rcases hb with h | h <;> omega, fun e => by have h1 := HOWN.out b e; rcases hb with h | h <;> omega⟩) (fun _ _ => rfl) _ _ _ HR7.out)
       (RepP.mono (fun b hb => ⟨by rcases hb with h | h <;> omega, by rcases hb with h | h <;> omega, fun e => by have h1 := HOWN.out b e; rcases hb with h | h <;> omega⟩) (fun _ _ => rfl) _ _ _ HR15.out) (by have := HLEN.out; omega)
      have HT5 := Lib.hid (HT3.out.keep (fun q hq1 hq2 => hblk5 q (by omega) (fun e => by have h1 := HOWN.out q e; omega)) (hbel5 _ _ HT3.out.bel (by omega)));have HROW5 := Lib.hid hrow5; clear hrow5 hbel5 hblk5 hsz5;dsimp only at hap;go_wp2_with (at_builtin; refine qag rfl _ _ rfl rfl rfl hap ?_)
      go_roundw
      case rel => exact ⟨k + 1, cn, some ⟨g, 0, none⟩, its ++ [((u1, Az7, cz7), (u2, Az15, cz15))], true, by omega, by go_num, by rw [List.length_append]; rfl, rfl, (by show _ = _; rw [List.length_append, HLEN.out]; rfl), (by show _ = _; rw [HSN.out, List.map_append, HITS.out, HE.out]; rfl), (by show _ = _; rw [HSN.out, HOK.out, ← HQ.out, HE.out, ← HVA.out, ← HVB.out]; rfl), HT5.out, by rw [List.length_append]; exact HROW5.out⟩
      case measure => simp [intOf]; omega
     ·skip
      obtain ⟨y0, y1, y2, y3, y4, y5, y6, y7⟩ := qar HPB.out;have hlw := HT3.out.lt;obtain ⟨g, cn, w5, hap, hrow5, hbel5, hblk5, hsz5, -⟩ := HROW3.out.more1 qds (by omega) ((u1, Az7, cz7), (u2, Az15, cz15)) (RepP.mono (fun b hb => ⟨by rcases hb with h | h <;> omega, by rcases hb with h | h <;> omega, fun e => by have h1 := HOWN.out b e; rcases hb with h | h <;> omega⟩) (fun _ _ => rfl) _ _ _ HR7.out)
       (RepP.mono (fun b hb => ⟨by rcases hb with h | h <;> omega, by rcases hb with h | h <;> omega, fun e => by have h1 := HOWN.out b e; rcases hb with h | h <;> omega⟩) (fun _ _ => rfl) _ _ _ HR15.out) (by have := HLEN.out; omega)
      have HT5 := Lib.hid (HT3.out.keep (fun q hq1 hq2 => hblk5 q (by omega) (fun e => by have h1 := HOWN.out q e; omega)) (hbel5 _ _ HT3.out.bel (by omega)));have HROW5 := Lib.hid hrow5; clear hrow5 hbel5 hblk5 hsz5;dsimp only at hap;go_wp2_with (at_builtin; refine qag rfl _ _ rfl rfl rfl hap ?_)
      go_roundw
      case rel => exact ⟨k + 1, cn, some ⟨g, 0, none⟩, its ++ [((u1, Az7, cz7), (u2, Az15, cz15))], false, by omega, by go_num, by rw [List.length_append]; rfl, rfl, (by show _ = _; rw [List.length_append, HLEN.out]; rfl), (by show _ = _; rw [HSN.out, List.map_append, HITS.out, HE.out]; rfl), (by show _ = _; rw [HSN.out, HOK.out, ← HQ.out, HE.out, ← HVA.out, ← HVB.out]; simp [v3]), HT5.out, by rw [List.length_append]; exact HROW5.out⟩
      case measure => simp [intOf]; omega
    ·have HPB := HPB4; have HT3 := HT4; have HROW3 := HROW4; have HR7 := HR74; have HR15 := HR154;obtain ⟨y0, y1, y2, y3, y4, y5, y6, y7⟩ := qar HPB.out;have hlw := HT3.out.lt;obtain ⟨g, cn, w5, hap, hrow5, hbel5, hblk5, hsz5, -⟩ := HROW3.out.more1 qds (by omega) ((u1, Az7, cz7), (u2, Az15, cz15)) (RepP.mono (fun b hb => ⟨by rcases hb with h | h <;> omega, by rcases hb with h | h <;> omega, fun e => by have h1 := HOWN.out b e; rcases hb with h | h <;> omega⟩) (fun _ _ => rfl) _ _ _ HR7.out)
      (RepP.mono (fun b hb => ⟨by rcases hb with h | h <;> omega, by rcases hb with h | h <;> omega, fun e => by have h1 := HOWN.out b e; rcases hb with h | h <;> omega⟩) (fun _ _ => rfl) _ _ _ HR15.out) (by have := HLEN.out; omega)
     have HT5 := Lib.hid (HT3.out.keep (fun q hq1 hq2 => hblk5 q (by omega) (fun e => by have h1 := HOWN.out q e; omega)) (hbel5 _ _ HT3.out.bel (by omega)));have HROW5 := Lib.hid hrow5; clear hrow5 hbel5 hblk5 hsz5;dsimp only at hap;go_wp2_with (at_builtin; refine qag rfl _ _ rfl rfl rfl hap ?_)
     go_roundw
     case rel => exact ⟨k + 1, cn, some ⟨g, 0, none⟩, its ++ [((u1, Az7, cz7), (u2, Az15, cz15))], false, by omega, by go_num, by rw [List.length_append]; rfl, rfl, (by show _ = _; rw [List.length_append, HLEN.out]; rfl), (by show _ = _; rw [HSN.out, List.map_append, HITS.out, HE.out]; rfl), (by show _ = _; rw [HSN.out, HOK.out, ← HQ.out, HE.out, ← HVA.out]; simp [v0]), HT5.out, by rw [List.length_append]; exact HROW5.out⟩
     case measure => simp [intOf]; omega
  ·obtain rfl : k = ps.length := by omega
   have hits := HITS.out;have hq := HQ.out;simp only [List.take_length] at hits hq;rw [← HL.out] at hits hq;obtain ⟨LA, Lc, hv9, hLrep⟩ := HROW.out.toB (P := fun b => b < wr.heap.size) (fun b _ h _ => h) (fun b h => (HROW.out.lt b h).2);injection hv9 with g1 _ g3;subst g1 g3;rw [hits] at hLrep;have hll : its.length = L.length := by rw [← hits, List.length_map]
   have HLR := Lib.hid hLrep; clear hLrep;have HLL := Lib.hid hll; clear hll;have HQL := Lib.hid hq; clear hq hits HITS HQ HROW HLEN;have HT1 := HT; clear HT;generalize wr = w1 at *;go_wp2_with fail
   go_loopw [12, 15, 16, 17] (fun okv ov dv iv wr => ∃ (k c9 : Nat) (A9 : Option Addr) (it2 : List IB) (q2 d : Bool), k ≤ s.length ∧ iv = .int .i64 k ∧ ov = .slice A9 it2.length c9 ∧ okv = .bool q2 ∧ dv = .bool d ∧ Hid (it2.length ≤ k + 1) ∧ Hid (d = false → it2.length ≤ k) ∧ Hid (q2 = (okP L && qhv ((s.take k).map (putB x t)))) ∧
     Hid (qcn (x, t) S (it2.map IB.bd) d k) ∧ Hid (Below w1.heap.size w1 wr) ∧ Hid (RowG 48 wr w1.heap.size (fun b => b < w.heap.size ∨ w1.heap.size ≤ b) (.slice A9 it2.length c9) it2)) (fun _ _ _ iv _ => s.length - (intOf iv).toNat)
   case atStart => exact ⟨0, 0, none, [], q, false, Nat.zero_le _, rfl, rfl, rfl, rfl, Nat.zero_le _, fun _ => Nat.le_refl _, (by show q = _; rw [HQL.out]; simp [qhv]), by simp [qcn, Hid], Below.refl _ _, RowG.nil _ _ _ _⟩
   case round =>
    obtain ⟨k, c9, A9, it2, q2, d, hk, rfl, rfl, rfl, rfl, HML, HMD, HQ2, HSP, HBW1, HROW⟩ := hrel;have i1 : (0 : Int) ≤ (k : Int) := Int.natCast_nonneg _;have hw1 := HT1.out.lt;have hs1 := HBW1.out.size;have HBWW : Hid (Below w.heap.size w wr) := HT1.out.bel.trans (HBW1.out.mono (by omega));have HTX : Hid (∀ X, Below w.heap.size w X → RepP X (fun b => b < w.heap.size) x A c) := fun X hX => RepP.mono (fun _ h => h) (fun p hp => hX.cell hp) _ _ _ HRX.out;have HTT : Hid (∀ X, Below w.heap.size w X → RepP X (fun b => b < w.heap.size) t A' c') := fun X hX => RepP.mono (fun _ h => h) (fun p hp => hX.cell hp) _ _ _ HRT.out;by_cases hlt : k < s.length
    ·have i2 : (k : Int) < (s.length : Int) := by omega
     rcases sg3 with h0 | ⟨kb, off, rfl, hbB, hl⟩
     ·rw [h0] at hlt; simp at hlt
     obtain ⟨A1, c1, A2, c2, h8w⟩ := hl.get8 k hlt;obtain ⟨hv1, hv2⟩ := HSS.out s[k] (List.getElem_mem hlt);have HSN := Lib.hid (qfg (f := putB x t) s k hlt);have HVS := Lib.hid (qki ((s.take k).map (putB x t)) (putB x t s[k]));have hdrop : S.drop k = putB x t s[k] :: S.drop (k + 1) := by
      have hk2 : k < S.length := by rw [HS.out, List.length_map]; exact hlt
      rw [List.drop_eq_getElem_cons hk2]
      congr 1
      simp only [HS.out, List.getElem_map]
     have HDR := Lib.hid hdrop; clear hdrop;obtain ⟨p, hp⟩ : ∃ p, p = s[k] := ⟨_, rfl⟩;rw [← hp] at h8w hv1 hv2 HSN HVS HDR;clear hp;obtain ⟨v, b⟩ := p;dsimp only at h8w hv1 hv2;have HCE : Hid (∀ X, Below w.heap.size w X → ∀ o, X.cell? ⟨kb, o, none⟩ = w.cell? ⟨kb, o, none⟩) := fun X hX o => hX.cell (show kb < _ from hbB);have HR1 := Lib.hid h8w.r1;have HR2 := Lib.hid h8w.r2;obtain ⟨m0, m1, m2, m3, m4, m5, m6, m7, -, -⟩ := h8w;have M0 := Lib.hid m0; clear m0;have M1 := Lib.hid m1; clear m1;have M2 := Lib.hid m2; clear m2;have M3 := Lib.hid m3; clear m3;have M4 := Lib.hid m4; clear m4;have M5 := Lib.hid m5; clear m5;have M6 := Lib.hid m6; clear m6;have M7 := Lib.hid m7; clear m7;have hz2 := qg2 (x := x) ht4 (qak hv2);have hzv := qak hv1;have HV1 := Lib.hid hv1; clear hv1;have HV2 := Lib.hid hv2; clear hv2 hl;obtain ⟨u, hu⟩ : ∃ u, u = b.put [(x, t)] := ⟨_, rfl⟩
     rw [← hu] at hz2;have HU := Lib.hid hu; clear hu;have CK : Hid (∀ X, Below wr.heap.size wr X → Calls Tryz.prog 41 #[x.val A c, v.val A1 c1] X fun e w' => e = .returned (.int .i64 (x.cmp v)) ∧ Lay X.heap.size X w') := fun X hX =>
      have hb : Below w.heap.size w X := HBWW.out.trans (hX.mono (by omega))
      qdk 1000000 x v A A1 c c1 X (by omega) (Nat.le_refl _) (by omega) (RepP.mono (fun b (h : b < w.heap.size) => by have := hb.size; omega) (fun _ _ => rfl) _ _ _ (HTX.out X hb)) (RepP.mono (fun b (h : b < w.heap.size) => by have := hb.size; omega) (fun p hp => hb.cell hp) _ _ _ HR1.out)
     have HZB : Hid (∀ nq osq, Below wr.heap.size wr (grow (wr.drewN nq) osq)) := fun nq osq => (Lay.of_grow _ _).below;have hcx : ∀ n os o, (grow (wr.drewN n) os).cell? ⟨w.heap.size, o, none⟩ = wr.cell? ⟨w.heap.size, o, none⟩ := fun n os o => (Lay.of_grow (w := wr) n os).below.cell (by show w.heap.size < _; omega);have hck : ∀ n os o, (grow (wr.drewN n) os).cell? ⟨kb, o, none⟩ = w.cell? ⟨kb, o, none⟩ := fun n os o => ((Lay.of_grow (w := wr) n os).below.cell (by show kb < _; omega)).trans (HCE.out wr HBWW.out o);obtain ⟨d0, d1, d2, d3, -⟩ := qao x ((HBW1.out.block _ (by omega)).trans HT1.out.one);have y0 := fun n os => (hcx n os _).trans d0;have y1 := fun n os => (hcx n os _).trans d1;have y2 := fun n os => (hcx n os _).trans d2;have y3 := fun n os => (hcx n os _).trans d3;have p0 := fun n os => (hck n os _).trans M0.out;have p1 := fun n os => (hck n os _).trans M1.out
     have p2 := fun n os => (hck n os _).trans M2.out;have p3 := fun n os => (hck n os _).trans M3.out;clear hcx hck d0 d1 d2 d3;obtain ⟨cq, hcq⟩ : ∃ q, q = x.cmp v := ⟨_, rfl⟩;rw [← hcq] at CK;have HCQ := Lib.hid hcq; clear hcq;simp only [Tm.val] at CK;have hcase : d = true ∨ (d = false ∧ 0 ≤ cq) ∨ (d = false ∧ cq < 0) := by
      cases d
      ·rcases Int.lt_or_le cq 0 with h | h
       ·exact .inr (.inr ⟨rfl, h⟩)
       ·exact .inr (.inl ⟨rfl, h⟩)
      ·exact .inl rfl
     rcases hcase with rfl | ⟨rfl, h0⟩ | ⟨rfl, h0⟩
     ·skip
      go_wp2_with fail
      go_quiet (fail)
      have hz : Below wr.heap.size wr (wr.drewN nq) := ((Lay.refl _ _).drewN _).below;clear CK y0 y1 y2 y3 p0 p1 p2 p3 HZB;generalize wr.drewN nq = Z at *;have hzs := hz.size;have HBZ := Lib.hid (HBW1.out.trans (hz.mono (by omega)));have HROWZ := Lib.hid (HROW.out.below hz); clear hz;have HM8 : Hid (it2.length ≤ k + 1 ∧ (true = false → it2.length ≤ k)) := ⟨HML.out, fun h => (by cases h)⟩;have HSPN : Hid (∀ Y : IB, Y.bd = putB x t (v, b) → qcn (x, t) S ((it2 ++ [Y]).map IB.bd) true (k + 1)) := fun Y hY => by
       have h := HSP.out; unfold qcn at h ⊢;rw [List.map_append, h, HDR.out, List.append_assoc, List.map_cons, hY];rfl
      have HBWZ : Hid (Below w.heap.size w Z) := HT1.out.bel.trans (HBZ.out.mono (by omega));have hwz := HBZ.out.size;have HBW0 : Hid (Below w.heap.size w Z.drew) := HBWZ.out.drew;have HB0 : Hid (Below Z.heap.size Z Z.drew) := (Below.refl _ _).drew;have HSD : Hid (Z.drew.heap.size = Z.heap.size) := rfl;obtain ⟨x0, x1, x2, x3, xf⟩ := qao x ((HBZ.out.block _ (by omega)).trans HT1.out.one);obtain ⟨t0, t1, t2, t3, tf⟩ := qao t ((HBZ.out.block _ (by omega)).trans HT1.out.two);have k0 := (HCE.out _ HBWZ.out _).trans M0.out;have k1 := (HCE.out _ HBWZ.out _).trans M1.out;have k2 := (HCE.out _ HBWZ.out _).trans M2.out;have k3 := (HCE.out _ HBWZ.out _).trans M3.out;have k4 := (HCE.out _ HBWZ.out _).trans M4.out;have k5 := (HCE.out _ HBWZ.out _).trans M5.out;have k6 := (HCE.out _ HBWZ.out _).trans M6.out;have k7 := (HCE.out _ HBWZ.out _).trans M7.out;go_wp2_with fail
      refine qa0 (fun a0 a' w' => ∃ pb Az12 cz12, a' = (((((((((((((((a0.put (some 83) (.slice (some ⟨kb, off, none⟩) s.length Sc)).put (some 84) (.int .i64 k)).put (some 85) (.pointer (some ⟨kb, off + k * 8, none⟩))).put (some 86) (.pointer (some ⟨kb, off + k * 8, none⟩))).put (some 87) (.agg #[.int .i64 v.kind, .string v.name, .int .i64 v.sort, .slice A1 v.kids.length c1])).put (some 88) (.slice (some ⟨kb, off, none⟩) s.length Sc)).put (some 89) (.int .i64 k)).put (some 90) (.pointer (some ⟨kb, off + k * 8, none⟩))).put (some 91) (.pointer (some ⟨kb, off + k * 8 + 4, none⟩))).put (some 92) (.agg #[.int .i64 b.kind, .string b.name, .int .i64 b.sort, .slice A2 b.kids.length c2])).put (some 93) (.agg #[.int .i64 x.kind, .string x.name, .int .i64 x.sort, .slice A x.kids.length c])).put (some 94) (.agg #[.int .i64 t.kind, .string t.name, .int .i64 t.sort, .slice A' t.kids.length c'])).put (some 95) (.agg #[.int .i64 u.kind, .string u.name, .int .i64 u.sort, .slice Az12 u.kids.length cz12])).put (some 96) (.agg #[.int .i64 v.kind, .string v.name, .int .i64 v.sort, .slice A1 v.kids.length c1, .int .i64 u.kind, .string u.name, .int .i64 u.sort, .slice Az12 u.kids.length cz12])).put (some 18) (.pointer (some ⟨pb, 0, none⟩))) ∧
       w'.heap[pb]? = some (.cells #[.int .i64 v.kind, .string v.name, .int .i64 v.sort, .slice A1 v.kids.length c1, .int .i64 u.kind, .string u.name, .int .i64 u.sort, .slice Az12 u.kids.length cz12] 48 (0, 0)) ∧ RepP w' (fun b => b < w.heap.size ∨ (Z.heap.size ≤ b ∧ b < w'.heap.size ∧ b ≠ pb)) u Az12 cz12 ∧ Below Z.heap.size Z w' ∧ Z.heap.size ≤ pb) ?_ ?_
      ·skip
       refine qai (fun Y => Below Z.drew.heap.size Z.drew Y) 15 (.held 0 (.held 1 (.held 2 (.held 3 (.held 4 (.held 5 (.held 6 (.held 7 (.held 8 (.held 9 (.held 10 (.held 11 (.two 12 14 (.held 13 (.op 14 (.op 15 .nil))) (.op 12 (.held 13 (.op 15 .nil)))))))))))))))) mixed (by kernel_rfl) ?_;have k0 : Z.drew.cell? _ = _ := k0;have k1 : Z.drew.cell? _ = _ := k1;have k2 : Z.drew.cell? _ = _ := k2;have k3 : Z.drew.cell? _ = _ := k3;have k4 : Z.drew.cell? _ = _ := k4;have k5 : Z.drew.cell? _ = _ := k5;have k6 : Z.drew.cell? _ = _ := k6;have k7 : Z.drew.cell? _ = _ := k7;have x0 : Z.drew.cell? _ = _ := x0;have x1 : Z.drew.cell? _ = _ := x1;have x2 : Z.drew.cell? _ = _ := x2;have x3 : Z.drew.cell? _ = _ := x3;have t0 : Z.drew.cell? _ = _ := t0;have t1 : Z.drew.cell? _ = _ := t1;have t2 : Z.drew.cell? _ = _ := t2;have t3 : Z.drew.cell? _ = _ := t3;generalize Z.drew = D at *
       have hbD0 : Below D.heap.size D D := Below.refl _ _;refine qab (v := .slice (some ⟨kb, off, none⟩) s.length Sc) rfl rfl (fun _ _ _ h => nomatch h.1) (Below.refl _ _) (fun Y hY => by
        (try simp only [Act.put]); go_simp) ?_
       refine qab (v := .int .i64 k) rfl rfl (fun _ _ _ h => nomatch h.1) (Below.refl _ _) (fun Y hY => by
        (try simp only [Act.put]); go_simp) ?_
       refine qab (v := .pointer (some ⟨kb, off + k * 8, none⟩)) rfl rfl (fun _ _ _ h => nomatch h.1) (Below.refl _ _) (fun Y hY => by
        (try simp only [Act.put]); go_simp) ?_
       refine qab (v := .pointer (some ⟨kb, off + k * 8, none⟩)) rfl rfl (fun _ _ _ h => nomatch h.1) (Below.refl _ _) (fun Y hY => by
        (try simp only [Act.put]); go_simp) ?_
       refine qab (v := .agg #[.int .i64 v.kind, .string v.name, .int .i64 v.sort, .slice A1 v.kids.length c1]) rfl rfl (fun _ _ _ h => nomatch h.1) (Below.refl _ _) (fun Y hY => by
        have z0 := (hY.cell (p := ⟨kb, off + k * 8, none⟩) (by show kb < _; have := HSD.out; omega)).trans k0;have z1 := (hY.cell (p := ⟨kb, off + k * 8 + 1, none⟩) (by show kb < _; have := HSD.out; omega)).trans k1;have z2 := (hY.cell (p := ⟨kb, off + k * 8 + 2, none⟩) (by show kb < _; have := HSD.out; omega)).trans k2;have z3 := (hY.cell (p := ⟨kb, off + k * 8 + 3, none⟩) (by show kb < _; have := HSD.out; omega)).trans k3
        (try simp only [Act.put]); go_simp) ?_
       refine qab (v := .slice (some ⟨kb, off, none⟩) s.length Sc) rfl rfl (fun _ _ _ h => nomatch h.1) (Below.refl _ _) (fun Y hY => by
        (try simp only [Act.put]); go_simp) ?_
       refine qab (v := .int .i64 k) rfl rfl (fun _ _ _ h => nomatch h.1) (Below.refl _ _) (fun Y hY => by
        (try simp only [Act.put]); go_simp) ?_
       refine qab (v := .pointer (some ⟨kb, off + k * 8, none⟩)) rfl rfl (fun _ _ _ h => nomatch h.1) (Below.refl _ _) (fun Y hY => by
        (try simp only [Act.put]); go_simp) ?_
       refine qab (v := .pointer (some ⟨kb, off + k * 8 + 4, none⟩)) rfl rfl (fun _ _ _ h => nomatch h.1) (Below.refl _ _) (fun Y hY => by
        (try simp only [Act.put]); go_simp) ?_
       refine qab (v := .agg #[.int .i64 b.kind, .string b.name, .int .i64 b.sort, .slice A2 b.kids.length c2]) rfl rfl (fun _ _ _ h => nomatch h.1) (Below.refl _ _) (fun Y hY => by
        have z0 := (hY.cell (p := ⟨kb, off + k * 8 + 4, none⟩) (by show kb < _; have := HSD.out; omega)).trans k4;have z1 := (hY.cell (p := ⟨kb, off + k * 8 + 4 + 1, none⟩) (by show kb < _; have := HSD.out; omega)).trans k5;have z2 := (hY.cell (p := ⟨kb, off + k * 8 + 4 + 2, none⟩) (by show kb < _; have := HSD.out; omega)).trans k6;have z3 := (hY.cell (p := ⟨kb, off + k * 8 + 4 + 3, none⟩) (by show kb < _; have := HSD.out; omega)).trans k7
        (try simp only [Act.put]); go_simp) ?_
       refine qab (v := .agg #[.int .i64 x.kind, .string x.name, .int .i64 x.sort, .slice A x.kids.length c]) rfl rfl (fun _ _ _ h => nomatch h.1) (Below.refl _ _) (fun Y hY => by
        have z0 := (hY.cell (p := ⟨w.heap.size, 0, none⟩) (by show w.heap.size < _; have := HSD.out; omega)).trans x0;have z1 := (hY.cell (p := ⟨w.heap.size, 1, none⟩) (by show w.heap.size < _; have := HSD.out; omega)).trans x1;have z2 := (hY.cell (p := ⟨w.heap.size, 2, none⟩) (by show w.heap.size < _; have := HSD.out; omega)).trans x2;have z3 := (hY.cell (p := ⟨w.heap.size, 3, none⟩) (by show w.heap.size < _; have := HSD.out; omega)).trans x3
        (try simp only [Act.put]); go_simp) ?_
       refine qab (v := .agg #[.int .i64 t.kind, .string t.name, .int .i64 t.sort, .slice A' t.kids.length c']) rfl rfl (fun _ _ _ h => nomatch h.1) (Below.refl _ _) (fun Y hY => by
        have z0 := (hY.cell (p := ⟨w.heap.size + 1, 0, none⟩) (by show w.heap.size + 1 < _; have := HSD.out; omega)).trans t0;have z1 := (hY.cell (p := ⟨w.heap.size + 1, 1, none⟩) (by show w.heap.size + 1 < _; have := HSD.out; omega)).trans t1;have z2 := (hY.cell (p := ⟨w.heap.size + 1, 2, none⟩) (by show w.heap.size + 1 < _; have := HSD.out; omega)).trans t2;have z3 := (hY.cell (p := ⟨w.heap.size + 1, 3, none⟩) (by show w.heap.size + 1 < _; have := HSD.out; omega)).trans t3
        (try simp only [Act.put]); go_simp) ?_
       simp only [Act.put, List.setIfInBounds_toArray];clear k0 k1 k2 k3 k4 k5 k6 k7 x0 x1 x2 x3 xf t0 t1 t2 t3 tf;refine mix_two ?_ ?_
       ·skip
        refine mix_op rfl rfl (fun K hK => ?_);go_wp2_with fail
        refine (CP.out b A2 c2 D HV2.out (qac HBW0.out hbD0 HBW0.out.size) HR2.out).mono ?_;rw [← HU.out];rintro e W1 ⟨Az12, cz12, rfl, hre12, hbc⟩;have hsz1 : D.heap.size ≤ W1.heap.size := hbc.size;have hb1 := qac hbD0 hbc hbD0.size;refine hK _ _ ⟨fun _ => hb1, ?_⟩; clear hK K hbc;simp only [Tm.val];refine qab (v := .agg #[.int .i64 v.kind, .string v.name, .int .i64 v.sort, .slice A1 v.kids.length c1, .int .i64 u.kind, .string u.name, .int .i64 u.sort, .slice Az12 u.kids.length cz12]) rfl rfl (fun _ _ _ h => nomatch h.1) hb1 (fun Y hY => by (try simp only [Act.put]); go_simp) ?_;simp only [Act.put, List.setIfInBounds_toArray];refine mix_op rfl rfl (fun K hK => ?_);go_wp2_with fail
        obtain ⟨W2, hM⟩ : ∃ M, M = W1.alloc (.cells #[.int .i64 0, .string ⟨#[]⟩, .int .i64 0, .slice none 0 0, .int .i64 0, .string ⟨#[]⟩, .int .i64 0, .slice none 0 0] 48) := ⟨_, rfl⟩;have hbc : Below W1.heap.size W1 W2 := by rw [hM]; exact qah (Nat.le_refl _) _
        have hsz2 : W1.heap.size < W2.heap.size := by rw [hM]; simp
        have hzb : W2.heap[W1.heap.size]? = some (.cells #[.int .i64 0, .string ⟨#[]⟩, .int .i64 0, .slice none 0 0, .int .i64 0, .string ⟨#[]⟩, .int .i64 0, .slice none 0 0] 48 (0, 0)) := by rw [hM]; exact heap_alloc_new _ _
        rw [← hM];clear hM;have hb2 := qac hb1 hbc hb1.size;have hre12 := RepP.mono (fun _ h => h) (fun p hp => hbc.cell (by rcases hp with hp | hp <;> (have := HBW0.out.size; omega))) _ _ _ hre12;refine ⟨fun _ => hb2, ?_⟩;clear hbc;obtain ⟨y0, y1, y2, y3, y4, y5, y6, y7⟩ := qar hzb;have yf := qbz hzb;refine mix_op rfl rfl (fun K hK => ?_);go_wp2_with fail
        refine ⟨fun h => absurd h (by decide), qas ?_⟩;clear y0 y1 y2 y3 y4 y5 y6 y7 yf;have hsd := HSD.out;have hsw := HBW0.out.size;refine ⟨rfl, W1.heap.size, Az12, cz12, (by kernel_rfl), qbx hzb, ?_, ?_, by omega⟩
        ·refine RepP.mono ?_ ?_ _ _ _ hre12
         ·rintro b (h | ⟨h1, h2⟩)
          ·exact .inl h
          ·exact .inr ⟨by omega, by simp [World.setCell]; omega, by omega⟩
         ·intro p hp;have hne : p.block ≠ W1.heap.size := by rcases hp with hp | hp <;> omega
          have hq : ∀ o, (⟨W1.heap.size, o, none⟩ : Addr) ≠ p := fun o e => hne (by rw [← e])
          iterate 8 rw [World.cell?_setCell_other _ _ _ _ (hq _)]
        ·refine qac HB0.out ?_ HB0.out.size
         iterate 8 refine Below.setCell ?_ (by show D.heap.size ≤ W1.heap.size; omega) _
         exact hb2
       ·skip
        refine mix_op rfl rfl (fun K hK => ?_);go_wp2_with fail
        obtain ⟨W1, hM⟩ : ∃ M, M = D.alloc (.cells #[.int .i64 0, .string ⟨#[]⟩, .int .i64 0, .slice none 0 0, .int .i64 0, .string ⟨#[]⟩, .int .i64 0, .slice none 0 0] 48) := ⟨_, rfl⟩;have hbc : Below D.heap.size D W1 := by rw [hM]; exact qah (Nat.le_refl _) _
        have hsz1 : D.heap.size < W1.heap.size := by rw [hM]; simp
        have hzb : W1.heap[D.heap.size]? = some (.cells #[.int .i64 0, .string ⟨#[]⟩, .int .i64 0, .slice none 0 0, .int .i64 0, .string ⟨#[]⟩, .int .i64 0, .slice none 0 0] 48 (0, 0)) := by rw [hM]; exact heap_alloc_new _ _
        rw [← hM];clear hM;have hb1 := qac hbD0 hbc hbD0.size;refine ⟨fun _ => hb1, ?_⟩;clear hbc;refine mix_op rfl rfl (fun K hK => ?_);go_wp2_with fail
        refine (CP.out b A2 c2 W1 HV2.out (qac HBW0.out hb1 HBW0.out.size) HR2.out).mono ?_;rw [← HU.out];rintro e W2 ⟨Az12, cz12, rfl, hre12, hbc⟩;have hsz2 : W1.heap.size ≤ W2.heap.size := hbc.size;have hb2 := qac hb1 hbc hb1.size;have hzb := (hbc.block _ (by omega)).trans hzb;refine hK _ _ ⟨fun _ => hb2, ?_⟩; clear hK K hbc;simp only [Tm.val];refine qab (v := .agg #[.int .i64 v.kind, .string v.name, .int .i64 v.sort, .slice A1 v.kids.length c1, .int .i64 u.kind, .string u.name, .int .i64 u.sort, .slice Az12 u.kids.length cz12]) rfl rfl (fun _ _ _ h => nomatch h.1) hb2 (fun Y hY => by (try simp only [Act.put]); go_simp) ?_;simp only [Act.put, List.setIfInBounds_toArray];obtain ⟨y0, y1, y2, y3, y4, y5, y6, y7⟩ := qar hzb;have yf := qbz hzb;refine mix_op rfl rfl (fun K hK => ?_);go_wp2_with fail
        refine ⟨fun h => absurd h (by decide), qas ?_⟩;clear y0 y1 y2 y3 y4 y5 y6 y7 yf;have hsd := HSD.out;have hsw := HBW0.out.size;refine ⟨rfl, D.heap.size, Az12, cz12, (by kernel_rfl), qbx hzb, ?_, ?_, by omega⟩
        ·refine RepP.mono ?_ ?_ _ _ _ hre12
         ·rintro b (h | ⟨h1, h2⟩)
          ·exact .inl h
          ·exact .inr ⟨by omega, by simp [World.setCell]; omega, by omega⟩
         ·intro p hp;have hne : p.block ≠ D.heap.size := by rcases hp with hp | hp <;> omega
          have hq : ∀ o, (⟨D.heap.size, o, none⟩ : Addr) ≠ p := fun o e => hne (by rw [← e])
          iterate 8 rw [World.cell?_setCell_other _ _ _ _ (hq _)]
        ·refine qac HB0.out ?_ HB0.out.size
         iterate 8 refine Below.setCell ?_ (by show D.heap.size ≤ D.heap.size; omega) _
         exact hb2
      rintro a' W3 ⟨pb, Az12, cz12, rfl, hpb, hr12, hbW, hpbl⟩
      rename_i K hK
      show K _ _;refine hK _ _ ?_;clear hK K k0 k1 k2 k3 k4 k5 k6 k7 x0 x1 x2 x3 xf t0 t1 t2 t3 tf HB0 HSD HBW0;have hpl3 := (Array.getElem?_eq_some_iff.1 hpb).1;have hs3 := hbW.size;have HB3 := Lib.hid (HBZ.out.trans (hbW.mono (by omega)));have HBW3 := Lib.hid (HBWZ.out.trans (hbW.mono (by omega)));have HROW3 := Lib.hid (HROWZ.out.below hbW);have HOWN := Lib.hid HROWZ.out.lt;have HPB := Lib.hid hpb; clear hpb;have HR12 := Lib.hid hr12; clear hr12 hbW HROWZ HBZ HBWZ;cases q2 with
      | false =>
       obtain ⟨y0, y1, y2, y3, y4, y5, y6, y7⟩ := qar HPB.out;obtain ⟨g, cn, w5, hap, hrow5, hbel5, hblk5, hsz5, -⟩ := HROW3.out.more1 qby (by omega) ((v, A1, c1), (u, Az12, cz12)) (RepP.mono (fun b hb => ⟨.inl hb, by have : b < w.heap.size := hb; omega, fun e => by have : b < w.heap.size := hb; have h1 := HOWN.out b e; omega⟩) (fun p hp => HBW3.out.cell hp) _ _ _ HR1.out)
        (RepP.mono (fun b hb => ⟨by rcases hb with h | h <;> omega, by rcases hb with h | h <;> omega, fun e => by have h1 := HOWN.out b e; rcases hb with h | h <;> omega⟩) (fun _ _ => rfl) _ _ _ HR12.out) (by have := HM8.out.1; omega)
       have HB5 := Lib.hid (hbel5 _ _ HB3.out (Nat.le_refl _));have HROW5 := Lib.hid hrow5; clear hrow5 hbel5 hblk5 hsz5;dsimp only at hap;go_wp2_with (at_builtin; refine qag rfl _ _ rfl rfl rfl hap ?_)
       go_roundw
       case rel => exact ⟨k + 1, cn, some ⟨g, 0, none⟩, it2 ++ [((v, A1, c1), (u, Az12, cz12))], false, true, by omega, by go_num, by rw [List.length_append]; rfl, rfl, rfl, (by show _ ≤ _; rw [List.length_append]; have := HM8.out.1; simp only [List.length_singleton]; omega), (fun h => by rw [List.length_append]; have := HM8.out.2 (by first | exact h | trivial); simp only [List.length_singleton]; omega), (by show _ = _; rw [HSN.out, HVS.out, ← Bool.and_assoc, ← HQ2.out]; rfl), HSPN.out _ (by show (_, _) = (_, _); rw [HU.out]), HB5.out, by rw [List.length_append]; exact HROW5.out⟩
       case measure => simp [intOf]; omega
      | true =>
       have VA := qcr u Az12 cz12 W3 hz2 (RepP.mono (fun b hb => by rcases hb with h | h <;> (show b < _; omega)) (fun _ _ => rfl) _ _ _ HR12.out);obtain ⟨va, hva⟩ : ∃ v, v = u.valid := ⟨_, rfl⟩;rw [← hva] at VA;have HVA := Lib.hid hva; clear hva;simp only [Tm.val] at VA;have VA := Lib.hid VA;obtain ⟨y0, y1, y2, y3, y4, y5, y6, y7⟩ := qar HPB.out;go_wp2_with fail
       refine VA.out.mono ?_; clear VA y0 y1 y2 y3 y4 y5 y6 y7;rintro e W4 ⟨rfl, hl4⟩;have hs4 := hl4.below.size;have HPB4 := Lib.hid ((hl4.below.block _ (by omega)).trans HPB.out);have HB4 := Lib.hid (HB3.out.trans (hl4.below.mono (by omega)));have HBW4 := Lib.hid (HBW3.out.trans (hl4.below.mono (by omega)));have HROW4 := Lib.hid (HROW3.out.below hl4.below);have HR124 : Hid (RepP W4 (fun b => b < w.heap.size ∨ (Z.heap.size ≤ b ∧ b < W3.heap.size ∧ b ≠ pb)) u Az12 cz12) := RepP.mono (fun _ h => h) (fun p hp => hl4.below.cell (by rcases hp with h | h <;> omega)) _ _ _ HR12.out;clear HPB HB3 HBW3 HROW3 HR12 hl4;have HPB := HPB4; have HB3 := HB4; have HBW3 := HBW4; have HROW3 := HROW4; have HR12 := HR124;obtain ⟨y0, y1, y2, y3, y4, y5, y6, y7⟩ := qar HPB.out;rcases eq_facts va 0 with ⟨v0, v1, v2⟩ | ⟨v0, v1, v2⟩
       ·subst v0;obtain ⟨y0, y1, y2, y3, y4, y5, y6, y7⟩ := qar HPB.out;obtain ⟨g, cn, w5, hap, hrow5, hbel5, hblk5, hsz5, -⟩ := HROW3.out.more1 qby (by omega) ((v, A1, c1), (u, Az12, cz12)) (RepP.mono (fun b hb => ⟨.inl hb, by have : b < w.heap.size := hb; omega, fun e => by have : b < w.heap.size := hb; have h1 := HOWN.out b e; omega⟩) (fun p hp => HBW3.out.cell hp) _ _ _ HR1.out)
         (RepP.mono (fun b hb => ⟨by rcases hb with h | h <;> omega, by rcases hb with h | h <;> omega, fun e => by have h1 := HOWN.out b e; rcases hb with h | h <;> omega⟩) (fun _ _ => rfl) _ _ _ HR12.out) (by have := HM8.out.1; omega)
        have HB5 := Lib.hid (hbel5 _ _ HB3.out (Nat.le_refl _));have HROW5 := Lib.hid hrow5; clear hrow5 hbel5 hblk5 hsz5;dsimp only at hap;go_wp2_with (at_builtin; refine qag rfl _ _ rfl rfl rfl hap ?_)
        go_roundw
        case rel => exact ⟨k + 1, cn, some ⟨g, 0, none⟩, it2 ++ [((v, A1, c1), (u, Az12, cz12))], true, true, by omega, by go_num, by rw [List.length_append]; rfl, rfl, rfl, (by show _ ≤ _; rw [List.length_append]; have := HM8.out.1; simp only [List.length_singleton]; omega), (fun h => by rw [List.length_append]; have := HM8.out.2 (by first | exact h | trivial); simp only [List.length_singleton]; omega), (by show _ = _; rw [HSN.out, HVS.out, ← Bool.and_assoc, ← HQ2.out]; show _ = (true && decide ((b.put [(x, t)]).valid = 0)); rw [← HU.out, ← HVA.out]; rfl), HSPN.out _ (by show (_, _) = (_, _); rw [HU.out]), HB5.out, by rw [List.length_append]; exact HROW5.out⟩
        case measure => simp [intOf]; omega
       ·skip
        obtain ⟨y0, y1, y2, y3, y4, y5, y6, y7⟩ := qar HPB.out;obtain ⟨g, cn, w5, hap, hrow5, hbel5, hblk5, hsz5, -⟩ := HROW3.out.more1 qby (by omega) ((v, A1, c1), (u, Az12, cz12)) (RepP.mono (fun b hb => ⟨.inl hb, by have : b < w.heap.size := hb; omega, fun e => by have : b < w.heap.size := hb; have h1 := HOWN.out b e; omega⟩) (fun p hp => HBW3.out.cell hp) _ _ _ HR1.out)
         (RepP.mono (fun b hb => ⟨by rcases hb with h | h <;> omega, by rcases hb with h | h <;> omega, fun e => by have h1 := HOWN.out b e; rcases hb with h | h <;> omega⟩) (fun _ _ => rfl) _ _ _ HR12.out) (by have := HM8.out.1; omega)
        have HB5 := Lib.hid (hbel5 _ _ HB3.out (Nat.le_refl _));have HROW5 := Lib.hid hrow5; clear hrow5 hbel5 hblk5 hsz5;dsimp only at hap;go_wp2_with (at_builtin; refine qag rfl _ _ rfl rfl rfl hap ?_)
        go_roundw
        case rel => exact ⟨k + 1, cn, some ⟨g, 0, none⟩, it2 ++ [((v, A1, c1), (u, Az12, cz12))], false, true, by omega, by go_num, by rw [List.length_append]; rfl, rfl, rfl, (by show _ ≤ _; rw [List.length_append]; have := HM8.out.1; simp only [List.length_singleton]; omega), (fun h => by rw [List.length_append]; have := HM8.out.2 (by first | exact h | trivial); simp only [List.length_singleton]; omega), (by show _ = _; rw [HSN.out, HVS.out, ← Bool.and_assoc, ← HQ2.out]; show _ = (true && decide ((b.put [(x, t)]).valid = 0)); rw [← HU.out, ← HVA.out]; simp [v0]), HSPN.out _ (by show (_, _) = (_, _); rw [HU.out]), HB5.out, by rw [List.length_append]; exact HROW5.out⟩
        case measure => simp [intOf]; omega
     ·skip
      have q1 : decide (cq < 0) = false := decide_eq_false (by omega);go_wp2_with fail
      go_quiet_grown ((go_at_call 41; exact qaj (CK.out _ (HZB.out _ _))))
      have hz : Below wr.heap.size wr (grow (wr.drewN nq) osq) := (Lay.of_grow _ _).below;clear CK y0 y1 y2 y3 p0 p1 p2 p3 HZB;generalize grow (wr.drewN nq) osq = Z at *;have hzs := hz.size;have HBZ := Lib.hid (HBW1.out.trans (hz.mono (by omega)));have HROWZ := Lib.hid (HROW.out.below hz); clear hz;have HM8 : Hid (it2.length ≤ k + 1 ∧ (false = false → it2.length ≤ k)) := ⟨HML.out, fun _ => HMD.out (by first | rfl | trivial)⟩;have HSPN : Hid (∀ Y : IB, Y.bd = putB x t (v, b) → qcn (x, t) S ((it2 ++ [Y]).map IB.bd) false (k + 1)) := fun Y hY => by
       have h := HSP.out; unfold qcn at h ⊢;rw [List.map_append, h, HDR.out, List.append_assoc, List.map_cons, hY];simp only [Bool.false_eq_true, if_false];rw [insB_ge3 (show 0 ≤ (x, t).1.cmp (putB x t (v, b)).1 by show 0 ≤ x.cmp v; rw [← HCQ.out]; exact h0)];rfl
      have HBWZ : Hid (Below w.heap.size w Z) := HT1.out.bel.trans (HBZ.out.mono (by omega));have hwz := HBZ.out.size;have HBW0 : Hid (Below w.heap.size w Z.drew) := HBWZ.out.drew;have HB0 : Hid (Below Z.heap.size Z Z.drew) := (Below.refl _ _).drew;have HSD : Hid (Z.drew.heap.size = Z.heap.size) := rfl;obtain ⟨x0, x1, x2, x3, xf⟩ := qao x ((HBZ.out.block _ (by omega)).trans HT1.out.one);obtain ⟨t0, t1, t2, t3, tf⟩ := qao t ((HBZ.out.block _ (by omega)).trans HT1.out.two);have k0 := (HCE.out _ HBWZ.out _).trans M0.out;have k1 := (HCE.out _ HBWZ.out _).trans M1.out;have k2 := (HCE.out _ HBWZ.out _).trans M2.out;have k3 := (HCE.out _ HBWZ.out _).trans M3.out;have k4 := (HCE.out _ HBWZ.out _).trans M4.out;have k5 := (HCE.out _ HBWZ.out _).trans M5.out;have k6 := (HCE.out _ HBWZ.out _).trans M6.out;have k7 := (HCE.out _ HBWZ.out _).trans M7.out;go_wp2_with fail
      refine qa0 (fun a0 a' w' => ∃ pb Az12 cz12, a' = (((((((((((((((a0.put (some 83) (.slice (some ⟨kb, off, none⟩) s.length Sc)).put (some 84) (.int .i64 k)).put (some 85) (.pointer (some ⟨kb, off + k * 8, none⟩))).put (some 86) (.pointer (some ⟨kb, off + k * 8, none⟩))).put (some 87) (.agg #[.int .i64 v.kind, .string v.name, .int .i64 v.sort, .slice A1 v.kids.length c1])).put (some 88) (.slice (some ⟨kb, off, none⟩) s.length Sc)).put (some 89) (.int .i64 k)).put (some 90) (.pointer (some ⟨kb, off + k * 8, none⟩))).put (some 91) (.pointer (some ⟨kb, off + k * 8 + 4, none⟩))).put (some 92) (.agg #[.int .i64 b.kind, .string b.name, .int .i64 b.sort, .slice A2 b.kids.length c2])).put (some 93) (.agg #[.int .i64 x.kind, .string x.name, .int .i64 x.sort, .slice A x.kids.length c])).put (some 94) (.agg #[.int .i64 t.kind, .string t.name, .int .i64 t.sort, .slice A' t.kids.length c'])).put (some 95) (.agg #[.int .i64 u.kind, .string u.name, .int .i64 u.sort, .slice Az12 u.kids.length cz12])).put (some 96) (.agg #[.int .i64 v.kind, .string v.name, .int .i64 v.sort, .slice A1 v.kids.length c1, .int .i64 u.kind, .string u.name, .int .i64 u.sort, .slice Az12 u.kids.length cz12])).put (some 18) (.pointer (some ⟨pb, 0, none⟩))) ∧
       w'.heap[pb]? = some (.cells #[.int .i64 v.kind, .string v.name, .int .i64 v.sort, .slice A1 v.kids.length c1, .int .i64 u.kind, .string u.name, .int .i64 u.sort, .slice Az12 u.kids.length cz12] 48 (0, 0)) ∧ RepP w' (fun b => b < w.heap.size ∨ (Z.heap.size ≤ b ∧ b < w'.heap.size ∧ b ≠ pb)) u Az12 cz12 ∧ Below Z.heap.size Z w' ∧ Z.heap.size ≤ pb) ?_ ?_
      ·skip
       refine qai (fun Y => Below Z.drew.heap.size Z.drew Y) 15 (.held 0 (.held 1 (.held 2 (.held 3 (.held 4 (.held 5 (.held 6 (.held 7 (.held 8 (.held 9 (.held 10 (.held 11 (.two 12 14 (.held 13 (.op 14 (.op 15 .nil))) (.op 12 (.held 13 (.op 15 .nil)))))))))))))))) mixed (by kernel_rfl) ?_;have k0 : Z.drew.cell? _ = _ := k0;have k1 : Z.drew.cell? _ = _ := k1;have k2 : Z.drew.cell? _ = _ := k2;have k3 : Z.drew.cell? _ = _ := k3;have k4 : Z.drew.cell? _ = _ := k4;have k5 : Z.drew.cell? _ = _ := k5;have k6 : Z.drew.cell? _ = _ := k6;have k7 : Z.drew.cell? _ = _ := k7;have x0 : Z.drew.cell? _ = _ := x0;have x1 : Z.drew.cell? _ = _ := x1;have x2 : Z.drew.cell? _ = _ := x2;have x3 : Z.drew.cell? _ = _ := x3;have t0 : Z.drew.cell? _ = _ := t0;have t1 : Z.drew.cell? _ = _ := t1;have t2 : Z.drew.cell? _ = _ := t2;have t3 : Z.drew.cell? _ = _ := t3;generalize Z.drew = D at *
       have hbD0 : Below D.heap.size D D := Below.refl _ _;refine qab (v := .slice (some ⟨kb, off, none⟩) s.length Sc) rfl rfl (fun _ _ _ h => nomatch h.1) (Below.refl _ _) (fun Y hY => by
        (try simp only [Act.put]); go_simp) ?_
       refine qab (v := .int .i64 k) rfl rfl (fun _ _ _ h => nomatch h.1) (Below.refl _ _) (fun Y hY => by
        (try simp only [Act.put]); go_simp) ?_
       refine qab (v := .pointer (some ⟨kb, off + k * 8, none⟩)) rfl rfl (fun _ _ _ h => nomatch h.1) (Below.refl _ _) (fun Y hY => by
        (try simp only [Act.put]); go_simp) ?_
       refine qab (v := .pointer (some ⟨kb, off + k * 8, none⟩)) rfl rfl (fun _ _ _ h => nomatch h.1) (Below.refl _ _) (fun Y hY => by
        (try simp only [Act.put]); go_simp) ?_
       refine qab (v := .agg #[.int .i64 v.kind, .string v.name, .int .i64 v.sort, .slice A1 v.kids.length c1]) rfl rfl (fun _ _ _ h => nomatch h.1) (Below.refl _ _) (fun Y hY => by
        have z0 := (hY.cell (p := ⟨kb, off + k * 8, none⟩) (by show kb < _; have := HSD.out; omega)).trans k0;have z1 := (hY.cell (p := ⟨kb, off + k * 8 + 1, none⟩) (by show kb < _; have := HSD.out; omega)).trans k1;have z2 := (hY.cell (p := ⟨kb, off + k * 8 + 2, none⟩) (by show kb < _; have := HSD.out; omega)).trans k2;have z3 := (hY.cell (p := ⟨kb, off + k * 8 + 3, none⟩) (by show kb < _; have := HSD.out; omega)).trans k3
        (try simp only [Act.put]); go_simp) ?_
       refine qab (v := .slice (some ⟨kb, off, none⟩) s.length Sc) rfl rfl (fun _ _ _ h => nomatch h.1) (Below.refl _ _) (fun Y hY => by
        (try simp only [Act.put]); go_simp) ?_
       refine qab (v := .int .i64 k) rfl rfl (fun _ _ _ h => nomatch h.1) (Below.refl _ _) (fun Y hY => by
        (try simp only [Act.put]); go_simp) ?_
       refine qab (v := .pointer (some ⟨kb, off + k * 8, none⟩)) rfl rfl (fun _ _ _ h => nomatch h.1) (Below.refl _ _) (fun Y hY => by
        (try simp only [Act.put]); go_simp) ?_
       refine qab (v := .pointer (some ⟨kb, off + k * 8 + 4, none⟩)) rfl rfl (fun _ _ _ h => nomatch h.1) (Below.refl _ _) (fun Y hY => by
        (try simp only [Act.put]); go_simp) ?_
       refine qab (v := .agg #[.int .i64 b.kind, .string b.name, .int .i64 b.sort, .slice A2 b.kids.length c2]) rfl rfl (fun _ _ _ h => nomatch h.1) (Below.refl _ _) (fun Y hY => by
        have z0 := (hY.cell (p := ⟨kb, off + k * 8 + 4, none⟩) (by show kb < _; have := HSD.out; omega)).trans k4;have z1 := (hY.cell (p := ⟨kb, off + k * 8 + 4 + 1, none⟩) (by show kb < _; have := HSD.out; omega)).trans k5;have z2 := (hY.cell (p := ⟨kb, off + k * 8 + 4 + 2, none⟩) (by show kb < _; have := HSD.out; omega)).trans k6;have z3 := (hY.cell (p := ⟨kb, off + k * 8 + 4 + 3, none⟩) (by show kb < _; have := HSD.out; omega)).trans k7
        (try simp only [Act.put]); go_simp) ?_
       refine qab (v := .agg #[.int .i64 x.kind, .string x.name, .int .i64 x.sort, .slice A x.kids.length c]) rfl rfl (fun _ _ _ h => nomatch h.1) (Below.refl _ _) (fun Y hY => by
        have z0 := (hY.cell (p := ⟨w.heap.size, 0, none⟩) (by show w.heap.size < _; have := HSD.out; omega)).trans x0;have z1 := (hY.cell (p := ⟨w.heap.size, 1, none⟩) (by show w.heap.size < _; have := HSD.out; omega)).trans x1;have z2 := (hY.cell (p := ⟨w.heap.size, 2, none⟩) (by show w.heap.size < _; have := HSD.out; omega)).trans x2;have z3 := (hY.cell (p := ⟨w.heap.size, 3, none⟩) (by show w.heap.size < _; have := HSD.out; omega)).trans x3
        (try simp only [Act.put]); go_simp) ?_
       refine qab (v := .agg #[.int .i64 t.kind, .string t.name, .int .i64 t.sort, .slice A' t.kids.length c']) rfl rfl (fun _ _ _ h => nomatch h.1) (Below.refl _ _) (fun Y hY => by
        have z0 := (hY.cell (p := ⟨w.heap.size + 1, 0, none⟩) (by show w.heap.size + 1 < _; have := HSD.out; omega)).trans t0;have z1 := (hY.cell (p := ⟨w.heap.size + 1, 1, none⟩) (by show w.heap.size + 1 < _; have := HSD.out; omega)).trans t1;have z2 := (hY.cell (p := ⟨w.heap.size + 1, 2, none⟩) (by show w.heap.size + 1 < _; have := HSD.out; omega)).trans t2;have z3 := (hY.cell (p := ⟨w.heap.size + 1, 3, none⟩) (by show w.heap.size + 1 < _; have := HSD.out; omega)).trans t3
        (try simp only [Act.put]); go_simp) ?_
       simp only [Act.put, List.setIfInBounds_toArray];clear k0 k1 k2 k3 k4 k5 k6 k7 x0 x1 x2 x3 xf t0 t1 t2 t3 tf;refine mix_two ?_ ?_
       ·skip
        refine mix_op rfl rfl (fun K hK => ?_);go_wp2_with fail
        refine (CP.out b A2 c2 D HV2.out (qac HBW0.out hbD0 HBW0.out.size) HR2.out).mono ?_;rw [← HU.out];rintro e W1 ⟨Az12, cz12, rfl, hre12, hbc⟩;have hsz1 : D.heap.size ≤ W1.heap.size := hbc.size;have hb1 := qac hbD0 hbc hbD0.size;refine hK _ _ ⟨fun _ => hb1, ?_⟩; clear hK K hbc;simp only [Tm.val];refine qab (v := .agg #[.int .i64 v.kind, .string v.name, .int .i64 v.sort, .slice A1 v.kids.length c1, .int .i64 u.kind, .string u.name, .int .i64 u.sort, .slice Az12 u.kids.length cz12]) rfl rfl (fun _ _ _ h => nomatch h.1) hb1 (fun Y hY => by (try simp only [Act.put]); go_simp) ?_;simp only [Act.put, List.setIfInBounds_toArray];refine mix_op rfl rfl (fun K hK => ?_);go_wp2_with fail
        obtain ⟨W2, hM⟩ : ∃ M, M = W1.alloc (.cells #[.int .i64 0, .string ⟨#[]⟩, .int .i64 0, .slice none 0 0, .int .i64 0, .string ⟨#[]⟩, .int .i64 0, .slice none 0 0] 48) := ⟨_, rfl⟩;have hbc : Below W1.heap.size W1 W2 := by rw [hM]; exact qah (Nat.le_refl _) _
        have hsz2 : W1.heap.size < W2.heap.size := by rw [hM]; simp
        have hzb : W2.heap[W1.heap.size]? = some (.cells #[.int .i64 0, .string ⟨#[]⟩, .int .i64 0, .slice none 0 0, .int .i64 0, .string ⟨#[]⟩, .int .i64 0, .slice none 0 0] 48 (0, 0)) := by rw [hM]; exact heap_alloc_new _ _
        rw [← hM];clear hM;have hb2 := qac hb1 hbc hb1.size;have hre12 := RepP.mono (fun _ h => h) (fun p hp => hbc.cell (by rcases hp with hp | hp <;> (have := HBW0.out.size; omega))) _ _ _ hre12;refine ⟨fun _ => hb2, ?_⟩;clear hbc;obtain ⟨y0, y1, y2, y3, y4, y5, y6, y7⟩ := qar hzb;have yf := qbz hzb;refine mix_op rfl rfl (fun K hK => ?_);go_wp2_with fail
        refine ⟨fun h => absurd h (by decide), qas ?_⟩;clear y0 y1 y2 y3 y4 y5 y6 y7 yf;have hsd := HSD.out;have hsw := HBW0.out.size;refine ⟨rfl, W1.heap.size, Az12, cz12, (by kernel_rfl), qbx hzb, ?_, ?_, by omega⟩
        ·refine RepP.mono ?_ ?_ _ _ _ hre12
         ·rintro b (h | ⟨h1, h2⟩)
          ·exact .inl h
          ·exact .inr ⟨by omega, by simp [World.setCell]; omega, by omega⟩
         ·intro p hp;have hne : p.block ≠ W1.heap.size := by rcases hp with hp | hp <;> omega
          have hq : ∀ o, (⟨W1.heap.size, o, none⟩ : Addr) ≠ p := fun o e => hne (by rw [← e])
          iterate 8 rw [World.cell?_setCell_other _ _ _ _ (hq _)]
        ·refine qac HB0.out ?_ HB0.out.size
         iterate 8 refine Below.setCell ?_ (by show D.heap.size ≤ W1.heap.size; omega) _
         exact hb2
       ·skip
        refine mix_op rfl rfl (fun K hK => ?_);go_wp2_with fail
        obtain ⟨W1, hM⟩ : ∃ M, M = D.alloc (.cells #[.int .i64 0, .string ⟨#[]⟩, .int .i64 0, .slice none 0 0, .int .i64 0, .string ⟨#[]⟩, .int .i64 0, .slice none 0 0] 48) := ⟨_, rfl⟩;have hbc : Below D.heap.size D W1 := by rw [hM]; exact qah (Nat.le_refl _) _
        have hsz1 : D.heap.size < W1.heap.size := by rw [hM]; simp
        have hzb : W1.heap[D.heap.size]? = some (.cells #[.int .i64 0, .string ⟨#[]⟩, .int .i64 0, .slice none 0 0, .int .i64 0, .string ⟨#[]⟩, .int .i64 0, .slice none 0 0] 48 (0, 0)) := by rw [hM]; exact heap_alloc_new _ _
        rw [← hM];clear hM;have hb1 := qac hbD0 hbc hbD0.size;refine ⟨fun _ => hb1, ?_⟩;clear hbc;refine mix_op rfl rfl (fun K hK => ?_);go_wp2_with fail
        refine (CP.out b A2 c2 W1 HV2.out (qac HBW0.out hb1 HBW0.out.size) HR2.out).mono ?_;rw [← HU.out];rintro e W2 ⟨Az12, cz12, rfl, hre12, hbc⟩;have hsz2 : W1.heap.size ≤ W2.heap.size := hbc.size;have hb2 := qac hb1 hbc hb1.size;have hzb := (hbc.block _ (by omega)).trans hzb;refine hK _ _ ⟨fun _ => hb2, ?_⟩; clear hK K hbc;simp only [Tm.val];refine qab (v := .agg #[.int .i64 v.kind, .string v.name, .int .i64 v.sort, .slice A1 v.kids.length c1, .int .i64 u.kind, .string u.name, .int .i64 u.sort, .slice Az12 u.kids.length cz12]) rfl rfl (fun _ _ _ h => nomatch h.1) hb2 (fun Y hY => by (try simp only [Act.put]); go_simp) ?_;simp only [Act.put, List.setIfInBounds_toArray];obtain ⟨y0, y1, y2, y3, y4, y5, y6, y7⟩ := qar hzb;have yf := qbz hzb;refine mix_op rfl rfl (fun K hK => ?_);go_wp2_with fail
        refine ⟨fun h => absurd h (by decide), qas ?_⟩;clear y0 y1 y2 y3 y4 y5 y6 y7 yf;have hsd := HSD.out;have hsw := HBW0.out.size;refine ⟨rfl, D.heap.size, Az12, cz12, (by kernel_rfl), qbx hzb, ?_, ?_, by omega⟩
        ·refine RepP.mono ?_ ?_ _ _ _ hre12
         ·rintro b (h | ⟨h1, h2⟩)
          ·exact .inl h
          ·exact .inr ⟨by omega, by simp [World.setCell]; omega, by omega⟩
         ·intro p hp;have hne : p.block ≠ D.heap.size := by rcases hp with hp | hp <;> omega
          have hq : ∀ o, (⟨D.heap.size, o, none⟩ : Addr) ≠ p := fun o e => hne (by rw [← e])
          iterate 8 rw [World.cell?_setCell_other _ _ _ _ (hq _)]
        ·refine qac HB0.out ?_ HB0.out.size
         iterate 8 refine Below.setCell ?_ (by show D.heap.size ≤ D.heap.size; omega) _
         exact hb2
      rintro a' W3 ⟨pb, Az12, cz12, rfl, hpb, hr12, hbW, hpbl⟩
      rename_i K hK
      show K _ _;refine hK _ _ ?_;clear hK K k0 k1 k2 k3 k4 k5 k6 k7 x0 x1 x2 x3 xf t0 t1 t2 t3 tf HB0 HSD HBW0;have hpl3 := (Array.getElem?_eq_some_iff.1 hpb).1;have hs3 := hbW.size;have HB3 := Lib.hid (HBZ.out.trans (hbW.mono (by omega)));have HBW3 := Lib.hid (HBWZ.out.trans (hbW.mono (by omega)));have HROW3 := Lib.hid (HROWZ.out.below hbW);have HOWN := Lib.hid HROWZ.out.lt;have HPB := Lib.hid hpb; clear hpb;have HR12 := Lib.hid hr12; clear hr12 hbW HROWZ HBZ HBWZ;cases q2 with
      | false =>
       obtain ⟨y0, y1, y2, y3, y4, y5, y6, y7⟩ := qar HPB.out;obtain ⟨g, cn, w5, hap, hrow5, hbel5, hblk5, hsz5, -⟩ := HROW3.out.more1 qby (by omega) ((v, A1, c1), (u, Az12, cz12)) (RepP.mono (fun b hb => ⟨.inl hb, by have : b < w.heap.size := hb; omega, fun e => by have : b < w.heap.size := hb; have h1 := HOWN.out b e; omega⟩) (fun p hp => HBW3.out.cell hp) _ _ _ HR1.out)
        (RepP.mono (fun b hb => ⟨by rcases hb with h | h <;> omega, by rcases hb with h | h <;> omega, fun e => by have h1 := HOWN.out b e; rcases hb with h | h <;> omega⟩) (fun _ _ => rfl) _ _ _ HR12.out) (by have := HM8.out.1; omega)
       have HB5 := Lib.hid (hbel5 _ _ HB3.out (Nat.le_refl _));have HROW5 := Lib.hid hrow5; clear hrow5 hbel5 hblk5 hsz5;dsimp only at hap;go_wp2_with (at_builtin; refine qag rfl _ _ rfl rfl rfl hap ?_)
       go_roundw
       case rel => exact ⟨k + 1, cn, some ⟨g, 0, none⟩, it2 ++ [((v, A1, c1), (u, Az12, cz12))], false, false, by omega, by go_num, by rw [List.length_append]; rfl, rfl, rfl, (by show _ ≤ _; rw [List.length_append]; have := HM8.out.1; simp only [List.length_singleton]; omega), (fun h => by rw [List.length_append]; have := HM8.out.2 (by first | exact h | trivial); simp only [List.length_singleton]; omega), (by show _ = _; rw [HSN.out, HVS.out, ← Bool.and_assoc, ← HQ2.out]; rfl), HSPN.out _ (by show (_, _) = (_, _); rw [HU.out]), HB5.out, by rw [List.length_append]; exact HROW5.out⟩
       case measure => simp [intOf]; omega
      | true =>
       have VA := qcr u Az12 cz12 W3 hz2 (RepP.mono (fun b hb => by rcases hb with h | h <;> (show b < _; omega)) (fun _ _ => rfl) _ _ _ HR12.out);obtain ⟨va, hva⟩ : ∃ v, v = u.valid := ⟨_, rfl⟩;rw [← hva] at VA;have HVA := Lib.hid hva; clear hva;simp only [Tm.val] at VA;have VA := Lib.hid VA;obtain ⟨y0, y1, y2, y3, y4, y5, y6, y7⟩ := qar HPB.out;go_wp2_with fail
       refine VA.out.mono ?_; clear VA y0 y1 y2 y3 y4 y5 y6 y7;rintro e W4 ⟨rfl, hl4⟩;have hs4 := hl4.below.size;have HPB4 := Lib.hid ((hl4.below.block _ (by omega)).trans HPB.out);have HB4 := Lib.hid (HB3.out.trans (hl4.below.mono (by omega)));have HBW4 := Lib.hid (HBW3.out.trans (hl4.below.mono (by omega)));have HROW4 := Lib.hid (HROW3.out.below hl4.below);have HR124 : Hid (RepP W4 (fun b => b < w.heap.size ∨ (Z.heap.size ≤ b ∧ b < W3.heap.size ∧ b ≠ pb)) u Az12 cz12) := RepP.mono (fun _ h => h) (fun p hp => hl4.below.cell (by rcases hp with h | h <;> omega)) _ _ _ HR12.out;clear HPB HB3 HBW3 HROW3 HR12 hl4;have HPB := HPB4; have HB3 := HB4; have HBW3 := HBW4; have HROW3 := HROW4; have HR12 := HR124;obtain ⟨y0, y1, y2, y3, y4, y5, y6, y7⟩ := qar HPB.out;rcases eq_facts va 0 with ⟨v0, v1, v2⟩ | ⟨v0, v1, v2⟩
       ·subst v0;obtain ⟨y0, y1, y2, y3, y4, y5, y6, y7⟩ := qar HPB.out;obtain ⟨g, cn, w5, hap, hrow5, hbel5, hblk5, hsz5, -⟩ := HROW3.out.more1 qby (by omega) ((v, A1, c1), (u, Az12, cz12)) (RepP.mono (fun b hb => ⟨.inl hb, by have : b < w.heap.size := hb; omega, fun e => by have : b < w.heap.size := hb; have h1 := HOWN.out b e; omega⟩) (fun p hp => HBW3.out.cell hp) _ _ _ HR1.out)
         (RepP.mono (fun b hb => ⟨by rcases hb with h | h <;> omega, by rcases hb with h | h <;> omega, fun e => by have h1 := HOWN.out b e; rcases hb with h | h <;> omega⟩) (fun _ _ => rfl) _ _ _ HR12.out) (by have := HM8.out.1; omega)
        have HB5 := Lib.hid (hbel5 _ _ HB3.out (Nat.le_refl _));have HROW5 := Lib.hid hrow5; clear hrow5 hbel5 hblk5 hsz5;dsimp only at hap;go_wp2_with (at_builtin; refine qag rfl _ _ rfl rfl rfl hap ?_)
        go_roundw
        case rel => exact ⟨k + 1, cn, some ⟨g, 0, none⟩, it2 ++ [((v, A1, c1), (u, Az12, cz12))], true, false, by omega, by go_num, by rw [List.length_append]; rfl, rfl, rfl, (by show _ ≤ _; rw [List.length_append]; have := HM8.out.1; simp only [List.length_singleton]; omega), (fun h => by rw [List.length_append]; have := HM8.out.2 (by first | exact h | trivial); simp only [List.length_singleton]; omega), (by show _ = _; rw [HSN.out, HVS.out, ← Bool.and_assoc, ← HQ2.out]; show _ = (true && decide ((b.put [(x, t)]).valid = 0)); rw [← HU.out, ← HVA.out]; rfl), HSPN.out _ (by show (_, _) = (_, _); rw [HU.out]), HB5.out, by rw [List.length_append]; exact HROW5.out⟩
        case measure => simp [intOf]; omega
       ·skip
        obtain ⟨y0, y1, y2, y3, y4, y5, y6, y7⟩ := qar HPB.out;obtain ⟨g, cn, w5, hap, hrow5, hbel5, hblk5, hsz5, -⟩ := HROW3.out.more1 qby (by omega) ((v, A1, c1), (u, Az12, cz12)) (RepP.mono (fun b hb => ⟨.inl hb, by have : b < w.heap.size := hb; omega, fun e => by have : b < w.heap.size := hb; have h1 := HOWN.out b e; omega⟩) (fun p hp => HBW3.out.cell hp) _ _ _ HR1.out)
         (RepP.mono (fun b hb => ⟨by rcases hb with h | h <;> omega, by rcases hb with h | h <;> omega, fun e => by have h1 := HOWN.out b e; rcases hb with h | h <;> omega⟩) (fun _ _ => rfl) _ _ _ HR12.out) (by have := HM8.out.1; omega)
        have HB5 := Lib.hid (hbel5 _ _ HB3.out (Nat.le_refl _));have HROW5 := Lib.hid hrow5; clear hrow5 hbel5 hblk5 hsz5;dsimp only at hap;go_wp2_with (at_builtin; refine qag rfl _ _ rfl rfl rfl hap ?_)
        go_roundw
        case rel => exact ⟨k + 1, cn, some ⟨g, 0, none⟩, it2 ++ [((v, A1, c1), (u, Az12, cz12))], false, false, by omega, by go_num, by rw [List.length_append]; rfl, rfl, rfl, (by show _ ≤ _; rw [List.length_append]; have := HM8.out.1; simp only [List.length_singleton]; omega), (fun h => by rw [List.length_append]; have := HM8.out.2 (by first | exact h | trivial); simp only [List.length_singleton]; omega), (by show _ = _; rw [HSN.out, HVS.out, ← Bool.and_assoc, ← HQ2.out]; show _ = (true && decide ((b.put [(x, t)]).valid = 0)); rw [← HU.out, ← HVA.out]; simp [v0]), HSPN.out _ (by show (_, _) = (_, _); rw [HU.out]), HB5.out, by rw [List.length_append]; exact HROW5.out⟩
        case measure => simp [intOf]; omega
     ·skip
      have q1 : decide (cq < 0) = true := decide_eq_true h0;go_wp2_with fail
      go_quiet_grown ((go_at_call 41; exact qaj (CK.out _ (HZB.out _ _))))
      have hz : Below wr.heap.size wr (grow (wr.drewN nq) osq) := (Lay.of_grow _ _).below;clear CK y0 y1 y2 y3 p0 p1 p2 p3 HZB;generalize grow (wr.drewN nq) osq = Z at *;have hzs := hz.size;have HBZ0 := Lib.hid (HBW1.out.trans (hz.mono (by omega)));have hwz0 := HBZ0.out.size;have HROWZ0 := Lib.hid (HROW.out.below hz);have hzw := HBWW.out.trans (hz.mono (by omega)); clear hz;obtain ⟨d0, d1, d2, d3, -⟩ := qao x ((HBZ0.out.block _ (by omega)).trans HT1.out.one);obtain ⟨e0, e1, e2, e3, -⟩ := qao t ((HBZ0.out.block _ (by omega)).trans HT1.out.two);have hm0 := HMD.out (by first | rfl | trivial)
      obtain ⟨g9, cn9, w9, hap, hrow9, hbel9, hblk9, hsz9, -⟩ := HROWZ0.out.more1 qby (by omega) ((x, A, c), (t, A', c')) (RepP.mono (fun b hb => ⟨.inl hb, by have : b < w.heap.size := hb; omega, fun e => by have : b < w.heap.size := hb; have h1 := HROWZ0.out.lt b e; omega⟩) (fun _ _ => rfl) _ _ _ (HTX.out Z hzw))
       (RepP.mono (fun b hb => ⟨.inl hb, by have : b < w.heap.size := hb; omega, fun e => by have : b < w.heap.size := hb; have h1 := HROWZ0.out.lt b e; omega⟩) (fun _ _ => rfl) _ _ _ (HTT.out Z hzw)) (by omega)
      have HBZ := Lib.hid (hbel9 _ _ HBZ0.out (Nat.le_refl _));obtain ⟨m8, hm8⟩ : ∃ m8, m8 = it2 ++ [(((x, A, c), (t, A', c')) : IB)] := ⟨_, rfl⟩;have hl9 : m8.length = it2.length + 1 := by rw [hm8, List.length_append]; rfl
      have HM8 : Hid (m8.length ≤ k + 1 ∧ (true = false → m8.length ≤ k)) := ⟨by rw [hl9]; omega, fun h => (by cases h)⟩;have HSPN : Hid (∀ Y : IB, Y.bd = putB x t (v, b) → qcn (x, t) S ((m8 ++ [Y]).map IB.bd) true (k + 1)) := fun Y hY => by
       have h := HSP.out; unfold qcn at h ⊢;rw [hm8, List.map_append, List.map_append, h, HDR.out, List.append_assoc, List.append_assoc, List.map_cons, List.map_cons, hY];simp only [Bool.false_eq_true, if_false, if_true];rw [insB_lt3 (show (x, t).1.cmp (putB x t (v, b)).1 < 0 by show x.cmp v < 0; rw [← HCQ.out]; exact h0)];rfl
      rw [← hm8, ← hl9] at hrow9;dsimp only at hap;rw [← hl9] at hap;have HROWZ := Lib.hid hrow9; clear hrow9 hbel9 hblk9 hzw HBZ0 HROWZ0;clear hm8 hl9;go_wp2_with (at_builtin; refine qag rfl _ _ rfl rfl rfl hap ?_)
      clear hap d0 d1 d2 d3 e0 e1 e2 e3;have HBWZ : Hid (Below w.heap.size w w9) := HT1.out.bel.trans (HBZ.out.mono (by omega));have hwz := HBZ.out.size;have HBW0 : Hid (Below w.heap.size w w9.drew) := HBWZ.out.drew;have HB0 : Hid (Below w9.heap.size w9 w9.drew) := (Below.refl _ _).drew;have HSD : Hid (w9.drew.heap.size = w9.heap.size) := rfl;obtain ⟨x0, x1, x2, x3, xf⟩ := qao x ((HBZ.out.block _ (by omega)).trans HT1.out.one);obtain ⟨t0, t1, t2, t3, tf⟩ := qao t ((HBZ.out.block _ (by omega)).trans HT1.out.two);have k0 := (HCE.out _ HBWZ.out _).trans M0.out;have k1 := (HCE.out _ HBWZ.out _).trans M1.out;have k2 := (HCE.out _ HBWZ.out _).trans M2.out;have k3 := (HCE.out _ HBWZ.out _).trans M3.out;have k4 := (HCE.out _ HBWZ.out _).trans M4.out;have k5 := (HCE.out _ HBWZ.out _).trans M5.out;have k6 := (HCE.out _ HBWZ.out _).trans M6.out
      have k7 := (HCE.out _ HBWZ.out _).trans M7.out;go_wp2_with fail
      refine qa0 (fun a0 a' w' => ∃ pb Az12 cz12, a' = (((((((((((((((a0.put (some 83) (.slice (some ⟨kb, off, none⟩) s.length Sc)).put (some 84) (.int .i64 k)).put (some 85) (.pointer (some ⟨kb, off + k * 8, none⟩))).put (some 86) (.pointer (some ⟨kb, off + k * 8, none⟩))).put (some 87) (.agg #[.int .i64 v.kind, .string v.name, .int .i64 v.sort, .slice A1 v.kids.length c1])).put (some 88) (.slice (some ⟨kb, off, none⟩) s.length Sc)).put (some 89) (.int .i64 k)).put (some 90) (.pointer (some ⟨kb, off + k * 8, none⟩))).put (some 91) (.pointer (some ⟨kb, off + k * 8 + 4, none⟩))).put (some 92) (.agg #[.int .i64 b.kind, .string b.name, .int .i64 b.sort, .slice A2 b.kids.length c2])).put (some 93) (.agg #[.int .i64 x.kind, .string x.name, .int .i64 x.sort, .slice A x.kids.length c])).put (some 94) (.agg #[.int .i64 t.kind, .string t.name, .int .i64 t.sort, .slice A' t.kids.length c'])).put (some 95) (.agg #[.int .i64 u.kind, .string u.name, .int .i64 u.sort, .slice Az12 u.kids.length cz12])).put (some 96) (.agg #[.int .i64 v.kind, .string v.name, .int .i64 v.sort, .slice A1 v.kids.length c1, .int .i64 u.kind, .string u.name, .int .i64 u.sort, .slice Az12 u.kids.length cz12])).put (some 18) (.pointer (some ⟨pb, 0, none⟩))) ∧
       w'.heap[pb]? = some (.cells #[.int .i64 v.kind, .string v.name, .int .i64 v.sort, .slice A1 v.kids.length c1, .int .i64 u.kind, .string u.name, .int .i64 u.sort, .slice Az12 u.kids.length cz12] 48 (0, 0)) ∧ RepP w' (fun b => b < w.heap.size ∨ (w9.heap.size ≤ b ∧ b < w'.heap.size ∧ b ≠ pb)) u Az12 cz12 ∧ Below w9.heap.size w9 w' ∧ w9.heap.size ≤ pb) ?_ ?_
      ·skip
       refine qai (fun Y => Below w9.drew.heap.size w9.drew Y) 15 (.held 0 (.held 1 (.held 2 (.held 3 (.held 4 (.held 5 (.held 6 (.held 7 (.held 8 (.held 9 (.held 10 (.held 11 (.two 12 14 (.held 13 (.op 14 (.op 15 .nil))) (.op 12 (.held 13 (.op 15 .nil)))))))))))))))) mixed (by kernel_rfl) ?_;have k0 : w9.drew.cell? _ = _ := k0;have k1 : w9.drew.cell? _ = _ := k1;have k2 : w9.drew.cell? _ = _ := k2;have k3 : w9.drew.cell? _ = _ := k3;have k4 : w9.drew.cell? _ = _ := k4;have k5 : w9.drew.cell? _ = _ := k5;have k6 : w9.drew.cell? _ = _ := k6;have k7 : w9.drew.cell? _ = _ := k7;have x0 : w9.drew.cell? _ = _ := x0;have x1 : w9.drew.cell? _ = _ := x1;have x2 : w9.drew.cell? _ = _ := x2;have x3 : w9.drew.cell? _ = _ := x3;have t0 : w9.drew.cell? _ = _ := t0;have t1 : w9.drew.cell? _ = _ := t1;have t2 : w9.drew.cell? _ = _ := t2;have t3 : w9.drew.cell? _ = _ := t3
       generalize w9.drew = D at *;have hbD0 : Below D.heap.size D D := Below.refl _ _;refine qab (v := .slice (some ⟨kb, off, none⟩) s.length Sc) rfl rfl (fun _ _ _ h => nomatch h.1) (Below.refl _ _) (fun Y hY => by
        (try simp only [Act.put]); go_simp) ?_
       refine qab (v := .int .i64 k) rfl rfl (fun _ _ _ h => nomatch h.1) (Below.refl _ _) (fun Y hY => by
        (try simp only [Act.put]); go_simp) ?_
       refine qab (v := .pointer (some ⟨kb, off + k * 8, none⟩)) rfl rfl (fun _ _ _ h => nomatch h.1) (Below.refl _ _) (fun Y hY => by
        (try simp only [Act.put]); go_simp) ?_
       refine qab (v := .pointer (some ⟨kb, off + k * 8, none⟩)) rfl rfl (fun _ _ _ h => nomatch h.1) (Below.refl _ _) (fun Y hY => by
        (try simp only [Act.put]); go_simp) ?_
       refine qab (v := .agg #[.int .i64 v.kind, .string v.name, .int .i64 v.sort, .slice A1 v.kids.length c1]) rfl rfl (fun _ _ _ h => nomatch h.1) (Below.refl _ _) (fun Y hY => by
        have z0 := (hY.cell (p := ⟨kb, off + k * 8, none⟩) (by show kb < _; have := HSD.out; omega)).trans k0;have z1 := (hY.cell (p := ⟨kb, off + k * 8 + 1, none⟩) (by show kb < _; have := HSD.out; omega)).trans k1;have z2 := (hY.cell (p := ⟨kb, off + k * 8 + 2, none⟩) (by show kb < _; have := HSD.out; omega)).trans k2;have z3 := (hY.cell (p := ⟨kb, off + k * 8 + 3, none⟩) (by show kb < _; have := HSD.out; omega)).trans k3
        (try simp only [Act.put]); go_simp) ?_
       refine qab (v := .slice (some ⟨kb, off, none⟩) s.length Sc) rfl rfl (fun _ _ _ h => nomatch h.1) (Below.refl _ _) (fun Y hY => by
        (try simp only [Act.put]); go_simp) ?_
       refine qab (v := .int .i64 k) rfl rfl (fun _ _ _ h => nomatch h.1) (Below.refl _ _) (fun Y hY => by
        (try simp only [Act.put]); go_simp) ?_
       refine qab (v := .pointer (some ⟨kb, off + k * 8, none⟩)) rfl rfl (fun _ _ _ h => nomatch h.1) (Below.refl _ _) (fun Y hY => by
        (try simp only [Act.put]); go_simp) ?_
       refine qab (v := .pointer (some ⟨kb, off + k * 8 + 4, none⟩)) rfl rfl (fun _ _ _ h => nomatch h.1) (Below.refl _ _) (fun Y hY => by
        (try simp only [Act.put]); go_simp) ?_
       refine qab (v := .agg #[.int .i64 b.kind, .string b.name, .int .i64 b.sort, .slice A2 b.kids.length c2]) rfl rfl (fun _ _ _ h => nomatch h.1) (Below.refl _ _) (fun Y hY => by
        have z0 := (hY.cell (p := ⟨kb, off + k * 8 + 4, none⟩) (by show kb < _; have := HSD.out; omega)).trans k4;have z1 := (hY.cell (p := ⟨kb, off + k * 8 + 4 + 1, none⟩) (by show kb < _; have := HSD.out; omega)).trans k5;have z2 := (hY.cell (p := ⟨kb, off + k * 8 + 4 + 2, none⟩) (by show kb < _; have := HSD.out; omega)).trans k6;have z3 := (hY.cell (p := ⟨kb, off + k * 8 + 4 + 3, none⟩) (by show kb < _; have := HSD.out; omega)).trans k7
        (try simp only [Act.put]); go_simp) ?_
       refine qab (v := .agg #[.int .i64 x.kind, .string x.name, .int .i64 x.sort, .slice A x.kids.length c]) rfl rfl (fun _ _ _ h => nomatch h.1) (Below.refl _ _) (fun Y hY => by
        have z0 := (hY.cell (p := ⟨w.heap.size, 0, none⟩) (by show w.heap.size < _; have := HSD.out; omega)).trans x0;have z1 := (hY.cell (p := ⟨w.heap.size, 1, none⟩) (by show w.heap.size < _; have := HSD.out; omega)).trans x1;have z2 := (hY.cell (p := ⟨w.heap.size, 2, none⟩) (by show w.heap.size < _; have := HSD.out; omega)).trans x2;have z3 := (hY.cell (p := ⟨w.heap.size, 3, none⟩) (by show w.heap.size < _; have := HSD.out; omega)).trans x3
        (try simp only [Act.put]); go_simp) ?_
       refine qab (v := .agg #[.int .i64 t.kind, .string t.name, .int .i64 t.sort, .slice A' t.kids.length c']) rfl rfl (fun _ _ _ h => nomatch h.1) (Below.refl _ _) (fun Y hY => by
        have z0 := (hY.cell (p := ⟨w.heap.size + 1, 0, none⟩) (by show w.heap.size + 1 < _; have := HSD.out; omega)).trans t0;have z1 := (hY.cell (p := ⟨w.heap.size + 1, 1, none⟩) (by show w.heap.size + 1 < _; have := HSD.out; omega)).trans t1;have z2 := (hY.cell (p := ⟨w.heap.size + 1, 2, none⟩) (by show w.heap.size + 1 < _; have := HSD.out; omega)).trans t2;have z3 := (hY.cell (p := ⟨w.heap.size + 1, 3, none⟩) (by show w.heap.size + 1 < _; have := HSD.out; omega)).trans t3
        (try simp only [Act.put]); go_simp) ?_
       simp only [Act.put, List.setIfInBounds_toArray];clear k0 k1 k2 k3 k4 k5 k6 k7 x0 x1 x2 x3 xf t0 t1 t2 t3 tf;refine mix_two ?_ ?_
       ·skip
        refine mix_op rfl rfl (fun K hK => ?_);go_wp2_with fail
        refine (CP.out b A2 c2 D HV2.out (qac HBW0.out hbD0 HBW0.out.size) HR2.out).mono ?_;rw [← HU.out];rintro e W1 ⟨Az12, cz12, rfl, hre12, hbc⟩;have hsz1 : D.heap.size ≤ W1.heap.size := hbc.size;have hb1 := qac hbD0 hbc hbD0.size;refine hK _ _ ⟨fun _ => hb1, ?_⟩; clear hK K hbc;simp only [Tm.val];refine qab (v := .agg #[.int .i64 v.kind, .string v.name, .int .i64 v.sort, .slice A1 v.kids.length c1, .int .i64 u.kind, .string u.name, .int .i64 u.sort, .slice Az12 u.kids.length cz12]) rfl rfl (fun _ _ _ h => nomatch h.1) hb1 (fun Y hY => by (try simp only [Act.put]); go_simp) ?_;simp only [Act.put, List.setIfInBounds_toArray];refine mix_op rfl rfl (fun K hK => ?_);go_wp2_with fail
        obtain ⟨W2, hM⟩ : ∃ M, M = W1.alloc (.cells #[.int .i64 0, .string ⟨#[]⟩, .int .i64 0, .slice none 0 0, .int .i64 0, .string ⟨#[]⟩, .int .i64 0, .slice none 0 0] 48) := ⟨_, rfl⟩;have hbc : Below W1.heap.size W1 W2 := by rw [hM]; exact qah (Nat.le_refl _) _
        have hsz2 : W1.heap.size < W2.heap.size := by rw [hM]; simp
        have hzb : W2.heap[W1.heap.size]? = some (.cells #[.int .i64 0, .string ⟨#[]⟩, .int .i64 0, .slice none 0 0, .int .i64 0, .string ⟨#[]⟩, .int .i64 0, .slice none 0 0] 48 (0, 0)) := by rw [hM]; exact heap_alloc_new _ _
        rw [← hM];clear hM;have hb2 := qac hb1 hbc hb1.size;have hre12 := RepP.mono (fun _ h => h) (fun p hp => hbc.cell (by rcases hp with hp | hp <;> (have := HBW0.out.size; omega))) _ _ _ hre12;refine ⟨fun _ => hb2, ?_⟩;clear hbc;obtain ⟨y0, y1, y2, y3, y4, y5, y6, y7⟩ := qar hzb;have yf := qbz hzb;refine mix_op rfl rfl (fun K hK => ?_);go_wp2_with fail
        refine ⟨fun h => absurd h (by decide), qas ?_⟩;clear y0 y1 y2 y3 y4 y5 y6 y7 yf;have hsd := HSD.out;have hsw := HBW0.out.size;refine ⟨rfl, W1.heap.size, Az12, cz12, (by kernel_rfl), qbx hzb, ?_, ?_, by omega⟩
        ·refine RepP.mono ?_ ?_ _ _ _ hre12
         ·rintro b (h | ⟨h1, h2⟩)
          ·exact .inl h
          ·exact .inr ⟨by omega, by simp [World.setCell]; omega, by omega⟩
         ·intro p hp;have hne : p.block ≠ W1.heap.size := by rcases hp with hp | hp <;> omega
          have hq : ∀ o, (⟨W1.heap.size, o, none⟩ : Addr) ≠ p := fun o e => hne (by rw [← e])
          iterate 8 rw [World.cell?_setCell_other _ _ _ _ (hq _)]
        ·refine qac HB0.out ?_ HB0.out.size
         iterate 8 refine Below.setCell ?_ (by show D.heap.size ≤ W1.heap.size; omega) _
         exact hb2
       ·skip
        refine mix_op rfl rfl (fun K hK => ?_);go_wp2_with fail
        obtain ⟨W1, hM⟩ : ∃ M, M = D.alloc (.cells #[.int .i64 0, .string ⟨#[]⟩, .int .i64 0, .slice none 0 0, .int .i64 0, .string ⟨#[]⟩, .int .i64 0, .slice none 0 0] 48) := ⟨_, rfl⟩;have hbc : Below D.heap.size D W1 := by rw [hM]; exact qah (Nat.le_refl _) _
        have hsz1 : D.heap.size < W1.heap.size := by rw [hM]; simp
        have hzb : W1.heap[D.heap.size]? = some (.cells #[.int .i64 0, .string ⟨#[]⟩, .int .i64 0, .slice none 0 0, .int .i64 0, .string ⟨#[]⟩, .int .i64 0, .slice none 0 0] 48 (0, 0)) := by rw [hM]; exact heap_alloc_new _ _
        rw [← hM];clear hM;have hb1 := qac hbD0 hbc hbD0.size;refine ⟨fun _ => hb1, ?_⟩;clear hbc;refine mix_op rfl rfl (fun K hK => ?_);go_wp2_with fail
        refine (CP.out b A2 c2 W1 HV2.out (qac HBW0.out hb1 HBW0.out.size) HR2.out).mono ?_;rw [← HU.out];rintro e W2 ⟨Az12, cz12, rfl, hre12, hbc⟩;have hsz2 : W1.heap.size ≤ W2.heap.size := hbc.size;have hb2 := qac hb1 hbc hb1.size;have hzb := (hbc.block _ (by omega)).trans hzb;refine hK _ _ ⟨fun _ => hb2, ?_⟩; clear hK K hbc;simp only [Tm.val];refine qab (v := .agg #[.int .i64 v.kind, .string v.name, .int .i64 v.sort, .slice A1 v.kids.length c1, .int .i64 u.kind, .string u.name, .int .i64 u.sort, .slice Az12 u.kids.length cz12]) rfl rfl (fun _ _ _ h => nomatch h.1) hb2 (fun Y hY => by (try simp only [Act.put]); go_simp) ?_;simp only [Act.put, List.setIfInBounds_toArray];obtain ⟨y0, y1, y2, y3, y4, y5, y6, y7⟩ := qar hzb;have yf := qbz hzb;refine mix_op rfl rfl (fun K hK => ?_);go_wp2_with fail
        refine ⟨fun h => absurd h (by decide), qas ?_⟩;clear y0 y1 y2 y3 y4 y5 y6 y7 yf;have hsd := HSD.out;have hsw := HBW0.out.size;refine ⟨rfl, D.heap.size, Az12, cz12, (by kernel_rfl), qbx hzb, ?_, ?_, by omega⟩
        ·refine RepP.mono ?_ ?_ _ _ _ hre12
         ·rintro b (h | ⟨h1, h2⟩)
          ·exact .inl h
          ·exact .inr ⟨by omega, by simp [World.setCell]; omega, by omega⟩
         ·intro p hp;have hne : p.block ≠ D.heap.size := by rcases hp with hp | hp <;> omega
          have hq : ∀ o, (⟨D.heap.size, o, none⟩ : Addr) ≠ p := fun o e => hne (by rw [← e])
          iterate 8 rw [World.cell?_setCell_other _ _ _ _ (hq _)]
        ·refine qac HB0.out ?_ HB0.out.size
         iterate 8 refine Below.setCell ?_ (by show D.heap.size ≤ D.heap.size; omega) _
         exact hb2
      rintro a' W3 ⟨pb, Az12, cz12, rfl, hpb, hr12, hbW, hpbl⟩
      rename_i K hK
      show K _ _;refine hK _ _ ?_;clear hK K k0 k1 k2 k3 k4 k5 k6 k7 x0 x1 x2 x3 xf t0 t1 t2 t3 tf HB0 HSD HBW0;have hpl3 := (Array.getElem?_eq_some_iff.1 hpb).1;have hs3 := hbW.size;have HB3 := Lib.hid (HBZ.out.trans (hbW.mono (by omega)));have HBW3 := Lib.hid (HBWZ.out.trans (hbW.mono (by omega)));have HROW3 := Lib.hid (HROWZ.out.below hbW);have HOWN := Lib.hid HROWZ.out.lt;have HPB := Lib.hid hpb; clear hpb;have HR12 := Lib.hid hr12; clear hr12 hbW HROWZ HBZ HBWZ;cases q2 with
      | false =>
       obtain ⟨y0, y1, y2, y3, y4, y5, y6, y7⟩ := qar HPB.out;obtain ⟨g, cn, w5, hap, hrow5, hbel5, hblk5, hsz5, -⟩ := HROW3.out.more1 qby (by omega) ((v, A1, c1), (u, Az12, cz12)) (RepP.mono (fun b hb => ⟨.inl hb, by have : b < w.heap.size := hb; omega, fun e => by have : b < w.heap.size := hb; have h1 := HOWN.out b e; omega⟩) (fun p hp => HBW3.out.cell hp) _ _ _ HR1.out)
        (RepP.mono (fun b hb => ⟨by rcases hb with h | h <;> omega, by rcases hb with h | h <;> omega, fun e => by have h1 := HOWN.out b e; rcases hb with h | h <;> omega⟩) (fun _ _ => rfl) _ _ _ HR12.out) (by have := HM8.out.1; omega)
       have HB5 := Lib.hid (hbel5 _ _ HB3.out (Nat.le_refl _));have HROW5 := Lib.hid hrow5; clear hrow5 hbel5 hblk5 hsz5;dsimp only at hap;go_wp2_with (at_builtin; refine qag rfl _ _ rfl rfl rfl hap ?_)
       go_roundw
       case rel => exact ⟨k + 1, cn, some ⟨g, 0, none⟩, m8 ++ [((v, A1, c1), (u, Az12, cz12))], false, true, by omega, by go_num, by rw [List.length_append]; rfl, rfl, rfl, (by show _ ≤ _; rw [List.length_append]; have := HM8.out.1; simp only [List.length_singleton]; omega), (fun h => by rw [List.length_append]; have := HM8.out.2 (by first | exact h | trivial); simp only [List.length_singleton]; omega), (by show _ = _; rw [HSN.out, HVS.out, ← Bool.and_assoc, ← HQ2.out]; rfl), HSPN.out _ (by show (_, _) = (_, _); rw [HU.out]), HB5.out, by rw [List.length_append]; exact HROW5.out⟩
       case measure => simp [intOf]; omega
      | true =>
       have VA := qcr u Az12 cz12 W3 hz2 (RepP.mono (fun b hb => by rcases hb with h | h <;> (show b < _; omega)) (fun _ _ => rfl) _ _ _ HR12.out);obtain ⟨va, hva⟩ : ∃ v, v = u.valid := ⟨_, rfl⟩;rw [← hva] at VA;have HVA := Lib.hid hva; clear hva;simp only [Tm.val] at VA;have VA := Lib.hid VA;obtain ⟨y0, y1, y2, y3, y4, y5, y6, y7⟩ := qar HPB.out;go_wp2_with fail
       refine VA.out.mono ?_; clear VA y0 y1 y2 y3 y4 y5 y6 y7;rintro e W4 ⟨rfl, hl4⟩;have hs4 := hl4.below.size;have HPB4 := Lib.hid ((hl4.below.block _ (by omega)).trans HPB.out);have HB4 := Lib.hid (HB3.out.trans (hl4.below.mono (by omega)));have HBW4 := Lib.hid (HBW3.out.trans (hl4.below.mono (by omega)));have HROW4 := Lib.hid (HROW3.out.below hl4.below);have HR124 : Hid (RepP W4 (fun b => b < w.heap.size ∨ (w9.heap.size ≤ b ∧ b < W3.heap.size ∧ b ≠ pb)) u Az12 cz12) := RepP.mono (fun _ h => h) (fun p hp => hl4.below.cell (by rcases hp with h | h <;> omega)) _ _ _ HR12.out;clear HPB HB3 HBW3 HROW3 HR12 hl4;have HPB := HPB4; have HB3 := HB4; have HBW3 := HBW4; have HROW3 := HROW4; have HR12 := HR124;obtain ⟨y0, y1, y2, y3, y4, y5, y6, y7⟩ := qar HPB.out;rcases eq_facts va 0 with ⟨v0, v1, v2⟩ | ⟨v0, v1, v2⟩
       ·subst v0;obtain ⟨y0, y1, y2, y3, y4, y5, y6, y7⟩ := qar HPB.out;obtain ⟨g, cn, w5, hap, hrow5, hbel5, hblk5, hsz5, -⟩ := HROW3.out.more1 qby (by omega) ((v, A1, c1), (u, Az12, cz12)) (RepP.mono (fun b hb => ⟨.inl hb, by have : b < w.heap.size := hb; omega, fun e => by have : b < w.heap.size := hb; have h1 := HOWN.out b e; omega⟩) (fun p hp => HBW3.out.cell hp) _ _ _ HR1.out)
         (RepP.mono (fun b hb => ⟨by rcases hb with h | h <;> omega, by rcases hb with h | h <;> omega, fun e => by have h1 := HOWN.out b e; rcases hb with h | h <;> omega⟩) (fun _ _ => rfl) _ _ _ HR12.out) (by have := HM8.out.1; omega)
        have HB5 := Lib.hid (hbel5 _ _ HB3.out (Nat.le_refl _));have HROW5 := Lib.hid hrow5; clear hrow5 hbel5 hblk5 hsz5;dsimp only at hap;go_wp2_with (at_builtin; refine qag rfl _ _ rfl rfl rfl hap ?_)
        go_roundw
        case rel => exact ⟨k + 1, cn, some ⟨g, 0, none⟩, m8 ++ [((v, A1, c1), (u, Az12, cz12))], true, true, by omega, by go_num, by rw [List.length_append]; rfl, rfl, rfl, (by show _ ≤ _; rw [List.length_append]; have := HM8.out.1; simp only [List.length_singleton]; omega), (fun h => by rw [List.length_append]; have := HM8.out.2 (by first | exact h | trivial); simp only [List.length_singleton]; omega), (by show _ = _; rw [HSN.out, HVS.out, ← Bool.and_assoc, ← HQ2.out]; show _ = (true && decide ((b.put [(x, t)]).valid = 0)); rw [← HU.out, ← HVA.out]; rfl), HSPN.out _ (by show (_, _) = (_, _); rw [HU.out]), HB5.out, by rw [List.length_append]; exact HROW5.out⟩
        case measure => simp [intOf]; omega
       ·skip
        obtain ⟨y0, y1, y2, y3, y4, y5, y6, y7⟩ := qar HPB.out;obtain ⟨g, cn, w5, hap, hrow5, hbel5, hblk5, hsz5, -⟩ := HROW3.out.more1 qby (by omega) ((v, A1, c1), (u, Az12, cz12)) (RepP.mono (fun b hb => ⟨.inl hb, by have : b < w.heap.size := hb; omega, fun e => by have : b < w.heap.size := hb; have h1 := HOWN.out b e; omega⟩) (fun p hp => HBW3.out.cell hp) _ _ _ HR1.out)
         (RepP.mono (fun b hb => ⟨by rcases hb with h | h <;> omega, by rcases hb with h | h <;> omega, fun e => by have h1 := HOWN.out b e; rcases hb with h | h <;> omega⟩) (fun _ _ => rfl) _ _ _ HR12.out) (by have := HM8.out.1; omega)
        have HB5 := Lib.hid (hbel5 _ _ HB3.out (Nat.le_refl _));have HROW5 := Lib.hid hrow5; clear hrow5 hbel5 hblk5 hsz5;dsimp only at hap;go_wp2_with (at_builtin; refine qag rfl _ _ rfl rfl rfl hap ?_)
        go_roundw
        case rel => exact ⟨k + 1, cn, some ⟨g, 0, none⟩, m8 ++ [((v, A1, c1), (u, Az12, cz12))], false, true, by omega, by go_num, by rw [List.length_append]; rfl, rfl, rfl, (by show _ ≤ _; rw [List.length_append]; have := HM8.out.1; simp only [List.length_singleton]; omega), (fun h => by rw [List.length_append]; have := HM8.out.2 (by first | exact h | trivial); simp only [List.length_singleton]; omega), (by show _ = _; rw [HSN.out, HVS.out, ← Bool.and_assoc, ← HQ2.out]; show _ = (true && decide ((b.put [(x, t)]).valid = 0)); rw [← HU.out, ← HVA.out]; simp [v0]), HSPN.out _ (by show (_, _) = (_, _); rw [HU.out]), HB5.out, by rw [List.length_append]; exact HROW5.out⟩
        case measure => simp [intOf]; omega
    ·obtain rfl : k = s.length := by omega
     have hsp := HSP.out;unfold qcn at hsp;rw [show S.drop s.length = [] by rw [HS.out]; simp] at hsp;have HRQ : Hid (R = q2) := by
      show R = q2;rw [HR.out, HQ2.out, List.take_length, ← HS.out]
     cases d with
     | true =>
      have hm : insB (x, t) S = it2.map IB.bd := by simpa using hsp
      obtain ⟨A7, c7, he, hrep⟩ := HROW.out.toB (P := fun b => b < wr.heap.size) (fun b _ h _ => h) (fun b h => (HROW.out.lt b h).2);injection he with he1 _ he3;subst he1 he3;rw [← hm] at hrep;have hml : it2.length = (insB (x, t) S).length := by rw [hm, List.length_map]
      have HREP := Lib.hid hrep; clear hrep;have HM := Lib.hid hml; clear hml hm hsp;go_wp2_with fail
      refine bodyPost_ret (v := .tuple #[.slice A0 its.length c0, .slice A9 it2.length c9, .bool q2]) ?_ rfl ?_
      ·simp [results, Tryz.results65, go_sem]
      exact ⟨A0, c0, A9, c9, by rw [HLL.out, HM.out, HRQ.out], RepB.mono (fun b (h : b < w1.heap.size) => by omega) (fun p (hp : p.block < w1.heap.size) => HBW1.out.cell hp) HLR.out, HREP.out, HBWW.out⟩
     | false =>
      have hm : insB (x, t) S = (it2 ++ [(((x, A, c), (t, A', c')) : IB)]).map IB.bd := by rw [List.map_append]; exact (by simpa [insB] using hsp : insB (x, t) S = it2.map IB.bd ++ [(x, t)])
      obtain ⟨d0, d1, d2, d3, -⟩ := qao x ((HBW1.out.block _ (by omega)).trans HT1.out.one);obtain ⟨e0, e1, e2, e3, -⟩ := qao t ((HBW1.out.block _ (by omega)).trans HT1.out.two);have hm0 := HMD.out (by first | rfl | trivial);obtain ⟨g9, cn9, w9, hap, hrow9, hbel9, hblk9, hsz9, -⟩ := HROW.out.more1 qby (by omega) ((x, A, c), (t, A', c')) (RepP.mono (fun b hb => ⟨.inl hb, by have : b < w.heap.size := hb; omega, fun e => by have : b < w.heap.size := hb; have h1 := HROW.out.lt b e; omega⟩) (fun _ _ => rfl) _ _ _ (HTX.out wr HBWW.out))
       (RepP.mono (fun b hb => ⟨.inl hb, by have : b < w.heap.size := hb; omega, fun e => by have : b < w.heap.size := hb; have h1 := HROW.out.lt b e; omega⟩) (fun _ _ => rfl) _ _ _ (HTT.out wr HBWW.out)) (by omega)
      have HB9 := Lib.hid (hbel9 _ _ HBW1.out (Nat.le_refl _));have hl9 : (it2 ++ [(((x, A, c), (t, A', c')) : IB)]).length = it2.length + 1 := by rw [List.length_append]; rfl
      obtain ⟨A7, c7, he, hrep⟩ := hrow9.toB (P := fun b => b < w9.heap.size) (fun b _ h _ => h) (fun b h => (hrow9.lt b h).2);rw [← hm] at hrep;have hml : it2.length + 1 = (insB (x, t) S).length := by rw [hm, List.length_map, hl9]
      injection he with he1 he2 he3;clear he2;subst he1 he3;have HREP := Lib.hid hrep; clear hrep hrow9 hbel9 hblk9;have HM := Lib.hid hml; clear hml hm hsp hl9;dsimp only at hap;go_wp2_with (at_builtin; refine qag rfl _ _ rfl rfl rfl hap ?_)
      refine bodyPost_ret (v := .tuple #[.slice A0 its.length c0, .slice (some ⟨g9, 0, none⟩) (it2.length + 1) cn9, .bool q2]) ?_ rfl ?_
      ·simp [results, Tryz.results65, go_sem]
      exact ⟨A0, c0, some ⟨g9, 0, none⟩, cn9, by rw [HLL.out, HM.out, HRQ.out], RepB.mono (fun b (h : b < w1.heap.size) => by have := HB9.out.size; omega) (fun p (hp : p.block < w1.heap.size) => HB9.out.cell hp) HLR.out, HREP.out, HT1.out.bel.trans (HB9.out.mono (by omega))⟩
end Go.Proofs.YtpjmdilpldaapaaGreatDoor
