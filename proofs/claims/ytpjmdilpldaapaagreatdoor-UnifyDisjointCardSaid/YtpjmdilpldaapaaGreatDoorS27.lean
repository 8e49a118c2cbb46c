/- UdisjLaw (joined by shake.py). -/
import Derived.Test.YtpjmdilpldaapaaGreatDoorS12
import Derived.Test.YtpjmdilpldaapaaGreatDoorS13
import Derived.Test.YtpjmdilpldaapaaGreatDoorS20
import Derived.Test.YtpjmdilpldaapaaGreatDoorS26
set_option maxRecDepth 100000
namespace Go.Proofs.YtpjmdilpldaapaaGreatDoor
open Go.RowKit Go.Sort
theorem qb0.less {M M' : Nat} {w : World} (h : M ≤ M') (H : qb0 M' w) : qb0 M w := fun i X hi hX => H i X (by omega) hX
theorem disj_all {t u : Tm} {r1 r2 r3 : Int × List Bd} (g2 : qau (apT ⟨#[108]⟩ t) (apT ⟨#[114]⟩ u) = 0 → ∃ n, runU n [(apT ⟨#[108]⟩ t, apT ⟨#[114]⟩ u)] [] = some r1)
  (k2 : qau t (u.rap (qbk u t)) = 0 → ∃ n, runU n [(t, u.rap (qbk u t))] [] = some r2) (l2 : qau (apT ⟨#[108]⟩ u) (apT ⟨#[114]⟩ t) = 0 → ∃ n, runU n [(apT ⟨#[108]⟩ u, apT ⟨#[114]⟩ t)] [] = some r3) :
  qet t u r2 = qet t u r1 ∧ qet u t r3 = qet t u r1 := by
 have sym : ∀ {a b : Tm}, a.valid = 0 → b.valid = 0 → qau a b = 0 := fun ha hb => by unfold qau; rw [if_neg (by simpa using ha)]; exact hb
 by_cases h0 : qau t u = 0
 ·obtain ⟨ht, hu⟩ := qcf h0;have h0' := sym hu ht;have c1 : qc0 108 = true ∧ qcc 108 = true := by decide
  have c2 : qc0 114 = true ∧ qcc 114 = true := by decide
  obtain ⟨v1, v2⟩ := qj7 (a := 108) (b := 114) ht hu (by decide) c1 c2;obtain ⟨v3, v4⟩ := qj7 (a := 114) (b := 108) ht hu (by decide) c2 c1;obtain ⟨n1, e1⟩ := g2 (sym v1 v2);obtain ⟨n2, e2⟩ := k2 (sym ht (qeg hu ht));obtain ⟨n3, e3⟩ := l2 (sym v4 v3);have f1 := ql5 (a := 108) (b := 114) ht hu (by decide) c1 c2 false e2 e1;have f3 := ql5 (a := 114) (b := 108) ht hu (by decide) c2 c1 true e2 e3;unfold qet;rw [if_neg (by simpa using h0), if_neg (by simpa using h0), if_neg (by simpa using h0'), f1, f3];exact ⟨rfl, rfl⟩
 ·have h0' : qau u t ≠ 0 := fun h => h0 (by obtain ⟨a, b⟩ := qcf h; exact sym b a);unfold qet;rw [if_pos h0, if_pos h0, if_pos h0'];exact ⟨rfl, rfl⟩
attribute [local irreducible] qa9
set_option linter.unusedSimpArgs false in
set_option linter.unusedVariables false in
set_option maxHeartbeats 40000000 in
theorem udisj_law (t u : Tm) (T U : Option Addr) (ct cu : Nat) (w : World) (HI : qb0 400 w) (rt : RepT w w.heap.size t T ct) (ru : RepT w w.heap.size u U cu) :
  Calls Tryz.prog 4 #[t.val T ct, u.val U cu] w fun e w' => e = .returned (.bool true) ∧ Below w.heap.size w w' := by
 have mixed : Tryz.prog.follows .mixedOrders = true := by kernel_rfl
 have HF := Lib.hid (show qae w [] w from Below.refl _ _);obtain ⟨V, hV⟩ : ∃ V, V = (w.alloc (qa4 t T ct)).alloc (qa4 u U cu) := ⟨_, rfl⟩;have HA := HF.out.boxes2 rt ru;rw [← hV] at HA;obtain ⟨b0, hb0⟩ : ∃ b, b = w.heap.size := ⟨_, rfl⟩;have hb0w : w.heap.size ≤ b0 := by omega
 simp only [qa4] at hV;have HV := Lib.hid hV;have HA := Lib.hid HA;clear hV HF rt ru;simp only [Tm.val];go_enter Tryz.func4, Tryz.ntmps4
 go_wp2_with fail
 rw [← HV.out, ← hb0];rw [← hb0] at HA;clear HV hb0;refine (qhw w V (qae.bel HA.out) (qb0.less (by omega) HI)).mono ?_;rintro e w1 ⟨rfl, hb1⟩;have HB := Lib.hid (qae.below hb1 HA.out);clear HA hb1;obtain ⟨a0, a1, a2, a3, -⟩ := BoxT.cells HB.out.2.1;obtain ⟨c0, c1, c2, c3, -⟩ := BoxT.cells HB.out.1;obtain ⟨Z, hZ⟩ : ∃ Z, Z = w1.alloc (.cells (itCells [(t, T, ct), (u, U, cu)]).toArray 24) := ⟨_, rfl⟩;have HC := Lib.hid (HB.out.slice _ hZ (by simp) (fun x hx => by
  simp only [List.mem_cons, List.not_mem_nil, or_false] at hx;rcases hx with rfl | rfl
  ·exact HB.out.2.1.2
  ·exact HB.out.1.2))
 simp only [itCells, Tm.cells, List.cons_append, List.nil_append] at hZ;have HZ := Lib.hid hZ;clear hZ HB;go_wp2_with fail
 rw [← HZ.out];refine (few_any [t, u] _ 2 2 450 Z (by decide) (by decide) HC.out.1).mono ?_;rintro e w2 ⟨rfl, hl2⟩;have HD := Lib.hid (qae.below hl2.below HC.out.2);clear HZ HC hl2 a0 a1 a2 a3 c0 c1 c2 c3;by_cases hle : (([t, u] : List Tm).length : Int) ≤ 2 ∧ 0 ≤ Tm.lefts [t, u] 450
 rotate_left
 ·rw [decide_eq_false hle];go_wp2_with fail
  refine (qhw w w2 (qae.bel HD.out) (qb0.less (by omega) HI)).mono ?_;rintro e w3 ⟨rfl, hb3⟩;go_wp2_with fail
  go_ret
  exact ⟨rfl, qae.bel (qae.below hb3 HD.out)⟩
 have hsz := Tm.lefts_each (by decide) hle.2;have st : t.size ≤ 450 := by have := hsz t (by simp); omega
 have su : u.size ≤ 450 := by have := hsz u (by simp); omega
 rw [decide_eq_true hle];clear hle hsz;obtain ⟨r1, g1, g2⟩ := qgs (apT ⟨#[108]⟩ t) (apT ⟨#[114]⟩ u);obtain ⟨r2, k1, k2⟩ := qgs t (u.rap (qbk u t));obtain ⟨r3, l1, l2⟩ := qgs (apT ⟨#[108]⟩ u) (apT ⟨#[114]⟩ t);obtain ⟨q2, q3⟩ := disj_all g2 k2 l2;have D1 : ∀ (Z : World), Below w.heap.size w Z → RepT Z Z.heap.size t T ct → RepT Z Z.heap.size u U cu → Calls Tryz.prog 17 #[t.val T ct, u.val U cu] Z (fun e w' => e = .returned (.bool (qet t u r1)) ∧ Below Z.heap.size Z w') := fun Z hZ ha hb => qi5 t u T U ct cu w HI Z hZ r1 (by omega) (by omega) g1 g2 ha hb
 have D2 : ∀ (Z : World), RepT Z Z.heap.size t T ct → RepT Z Z.heap.size u U cu → Calls Tryz.prog 18 #[t.val T ct, u.val U cu] Z (fun e w' => e = .returned (.bool (qet t u r2)) ∧ Below Z.heap.size Z w') := fun Z ha hb => rdisj_any t u T U ct cu Z (fun h => ⟨check_valid (qeg (qcf h).2 (qcf h).1), Nat.le_trans (qak (qeg (qcf h).2 (qcf h).1)) (by omega)⟩) r2 (by omega) (by omega) k1 k2 ha hb;have D3 : ∀ (Z : World), Below w.heap.size w Z → RepT Z Z.heap.size u U cu → RepT Z Z.heap.size t T ct → Calls Tryz.prog 17 #[u.val U cu, t.val T ct] Z (fun e w' => e = .returned (.bool (qet u t r3)) ∧ Below Z.heap.size Z w') := fun Z hZ ha hb => qi5 u t U T cu ct w HI Z hZ r3 (by omega) (by omega) l1 l2 ha hb;rw [q2] at D2;rw [q3] at D3;obtain ⟨d, hd⟩ : ∃ d, d = qet t u r1 := ⟨_, rfl⟩
 rw [← hd] at D1 D2 D3;have D1 := Lib.hid D1;have D2 := Lib.hid D2;have D3 := Lib.hid D3;clear hd q2 q3 g1 g2 k1 k2 l1 l2;obtain ⟨k10, k11, k12, k13, -⟩ := BoxT.cells (HD.out.2.1);obtain ⟨k20, k21, k22, k23, -⟩ := BoxT.cells (HD.out.1);have C3 := D1.out w2 (qae.bel HD.out) (HD.out.2.1).2 (HD.out.1).2;simp only [Tm.val] at C3;have C3 := Lib.hid C3;go_wp2_with fail
 refine C3.out.mono ?_;rintro e w4 ⟨rfl, hb⟩;clear C3 k10 k11 k12 k13 k20 k21 k22 k23;have HF5 := Lib.hid (qae.below hb HD.out);clear HD;clear hb;obtain ⟨k60, k61, k62, k63, -⟩ := BoxT.cells (HF5.out.2.1);obtain ⟨k70, k71, k72, k73, -⟩ := BoxT.cells (HF5.out.1);have C8 := D2.out w4 (HF5.out.2.1).2 (HF5.out.1).2;simp only [Tm.val] at C8;have C8 := Lib.hid C8;go_wp2_with fail
 refine C8.out.mono ?_;rintro e w9 ⟨rfl, hb⟩;clear C8 k60 k61 k62 k63 k70 k71 k72 k73;have HF10 := Lib.hid (qae.below hb HF5.out);clear HF5;clear hb;cases d with
 | false =>
  obtain ⟨k110, k111, k112, k113, -⟩ := BoxT.cells (HF10.out.2.1);obtain ⟨k120, k121, k122, k123, -⟩ := BoxT.cells (HF10.out.1);have C13 := D3.out w9 (qae.bel HF10.out) (HF10.out.1).2 (HF10.out.2.1).2;simp only [Tm.val] at C13;have C13 := Lib.hid C13;go_wp2_with fail
  refine C13.out.mono ?_;rintro e w14 ⟨rfl, hb⟩;clear C13 k110 k111 k112 k113 k120 k121 k122 k123;have HF15 := Lib.hid (qae.below hb HF10.out);clear HF10;clear hb;go_wp2_with fail
  go_ret
  exact ⟨rfl, qae.bel HF15.out⟩
 | true =>
  obtain ⟨k160, k161, k162, k163, -⟩ := BoxT.cells (HF10.out.2.1);obtain ⟨k170, k171, k172, k173, -⟩ := BoxT.cells (HF10.out.1);have C18 := D3.out w9 (qae.bel HF10.out) (HF10.out.1).2 (HF10.out.2.1).2;simp only [Tm.val] at C18;have C18 := Lib.hid C18;go_wp2_with fail
  refine C18.out.mono ?_;rintro e w19 ⟨rfl, hb⟩;clear C18 k160 k161 k162 k163 k170 k171 k172 k173;have HF20 := Lib.hid (qae.below hb HF10.out);clear HF10;clear hb;go_wp2_with fail
  go_ret
  exact ⟨rfl, qae.bel HF20.out⟩
end Go.Proofs.YtpjmdilpldaapaaGreatDoor
