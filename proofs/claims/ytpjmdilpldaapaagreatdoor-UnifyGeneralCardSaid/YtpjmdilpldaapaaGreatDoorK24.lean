/- UgLaw (joined by shake.py). -/
import Derived.Test.YtpjmdilpldaapaaGreatDoorK12
import Derived.Test.YtpjmdilpldaapaaGreatDoorK17
import Derived.Test.YtpjmdilpldaapaaGreatDoorK20
import Derived.Test.YtpjmdilpldaapaaGreatDoorK23
import Derived.Deep.Cut
set_option maxRecDepth 100000
namespace Go.Proofs.YtpjmdilpldaapaaGreatDoor
open Go.RowKit Go.Sort
theorem qb7.less {M M' : Nat} {w : World} (h : M ≤ M') (H : qb7 M' w) : qb7 M w := fun i X hi hX => H i X (by omega) hX
theorem qli {p t : Tm} (h : ((qcq p t).2 == 0) = true) : p.valid = 0 ∧ t.valid = 0 ∧ ∃ σ, FitS σ ∧ p.put σ = t := by
 unfold qcq at h;by_cases h0 : qbd p t = 0
 ·obtain ⟨h1, h2⟩ := qdf h0;rw [if_neg (by simpa using h0)] at h;by_cases hm : (p.mat t []).2 = true
  ·exact ⟨h1, h2, (mat_iff h1 h2).1 hm⟩
  ·rw [if_neg hm] at h; exact absurd h (by decide)
 ·rw [if_pos h0] at h;exact absurd (by simpa using h) h0
set_option linter.unusedSimpArgs false in
set_option linter.unusedVariables false in
set_option maxHeartbeats 40000000 in
theorem qi1 (t u o : Tm) (T U O : Option Addr) (ct cu co : Nat) (w : World) (HI : qb7 400000 w) (rt : RepT w w.heap.size t T ct) (ru : RepT w w.heap.size u U cu) (ro : RepT w w.heap.size o O co) :
  Calls Tryz.prog 7 #[t.val T ct, u.val U cu, o.val O co] w fun e w' => e = .returned (.bool true) ∧ Below w.heap.size w w' := by
 have HF := Lib.hid (show qac w [] w from Below.refl _ _);obtain ⟨V, hV⟩ : ∃ V, V = ((w.alloc (qbf t T ct)).alloc (qbf u U cu)).alloc (qbf o O co) := ⟨_, rfl⟩;have HA := HF.out.boxes3 rt ru ro;rw [← hV] at HA;obtain ⟨b0, hb0⟩ : ∃ b, b = w.heap.size := ⟨_, rfl⟩;have hb0w : w.heap.size ≤ b0 := by omega
 simp only [qbf] at hV;have HV := Lib.hid hV;have HA := Lib.hid HA;clear hV HF rt ru ro;simp only [Tm.val];go_enter Tryz.func7, Tryz.ntmps7
 go_wp2_with fail
 rw [← HV.out, ← hb0];rw [← hb0] at HA;clear HV hb0;refine (qfg w V (qac.bel HA.out) (qb7.less (by omega) HI)).mono ?_;rintro e w1 ⟨rfl, hb1⟩;have HB2 := Lib.hid (qac.below hb1 HA.out);clear HA hb1;obtain ⟨a0, a1, a2, a3, -⟩ := BoxT.cells HB2.out.2.2.1;obtain ⟨c0, c1, c2, c3, -⟩ := BoxT.cells HB2.out.2.1;obtain ⟨Z, hZ⟩ : ∃ Z, Z = w1.alloc (.cells (itCells [(t, T, ct), (u, U, cu)]).toArray 24) := ⟨_, rfl⟩;have HC := Lib.hid (HB2.out.slice _ hZ (by simp) (fun x hx => by
  simp only [List.mem_cons, List.not_mem_nil, or_false] at hx;rcases hx with rfl | rfl
  ·exact HB2.out.2.2.1.2
  ·exact HB2.out.2.1.2))
 simp only [itCells, Tm.cells, List.cons_append, List.nil_append] at hZ;have HZ := Lib.hid hZ;clear hZ HB2;go_wp2_with fail
 rw [← HZ.out];refine (few_any [t, u] _ 2 2 450 Z (by decide) (by decide) HC.out.1).mono ?_;rintro e w2 ⟨rfl, hl2⟩;have HD := Lib.hid (qac.below hl2.below HC.out.2);clear HZ HC hl2 a0 a1 a2 a3 c0 c1 c2 c3;by_cases hle : (([t, u] : List Tm).length : Int) ≤ 2 ∧ 0 ≤ Tm.lefts [t, u] 450
 rotate_left
 ·rw [decide_eq_false hle];go_wp2_with fail
  refine (qfg w w2 (qac.bel HD.out) (qb7.less (by omega) HI)).mono ?_;rintro e w3 ⟨rfl, hb3⟩;go_wp2_with fail
  go_ret
  exact ⟨rfl, qac.bel (qac.below hb3 HD.out)⟩
 have hsz := Tm.lefts_each (by decide) hle.2;have st : t.size ≤ 450 := by have := hsz t (by simp); omega
 have su : u.size ≤ 450 := by have := hsz u (by simp); omega
 rw [decide_eq_true hle];clear hle hsz;obtain ⟨a0, a1, a2, a3, -⟩ := BoxT.cells HD.out.1;have HON := one_any o O co w2 HD.out.1.2;simp only [Tm.val] at HON;have HON := Lib.hid HON;go_wp2_with fail
 refine HON.out.mono ?_; clear HON;rintro e w3 ⟨rfl, hl3⟩;have HE := Lib.hid (qac.below hl3.below HD.out);clear HD hl3 a0 a1 a2 a3;by_cases hle : 0 ≤ o.left 450
 rotate_left
 ·rw [decide_eq_false hle];go_wp2_with fail
  refine (qfg w w3 (qac.bel HE.out) (qb7.less (by omega) HI)).mono ?_;rintro e w4 ⟨rfl, hb4⟩;go_wp2_with fail
  go_ret
  exact ⟨rfl, qac.bel (qac.below hb4 HE.out)⟩
 have so : o.size ≤ 450 := by have h := Tm.left_size o 450 hle; omega
 rw [decide_eq_true hle];clear hle;obtain ⟨r, hr⟩ : ∃ r, r = genR t u := ⟨_, rfl⟩;have UP : Hid (∀ Z : World, Below w.heap.size w Z → RepT Z Z.heap.size t T ct → RepT Z Z.heap.size u U cu → Calls Tryz.prog 25 #[t.val T ct, u.val U cu] Z (Genl r Z)) := Lib.hid fun Z hZ h1 h2 => by
  rw [hr];refine qbp t u T U ct cu w Z 400000 HI hZ (by omega) (fun hv => ?_) (by omega) (by omega) h1 h2;obtain ⟨k1, k2⟩ := qdf hv;have l1 := qce t;have l2 := qce u;have l3 := qah k1;have l4 := qah k2;have : ((qdr t u).length + 1) * t.size ≤ 801 * 400 := Nat.mul_le_mul (by unfold qdr; rw [List.length_append]; omega) (by omega);omega
 have UR : Hid (∀ Z : World, RepT Z Z.heap.size t T ct → RepT Z Z.heap.size u U cu → Calls Tryz.prog 26 #[t.val T ct, u.val U cu] Z (Genl r Z)) := Lib.hid fun Z h1 h2 => by
  rw [hr]; exact qi9 t u T U ct cu Z (by omega) (by omega) h1 h2
 have HCASE : Hid ((∃ en, en ≠ 0 ∧ r = (.mk 0 ⟨#[]⟩ 0 [], en)) ∨ ∃ g, r = (g, 0) ∧ g.size ≤ 400 ∧ ((qcq g t).2 == 0) = true ∧ ((qcq g u).2 == 0) = true ∧ (((qcq o t).2 == 0) = true → ((qcq o u).2 == 0) = true → ((qcq o g).2 == 0) = true)) := Lib.hid (by
  rw [hr];unfold genR;by_cases hv : qbd t u = 0
  ·obtain ⟨k1, k2⟩ := qdf hv;have hg := qmv k1 k2;obtain ⟨σ1, f1, e1⟩ := genE_fst k1 k2;obtain ⟨σ2, f2, e2⟩ := genE_snd k1 k2;refine .inr ⟨genE t u, by rw [if_neg (by simpa using hv)], qah hg, qfj hg k1 f1 e1, qfj hg k2 f2 e2, fun q1 q2 => ?_⟩;obtain ⟨p1, -, τ1, d1, d2⟩ := qli q1;obtain ⟨-, -, τ2, d3, d4⟩ := qli q2;obtain ⟨τ, d5, d6⟩ := qmw k1 k2 p1 d1 d3 d2 d4;exact qfj p1 hg d5 d6
  ·exact .inl ⟨qbd t u, hv, by rw [if_pos hv]⟩)
 clear hr;rcases HCASE.out with ⟨en, hen, rfl⟩ | ⟨g, rfl, hgs, m1, m2, m3⟩
 ·skip
  clear HCASE;have e0 : (en == 0) = false := by rw [beq_eq_false_iff_ne]; exact hen
  have e1 : (en != 0) = true := by rw [bne_iff_ne]; exact hen
  have e2 : (en == en) = true := beq_self_eq_true en;have e3 : (en != en) = false := bne_self_eq_false en;unfold Genl at UP UR;dsimp only at UP UR;clear hen;obtain ⟨k10, k11, k12, k13, -⟩ := BoxT.cells (HE.out.2.2.1);obtain ⟨k20, k21, k22, k23, -⟩ := BoxT.cells (HE.out.2.1);have C3 := UP.out w3 (qac.bel HE.out) (HE.out.2.2.1).2 (HE.out.2.1).2;simp only [Tm.val, Tm.kind, Tm.name, Tm.sort, Tm.kids, List.length_nil] at C3;have C3 := Lib.hid C3;go_wp2_with fail
  refine C3.out.mono ?_;rintro e w4 ⟨A5, c5, rfl, hr, hb⟩;clear C3 k10 k11 k12 k13 k20 k21 k22 k23;have HF5 := Lib.hid ((qac.below hb HE.out).add (.term (Tm.mk 0 ⟨#[]⟩ 0 []) A5 c5) (hr));clear HE;clear hr hb;clear UP;obtain ⟨V5, hV5⟩ : ∃ V, V = w4.alloc (qbf (Tm.mk 0 ⟨#[]⟩ 0 []) A5 c5) := ⟨_, rfl⟩;have HV5b := HF5.out.boxed HF5.out.1;rw [← hV5] at HV5b;simp only [qbf, Tm.kind, Tm.name, Tm.sort, Tm.kids, List.length_nil] at hV5;obtain ⟨b5, hb5⟩ : ∃ b, b = w4.heap.size := ⟨_, rfl⟩;go_upto_region 4 with fail
  rw [← hV5, ← hb5];rw [← hb5] at HV5b;have HX5 := Lib.hid HV5b;clear hV5 hb5 HV5b HF5;obtain ⟨k60, k61, k62, k63, -⟩ := BoxT.cells (HX5.out.2.2.2.2.1);obtain ⟨k70, k71, k72, k73, -⟩ := BoxT.cells (HX5.out.2.2.2.1);have C8 := UR.out V5 (HX5.out.2.2.2.2.1).2 (HX5.out.2.2.2.1).2;simp only [Tm.val, Tm.kind, Tm.name, Tm.sort, Tm.kids, List.length_nil] at C8;have C8 := Lib.hid C8;go_wp2_with fail
  refine C8.out.mono ?_;rintro e w9 ⟨A6, c6, rfl, hr, hb⟩;clear C8 k60 k61 k62 k63 k70 k71 k72 k73;have HF10 := Lib.hid ((qac.below hb HX5.out).add (.term (Tm.mk 0 ⟨#[]⟩ 0 []) A6 c6) (hr));clear HX5;clear hr hb;clear UR;obtain ⟨V6, hV6⟩ : ∃ V, V = w9.alloc (qbf (Tm.mk 0 ⟨#[]⟩ 0 []) A6 c6) := ⟨_, rfl⟩;have HV6b := HF10.out.boxed HF10.out.1;rw [← hV6] at HV6b;simp only [qbf, Tm.kind, Tm.name, Tm.sort, Tm.kids, List.length_nil] at hV6;obtain ⟨b6, hb6⟩ : ∃ b, b = w9.heap.size := ⟨_, rfl⟩;go_upto_region 5 with fail
  rw [← hV6, ← hb6];rw [← hb6] at HV6b;have HX6 := Lib.hid HV6b;clear hV6 hb6 HV6b HF10;obtain ⟨y0, y1, y2, y3, -⟩ := BoxT.cells (HX6.out.2.2.1);simp only [Tm.kind, Tm.name, Tm.sort, Tm.kids, List.length_nil] at y0 y1 y2 y3;go_wp2_with fail
  go_ret
  exact ⟨rfl, qac.bel HX6.out⟩
 ·skip
  clear HCASE;unfold Genl at UP UR;dsimp only at UP UR;obtain ⟨q1, hq1⟩ : ∃ q, q = ((qcq o t).2 == 0) := ⟨_, rfl⟩;obtain ⟨q2, hq2⟩ : ∃ q, q = ((qcq o u).2 == 0) := ⟨_, rfl⟩;rw [← hq1, ← hq2] at m3;have IT : Hid (∀ (Z : World) A c, RepT Z Z.heap.size t T ct → RepT Z Z.heap.size g A c → Calls Tryz.prog 23 #[t.val T ct, g.val A c] Z fun e w' => e = .returned (.bool true) ∧ Below Z.heap.size Z w') := Lib.hid fun Z A c h1 h2 => by
   have := qdt t g T A ct c Z (by omega) (by omega) h1 h2;rw [m1] at this; exact this
  have IU : Hid (∀ (Z : World) A c, RepT Z Z.heap.size u U cu → RepT Z Z.heap.size g A c → Calls Tryz.prog 23 #[u.val U cu, g.val A c] Z fun e w' => e = .returned (.bool true) ∧ Below Z.heap.size Z w') := Lib.hid fun Z A c h1 h2 => by
   have := qdt u g U A cu c Z (by omega) (by omega) h1 h2;rw [m2] at this; exact this
  have JT : Hid (∀ Z : World, RepT Z Z.heap.size t T ct → RepT Z Z.heap.size o O co → Calls Tryz.prog 23 #[t.val T ct, o.val O co] Z fun e w' => e = .returned (.bool q1) ∧ Below Z.heap.size Z w') := Lib.hid fun Z h1 h2 => by
   rw [hq1]; exact qdt t o T O ct co Z (by omega) (by omega) h1 h2
  have JU : Hid (∀ Z : World, RepT Z Z.heap.size u U cu → RepT Z Z.heap.size o O co → Calls Tryz.prog 23 #[u.val U cu, o.val O co] Z fun e w' => e = .returned (.bool q2) ∧ Below Z.heap.size Z w') := Lib.hid fun Z h1 h2 => by
   rw [hq2]; exact qdt u o U O cu co Z (by omega) (by omega) h1 h2
  have JG : Hid (q1 = true → q2 = true → ∀ (Z : World) A c, RepT Z Z.heap.size g A c → RepT Z Z.heap.size o O co → Calls Tryz.prog 23 #[g.val A c, o.val O co] Z fun e w' => e = .returned (.bool true) ∧ Below Z.heap.size Z w') := Lib.hid fun k1 k2 Z A c h1 h2 => by
   have := qdt g o A O c co Z (by omega) (by omega) h1 h2;rw [m3 k1 k2] at this; exact this
  clear hq1 hq2 m1 m2 m3;obtain ⟨k110, k111, k112, k113, -⟩ := BoxT.cells (HE.out.2.2.1);obtain ⟨k120, k121, k122, k123, -⟩ := BoxT.cells (HE.out.2.1);have C13 := UP.out w3 (qac.bel HE.out) (HE.out.2.2.1).2 (HE.out.2.1).2;simp only [Tm.val] at C13;have C13 := Lib.hid C13;go_wp2_with fail
  refine C13.out.mono ?_;rintro e w14 ⟨A5, c5, rfl, hr, hb⟩;clear C13 k110 k111 k112 k113 k120 k121 k122 k123;have HF15 := Lib.hid ((qac.below hb HE.out).add (.term g A5 c5) (hr));clear HE;clear hr hb;clear UP;obtain ⟨V5, hV5⟩ : ∃ V, V = w14.alloc (qbf g A5 c5) := ⟨_, rfl⟩;have HV5b := HF15.out.boxed HF15.out.1;rw [← hV5] at HV5b;simp only [qbf] at hV5;obtain ⟨b5, hb5⟩ : ∃ b, b = w14.heap.size := ⟨_, rfl⟩;go_upto_region 4 with fail
  rw [← hV5, ← hb5];rw [← hb5] at HV5b;have HX5 := Lib.hid HV5b;clear hV5 hb5 HV5b HF15;obtain ⟨k160, k161, k162, k163, -⟩ := BoxT.cells (HX5.out.2.2.2.2.1);obtain ⟨k170, k171, k172, k173, -⟩ := BoxT.cells (HX5.out.2.2.2.1);have C18 := UR.out V5 (HX5.out.2.2.2.2.1).2 (HX5.out.2.2.2.1).2;simp only [Tm.val] at C18;have C18 := Lib.hid C18;go_wp2_with fail
  refine C18.out.mono ?_;rintro e w19 ⟨A6, c6, rfl, hr, hb⟩;clear C18 k160 k161 k162 k163 k170 k171 k172 k173;have HF20 := Lib.hid ((qac.below hb HX5.out).add (.term g A6 c6) (hr));clear HX5;clear hr hb;clear UR;obtain ⟨V6, hV6⟩ : ∃ V, V = w19.alloc (qbf g A6 c6) := ⟨_, rfl⟩;have HV6b := HF20.out.boxed HF20.out.1;rw [← hV6] at HV6b;simp only [qbf] at hV6;obtain ⟨b6, hb6⟩ : ∃ b, b = w19.heap.size := ⟨_, rfl⟩;go_upto_region 5 with fail
  rw [← hV6, ← hb6];rw [← hb6] at HV6b;have HX6 := Lib.hid HV6b;clear hV6 hb6 HV6b HF20;obtain ⟨k230, k231, k232, k233, -⟩ := BoxT.cells (HX6.out.2.2.1);obtain ⟨k240, k241, k242, k243, -⟩ := BoxT.cells (HX6.out.1);have C21 := qb3 g g A5 A6 c5 c6 V6 (by omega) (by omega) (HX6.out.2.2.1).2 (HX6.out.1).2;rw [Tm.same_iff.2 rfl] at C21;simp only [Tm.val] at C21;have C21 := Lib.hid C21;go_wp2_with fail
  refine C21.out.mono ?_;rintro e w22 ⟨rfl, hl⟩;clear C21 k230 k231 k232 k233 k240 k241 k242 k243;have HF25 := Lib.hid (qac.below hl.below HX6.out);clear HX6;clear hl;obtain ⟨k260, k261, k262, k263, -⟩ := BoxT.cells (HF25.out.2.2.2.2.2.2.1);obtain ⟨k270, k271, k272, k273, -⟩ := BoxT.cells (HF25.out.2.2.1);have C28 := IT.out w22 A5 c5 (HF25.out.2.2.2.2.2.2.1).2 (HF25.out.2.2.1).2;simp only [Tm.val] at C28;have C28 := Lib.hid C28;go_wp2_with fail
  refine C28.out.mono ?_;rintro e w29 ⟨rfl, hb⟩;clear C28 k260 k261 k262 k263 k270 k271 k272 k273;have HF30 := Lib.hid (qac.below hb HF25.out);clear HF25;clear hb;obtain ⟨k310, k311, k312, k313, -⟩ := BoxT.cells (HF30.out.2.2.2.2.2.1);obtain ⟨k320, k321, k322, k323, -⟩ := BoxT.cells (HF30.out.2.2.1);have C33 := IU.out w29 A5 c5 (HF30.out.2.2.2.2.2.1).2 (HF30.out.2.2.1).2;simp only [Tm.val] at C33;have C33 := Lib.hid C33;go_wp2_with fail
  refine C33.out.mono ?_;rintro e w34 ⟨rfl, hb⟩;clear C33 k310 k311 k312 k313 k320 k321 k322 k323;have HF35 := Lib.hid (qac.below hb HF30.out);clear HF30;clear hb;clear IT IU;obtain ⟨k360, k361, k362, k363, -⟩ := BoxT.cells (HF35.out.2.2.2.2.2.2.1);obtain ⟨k370, k371, k372, k373, -⟩ := BoxT.cells (HF35.out.2.2.2.2.1);have C38 := JT.out w34 (HF35.out.2.2.2.2.2.2.1).2 (HF35.out.2.2.2.2.1).2;simp only [Tm.val] at C38;have C38 := Lib.hid C38;go_wp2_with fail
  refine C38.out.mono ?_;rintro e w39 ⟨rfl, hb⟩;clear C38 k360 k361 k362 k363 k370 k371 k372 k373;have HF40 := Lib.hid (qac.below hb HF35.out);clear HF35;clear hb;clear JT
  cases q1 with
  | false =>
   go_wp2_with fail
   go_ret
   exact ⟨rfl, qac.bel HF40.out⟩
  | true =>
  obtain ⟨k410, k411, k412, k413, -⟩ := BoxT.cells (HF40.out.2.2.2.2.2.1);obtain ⟨k420, k421, k422, k423, -⟩ := BoxT.cells (HF40.out.2.2.2.2.1);have C43 := JU.out w39 (HF40.out.2.2.2.2.2.1).2 (HF40.out.2.2.2.2.1).2;simp only [Tm.val] at C43;have C43 := Lib.hid C43;go_wp2_with fail
  refine C43.out.mono ?_;rintro e w44 ⟨rfl, hb⟩;clear C43 k410 k411 k412 k413 k420 k421 k422 k423;have HF45 := Lib.hid (qac.below hb HF40.out);clear HF40;clear hb;clear JU
  cases q2 with
  | false =>
   go_wp2_with fail
   go_ret
   exact ⟨rfl, qac.bel HF45.out⟩
  | true =>
  obtain ⟨k460, k461, k462, k463, -⟩ := BoxT.cells (HF45.out.2.2.1);obtain ⟨k470, k471, k472, k473, -⟩ := BoxT.cells (HF45.out.2.2.2.2.1);have C48 := JG.out (by trivial) (by trivial) w44 A5 c5 (HF45.out.2.2.1).2 (HF45.out.2.2.2.2.1).2;simp only [Tm.val] at C48;have C48 := Lib.hid C48;go_wp2_with fail
  refine C48.out.mono ?_;rintro e w49 ⟨rfl, hb⟩;clear C48 k460 k461 k462 k463 k470 k471 k472 k473;have HF50 := Lib.hid (qac.below hb HF45.out);clear HF45;clear hb;go_wp2_with fail
  go_ret
  exact ⟨rfl, qac.bel HF50.out⟩
end Go.Proofs.YtpjmdilpldaapaaGreatDoor
