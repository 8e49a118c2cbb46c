/- UvLaw (joined by shake.py). -/
import Derived.Test.YtpjmdilpldaapaaGreatDoorV18
import Derived.Test.YtpjmdilpldaapaaGreatDoorV20
import Derived.Test.YtpjmdilpldaapaaGreatDoorV26
import Derived.Test.YtpjmdilpldaapaaGreatDoorV28
set_option maxRecDepth 100000
namespace Go.Proofs.YtpjmdilpldaapaaGreatDoor
open Go.RowKit Go.Sort
theorem qh6 {t u : Tm} (h : vrtE t u = true) : qbg t u = 0 := by
 unfold vrtE at h;by_cases h0 : qbg t u = 0
 ·exact h0
 ·rw [if_neg h0] at h; cases h
theorem qgz {t u : Tm} (h : vrtE t u = true) : ((qfg u t).2 == 0) = true ∧ ((qfg t u).2 == 0) = true ∧ vrtE u t = true := by
 have h0 := qh6 h;obtain ⟨ht, hu⟩ := qdo h0;have h1 : (t.vrt u []).2 = true := by unfold vrtE at h; rwa [if_pos h0] at h
 obtain ⟨h2, h3, h4⟩ := vrt_symm ht hu h1;have e1 : qbg u t = 0 := by unfold qbg; rw [if_neg (by rw [hu]; simp)]; exact ht
 refine ⟨?_, ?_, ?_⟩
 ·unfold qfg; rw [if_neg (by rw [e1]; simp), if_pos h4]; rfl
 ·unfold qfg; rw [if_neg (by rw [h0]; simp), if_pos h3]; rfl
 ·unfold vrtE; rw [if_pos e1]; exact h2
attribute [local irreducible] qaz
set_option linter.unusedSimpArgs false in
set_option linter.unusedVariables false in
set_option maxHeartbeats 40000000 in
theorem qi0 (t u : Tm) (T U : Option Addr) (ct cu : Nat) (w : World) (rt : RepT w w.heap.size t T ct) (ru : RepT w w.heap.size u U cu) :
  Calls Tryz.prog 9 #[t.val T ct, u.val U cu] w fun e w' => e = .returned (.bool true) ∧ Below w.heap.size w w' := by
 have mixed : Tryz.prog.follows .mixedOrders = true := by kernel_rfl
 have HF := Lib.hid (show qab w [] w from Below.refl _ _);obtain ⟨V, hV⟩ : ∃ V, V = (w.alloc (qbc t T ct)).alloc (qbc u U cu) := ⟨_, rfl⟩;have HA := HF.out.boxes2 rt ru;rw [← hV] at HA;obtain ⟨b0, hb0⟩ : ∃ b, b = w.heap.size := ⟨_, rfl⟩;have hb0w : w.heap.size ≤ b0 := by omega
 simp only [qbc] at hV;have HV := Lib.hid hV;have HA := Lib.hid HA;clear hV HF rt ru;simp only [Tm.val];go_enter Tryz.func9, Tryz.ntmps9
 go_wp2_with fail
 rw [← HV.out, ← hb0];rw [← hb0] at HA;clear HV hb0;refine (qh7 w V (qab.bel HA.out) (qii w)).mono ?_;rintro e w1 ⟨rfl, hb1⟩;have HB := Lib.hid (qab.below hb1 HA.out);clear HA hb1;obtain ⟨a0, a1, a2, a3, -⟩ := BoxT.cells HB.out.2.1;obtain ⟨c0, c1, c2, c3, -⟩ := BoxT.cells HB.out.1;obtain ⟨Z, hZ⟩ : ∃ Z, Z = w1.alloc (.cells (itCells [(t, T, ct), (u, U, cu)]).toArray 24) := ⟨_, rfl⟩;have HC := Lib.hid (HB.out.slice _ hZ (by simp) (fun x hx => by
  simp only [List.mem_cons, List.not_mem_nil, or_false] at hx;rcases hx with rfl | rfl
  ·exact HB.out.2.1.2
  ·exact HB.out.1.2))
 simp only [itCells, Tm.cells, List.cons_append, List.nil_append] at hZ;have HZ := Lib.hid hZ;clear hZ HB;go_wp2_with fail
 rw [← HZ.out];refine (few_any [t, u] _ 2 2 450 Z (by decide) (by decide) HC.out.1).mono ?_;rintro e w2 ⟨rfl, hl2⟩;have HD := Lib.hid (qab.below hl2.below HC.out.2);clear HZ HC hl2 a0 a1 a2 a3 c0 c1 c2 c3;by_cases hle : (([t, u] : List Tm).length : Int) ≤ 2 ∧ 0 ≤ Tm.lefts [t, u] 450
 rotate_left
 ·rw [decide_eq_false hle];go_wp2_with fail
  refine (qh7 w w2 (qab.bel HD.out) (qii w)).mono ?_;rintro e w3 ⟨rfl, hb3⟩;go_wp2_with fail
  go_ret
  exact ⟨rfl, qab.bel (qab.below hb3 HD.out)⟩
 have hsz := Tm.lefts_each (by decide) hle.2;have st : t.size ≤ 450 := by have := hsz t (by simp); omega
 have su : u.size ≤ 450 := by have := hsz u (by simp); omega
 rw [decide_eq_true hle];clear hle hsz;obtain ⟨q, hq⟩ : ∃ q, q = vrtE t u := ⟨_, rfl⟩;have U1 : Hid (∀ (Z : World), RepT Z Z.heap.size t T ct → RepT Z Z.heap.size u U cu → Calls Tryz.prog 31 #[t.val T ct, u.val U cu] Z (fun e w' => e = .returned (.bool q) ∧ Below Z.heap.size Z w')) := Lib.hid fun Z ha hb => by rw [hq]; exact qd5 t u T U ct cu Z (by omega) (by omega) ha hb
 have U2 : Hid (∀ (Z : World), RepT Z Z.heap.size t T ct → RepT Z Z.heap.size u U cu → Calls Tryz.prog 32 #[t.val T ct, u.val U cu] Z (fun e w' => e = .returned (.bool q) ∧ Below Z.heap.size Z w')) := Lib.hid fun Z ha hb => by rw [hq]; exact qjy t u T U ct cu Z (by omega) (by omega) ha hb
 have U3 : Hid (q = true → ∀ (Z : World), RepT Z Z.heap.size t T ct → RepT Z Z.heap.size u U cu → Calls Tryz.prog 23 #[t.val T ct, u.val U cu] Z (fun e w' => e = .returned (.bool true) ∧ Below Z.heap.size Z w')) := Lib.hid fun h Z ha hb => by
  have h2 := (qgz (hq.symm.trans h)).1;have := qjr t u T U ct cu Z (by omega) (by omega) ha hb;rw [h2] at this; exact this
 have U4 : Hid (q = true → ∀ (Z : World), RepT Z Z.heap.size t T ct → RepT Z Z.heap.size u U cu → Calls Tryz.prog 23 #[u.val U cu, t.val T ct] Z (fun e w' => e = .returned (.bool true) ∧ Below Z.heap.size Z w')) := Lib.hid fun h Z ha hb => by
  have h2 := (qgz (hq.symm.trans h)).2.1;have := qjr u t U T cu ct Z (by omega) (by omega) hb ha;rw [h2] at this; exact this
 have U5 : Hid (q = true → ∀ (Z : World), RepT Z Z.heap.size t T ct → RepT Z Z.heap.size u U cu → Calls Tryz.prog 31 #[u.val U cu, t.val T ct] Z (fun e w' => e = .returned (.bool true) ∧ Below Z.heap.size Z w')) := Lib.hid fun h Z ha hb => by
  have h2 := (qgz (hq.symm.trans h)).2.2;have := qd5 u t U T cu ct Z (by omega) (by omega) hb ha;rw [h2] at this; exact this
 have HQV : Hid (q = true → t.valid = 0) := Lib.hid fun h => (qdo (qh6 (hq.symm.trans h))).1;obtain ⟨y, hy⟩ : ∃ y, y = apY t t := ⟨_, rfl⟩;have U6 : Hid (t.valid = 0 → ∀ (Z : World), RepT Z Z.heap.size t T ct → Calls Tryz.prog 30 #[t.val T ct, t.val T ct] Z (fun e w' => ∃ A' c', e = .returned (y.val A' c') ∧ RepT w' w'.heap.size y A' c' ∧ Below Z.heap.size Z w')) := Lib.hid fun h Z ha => by
  rw [hy]; exact qm8 t t T T ct ct Z h h ha ha (check_valid (qhp h h))
 have U7 : Hid (t.valid = 0 → ∀ (Z : World) A' c', RepT Z Z.heap.size t T ct → RepT Z Z.heap.size y A' c' → Calls Tryz.prog 31 #[t.val T ct, y.val A' c'] Z (fun e w' => e = .returned (.bool true) ∧ Below Z.heap.size Z w')) := Lib.hid fun h Z A' c' ha hb => by
  have hv := qhp (u := t) (t := t) h h;have h2 : vrtE t y = true := by
   unfold vrtE;rw [hy, if_pos (by unfold qbg; rw [if_neg (by rw [h]; simp)]; exact hv)];exact qjj h
  have := qd5 t y T A' ct c' Z (by omega) (by rw [hy]; have := qak hv; omega) ha hb;rw [h2] at this; exact this
 clear hq hy
 cases q with
 | true =>
  obtain ⟨k10, k11, k12, k13, -⟩ := BoxT.cells (HD.out.2.1);obtain ⟨k20, k21, k22, k23, -⟩ := BoxT.cells (HD.out.1);have C3 := U1.out w2 (HD.out.2.1).2 (HD.out.1).2;simp only [Tm.val] at C3;have C3 := Lib.hid C3;go_wp2_with fail
  refine C3.out.mono ?_;rintro e w4 ⟨rfl, hb⟩;clear C3 k10 k11 k12 k13 k20 k21 k22 k23;have HF5 := Lib.hid (qab.below hb HD.out);clear HD;clear hb;obtain ⟨k60, k61, k62, k63, -⟩ := BoxT.cells (HF5.out.2.1);obtain ⟨k70, k71, k72, k73, -⟩ := BoxT.cells (HF5.out.1);have C8 := U2.out w4 (HF5.out.2.1).2 (HF5.out.1).2;simp only [Tm.val] at C8;have C8 := Lib.hid C8;go_wp2_with fail
  refine C8.out.mono ?_;rintro e w9 ⟨rfl, hb⟩;clear C8 k60 k61 k62 k63 k70 k71 k72 k73;have HF10 := Lib.hid (qab.below hb HF5.out);clear HF5;clear hb;obtain ⟨k110, k111, k112, k113, -⟩ := BoxT.cells (HF10.out.2.1);obtain ⟨k120, k121, k122, k123, -⟩ := BoxT.cells (HF10.out.1);have C13 := U3.out (by trivial) w9 (HF10.out.2.1).2 (HF10.out.1).2;simp only [Tm.val] at C13;have C13 := Lib.hid C13;go_wp2_with fail
  refine C13.out.mono ?_;rintro e w14 ⟨rfl, hb⟩;clear C13 k110 k111 k112 k113 k120 k121 k122 k123;have HF15 := Lib.hid (qab.below hb HF10.out);clear HF10;clear hb;obtain ⟨k160, k161, k162, k163, -⟩ := BoxT.cells (HF15.out.2.1);obtain ⟨k170, k171, k172, k173, -⟩ := BoxT.cells (HF15.out.1);have C18 := U4.out (by trivial) w14 (HF15.out.2.1).2 (HF15.out.1).2;simp only [Tm.val] at C18;have C18 := Lib.hid C18;go_wp2_with fail
  refine C18.out.mono ?_;rintro e w19 ⟨rfl, hb⟩;clear C18 k160 k161 k162 k163 k170 k171 k172 k173;have HF20 := Lib.hid (qab.below hb HF15.out);clear HF15;clear hb;obtain ⟨k210, k211, k212, k213, -⟩ := BoxT.cells (HF20.out.2.1);obtain ⟨k220, k221, k222, k223, -⟩ := BoxT.cells (HF20.out.1);have C23 := U5.out (by trivial) w19 (HF20.out.2.1).2 (HF20.out.1).2;simp only [Tm.val] at C23;have C23 := Lib.hid C23;go_wp2_with fail
  refine C23.out.mono ?_;rintro e w24 ⟨rfl, hb⟩;clear C23 k210 k211 k212 k213 k220 k221 k222 k223;have HF25 := Lib.hid (qab.below hb HF20.out);clear HF20;clear hb;have HE := Lib.hid (HQV.out (by trivial));clear U1 U2 U3 U4 U5 HQV;go_wp2_with fail
  refine qai (fun _ => True) (fun Y => Below w24.drew.heap.size w24.drew Y) [] (.held 0 (.op 1 (.held 2 (.held 3 (.held 4 (.held 5 (.held 6 (.op 7 (.op 8 (.held 9 (.held 10 .nil))))))))))) mixed (by kernel_rfl) ?_;have HD27 := Lib.hid (qab.below (V' := w24.drew) (Below.refl _ _).drew HF25.out);have HD27b := Lib.hid HD27.out.rebase;generalize w24.drew = D26 at *;refine qag (v := .agg #[.int .i64 t.kind, .string t.name, .int .i64 t.sort, .slice T t.kids.length ct]) rfl (by kernel_rfl) rfl (fun _ _ _ h => h) trivial (qab.bel HD27b.out) (fun Y _ hY => by
   obtain ⟨z0, z1, z2, z3, -⟩ := BoxT.cells ((show BoxT D26 _ _ _ _ from HD27.out.2.1).below hY)
   (try simp only [Act.put]); go_simp) ?_
  simp only [Act.put, List.setIfInBounds_toArray, List.set_cons_succ, List.set_cons_zero, List.getElem_toArray, List.getElem_cons_succ, List.getElem_cons_zero];refine qbb rfl (by kernel_rfl) (fun K hK => ?_);have C28 := qdp t T ct D26 (by omega) (HD27b.out.2.1).2;rw [HE.out] at C28;simp only [Tm.val] at C28;have C28 := Lib.hid C28;go_wp2_with fail
  refine C28.out.mono ?_; clear C28;rintro e w29 ⟨rfl, hb30⟩;have HF31 := Lib.hid (qab.below hb30.below HD27b.out);refine hK _ _ ⟨⟨fun _ => trivial, qab.bel HF31.out⟩, ?_⟩;clear hK K;clear HD27b;clear hb30;refine qag (v := .bool false) rfl (by kernel_rfl) rfl (fun _ _ _ h => h) trivial (qab.bel HF31.out) (fun Y _ _ => by (try simp only [Act.put]); go_simp) ?_;simp only [Act.put, List.setIfInBounds_toArray, List.set_cons_succ, List.set_cons_zero, List.getElem_toArray, List.getElem_cons_succ, List.getElem_cons_zero];refine qag (v := .bool false) rfl (by kernel_rfl) rfl (fun _ _ _ h => h) trivial (qab.bel HF31.out) (fun Y _ _ => by (try simp only [Act.put]); go_simp) ?_;simp only [Act.put, List.setIfInBounds_toArray, List.set_cons_succ, List.set_cons_zero, List.getElem_toArray, List.getElem_cons_succ, List.getElem_cons_zero]
  refine qag (v := .agg #[.int .i64 t.kind, .string t.name, .int .i64 t.sort, .slice T t.kids.length ct]) rfl (by kernel_rfl) rfl (fun _ _ _ h => h) trivial (qab.bel HF31.out) (fun Y _ hY => by
   obtain ⟨z0, z1, z2, z3, -⟩ := BoxT.cells ((show BoxT D26 _ _ _ _ from HD27.out.2.1).below hY)
   (try simp only [Act.put]); go_simp) ?_
  simp only [Act.put, List.setIfInBounds_toArray, List.set_cons_succ, List.set_cons_zero, List.getElem_toArray, List.getElem_cons_succ, List.getElem_cons_zero];refine qag (v := .agg #[.int .i64 t.kind, .string t.name, .int .i64 t.sort, .slice T t.kids.length ct]) rfl (by kernel_rfl) rfl (fun _ _ _ h => h) trivial (qab.bel HF31.out) (fun Y _ hY => by
   obtain ⟨z0, z1, z2, z3, -⟩ := BoxT.cells ((show BoxT D26 _ _ _ _ from HD27.out.2.1).below hY)
   (try simp only [Act.put]); go_simp) ?_
  simp only [Act.put, List.setIfInBounds_toArray, List.set_cons_succ, List.set_cons_zero, List.getElem_toArray, List.getElem_cons_succ, List.getElem_cons_zero];refine qag (v := .agg #[.int .i64 t.kind, .string t.name, .int .i64 t.sort, .slice T t.kids.length ct]) rfl (by kernel_rfl) rfl (fun _ _ _ h => h) trivial (qab.bel HF31.out) (fun Y _ hY => by
   obtain ⟨z0, z1, z2, z3, -⟩ := BoxT.cells ((show BoxT D26 _ _ _ _ from HD27.out.2.1).below hY)
   (try simp only [Act.put]); go_simp) ?_
  simp only [Act.put, List.setIfInBounds_toArray, List.set_cons_succ, List.set_cons_zero, List.getElem_toArray, List.getElem_cons_succ, List.getElem_cons_zero];refine qbb rfl (by kernel_rfl) (fun K hK => ?_);have C32 := U6.out HE.out w29 (HF31.out.2.1).2;simp only [Tm.val] at C32;have C32 := Lib.hid C32;go_wp2_with fail
  refine C32.out.mono ?_; clear C32;rintro e w33 ⟨A34, c35, rfl, hr36, hb37⟩;have HF38 := Lib.hid ((qab.below hb37 HF31.out).add (.term y A34 c35) hr36);refine hK _ _ ⟨⟨fun _ => trivial, qab.bel HF38.out⟩, ?_⟩;clear hK K;clear HF31;clear hr36 hb37;refine qbb rfl (by kernel_rfl) (fun K hK => ?_);have C39 := U7.out HE.out w33 A34 c35 (HF38.out.2.2.1).2 (HF38.out.1);rw [(rfl : true = true)] at C39;simp only [Tm.val] at C39;have C39 := Lib.hid C39;go_wp2_with fail
  refine C39.out.mono ?_; clear C39;rintro e w40 ⟨rfl, hb41⟩;have HF42 := Lib.hid (qab.below hb41 HF38.out);refine hK _ _ ⟨⟨fun _ => trivial, qab.bel HF42.out⟩, ?_⟩;clear hK K;clear HF38;clear hb41;refine qag (v := .bool true) rfl (by kernel_rfl) rfl (fun _ _ _ h => h) trivial (qab.bel HF42.out) (fun Y _ _ => by (try simp only [Act.put]); go_simp) ?_;simp only [Act.put, List.setIfInBounds_toArray, List.set_cons_succ, List.set_cons_zero, List.getElem_toArray, List.getElem_cons_succ, List.getElem_cons_zero];refine qag (v := .bool true) rfl (by kernel_rfl) rfl (fun _ _ _ h => h) trivial (qab.bel HF42.out) (fun Y _ _ => by (try simp only [Act.put]); go_simp) ?_;simp only [Act.put, List.setIfInBounds_toArray, List.set_cons_succ, List.set_cons_zero, List.getElem_toArray, List.getElem_cons_succ, List.getElem_cons_zero];refine qaj ?_
  have HF43 := Lib.hid ((show qab D26 [.box (b0 + 1) u U cu, .box b0 t T ct] w40 from ⟨HF42.out.2.1, HF42.out.2.2.1, qab.bel HF42.out⟩).unbase (qab.bel HD27.out));clear HF42 HD27;go_wp2_with fail
  go_ret
  exact ⟨rfl, qab.bel HF43.out⟩
 | false =>
  obtain ⟨k440, k441, k442, k443, -⟩ := BoxT.cells (HD.out.2.1);obtain ⟨k450, k451, k452, k453, -⟩ := BoxT.cells (HD.out.1);have C46 := U1.out w2 (HD.out.2.1).2 (HD.out.1).2;simp only [Tm.val] at C46;have C46 := Lib.hid C46;go_wp2_with fail
  refine C46.out.mono ?_;rintro e w47 ⟨rfl, hb⟩;clear C46 k440 k441 k442 k443 k450 k451 k452 k453;have HF48 := Lib.hid (qab.below hb HD.out);clear HD;clear hb;obtain ⟨k490, k491, k492, k493, -⟩ := BoxT.cells (HF48.out.2.1);obtain ⟨k500, k501, k502, k503, -⟩ := BoxT.cells (HF48.out.1);have C51 := U2.out w47 (HF48.out.2.1).2 (HF48.out.1).2;simp only [Tm.val] at C51;have C51 := Lib.hid C51;go_wp2_with fail
  refine C51.out.mono ?_;rintro e w52 ⟨rfl, hb⟩;clear C51 k490 k491 k492 k493 k500 k501 k502 k503;have HF53 := Lib.hid (qab.below hb HF48.out);clear HF48;clear hb;clear U1 U2 U3 U4 U5 HQV;by_cases hv : t.valid = 0
  ·skip
   have HE := Lib.hid hv;clear hv;go_wp2_with fail
   refine qai (fun _ => True) (fun Y => Below w52.drew.heap.size w52.drew Y) [] (.held 0 (.op 1 (.held 2 (.held 3 (.held 4 (.held 5 (.held 6 (.op 7 (.op 8 (.held 9 (.held 10 .nil))))))))))) mixed (by kernel_rfl) ?_;have HD55 := Lib.hid (qab.below (V' := w52.drew) (Below.refl _ _).drew HF53.out);have HD55b := Lib.hid HD55.out.rebase;generalize w52.drew = D54 at *;refine qag (v := .agg #[.int .i64 t.kind, .string t.name, .int .i64 t.sort, .slice T t.kids.length ct]) rfl (by kernel_rfl) rfl (fun _ _ _ h => h) trivial (qab.bel HD55b.out) (fun Y _ hY => by
    obtain ⟨z0, z1, z2, z3, -⟩ := BoxT.cells ((show BoxT D54 _ _ _ _ from HD55.out.2.1).below hY)
    (try simp only [Act.put]); go_simp) ?_
   simp only [Act.put, List.setIfInBounds_toArray, List.set_cons_succ, List.set_cons_zero, List.getElem_toArray, List.getElem_cons_succ, List.getElem_cons_zero];refine qbb rfl (by kernel_rfl) (fun K hK => ?_);have C56 := qdp t T ct D54 (by omega) (HD55b.out.2.1).2;rw [HE.out] at C56;simp only [Tm.val] at C56;have C56 := Lib.hid C56;go_wp2_with fail
   refine C56.out.mono ?_; clear C56;rintro e w57 ⟨rfl, hb58⟩;have HF59 := Lib.hid (qab.below hb58.below HD55b.out);refine hK _ _ ⟨⟨fun _ => trivial, qab.bel HF59.out⟩, ?_⟩;clear hK K;clear HD55b;clear hb58;refine qag (v := .bool false) rfl (by kernel_rfl) rfl (fun _ _ _ h => h) trivial (qab.bel HF59.out) (fun Y _ _ => by (try simp only [Act.put]); go_simp) ?_;simp only [Act.put, List.setIfInBounds_toArray, List.set_cons_succ, List.set_cons_zero, List.getElem_toArray, List.getElem_cons_succ, List.getElem_cons_zero];refine qag (v := .bool false) rfl (by kernel_rfl) rfl (fun _ _ _ h => h) trivial (qab.bel HF59.out) (fun Y _ _ => by (try simp only [Act.put]); go_simp) ?_;simp only [Act.put, List.setIfInBounds_toArray, List.set_cons_succ, List.set_cons_zero, List.getElem_toArray, List.getElem_cons_succ, List.getElem_cons_zero]
   refine qag (v := .agg #[.int .i64 t.kind, .string t.name, .int .i64 t.sort, .slice T t.kids.length ct]) rfl (by kernel_rfl) rfl (fun _ _ _ h => h) trivial (qab.bel HF59.out) (fun Y _ hY => by
    obtain ⟨z0, z1, z2, z3, -⟩ := BoxT.cells ((show BoxT D54 _ _ _ _ from HD55.out.2.1).below hY)
    (try simp only [Act.put]); go_simp) ?_
   simp only [Act.put, List.setIfInBounds_toArray, List.set_cons_succ, List.set_cons_zero, List.getElem_toArray, List.getElem_cons_succ, List.getElem_cons_zero];refine qag (v := .agg #[.int .i64 t.kind, .string t.name, .int .i64 t.sort, .slice T t.kids.length ct]) rfl (by kernel_rfl) rfl (fun _ _ _ h => h) trivial (qab.bel HF59.out) (fun Y _ hY => by
    obtain ⟨z0, z1, z2, z3, -⟩ := BoxT.cells ((show BoxT D54 _ _ _ _ from HD55.out.2.1).below hY)
    (try simp only [Act.put]); go_simp) ?_
   simp only [Act.put, List.setIfInBounds_toArray, List.set_cons_succ, List.set_cons_zero, List.getElem_toArray, List.getElem_cons_succ, List.getElem_cons_zero];refine qag (v := .agg #[.int .i64 t.kind, .string t.name, .int .i64 t.sort, .slice T t.kids.length ct]) rfl (by kernel_rfl) rfl (fun _ _ _ h => h) trivial (qab.bel HF59.out) (fun Y _ hY => by
    obtain ⟨z0, z1, z2, z3, -⟩ := BoxT.cells ((show BoxT D54 _ _ _ _ from HD55.out.2.1).below hY)
    (try simp only [Act.put]); go_simp) ?_
   simp only [Act.put, List.setIfInBounds_toArray, List.set_cons_succ, List.set_cons_zero, List.getElem_toArray, List.getElem_cons_succ, List.getElem_cons_zero];refine qbb rfl (by kernel_rfl) (fun K hK => ?_);have C60 := U6.out HE.out w57 (HF59.out.2.1).2;simp only [Tm.val] at C60;have C60 := Lib.hid C60;go_wp2_with fail
   refine C60.out.mono ?_; clear C60;rintro e w61 ⟨A62, c63, rfl, hr64, hb65⟩;have HF66 := Lib.hid ((qab.below hb65 HF59.out).add (.term y A62 c63) hr64);refine hK _ _ ⟨⟨fun _ => trivial, qab.bel HF66.out⟩, ?_⟩;clear hK K;clear HF59;clear hr64 hb65;refine qbb rfl (by kernel_rfl) (fun K hK => ?_);have C67 := U7.out HE.out w61 A62 c63 (HF66.out.2.2.1).2 (HF66.out.1);rw [(rfl : true = true)] at C67;simp only [Tm.val] at C67;have C67 := Lib.hid C67;go_wp2_with fail
   refine C67.out.mono ?_; clear C67;rintro e w68 ⟨rfl, hb69⟩;have HF70 := Lib.hid (qab.below hb69 HF66.out);refine hK _ _ ⟨⟨fun _ => trivial, qab.bel HF70.out⟩, ?_⟩;clear hK K;clear HF66;clear hb69;refine qag (v := .bool true) rfl (by kernel_rfl) rfl (fun _ _ _ h => h) trivial (qab.bel HF70.out) (fun Y _ _ => by (try simp only [Act.put]); go_simp) ?_;simp only [Act.put, List.setIfInBounds_toArray, List.set_cons_succ, List.set_cons_zero, List.getElem_toArray, List.getElem_cons_succ, List.getElem_cons_zero];refine qag (v := .bool true) rfl (by kernel_rfl) rfl (fun _ _ _ h => h) trivial (qab.bel HF70.out) (fun Y _ _ => by (try simp only [Act.put]); go_simp) ?_;simp only [Act.put, List.setIfInBounds_toArray, List.set_cons_succ, List.set_cons_zero, List.getElem_toArray, List.getElem_cons_succ, List.getElem_cons_zero];refine qaj ?_
   have HF71 := Lib.hid ((show qab D54 [.box (b0 + 1) u U cu, .box b0 t T ct] w68 from ⟨HF70.out.2.1, HF70.out.2.2.1, qab.bel HF70.out⟩).unbase (qab.bel HD55.out));clear HF70 HD55;go_wp2_with fail
   go_ret
   exact ⟨rfl, qab.bel HF71.out⟩
  ·skip
   obtain ⟨ev, hev⟩ : ∃ e, t.valid = e := ⟨_, rfl⟩;have hn : (ev != 0) = true := by rw [bne_iff_ne, ← hev]; exact hv
   have HE := Lib.hid hev;clear hv hev;go_wp2_with fail
   refine qai (fun _ => True) (fun Y => Below w52.drew.heap.size w52.drew Y) [] (.held 0 (.op 1 (.held 2 (.held 3 (.held 4 (.held 5 (.held 6 (.held 7 (.held 8 (.held 9 (.held 10 .nil))))))))))) mixed (by kernel_rfl) ?_;have HD73 := Lib.hid (qab.below (V' := w52.drew) (Below.refl _ _).drew HF53.out);have HD73b := Lib.hid HD73.out.rebase;generalize w52.drew = D72 at *;refine qag (v := .agg #[.int .i64 t.kind, .string t.name, .int .i64 t.sort, .slice T t.kids.length ct]) rfl (by kernel_rfl) rfl (fun _ _ _ h => h) trivial (qab.bel HD73b.out) (fun Y _ hY => by
    obtain ⟨z0, z1, z2, z3, -⟩ := BoxT.cells ((show BoxT D72 _ _ _ _ from HD73.out.2.1).below hY)
    (try simp only [Act.put]); go_simp) ?_
   simp only [Act.put, List.setIfInBounds_toArray, List.set_cons_succ, List.set_cons_zero, List.getElem_toArray, List.getElem_cons_succ, List.getElem_cons_zero];refine qbb rfl (by kernel_rfl) (fun K hK => ?_);have C74 := qdp t T ct D72 (by omega) (HD73b.out.2.1).2;rw [HE.out] at C74;simp only [Tm.val] at C74;have C74 := Lib.hid C74;go_wp2_with fail
   refine C74.out.mono ?_; clear C74;rintro e w75 ⟨rfl, hb76⟩;have HF77 := Lib.hid (qab.below hb76.below HD73b.out);refine hK _ _ ⟨⟨fun _ => trivial, qab.bel HF77.out⟩, ?_⟩;clear hK K;clear HD73b;clear hb76;refine qag (v := .bool true) rfl (by kernel_rfl) rfl (fun _ _ _ h => h) trivial (qab.bel HF77.out) (fun Y _ _ => by (try simp only [Act.put]); go_simp) ?_;simp only [Act.put, List.setIfInBounds_toArray, List.set_cons_succ, List.set_cons_zero, List.getElem_toArray, List.getElem_cons_succ, List.getElem_cons_zero];refine qag (v := .bool true) rfl (by kernel_rfl) rfl (fun _ _ _ h => h) trivial (qab.bel HF77.out) (fun Y _ _ => by (try simp only [Act.put]); go_simp) ?_;simp only [Act.put, List.setIfInBounds_toArray, List.set_cons_succ, List.set_cons_zero, List.getElem_toArray, List.getElem_cons_succ, List.getElem_cons_zero]
   refine qfd rfl (by kernel_rfl) rfl (fun _ _ _ h => h) trivial (qab.bel HF77.out) ?_;simp only [Act.put, List.setIfInBounds_toArray, List.set_cons_succ, List.set_cons_zero, List.getElem_toArray, List.getElem_cons_succ, List.getElem_cons_zero];refine qfd rfl (by kernel_rfl) rfl (fun _ _ _ h => h) trivial (qab.bel HF77.out) ?_;simp only [Act.put, List.setIfInBounds_toArray, List.set_cons_succ, List.set_cons_zero, List.getElem_toArray, List.getElem_cons_succ, List.getElem_cons_zero];refine qfd rfl (by kernel_rfl) rfl (fun _ _ _ h => h) trivial (qab.bel HF77.out) ?_;simp only [Act.put, List.setIfInBounds_toArray, List.set_cons_succ, List.set_cons_zero, List.getElem_toArray, List.getElem_cons_succ, List.getElem_cons_zero];refine qfd rfl (by kernel_rfl) rfl (fun _ _ _ h => h) trivial (qab.bel HF77.out) ?_
   simp only [Act.put, List.setIfInBounds_toArray, List.set_cons_succ, List.set_cons_zero, List.getElem_toArray, List.getElem_cons_succ, List.getElem_cons_zero];refine qfd rfl (by kernel_rfl) rfl (fun _ _ _ h => h) trivial (qab.bel HF77.out) ?_;simp only [Act.put, List.setIfInBounds_toArray, List.set_cons_succ, List.set_cons_zero, List.getElem_toArray, List.getElem_cons_succ, List.getElem_cons_zero];refine qag (v := .bool true) rfl (by kernel_rfl) rfl (fun _ _ _ h => h) trivial (qab.bel HF77.out) (fun Y _ _ => by (try simp only [Act.put]); go_simp) ?_;simp only [Act.put, List.setIfInBounds_toArray, List.set_cons_succ, List.set_cons_zero, List.getElem_toArray, List.getElem_cons_succ, List.getElem_cons_zero];refine qag (v := .bool true) rfl (by kernel_rfl) rfl (fun _ _ _ h => h) trivial (qab.bel HF77.out) (fun Y _ _ => by (try simp only [Act.put]); go_simp) ?_
   simp only [Act.put, List.setIfInBounds_toArray, List.set_cons_succ, List.set_cons_zero, List.getElem_toArray, List.getElem_cons_succ, List.getElem_cons_zero];refine qaj ?_;have HF78 := Lib.hid ((show qab D72 [.box (b0 + 1) u U cu, .box b0 t T ct] w75 from ⟨HF77.out.1, HF77.out.2.1, qab.bel HF77.out⟩).unbase (qab.bel HD73.out));clear HF77 HD73;go_wp2_with fail
   go_ret
   exact ⟨rfl, qab.bel HF78.out⟩
end Go.Proofs.YtpjmdilpldaapaaGreatDoor
