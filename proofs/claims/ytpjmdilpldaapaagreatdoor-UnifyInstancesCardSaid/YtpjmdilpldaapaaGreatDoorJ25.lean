/- Udisj (joined by shake.py). -/
import Derived.Test.YtpjmdilpldaapaaGreatDoorJ14
import Derived.Test.YtpjmdilpldaapaaGreatDoorJ22
import Derived.Test.YtpjmdilpldaapaaGreatDoorJ24
set_option maxRecDepth 100000
namespace Go.Proofs.YtpjmdilpldaapaaGreatDoor
open Go.RowKit Go.Sort
def apT (nm : ByteArray) (t : Tm) : Tm := t.put (apUL nm (varsOf t) 0)
def disjR (t u : Tm) (r : Int × List Bd) : Bool := if qax t u ≠ 0 then false else (r.1 == 11 || r.1 == 12)
theorem qnc {nm : ByteArray} : ∀ {L : List Tm} {i : Nat} {b : Bd}, b ∈ apUL nm L i → b.2.size ≤ 1
 | x :: L, i, b, h => by
  rw [apUL] at h;rcases List.mem_cons.1 h with rfl | h
  ·show (newU nm i x.sort).size ≤ 1;rw [qkh]; exact Nat.le_refl _
  ·exact qnc h
theorem qnd (nm : ByteArray) (t : Tm) : (apT nm t).size ≤ t.size := by
 have h := qd0 (s := apUL nm (varsOf t) 0) (m := 1) (fun b hb => qnc hb) (by omega) t;unfold apT;omega
attribute [local irreducible] qa0
set_option linter.unusedSimpArgs false in
set_option linter.unusedVariables false in
set_option maxHeartbeats 8000000 in
theorem udisj_any (t u : Tm) (T U : Option Addr) (ct cu : Nat) (w0 : World) (HI : qbj 400 w0) (w : World) (hw0 : Below w0.heap.size w0 w) (r : Int × List Bd) (ht : t.size ≤ 1000000) (hu : u.size ≤ 1000000)
  (g1 : qax (apT ⟨#[108]⟩ t) (apT ⟨#[114]⟩ u) ≠ 0 → r = (qax (apT ⟨#[108]⟩ t) (apT ⟨#[114]⟩ u), [])) (g2 : qax (apT ⟨#[108]⟩ t) (apT ⟨#[114]⟩ u) = 0 → ∃ n, runU n [((apT ⟨#[108]⟩ t), (apT ⟨#[114]⟩ u))] [] = some r) (hrt : RepT w w.heap.size t T ct) (hru : RepT w w.heap.size u U cu) :
  Calls Tryz.prog 17 #[t.val T ct, u.val U cu] w fun e w' => e = .returned (.bool (disjR t u r)) ∧ Below w.heap.size w w' := by
 have mixed : Tryz.prog.follows .mixedOrders = true := by kernel_rfl
 have HF := Lib.hid (show qab w [] w from Below.refl _ _);obtain ⟨V, hV⟩ : ∃ V, V = (w.alloc (qa5 t T ct)).alloc (qa5 u U cu) := ⟨_, rfl⟩;have hA := HF.out.boxes2 hrt hru;rw [← hV] at hA;obtain ⟨b0, hb0⟩ : ∃ b, b = w.heap.size := ⟨_, rfl⟩;simp only [qa5] at hV;have HV := Lib.hid hV;rw [← hb0] at hA;have HA := Lib.hid hA;have VV := qej t u T U ct cu V ht hu HA.out.2.1.2 HA.out.1.2;obtain ⟨v2, hv2⟩ : ∃ v, v = qax t u := ⟨_, rfl⟩;obtain ⟨q, hq⟩ : ∃ q, q = disjR t u r := ⟨_, rfl⟩;rw [← hq];unfold disjR at hq;rw [← hv2] at VV hq;have HQ := Lib.hid hq;have HV2 := Lib.hid hv2;obtain ⟨a0, a1, a2, a3, -⟩ := BoxT.cells HA.out.2.1;obtain ⟨c0, c1, c2, c3, -⟩ := BoxT.cells HA.out.1;clear hV hA HF hq hv2 hrt hru;simp only [Tm.val] at VV ⊢;have VV := Lib.hid VV;have hbw : w.heap.size ≤ b0 := by omega
 go_enter Tryz.func17, Tryz.ntmps17
 go_wp2_with fail
 rw [← HV.out, ← hb0];clear HV hb0
 try go_wp2_with fail
 refine VV.out.mono ?_; clear VV a0 a1 a2 a3 c0 c1 c2 c3;rintro e w1 ⟨rfl, hl1⟩;have HB := Lib.hid (qab.below hl1.below HA.out); clear HA hl1;rcases eq_facts v2 0 with ⟨e0, e1, n1⟩ | ⟨e0, e1, n1⟩
 rotate_left
 ·have hq := HQ.out.trans (if_pos e0);subst hq;clear HQ;go_wp2_with fail
  go_ret
  exact ⟨rfl, qab.bel HB.out⟩
 have HQ2 := Lib.hid (HQ.out.trans (if_neg (show ¬ (v2 ≠ 0) by simpa using e0))); clear HQ;have hv0 := HV2.out.symm.trans e0;have hvt := qhb hv0;clear e0;have AP1 : ∀ (Z : World), Below w.heap.size w Z → RepT Z Z.heap.size t T ct → Calls Tryz.prog 42 #[t.val T ct, .string ⟨#[108]⟩] Z fun e w' => ∃ A' c', e = .returned ((apT ⟨#[108]⟩ t).val A' c') ∧ RepT w' w'.heap.size (apT ⟨#[108]⟩ t) A' c' ∧ Below Z.heap.size Z w' := fun Z hZ h => qir t ⟨#[108]⟩ T ct w0 Z HI (hw0.trans (hZ.mono hw0.size)) (by decide) hvt.1 h
 have AP2 : ∀ (Z : World), Below w.heap.size w Z → RepT Z Z.heap.size u U cu → Calls Tryz.prog 42 #[u.val U cu, .string ⟨#[114]⟩] Z fun e w' => ∃ A' c', e = .returned ((apT ⟨#[114]⟩ u).val A' c') ∧ RepT w' w'.heap.size (apT ⟨#[114]⟩ u) A' c' ∧ Below Z.heap.size Z w' := fun Z hZ h => qir u ⟨#[114]⟩ U cu w0 Z HI (hw0.trans (hZ.mono hw0.size)) (by decide) hvt.2 h;have hx := qnd ⟨#[108]⟩ t;have hy := qnd ⟨#[114]⟩ u;obtain ⟨x, hxe⟩ : ∃ x, x = apT ⟨#[108]⟩ t := ⟨_, rfl⟩;obtain ⟨y, hye⟩ : ∃ y, y = apT ⟨#[114]⟩ u := ⟨_, rfl⟩;rw [← hxe] at AP1 hx g1 g2;rw [← hye] at AP2 hy g1 g2;clear hxe hye
 have UN : ∀ (Z : World) (A B : Option Addr) (c d : Nat), RepT Z Z.heap.size x A c → RepT Z Z.heap.size y B d → Calls Tryz.prog 12 #[x.val A c, y.val B d] Z (qc2 r Z) := fun Z A B c d h k => qci x y A B c d Z r (by omega) (by omega) h k g1 g2;unfold qc2 at UN;obtain ⟨bs, hbs⟩ : ∃ bs, bs = (solvedU r).1 := ⟨_, rfl⟩;obtain ⟨en, hen⟩ : ∃ en, en = r.1 := ⟨_, rfl⟩;rw [← hbs, ← hen] at UN;have HQ3 : Hid (q = (en == 11 || en == 12)) := by show _ = _; rw [hen]; exact HQ2.out
 have AP1 := Lib.hid AP1;have AP2 := Lib.hid AP2;have UN := Lib.hid UN;clear hbs hen HQ2 g1 g2 hvt hv0;go_wp2_with fail
 have HD0 := Lib.hid (qab.below (V' := w1.drew) (Below.refl _ _).drew HB.out);refine qam (fun _ => True) (fun Y => Below w1.drew.heap.size w1.drew Y) [] (.held 0 (.held 2 (.op 1 (.op 3 (.op 4 (.held 5 (.held 6 (.held 7 (.held 8 (.held 9 .nil)))))))))) mixed (by kernel_rfl) ?_;have HD2 := Lib.hid (qab.below (V' := w1.drew) (Below.refl _ _).drew HB.out);have HD2b := Lib.hid HD2.out.rebase;generalize w1.drew = D1 at *;refine qaa (v := .agg #[.int .i64 t.kind, .string t.name, .int .i64 t.sort, .slice T t.kids.length ct]) rfl rfl rfl (fun _ _ _ h => h) trivial (qab.bel HD2b.out) (fun Y _ hY => by
  obtain ⟨z0, z1, z2, z3, -⟩ := BoxT.cells ((show BoxT D1 _ _ _ _ from HD2.out.2.1).below hY)
  (try simp only [Act.put]); go_simp) ?_
 refine qaa (v := .agg #[.int .i64 u.kind, .string u.name, .int .i64 u.sort, .slice U u.kids.length cu]) rfl rfl rfl (fun _ _ _ h => h) trivial (qab.bel HD2b.out) (fun Y _ hY => by
  obtain ⟨z0, z1, z2, z3, -⟩ := BoxT.cells ((show BoxT D1 _ _ _ _ from HD2.out.1).below hY)
  (try simp only [Act.put]); go_simp) ?_
 simp only [Act.put, List.setIfInBounds_toArray, List.set_cons_succ, List.set_cons_zero, List.getElem_toArray, List.getElem_cons_succ, List.getElem_cons_zero];refine qac rfl rfl (fun K hK => ?_);have C3 := AP1.out D1 (Below.trans (qab.bel HD0.out) (Below.mono (qab.bel HD2b.out) (Below.size (qab.bel HD0.out)))) (HD2b.out.2.1).2;simp only [Tm.val] at C3;have C3 := Lib.hid C3;go_wp2_with fail
 refine C3.out.mono ?_; clear C3;rintro e w4 ⟨A5, c6, rfl, hr7, hb8⟩;have HF9 := Lib.hid ((qab.below hb8 HD2b.out).add (.term x A5 c6) hr7);refine hK _ _ ⟨⟨fun _ => trivial, qab.bel HF9.out⟩, ?_⟩;clear hK K;clear HD2b;clear hr7 hb8;refine qac rfl rfl (fun K hK => ?_);have C10 := AP2.out w4 (Below.trans (qab.bel HD0.out) (Below.mono (qab.bel HF9.out) (Below.size (qab.bel HD0.out)))) (HF9.out.2.1).2;simp only [Tm.val] at C10;have C10 := Lib.hid C10;go_wp2_with fail
 refine C10.out.mono ?_; clear C10;rintro e w11 ⟨A12, c13, rfl, hr14, hb15⟩;have HF16 := Lib.hid ((qab.below hb15 HF9.out).add (.term y A12 c13) hr14);refine hK _ _ ⟨⟨fun _ => trivial, qab.bel HF16.out⟩, ?_⟩;clear hK K;clear HF9;clear hr14 hb15;refine qac rfl rfl (fun K hK => ?_);have C17 := UN.out w11 _ _ _ _ (HF16.out.2.1) (HF16.out.1);simp only [Tm.val] at C17;have C17 := Lib.hid C17;go_wp2_with fail
 refine C17.out.mono ?_; clear C17;rintro e w18 ⟨A19, c20, rfl, hr21, hb22⟩;have HF23 := Lib.hid ((qab.below hb22 HF16.out).add (.binds bs A19 c20) hr21);refine hK _ _ ⟨⟨fun _ => trivial, qab.bel HF23.out⟩, ?_⟩;clear hK K;clear HF16;clear hr21 hb22;refine qaa (v := .tuple #[.slice A19 bs.length c20, .int .i64 en]) rfl rfl rfl (fun _ _ _ h => h) trivial (qab.bel HF23.out) (fun Y _ _ => by (try simp only [Act.put]); go_simp) ?_;refine qaa (v := .slice A19 bs.length c20) rfl rfl rfl (fun _ _ _ h => h) trivial (qab.bel HF23.out) (fun Y _ _ => by (try simp only [Act.put]); go_simp) ?_;refine qaa (v := .int .i64 en) rfl rfl rfl (fun _ _ _ h => h) trivial (qab.bel HF23.out) (fun Y _ _ => by (try simp only [Act.put]); go_simp) ?_
 refine qaa (v := .slice A19 bs.length c20) rfl rfl rfl (fun _ _ _ h => h) trivial (qab.bel HF23.out) (fun Y _ _ => by (try simp only [Act.put]); go_simp) ?_;simp only [Act.put, List.setIfInBounds_toArray, List.set_cons_succ, List.set_cons_zero, List.getElem_toArray, List.getElem_cons_succ, List.getElem_cons_zero];refine qaa (v := .int .i64 en) rfl rfl rfl (fun _ _ _ h => h) trivial (qab.bel HF23.out) (fun Y _ _ => by (try simp only [Act.put]); go_simp) ?_;simp only [Act.put, List.setIfInBounds_toArray, List.set_cons_succ, List.set_cons_zero, List.getElem_toArray, List.getElem_cons_succ, List.getElem_cons_zero];refine qao ?_;have HF24 := Lib.hid ((show qab D1 [.box (b0 + 1) u U cu, .box b0 t T ct] w18 from ⟨HF23.out.2.2.2.1, HF23.out.2.2.2.2.1, qab.bel HF23.out⟩).unbase (qab.bel HD2.out));clear HF23 HD2;have hbel := qab.bel HF24.out;have HBEL := Lib.hid hbel
 clear hbel HF24 UN AP1 AP2;rcases eq_facts en 11 with ⟨f0, f1, f2⟩ | ⟨f0, f1, f2⟩
 ·have hq : q = true := by rw [HQ3.out, f1]; rfl
  subst hq;clear HQ3;go_wp2_with fail
  go_ret
  exact ⟨rfl, HBEL.out⟩
 rcases eq_facts en 12 with ⟨h0, h1, h2⟩ | ⟨h0, h1, h2⟩
 ·have hq : q = true := by rw [HQ3.out, f1, h1]; rfl
  subst hq;clear HQ3;go_wp2_with fail
  go_ret
  exact ⟨rfl, HBEL.out⟩
 ·have hq : q = false := by rw [HQ3.out, f1, h1]; rfl
  subst hq;clear HQ3;go_wp2_with fail
  go_ret
  exact ⟨rfl, HBEL.out⟩
end Go.Proofs.YtpjmdilpldaapaaGreatDoor
